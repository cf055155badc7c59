/- Lemmas. No conditions. -/
import Derived.Test.YtdehoidiaedcoaaGreatVmax
set_option linter.unusedVariables false
set_option linter.unusedSimpArgs false
set_option linter.unusedVariables false
namespace Go.Vt
structure aq where
  code : Int
  sign : Int
  deriving Inhabited, DecidableEq

structure cp where
  Kind : Int
  Sign : Int
  N : Int
  deriving Inhabited, DecidableEq

structure ad where
  Char : Int
  Attr : Bool
  FA : Int
  High : Int
  Color : Int
  f_Set : Int
  deriving Inhabited, DecidableEq

structure aI where
  Do : Int
  N : Int
  On : Bool
  Code : Int
  C : ad
  Text : (List Int)
  deriving Inhabited, DecidableEq

structure ak where
  Rows : Int
  Cols : Int
  deriving Inhabited, DecidableEq

structure ab where
  model : Int
  alternate : Bool
  size : ak
  cells : (List ad)
  cursor : Int
  attrs : Int
  deriving Inhabited, DecidableEq

structure aB where
  number : Int
  deriving Inhabited, DecidableEq

structure ae where
  Rows : Int
  Cols : Int
  deriving Inhabited, DecidableEq

structure aa where
  Model : Int
  Alt : Bool
  Size : ae
  L : (List ad)
  Cursor : Int
  deriving Inhabited, DecidableEq

structure aX where
  Protected : Bool
  Numeric : Bool
  Display : Int
  Modified : Bool
  deriving Inhabited, DecidableEq

structure ai where
  lock : Int
  inserts : Bool
  aid : Int
  deriving Inhabited, DecidableEq

structure ap where
  Page : Int
  Lock : Int
  Ins : Bool
  AID : Int
  deriving Inhabited, DecidableEq

structure co where
  Kind : Int
  Sign : Int
  N : Int
  deriving Inhabited, DecidableEq

structure bO where
  Protected : Bool
  Numeric : Bool
  Display : Int
  Modified : Bool
  deriving Inhabited, DecidableEq

structure bq where
  Do : Int
  Rows : Int
  Cols : Int
  deriving Inhabited, DecidableEq

def jw (p0 : Int) : Option (Int × Int × Int × Int × Int × Int × Int × Int × Int × Int × Int × Int × Int × Int × Int × Int) :=
cond (p0 == 0) (
some (0, 1, 2, 3, 156, 9, 134, 127, 151, 141, 142, 11, 12, 13, 14, 15)) (
cond (p0 == 1) (
some (16, 17, 18, 19, 157, 133, 8, 135, 24, 25, 146, 143, 28, 29, 30, 31)) (
cond (p0 == 2) (
some (128, 129, 130, 131, 132, 10, 23, 27, 136, 137, 138, 139, 140, 5, 6, 7)) (
cond (p0 == 3) (
some (144, 145, 22, 147, 148, 149, 150, 4, 152, 153, 154, 155, 20, 21, 158, 26)) (
cond (p0 == 4) (
some (32, 160, 226, 228, 224, 225, 227, 229, 231, 241, 162, 46, 60, 40, 43, 124)) (
cond (p0 == 5) (
some (38, 233, 234, 235, 232, 237, 238, 239, 236, 223, 33, 36, 42, 41, 59, 172)) (
cond (p0 == 6) (
some (45, 47, 194, 196, 192, 193, 195, 197, 199, 209, 166, 44, 37, 95, 62, 63)) (
cond (p0 == 7) (
some (248, 201, 202, 203, 200, 205, 206, 207, 204, 96, 58, 35, 64, 39, 61, 34)) (
cond (p0 == 8) (
some (216, 97, 98, 99, 100, 101, 102, 103, 104, 105, 171, 187, 240, 253, 254, 177)) (
cond (p0 == 9) (
some (176, 106, 107, 108, 109, 110, 111, 112, 113, 114, 170, 186, 230, 184, 198, 164)) (
cond (p0 == 10) (
some (181, 126, 115, 116, 117, 118, 119, 120, 121, 122, 161, 191, 208, 221, 222, 174)) (
cond (p0 == 11) (
some (94, 163, 165, 183, 169, 167, 182, 188, 189, 190, 91, 93, 175, 168, 180, 215)) (
cond (p0 == 12) (
some (123, 65, 66, 67, 68, 69, 70, 71, 72, 73, 173, 244, 246, 242, 243, 245)) (
cond (p0 == 13) (
some (125, 74, 75, 76, 77, 78, 79, 80, 81, 82, 185, 251, 252, 249, 250, 255)) (
cond (p0 == 14) (
some (92, 247, 83, 84, 85, 86, 87, 88, 89, 90, 178, 212, 214, 210, 211, 213)) (
cond (p0 == 15) (
some (48, 49, 50, 51, 52, 53, 54, 55, 56, 57, 179, 219, 220, 217, 218, 159)) (
some (0, 0, 0, 0, 0, 0, 0, 0, 0, 0, 0, 0, 0, 0, 0, 0)))))))))))))))))

def bI (p0 : Int) : Option ((List aq) × Bool) :=
cond (p0 == 37) (
some (([] : List aq), true)) (
cond (p0 == 273) (
some ([(⟨67, 123⟩ : aq), (⟨74, 196⟩ : aq), (⟨79, 33⟩ : aq), (⟨89, 126⟩ : aq), (⟨90, 220⟩ : aq), (⟨95, 94⟩ : aq), (⟨99, 91⟩ : aq), (⟨106, 246⟩ : aq), (⟨124, 167⟩ : aq), (⟨161, 223⟩ : aq), (⟨176, 162⟩ : aq), (⟨181, 64⟩ : aq), (⟨186, 172⟩ : aq), (⟨187, 124⟩ : aq), (⟨192, 228⟩ : aq), (⟨204, 166⟩ : aq), (⟨208, 252⟩ : aq), (⟨220, 125⟩ : aq), (⟨224, 214⟩ : aq), (⟨236, 92⟩ : aq), (⟨252, 93⟩ : aq)], true)) (
cond (p0 == 297) (
some ([(⟨68, 64⟩ : aq), (⟨72, 92⟩ : aq), (⟨74, 176⟩ : aq), (⟨79, 33⟩ : aq), (⟨81, 123⟩ : aq), (⟨84, 125⟩ : aq), (⟨90, 167⟩ : aq), (⟨95, 94⟩ : aq), (⟨106, 249⟩ : aq), (⟨121, 181⟩ : aq), (⟨123, 163⟩ : aq), (⟨124, 224⟩ : aq), (⟨144, 91⟩ : aq), (⟨160, 96⟩ : aq), (⟨161, 168⟩ : aq), (⟨176, 162⟩ : aq), (⟨177, 35⟩ : aq), (⟨181, 93⟩ : aq), (⟨186, 172⟩ : aq), (⟨187, 124⟩ : aq), (⟨189, 126⟩ : aq), (⟨192, 233⟩ : aq), (⟨208, 232⟩ : aq), (⟨221, 166⟩ : aq), (⟨224, 231⟩ : aq)], true)) (
cond (p0 == 500) (
some ([(⟨74, 91⟩ : aq), (⟨79, 33⟩ : aq), (⟨90, 93⟩ : aq), (⟨95, 94⟩ : aq), (⟨176, 162⟩ : aq), (⟨186, 172⟩ : aq), (⟨187, 124⟩ : aq)], true)) (
cond (p0 == 1047) (
some ([(⟨95, 94⟩ : aq), (⟨173, 91⟩ : aq), (⟨176, 172⟩ : aq), (⟨186, 221⟩ : aq), (⟨187, 168⟩ : aq), (⟨189, 93⟩ : aq)], true)) (
cond (p0 == 1140) (
some ([(⟨159, 8364⟩ : aq)], true)) (
some (([] : List aq), false)))))))

def nN (d : Nat) : List Int := match jw d with
| some r => [r.1, r.2.1, r.2.2.1, r.2.2.2.1, r.2.2.2.2.1, r.2.2.2.2.2.1, r.2.2.2.2.2.2.1, r.2.2.2.2.2.2.2.1, r.2.2.2.2.2.2.2.2.1, r.2.2.2.2.2.2.2.2.2.1, r.2.2.2.2.2.2.2.2.2.2.1, r.2.2.2.2.2.2.2.2.2.2.2.1, r.2.2.2.2.2.2.2.2.2.2.2.2.1, r.2.2.2.2.2.2.2.2.2.2.2.2.2.1, r.2.2.2.2.2.2.2.2.2.2.2.2.2.2.1, r.2.2.2.2.2.2.2.2.2.2.2.2.2.2.2]
| none => []
def j3 : Nat → Nat → List Int → List Int
| 0, _, l => l
| n + 1, d, l => j3 n (d + 1) (wr l (16 * d) (nN d))
def kF : List Int := List.replicate 256 0
def sgn0 : List Int := j3 16 0 kF
def sT : List Int → List aq → List Int
| l, [] => l
| l, o :: os => sT (l.set o.code.toNat (IntKind.wrap .i32 o.sign)) os
def mp : Nat → List Int → List (Int × Value) → List (Int × Value)
| _, [], m => m
| c, s :: ss, m => mp (c + 1) ss (ii m s (.int .u8 (IntKind.wrap .u8 c)))
def sgn (os : List aq) : List Int := sT sgn0 os
def pF (n p1 : Int) : Option Int := match bI n with
| some (os, true) => gd ((0 : Int) ≤ p1 ∧ p1 < 256) ((sgn os)[p1.toNat]?)
| _ => none
def pG (n z : Int) : Option (Int × Bool) := match bI n with
| some (os, true) => some (match fi (mp 0 (sgn os) []) z with
| some (.int _ c) => (c, true)
| _ => (0, false))
| _ => none

def fq : Option (List Int) :=
some [37, 273, 297, 500, 1047, 1140]

def gR (p0 : Int) : Option (ak × Int) :=
cond (p0 == 2) (
some ((⟨24, 80⟩ : ak), 0)) (
cond (p0 == 3) (
some ((⟨32, 80⟩ : ak), 0)) (
cond (p0 == 4) (
some ((⟨43, 80⟩ : ak), 0)) (
cond (p0 == 5) (
some ((⟨27, 132⟩ : ak), 0)) (
some ((⟨0, 0⟩ : ak), 5)))))

def cY (p0 : ak) : Option Bool :=
(
cond (decide (p0.Rows ≥ 1)) (
cond (decide (p0.Rows ≤ 43)) (
cond (decide (p0.Cols ≥ 1)) (
cond (decide (p0.Cols ≤ 132)) (
some (decide ((w64 (p0.Rows * p0.Cols)) ≤ 3564))) (
some false)) (
some false)) (
some false)) (
some false)).bind fun (d1 : Bool) =>
some d1

def b5 (p0 : ak) : Option Int :=
(cY p0).bind fun (d1 : Bool) =>
cond (!d1) (
some 0) (
some (w64 (p0.Rows * p0.Cols)))

def eM (p0 : ab) (p1 : Bool) : Option ab :=
(
cond p1 (
some p0.model) (
some 2)).bind fun (d1 : Int) =>
(gR d1).bind fun (d2 : ak × Int) =>
(b5 d2.1).bind fun (d3 : Int) =>
gd ((0 : Int) ≤ d3 ∧ d3 ≤ 68719476736) <|
some (⟨p0.model, p1, d2.1, (List.replicate (Int.toNat d3) (⟨0, false, 0, 0, 0, 0⟩ : ad)), 0, 0⟩ : ab)

def iY (p0 : Int) : Option ((Int) ⊕ (ab × Int)) :=
(gR p0).bind fun (d1 : ak × Int) =>
cond (d1.2 != 0) (
some (.inl d1.2)) (
(eM (⟨p0, false, (⟨0, 0⟩ : ak), ([] : List ad), 0, 0⟩ : ab) false).bind fun (d3 : ab) =>
some (.inr (d3, 0)))

def ks (p0 : Int) : Option ((Int) ⊕ (aB × Int)) :=
(bI p0).bind fun (d1 : (List aq) × Bool) =>
cond (!d1.2) (
some (.inl 5)) (
some (.inr ((⟨p0⟩ : aB), 0)))

def cB (p0 : Int) : Option (ae × Bool) :=
(
cond (decide (p0 < 2)) (
some true) (
some (decide (p0 > 5)))).bind fun (d1 : Bool) =>
cond d1 (
some ((⟨0, 0⟩ : ae), false)) (
gd ((0 : Int) ≤ (w64 (p0 - 2)) ∧ (w64 (p0 - 2)) < ([(⟨24, 80⟩ : ae), (⟨32, 80⟩ : ae), (⟨43, 80⟩ : ae), (⟨27, 132⟩ : ae)].length : Int)) <|
some ((rd [(⟨24, 80⟩ : ae), (⟨32, 80⟩ : ae), (⟨43, 80⟩ : ae), (⟨27, 132⟩ : ae)] (w64 (p0 - 2))), true))

def dI (p0 : ae) : Option Bool :=
(
cond (decide (p0.Rows ≥ 1)) (
cond (decide (p0.Rows ≤ 43)) (
cond (decide (p0.Cols ≥ 1)) (
cond (decide (p0.Cols ≤ 132)) (
some (decide ((w64 (p0.Rows * p0.Cols)) ≤ 3564))) (
some false)) (
some false)) (
some false)) (
some false)).bind fun (d1 : Bool) =>
some d1

def db (p0 : ae) : Option Int :=
(dI p0).bind fun (d1 : Bool) =>
cond (!d1) (
some 0) (
some (w64 (p0.Rows * p0.Cols)))

def ew (p0 : aa) (p1 : Bool) : Option aa :=
(cB 2).bind fun (d1 : ae × Bool) =>
(
cond p1 (
(cB p0.Model).bind fun (d3 : ae × Bool) =>
some (d3.1.Rows, d3.1.Cols)) (
some (d1.1.Rows, d1.1.Cols))).bind fun (d2 : Int × Int) =>
(db (⟨d2.1, d2.2⟩ : ae)).bind fun (d4 : Int) =>
gd ((0 : Int) ≤ d4 ∧ d4 ≤ 68719476736) <|
some (⟨p0.Model, p1, (⟨d2.1, d2.2⟩ : ae), (List.replicate (Int.toNat d4) (⟨0, false, 0, 0, 0, 0⟩ : ad)), 0⟩ : aa)

def e5 (p0 : Int) : Option ((Unit) ⊕ (aa)) :=
(cB p0).bind fun (d1 : ae × Bool) =>
cond (!d1.2) (
some (.inl ())) (
(ew (⟨p0, false, (⟨0, 0⟩ : ae), ([] : List ad), 0⟩ : aa) false).bind fun (d3 : aa) =>
some (.inr d3))

def dk (p0 : aa) (p1 : Bool) : Option aa :=
(cB 2).bind fun (d1 : ae × Bool) =>
(
cond p1 (
(cB p0.Model).bind fun (d3 : ae × Bool) =>
some (d3.1.Rows, d3.1.Cols)) (
some (d1.1.Rows, d1.1.Cols))).bind fun (d2 : Int × Int) =>
(db (⟨d2.1, d2.2⟩ : ae)).bind fun (d4 : Int) =>
gd ((0 : Int) ≤ d4 ∧ d4 ≤ 68719476736) <|
some (⟨p0.Model, p1, (⟨d2.1, d2.2⟩ : ae), (List.replicate (Int.toNat d4) (⟨0, false, 0, 0, 0, 0⟩ : ad)), 0⟩ : aa)

def bs (p0 : Int) (p1 : Int) : Option Int :=
cond (decide (p1 < 1)) (
some 0) (
gd (p1 ≠ 0) <|
gd (p1 ≠ 0) <|
some (Int.tmod (w64 ((Int.tmod p0 p1) + p1)) p1))

def dz (p0 : ae) (p1 : Int) : Option Int :=
(db p0).bind fun (d1 : Int) =>
(bs p1 d1).bind fun (d2 : Int) =>
some d2

def aT (p0 : aa) (p1 : Int) : Option Int :=
(dz p0.Size p1).bind fun (d1 : Int) =>
some d1

def fp (p0 : aa) (p1 : Int) : Option ad :=
(aT p0 p1).bind fun (d2 : Int) =>
gd ((0 : Int) ≤ d2 ∧ d2 < (p0.L.length : Int)) <|
some (rd p0.L d2)

def eD (p0 : Int) : Option aX :=
some (⟨(decide ((Int.tmod (w64 (p0)) 64) ≥ 32)), ((Int.tmod (w64 (Int.tdiv (Int.tmod (w64 (p0)) 64) 16)) 2) == 1), Int.tmod (w64 (Int.tdiv (Int.tmod (w64 (p0)) 64) 4)) 4, ((Int.tmod (Int.tmod (w64 (p0)) 64) 2) == 1)⟩ : aX)

def dR (p0 : aX) : Option (Int × Int) :=
(
cond (decide (p0.Display < 0)) (
some true) (
some (decide (p0.Display > 3)))).bind fun (d1 : Bool) =>
cond d1 (
some (0, 1)) (
(
cond p0.Protected (
some (w64 ((w64 (4 * p0.Display)) + 32))) (
some (w64 (4 * p0.Display)))).bind fun (d3 : Int) =>
(
cond p0.Numeric (
some (w64 (d3 + 16))) (
some d3)).bind fun (d4 : Int) =>
(
cond p0.Modified (
some (w64 (d4 + 1))) (
some d4)).bind fun (d5 : Int) =>
some (IntKind.wrap .u8 (d5), 0))

def f6 (p0 : Int) : Option Int :=
(eD p0).bind fun (d1 : aX) =>
(dR d1).bind fun (d2 : Int × Int) =>
some d2.1

def e7 (p0 : ad) : Option ad :=
(
cond p0.Attr (
(f6 p0.FA).bind fun (d2 : Int) =>
some (0, d2)) (
some (p0.Char, 0))).bind fun (d1 : Int × Int) =>
some (⟨d1.1, p0.Attr, d1.2, p0.High, p0.Color, p0.f_Set⟩ : ad)

def bx (p0 : aa) (p1 : Int) (p2 : ad) : Option aa :=
(aT p0 p1).bind fun (d1 : Int) =>
(e7 p2).bind fun (d2 : ad) =>
gd ((0 : Int) ≤ d1 ∧ d1 < (p0.L.length : Int)) <|
some (⟨p0.Model, p0.Alt, p0.Size, (List.set p0.L (Int.toNat d1) d2), p0.Cursor⟩ : aa)

def bf (p0 : aa) (p1 : Int) (p2 : Int) : Option aa :=
(fp p0 p1).bind fun (d1 : ad) =>
cond (!d1.Attr) (
(bx (⟨p0.Model, p0.Alt, p0.Size, p0.L, p0.Cursor⟩ : aa) p1 (⟨p2, d1.Attr, d1.FA, d1.High, d1.Color, d1.f_Set⟩ : ad)).bind fun (d2 : aa) =>
some d2) (
some (⟨p0.Model, p0.Alt, p0.Size, p0.L, p0.Cursor⟩ : aa))

def c6 (p1 : aI) : Nat → (Int × Int × Bool × Int × Int × (List ad) × Int) → Option (Int × Bool × Int × Int × (List ad) × Int)
| 0, _ => none
| k9 + 1, x9 =>
cond (decide (x9.1 < (p1.Text.length : Int))) (
gd ((0 : Int) ≤ x9.1 ∧ x9.1 < (p1.Text.length : Int)) <|
(
cond (decide (x9.1 < 200)) (
(aT (⟨x9.2.1, x9.2.2.1, (⟨x9.2.2.2.1, x9.2.2.2.2.1⟩ : ae), x9.2.2.2.2.2.1, x9.2.2.2.2.2.2⟩ : aa) p1.N).bind fun (d13 : Int) =>
(bf (⟨x9.2.1, x9.2.2.1, (⟨x9.2.2.2.1, x9.2.2.2.2.1⟩ : ae), x9.2.2.2.2.2.1, x9.2.2.2.2.2.2⟩ : aa) (w64 (d13 + x9.1)) (rd p1.Text x9.1)).bind fun (d14 : aa) =>
some (d14.Model, d14.Alt, d14.Size.Rows, d14.Size.Cols, d14.L, d14.Cursor)) (
some (x9.2.1, x9.2.2.1, x9.2.2.2.1, x9.2.2.2.2.1, x9.2.2.2.2.2.1, x9.2.2.2.2.2.2))).bind fun (d12 : Int × Bool × Int × Int × (List ad) × Int) =>
c6 p1 k9 (w64 (x9.1 + 1), d12.1, d12.2.1, d12.2.2.1, d12.2.2.2.1, d12.2.2.2.2.1, d12.2.2.2.2.2)) (
some (x9.2.1, x9.2.2.1, x9.2.2.2.1, x9.2.2.2.2.1, x9.2.2.2.2.2.1, x9.2.2.2.2.2.2))

def bS (p0 : aa) (p1 : aI) : Option aa :=
(
(
cond ((Int.tmod p1.Do 6) == 0) (
(dk p0 p1.On).bind fun (d3 : aa) =>
some (d3.Model, d3.Alt, d3.Size.Rows, d3.Size.Cols, d3.L, d3.Cursor)) (
cond ((Int.tmod p1.Do 6) == 1) (
(aT (⟨p0.Model, p0.Alt, p0.Size, p0.L, p0.Cursor⟩ : aa) p1.N).bind fun (d4 : Int) =>
some (p0.Model, p0.Alt, p0.Size.Rows, p0.Size.Cols, p0.L, d4)) (
cond ((Int.tmod p1.Do 6) == 2) (
(bf (⟨p0.Model, p0.Alt, p0.Size, p0.L, p0.Cursor⟩ : aa) p1.N p1.Code).bind fun (d5 : aa) =>
some (d5.Model, d5.Alt, d5.Size.Rows, d5.Size.Cols, d5.L, d5.Cursor)) (
cond ((Int.tmod p1.Do 6) == 3) (
(bx (⟨p0.Model, p0.Alt, p0.Size, p0.L, p0.Cursor⟩ : aa) p1.N (⟨0, true, p1.Code, 0, 0, 0⟩ : ad)).bind fun (d6 : aa) =>
some (d6.Model, d6.Alt, d6.Size.Rows, d6.Size.Cols, d6.L, d6.Cursor)) (
cond ((Int.tmod p1.Do 6) == 4) (
(bx (⟨p0.Model, p0.Alt, p0.Size, p0.L, p0.Cursor⟩ : aa) p1.N p1.C).bind fun (d7 : aa) =>
some (d7.Model, d7.Alt, d7.Size.Rows, d7.Size.Cols, d7.L, d7.Cursor)) (
(
c6 p1 bv (0, p0.Model, p0.Alt, p0.Size.Rows, p0.Size.Cols, p0.L, p0.Cursor)).bind fun (d8 : Int × Bool × Int × Int × (List ad) × Int) =>
some (d8.1, d8.2.1, d8.2.2.1, d8.2.2.2.1, d8.2.2.2.2.1, d8.2.2.2.2.2))))))).bind fun (d2 : Int × Bool × Int × Int × (List ad) × Int) =>
some (d2.1, d2.2.1, d2.2.2.1, d2.2.2.2.1, d2.2.2.2.2.1, d2.2.2.2.2.2)).bind fun (d1 : Int × Bool × Int × Int × (List ad) × Int) =>
some (⟨d1.1, d1.2.1, (⟨d1.2.2.1, d1.2.2.2.1⟩ : ae), d1.2.2.2.2.1, d1.2.2.2.2.2⟩ : aa)

def cW (p0 : ab) (p1 : Bool) : Option ab :=
(
cond p1 (
some p0.model) (
some 2)).bind fun (d1 : Int) =>
(gR d1).bind fun (d2 : ak × Int) =>
(b5 (⟨d2.1.Rows, d2.1.Cols⟩ : ak)).bind fun (d3 : Int) =>
gd ((0 : Int) ≤ d3 ∧ d3 ≤ 68719476736) <|
some (⟨p0.model, p1, (⟨d2.1.Rows, d2.1.Cols⟩ : ak), (List.replicate (Int.toNat d3) (⟨0, false, 0, 0, 0, 0⟩ : ad)), 0, 0⟩ : ab)

def fD (p0 : Int) (p1 : Int) : Option Int :=
gd (p1 ≠ 0) <|
(
cond (decide ((Int.tmod p0 p1) < 0)) (
some (w64 ((Int.tmod p0 p1) + p1))) (
some (Int.tmod p0 p1))).bind fun (d1 : Int) =>
some d1

def aN (p0 : ak) (p1 : Int) : Option Int :=
(cY p0).bind fun (d1 : Bool) =>
cond (!d1) (
some 0) (
(b5 p0).bind fun (d3 : Int) =>
(fD p1 d3).bind fun (d4 : Int) =>
some d4)

def gp (p0 : ad) : Option Int :=
cond p0.Attr (
some 1) (
some 0)

def bZ (p0 : ab) (p1 : Int) (p2 : ad) : Option ab :=
(
cond p2.Attr (
some (0, bJ .u8 p2.FA 61)) (
some (p2.Char, 0))).bind fun (d1 : Int × Int) =>
(aN p0.size p1).bind fun (d2 : Int) =>
gd ((0 : Int) ≤ d2 ∧ d2 < (p0.cells.length : Int)) <|
(gp { p2 with Char := d1.1, FA := d1.2 }).bind fun (d4 : Int) =>
(gp (rd p0.cells d2)).bind fun (d5 : Int) =>
gd ((0 : Int) ≤ d2 ∧ d2 < (p0.cells.length : Int)) <|
some (⟨p0.model, p0.alternate, p0.size, (List.set p0.cells (Int.toNat d2) { p2 with Char := d1.1, FA := d1.2 }), p0.cursor, w64 (p0.attrs + (w64 (d4 - d5)))⟩ : ab)

def bA (p0 : ab) (p1 : Int) : Option ab :=
(aN p0.size p1).bind fun (d1 : Int) =>
some { p0 with cursor := d1 }

def ku (p0 : ab) (p1 : aB) : Option (ai × Int) :=
some ((⟨0, false, 96⟩ : ai), 0)

def f4 (p0 : aa) (p1 : Int) : Option ap :=
some (⟨p1, 0, false, 96⟩ : ap)

def cy (p2 : List aI) : Nat → (Int × Int × Bool × Int × Int × (List ad) × Int × Int × Int × Bool × Int × Int × (List ad) × Int × Int) → Option (Int × Bool × Int × Int × (List ad) × Int × Int × Int × Bool × Int × Int × (List ad) × Int × Int)
| 0, _ => none
| k10 + 1, x10 =>
cond (decide (x10.1 < (p2.length : Int))) (
gd ((0 : Int) ≤ x10.1 ∧ x10.1 < (p2.length : Int)) <|
(
cond (decide (x10.1 < 30)) (
(bS (⟨x10.2.1, x10.2.2.1, (⟨x10.2.2.2.1, x10.2.2.2.2.1⟩ : ae), x10.2.2.2.2.2.1, x10.2.2.2.2.2.2.1⟩ : aa) { (rd p2 x10.1) with C := ((rd p2 x10.1).C) }).bind fun (d14 : aa) =>
some (d14.Model, d14.Alt, d14.Size.Rows, d14.Size.Cols, d14.L, d14.Cursor)) (
some (x10.2.1, x10.2.2.1, x10.2.2.2.1, x10.2.2.2.2.1, x10.2.2.2.2.2.1, x10.2.2.2.2.2.2.1))).bind fun (d13 : Int × Bool × Int × Int × (List ad) × Int) =>
cy p2 k10 (w64 (x10.1 + 1), d13.1, d13.2.1, d13.2.2.1, d13.2.2.2.1, d13.2.2.2.2.1, d13.2.2.2.2.2, x10.2.2.2.2.2.2.2.1, x10.2.2.2.2.2.2.2.2.1, x10.2.2.2.2.2.2.2.2.2.1, x10.2.2.2.2.2.2.2.2.2.2.1, x10.2.2.2.2.2.2.2.2.2.2.2.1, x10.2.2.2.2.2.2.2.2.2.2.2.2.1, x10.2.2.2.2.2.2.2.2.2.2.2.2.2.1, x10.2.2.2.2.2.2.2.2.2.2.2.2.2.2)) (
some (x10.2.1, x10.2.2.1, x10.2.2.2.1, x10.2.2.2.2.1, x10.2.2.2.2.2.1, x10.2.2.2.2.2.2.1, x10.2.2.2.2.2.2.2.1, x10.2.2.2.2.2.2.2.2.1, x10.2.2.2.2.2.2.2.2.2.1, x10.2.2.2.2.2.2.2.2.2.2.1, x10.2.2.2.2.2.2.2.2.2.2.2.1, x10.2.2.2.2.2.2.2.2.2.2.2.2.1, x10.2.2.2.2.2.2.2.2.2.2.2.2.2.1, x10.2.2.2.2.2.2.2.2.2.2.2.2.2.2))

def cx (d9 : Int × Bool × Int × Int × (List ad) × Int × Int × Int × Bool × Int × Int × (List ad) × Int × Int) : Nat → (Int × Int × Bool × Int × Int × (List ad) × Int × Int) → Option (Int × Bool × Int × Int × (List ad) × Int × Int)
| 0, _ => none
| k18 + 1, x18 =>
cond (decide (x18.1 < (d9.2.2.2.2.1.length : Int))) (
gd ((0 : Int) ≤ x18.1 ∧ x18.1 < (d9.2.2.2.2.1.length : Int)) <|
(
cond (!((((rd d9.2.2.2.2.1 x18.1).Char) == 0) && ((((rd d9.2.2.2.2.1 x18.1).Attr) == false) && ((((rd d9.2.2.2.2.1 x18.1).FA) == 0) && ((((rd d9.2.2.2.2.1 x18.1).High) == 0) && ((((rd d9.2.2.2.2.1 x18.1).Color) == 0) && ((((rd d9.2.2.2.2.1 x18.1).f_Set) == 0) && true))))))) (
(bZ (⟨x18.2.1, x18.2.2.1, (⟨x18.2.2.2.1, x18.2.2.2.2.1⟩ : ak), x18.2.2.2.2.2.1, x18.2.2.2.2.2.2.1, x18.2.2.2.2.2.2.2⟩ : ab) x18.1 (rd d9.2.2.2.2.1 x18.1)).bind fun (d22 : ab) =>
some (d22.model, d22.alternate, d22.size.Rows, d22.size.Cols, d22.cells, d22.cursor, d22.attrs)) (
some (x18.2.1, x18.2.2.1, x18.2.2.2.1, x18.2.2.2.2.1, x18.2.2.2.2.2.1, x18.2.2.2.2.2.2.1, x18.2.2.2.2.2.2.2))).bind fun (d21 : Int × Bool × Int × Int × (List ad) × Int × Int) =>
cx d9 k18 (w64 (x18.1 + 1), d21.1, d21.2.1, d21.2.2.1, d21.2.2.2.1, d21.2.2.2.2.1, d21.2.2.2.2.2.1, d21.2.2.2.2.2.2)) (
some (x18.2.1, x18.2.2.1, x18.2.2.2.1, x18.2.2.2.2.1, x18.2.2.2.2.2.1, x18.2.2.2.2.2.2.1, x18.2.2.2.2.2.2.2))

def de (p0 : Int) (p1 : Int) (p2 : List aI) : Option (ai × ab × aB × ap × aa) :=
(fq).bind fun (d2 : (List Int)) =>
gd ((0 : Int) ≤ (Int.tmod p1 6) ∧ (Int.tmod p1 6) < (d2.length : Int)) <|
(iY (w64 (2 + (w64 (Int.tmod p0 4))))).bind fun (d4 : (Int) ⊕ (ab × Int)) => match d4 with
| .inl d4 => (
none)
| .inr d4 => (
(ks (rd d2 (Int.tmod p1 6))).bind fun (d6 : (Int) ⊕ (aB × Int)) => match d6 with
| .inl d6 => (
none)
| .inr d6 => (
(e5 (w64 (2 + (w64 (Int.tmod p0 4))))).bind fun (d8 : (Unit) ⊕ (aa)) => match d8 with
| .inl d8 => (
none)
| .inr d8 => (
(
cy p2 bv (0, d8.Model, d8.Alt, d8.Size.Rows, d8.Size.Cols, d8.L, d8.Cursor, d6.1.number, d4.1.model, d4.1.alternate, d4.1.size.Rows, d4.1.size.Cols, d4.1.cells, d4.1.cursor, d4.1.attrs)).bind fun (d9 : Int × Bool × Int × Int × (List ad) × Int × Int × Int × Bool × Int × Int × (List ad) × Int × Int) =>
(
cond d9.2.1 (
(cW (⟨d9.2.2.2.2.2.2.2.1, d9.2.2.2.2.2.2.2.2.1, (⟨d9.2.2.2.2.2.2.2.2.2.1, d9.2.2.2.2.2.2.2.2.2.2.1⟩ : ak), d9.2.2.2.2.2.2.2.2.2.2.2.1, d9.2.2.2.2.2.2.2.2.2.2.2.2.1, d9.2.2.2.2.2.2.2.2.2.2.2.2.2⟩ : ab) true).bind fun (d16 : ab) =>
some (d16.model, d16.alternate, d16.size.Rows, d16.size.Cols, d16.cells, d16.cursor, d16.attrs)) (
some (d9.2.2.2.2.2.2.2.1, d9.2.2.2.2.2.2.2.2.1, d9.2.2.2.2.2.2.2.2.2.1, d9.2.2.2.2.2.2.2.2.2.2.1, d9.2.2.2.2.2.2.2.2.2.2.2.1, d9.2.2.2.2.2.2.2.2.2.2.2.2.1, d9.2.2.2.2.2.2.2.2.2.2.2.2.2))).bind fun (d15 : Int × Bool × Int × Int × (List ad) × Int × Int) =>
(
cx d9 bv (0, d15.1, d15.2.1, d15.2.2.1, d15.2.2.2.1, d15.2.2.2.2.1, d15.2.2.2.2.2.1, d15.2.2.2.2.2.2)).bind fun (d17 : Int × Bool × Int × Int × (List ad) × Int × Int) =>
(bA (⟨d17.1, d17.2.1, (⟨d17.2.2.1, d17.2.2.2.1⟩ : ak), d17.2.2.2.2.1, d17.2.2.2.2.2.1, d17.2.2.2.2.2.2⟩ : ab) d9.2.2.2.2.2.1).bind fun (d23 : ab) =>
(ku d23 (⟨d9.2.2.2.2.2.2.1⟩ : aB)).bind fun (d25 : ai × Int) =>
(f4 (⟨d9.1, d9.2.1, (⟨d9.2.2.1, d9.2.2.2.1⟩ : ae), d9.2.2.2.2.1, d9.2.2.2.2.2.1⟩ : aa) (rd d2 (Int.tmod p1 6))).bind fun (d27 : ap) =>
some (d25.1, d23, (⟨d9.2.2.2.2.2.2.1⟩ : aB), d27, (⟨d9.1, d9.2.1, (⟨d9.2.2.1, d9.2.2.2.1⟩ : ae), d9.2.2.2.2.1, d9.2.2.2.2.2.1⟩ : aa)))))

def ga (p0 : co) : Option (Int × Bool) :=
cond (p0.Kind == 19) (
some (125, true)) (
cond (p0.Kind == 22) (
some (109, true)) (
(
cond (p0.Kind == 20) (
cond (decide (p0.N ≥ 1)) (
some (decide (p0.N ≤ 24))) (
some false)) (
some false)).bind fun (d3 : Bool) =>
cond d3 (
gd ((0 : Int) ≤ (w64 (p0.N - 1)) ∧ (w64 (p0.N - 1)) < ((ByteArray.mk (List.toArray [241, 242, 243, 244, 245, 246, 247, 248, 249, 122, 123, 124, 193, 194, 195, 196, 197, 198, 199, 200, 201, 74, 75, 76])).size : Int)) <|
some (ju (ByteArray.mk (List.toArray [241, 242, 243, 244, 245, 246, 247, 248, 249, 122, 123, 124, 193, 194, 195, 196, 197, 198, 199, 200, 201, 74, 75, 76])) (w64 (p0.N - 1)), true)) (
(
cond (p0.Kind == 21) (
cond (decide (p0.N ≥ 1)) (
some (decide (p0.N ≤ 3))) (
some false)) (
some false)).bind fun (d4 : Bool) =>
cond d4 (
gd ((0 : Int) ≤ (w64 (p0.N - 1)) ∧ (w64 (p0.N - 1)) < ((ByteArray.mk (List.toArray [108, 110, 107])).size : Int)) <|
some (ju (ByteArray.mk (List.toArray [108, 110, 107])) (w64 (p0.N - 1)), true)) (
some (0, false)))))

def f8 (p0 : ai) (p1 : ab) (p2 : aB) : Option ai :=
(
cond (p0.lock != 1) (
some 0) (
some p0.lock)).bind fun (d1 : Int) =>
some (⟨d1, false, p0.aid⟩ : ai)

def ba (p0 : ab) : Option Int :=
some p0.cursor

def bX (p0 : ab) : Option Bool :=
some (decide (p0.attrs > 0))

def aO (p0 : ab) : Option ak :=
some p0.size

def aK (p0 : ab) (p1 : Int) : Option ad :=
(aN p0.size p1).bind fun (d2 : Int) =>
gd ((0 : Int) ≤ d2 ∧ d2 < (p0.cells.length : Int)) <|
some (rd p0.cells d2)

def fY (p0 : ab) (d3 : ak) : Nat → Int → Option Int
| 0, _ => none
| k6 + 1, x6 =>
(aK p0 x6).bind fun (d7 : ad) =>
cond (!d7.Attr) (
(aN d3 (w64 (x6 - 1))).bind fun (d9 : Int) =>
fY p0 d3 k6 d9) (
some x6)

def eU (p0 : ab) (p1 : Int) : Option Int :=
(bX p0).bind fun (d1 : Bool) =>
cond (!d1) (
some (-1)) (
(aO p0).bind fun (d3 : ak) =>
(aN d3 p1).bind fun (d4 : Int) =>
(
fY p0 d3 bv d4).bind fun (d5 : Int) =>
some d5)

def gQ (p0 : Int) : Option bO :=
some (⟨((bJ .u8 p0 32) != 0), ((bJ .u8 p0 16) != 0), qx .i64 (w64 (bJ .u8 p0 12)) 2, ((bJ .u8 p0 1) != 0)⟩ : bO)

def il (p0 : ab) (p1 : Int) : Option (bO × Bool) :=
(eU p0 p1).bind fun (d1 : Int) =>
cond (d1 == (-1)) (
some ((⟨false, false, 0, false⟩ : bO), false)) (
(aK p0 d1).bind fun (d3 : ad) =>
(gQ d3.FA).bind fun (d4 : bO) =>
some (d4, true))

def dJ (p0 : bO) : Option Bool :=
(
cond (p0.Display == 1) (
some true) (
some (p0.Display == 2))).bind fun (d1 : Bool) =>
some d1

def cO (p0 : ai) (p1 : ab) (p2 : aB) (p3 : Int) : Option (ai × Int) :=
cond (p3 == 3) (
some ({ p0 with lock := p3 }, 14)) (
cond (p3 == 4) (
some ({ p0 with lock := p3 }, 7)) (
some ({ p0 with lock := p3 }, 13)))

def gM (p0 : aB) (p1 : Int) : Option Int :=
pF p0.number p1

def gP (p0 : aB) (p1 : Int) : Option Int :=
(gM p0 p1).bind fun (d1 : Int) =>
some d1

def fh (p0 : aB) (p1 : Int) : Option Int :=
cond (p1 == 0) (
some 3) (
(gP p0 p1).bind fun (d2 : Int) =>
cond (d2 == 63) (
some 1) (
cond (d2 == 62) (
some 2) (
cond (d2 == 32) (
some 3) (
cond (d2 == 38) (
some 4) (
some 0)))))

def eh (p0 : aB) (p1 : Int) : Option (Int × Bool) :=
pG p0.number p1

def bi (p0 : ab) (p1 : Int) (p2 : Int) : Option ab :=
(aN p0.size p1).bind fun (d2 : Int) =>
gd ((0 : Int) ≤ d2 ∧ d2 < (p0.cells.length : Int)) <|
cond (!((rd p0.cells d2).Attr)) (
some { p0 with cells := (List.set p0.cells (Int.toNat d2) { (rd p0.cells d2) with Char := p2 }) }) (
some p0)

def dm (p0 : ai) (p1 : ab) (p2 : aB) (p3 : Int) (p4 : Int) : Option (ab × aB × ai) :=
(eh p2 p3).bind fun (d1 : Int × Bool) =>
(bi p1 (w64 (p4 + 1)) d1.1).bind fun (d2 : ab) =>
some (d2, p2, (⟨p0.lock, p0.inserts, p0.aid⟩ : ai))

def dN (p0 : ai) (p1 : ab) (p2 : aB) (p3 : Int) : Option ai :=
some (⟨1, false, p3⟩ : ai)

def bF (p0 : ab) (p1 : Int) : Option (ab × Bool) :=
(eU p0 p1).bind fun (d1 : Int) =>
cond (d1 == (-1)) (
some (p0, false)) (
(aK p0 d1).bind fun (d3 : ad) =>
(bZ p0 d1 (⟨d3.Char, d3.Attr, iH .u8 d3.FA 1, d3.High, d3.Color, d3.f_Set⟩ : ad)).bind fun (d4 : ab) =>
some ((⟨d4.model, d4.alternate, d4.size, d4.cells, d4.cursor, d4.attrs⟩ : ab), true))

def eN (p0 : ai) (p1 : ab) (p2 : aB) : Option (ab × aB × ai × Bool × Int) :=
(ba p1).bind fun (d1 : Int) =>
(eU p1 d1).bind fun (d2 : Int) =>
(il p1 d1).bind fun (d3 : bO × Bool) =>
(
cond (!d3.2) (
some true) (
(aK p1 d1).bind fun (d5 : ad) =>
cond d5.Attr (
some true) (
(dJ d3.1).bind fun (d6 : Bool) =>
some (!d6)))).bind fun (d4 : Bool) =>
cond d4 (
(cO p0 p1 p2 2).bind fun (d8 : ai × Int) =>
some (p1, p2, d8.1, false, d8.2)) (
(aK p1 (w64 (d2 + 1))).bind fun (d10 : ad) =>
(fh p2 d10.Char).bind fun (d11 : Int) =>
(
cond (d11 == 0) (
some true) (
cond (decide (d11 < 3)) (
some d3.1.Protected) (
some false))).bind fun (d12 : Bool) =>
cond d12 (
(cO (⟨p0.lock, p0.inserts, p0.aid⟩ : ai) p1 p2 2).bind fun (d14 : ai × Int) =>
some (p1, p2, d14.1, false, d14.2)) (
jn (
cond (d11 == 1) (
(dm (⟨p0.lock, p0.inserts, p0.aid⟩ : ai) p1 p2 62 d2).bind fun (d17 : ab × aB × ai) =>
some (.inl (d17.2.2.lock, d17.2.2.inserts, d17.2.2.aid, d17.1.model, d17.1.alternate, d17.1.size.Rows, d17.1.size.Cols, d17.1.cells, d17.1.cursor, d17.1.attrs, d17.2.1.number))) (
cond (d11 == 2) (
(dm (⟨p0.lock, p0.inserts, p0.aid⟩ : ai) p1 p2 63 d2).bind fun (d18 : ab × aB × ai) =>
esc (
some (d18.1, d18.2.1, d18.2.2, false, 0))) (
cond (d11 == 3) (
(dN p0 p1 p2 126).bind fun (d19 : ai) =>
some (.inl (d19.lock, d19.inserts, d19.aid, p1.model, p1.alternate, p1.size.Rows, p1.size.Cols, p1.cells, p1.cursor, p1.attrs, p2.number))) (
(dN p0 p1 p2 125).bind fun (d20 : ai) =>
some (.inl (d20.lock, d20.inserts, d20.aid, p1.model, p1.alternate, p1.size.Rows, p1.size.Cols, p1.cells, p1.cursor, p1.attrs, p2.number)))))) fun (d16 : Int × Bool × Int × Int × Bool × Int × Int × (List ad) × Int × Int × Int) =>
(bF (⟨d16.2.2.2.1, d16.2.2.2.2.1, (⟨d16.2.2.2.2.2.1, d16.2.2.2.2.2.2.1⟩ : ak), d16.2.2.2.2.2.2.2.1, d16.2.2.2.2.2.2.2.2.1, d16.2.2.2.2.2.2.2.2.2.1⟩ : ab) d1).bind fun (d21 : ab × Bool) =>
some (d21.1, (⟨d16.2.2.2.2.2.2.2.2.2.2⟩ : aB), (⟨d16.1, d16.2.1, d16.2.2.1⟩ : ai), (decide (d11 > 2)), 0)))

def ia (p0 : ab) (p1 : Int) : Option Bool :=
(aK p0 (w64 (p1 - 1))).bind fun (d1 : ad) =>
(
cond d1.Attr (
(aK p0 p1).bind fun (d3 : ad) =>
cond (!d3.Attr) (
(gQ d1.FA).bind fun (d4 : bO) =>
some (!d4.Protected)) (
some false)) (
some false)).bind fun (d2 : Bool) =>
some d2

def fH (p0 : ab) (p2 : Int) (d1 : ak) (d2 : Int) : Nat → (Int × Int) → Option ((Unit) ⊕ Int)
| 0, _ => none
| k4 + 1, x4 =>
cond (decide (x4.1 < d2)) (
(aN (⟨d1.Rows, d1.Cols⟩ : ak) (w64 (x4.2 + p2))).bind fun (d7 : Int) =>
(ia p0 d7).bind fun (d8 : Bool) =>
cond d8 (
esc (
some d7)) (
fH p0 p2 d1 d2 k4 (w64 (x4.1 + 1), d7))) (
some (.inl ()))

def gN (p0 : ab) (p1 : Int) (p2 : Int) : Option Int :=
(aO p0).bind fun (d1 : ak) =>
(b5 (⟨d1.Rows, d1.Cols⟩ : ak)).bind fun (d2 : Int) =>
jn (
fH p0 p2 d1 d2 bv (0, p1)) fun (d3 : Unit) =>
some (-1)

def fA (p0 : ab) (p1 : Int) : Option Int :=
(aO p0).bind fun (d1 : ak) =>
(aN (⟨d1.Rows, d1.Cols⟩ : ak) p1).bind fun (d2 : Int) =>
(gN p0 d2 1).bind fun (d3 : Int) =>
some d3

def eT (p0 : ab) : Option ab :=
(ba p0).bind fun (d1 : Int) =>
(fA p0 d1).bind fun (d2 : Int) =>
(bA p0 (jZ d2 0)).bind fun (d3 : ab) =>
some (⟨d3.model, d3.alternate, d3.size, d3.cells, d3.cursor, d3.attrs⟩ : ab)

def iy (p0 : ab) (p1 : Int) : Option Int :=
(aO p0).bind fun (d1 : ak) =>
(aN (⟨d1.Rows, d1.Cols⟩ : ak) p1).bind fun (d2 : Int) =>
(gN p0 d2 (-1)).bind fun (d3 : Int) =>
some d3

def fT (p0 : ab) : Option ab :=
(ba p0).bind fun (d1 : Int) =>
(iy p0 d1).bind fun (d2 : Int) =>
(bA p0 (jZ d2 0)).bind fun (d3 : ab) =>
some d3

def fl (p0 : ak) (p1 : Int) : Option Int :=
(cY p0).bind fun (d1 : Bool) =>
cond (!d1) (
some 0) (
(aN p0 p1).bind fun (d4 : Int) =>
gd (p0.Cols ≠ 0) <|
some (w64 (Int.tdiv d4 p0.Cols)))

def fW (p0 : ak) (p1 : Int) (p2 : Int) : Option Int :=
(cY p0).bind fun (d1 : Bool) =>
cond (!d1) (
some 0) (
(fD p1 p0.Rows).bind fun (d4 : Int) =>
(fD p2 p0.Cols).bind fun (d5 : Int) =>
some (w64 ((w64 (d4 * p0.Cols)) + d5)))

def fV (p0 : ak) (p1 : Int) : Option Int :=
(fl p0 p1).bind fun (d2 : Int) =>
(fW p0 (w64 (d2 + 1)) 0).bind fun (d3 : Int) =>
some d3

def eS (p0 : ab) (p1 : Int) : Option Bool :=
(il p0 p1).bind fun (d1 : bO × Bool) =>
(
(aK p0 p1).bind fun (d3 : ad) =>
cond (!d3.Attr) (
cond d1.2 (
some (!d1.1.Protected)) (
some true)) (
some false)).bind fun (d2 : Bool) =>
some d2

def fS (p0 : ab) (p1 : Int) : Option Int :=
(eS p0 p1).bind fun (d1 : Bool) =>
cond d1 (
(aO p0).bind fun (d3 : ak) =>
(aN (⟨d3.Rows, d3.Cols⟩ : ak) p1).bind fun (d4 : Int) =>
some d4) (
(fA p0 p1).bind fun (d5 : Int) =>
some (jZ d5 0))

def fR (p0 : ab) : Option ab :=
(aO p0).bind fun (d1 : ak) =>
(ba p0).bind fun (d2 : Int) =>
(fV (⟨d1.Rows, d1.Cols⟩ : ak) d2).bind fun (d3 : Int) =>
(fS p0 d3).bind fun (d4 : Int) =>
(bA p0 d4).bind fun (d5 : ab) =>
some d5

def ic (p0 : ab) : Option ab :=
(fS p0 0).bind fun (d1 : Int) =>
(bA p0 d1).bind fun (d2 : ab) =>
some d2

def fm (p0 : ak) (p1 : Int) : Option Int :=
(cY p0).bind fun (d1 : Bool) =>
cond (!d1) (
some 0) (
(aN p0 p1).bind fun (d4 : Int) =>
gd (p0.Cols ≠ 0) <|
some (Int.tmod d4 p0.Cols))

def fU (p0 : ak) (p1 : Int) (p2 : Int) (p3 : Int) : Option Int :=
(cY p0).bind fun (d1 : Bool) =>
cond (!d1) (
some 0) (
(aN p0 p1).bind fun (d4 : Int) =>
(aN p0 p3).bind fun (d5 : Int) =>
(aN p0 (w64 (d4 + d5))).bind fun (d6 : Int) =>
(fl p0 d6).bind fun (d8 : Int) =>
(fD p2 p0.Rows).bind fun (d9 : Int) =>
(fm p0 d6).bind fun (d10 : Int) =>
(fW p0 (w64 (d8 + d9)) d10).bind fun (d11 : Int) =>
some d11)

def dK (p0 : ab) (p1 : Int) (p2 : Int) : Option ab :=
(aO p0).bind fun (d1 : ak) =>
(ba p0).bind fun (d2 : Int) =>
(fU (⟨d1.Rows, d1.Cols⟩ : ak) d2 p1 p2).bind fun (d3 : Int) =>
(bA (⟨p0.model, p0.alternate, p0.size, p0.cells, p0.cursor, p0.attrs⟩ : ab) d3).bind fun (d4 : ab) =>
some d4

def eF (p0 : ai) (p1 : ab) (p2 : aB) (p3 : Int) : Option (ab × aB × ai × Bool) :=
jn (
cond (p3 == 5) (
(eT p1).bind fun (d3 : ab) =>
some (.inl (d3.model, d3.alternate, d3.size.Rows, d3.size.Cols, d3.cells, d3.cursor, d3.attrs))) (
cond (p3 == 6) (
(fT p1).bind fun (d4 : ab) =>
some (.inl (d4.model, d4.alternate, d4.size.Rows, d4.size.Cols, d4.cells, d4.cursor, d4.attrs))) (
cond (p3 == 7) (
(fR p1).bind fun (d5 : ab) =>
some (.inl (d5.model, d5.alternate, d5.size.Rows, d5.size.Cols, d5.cells, d5.cursor, d5.attrs))) (
cond (p3 == 8) (
(ic p1).bind fun (d6 : ab) =>
some (.inl (d6.model, d6.alternate, d6.size.Rows, d6.size.Cols, d6.cells, d6.cursor, d6.attrs))) (
cond (p3 == 9) (
(dK p1 (-1) 0).bind fun (d7 : ab) =>
some (.inl (d7.model, d7.alternate, d7.size.Rows, d7.size.Cols, d7.cells, d7.cursor, d7.attrs))) (
cond (p3 == 10) (
(dK p1 1 0).bind fun (d8 : ab) =>
some (.inl (d8.model, d8.alternate, d8.size.Rows, d8.size.Cols, d8.cells, d8.cursor, d8.attrs))) (
cond (p3 == 11) (
(dK p1 0 (-1)).bind fun (d9 : ab) =>
some (.inl (d9.model, d9.alternate, d9.size.Rows, d9.size.Cols, d9.cells, d9.cursor, d9.attrs))) (
cond (p3 == 12) (
(dK p1 0 1).bind fun (d10 : ab) =>
some (.inl (d10.model, d10.alternate, d10.size.Rows, d10.size.Cols, d10.cells, d10.cursor, d10.attrs))) (
esc (
some (p1, p2, (⟨p0.lock, p0.inserts, p0.aid⟩ : ai), false))))))))))) fun (d2 : Int × Bool × Int × Int × (List ad) × Int × Int) =>
some ((⟨d2.1, d2.2.1, (⟨d2.2.2.1, d2.2.2.2.1⟩ : ak), d2.2.2.2.2.1, d2.2.2.2.2.2.1, d2.2.2.2.2.2.2⟩ : ab), p2, (⟨p0.lock, p0.inserts, p0.aid⟩ : ai), true)

def fB (p0 : Int) : Option Bool :=
(
cond (decide (p0 ≥ 64)) (
some (decide (p0 < 255))) (
some false)).bind fun (d1 : Bool) =>
some d1

def fk (p0 : aB) (p1 : Int) : Option Bool :=
cond (p1 == 28) (
some true) (
(gP p0 p1).bind fun (d2 : Int) =>
(
(fB p1).bind fun (d4 : Bool) =>
cond d4 (
cond (decide (d2 ≥ 48)) (
cond (decide (d2 ≤ 57)) (
some true) (
cond (d2 == 46) (
some true) (
some (d2 == 45)))) (
cond (d2 == 46) (
some true) (
some (d2 == 45)))) (
some false)).bind fun (d3 : Bool) =>
some d3)

def eW (p0 : ak) (p1 : Int) (p2 : Int) : Option Unit :=
some ()

def ei (p0 : ak) (p1 : Int) (p2 : Int) : Option Int :=
(aN p0 p2).bind fun (d2 : Int) =>
(aN p0 p1).bind fun (d3 : Int) =>
(aN p0 (w64 (d2 - d3))).bind fun (d4 : Int) =>
cond (decide (d4 > 0)) (
some d4) (
(b5 p0).bind fun (d6 : Int) =>
some d6)

def dw (p1 : ak) (p2 : Int) (d4 : Int) : Nat → (Int × (List Int)) → Option (List Int)
| 0, _ => none
| k6 + 1, x6 =>
cond (decide (x6.1 < d4)) (
(aN p1 p2).bind fun (d10 : Int) =>
(aN p1 (w64 (d10 + x6.1))).bind fun (d11 : Int) =>
gd (x6.2.length + [d11].length ≤ 68719476736) <|
dw p1 p2 d4 k6 (w64 (x6.1 + 1), (x6.2 ++ [d11]))) (
some x6.2)

def f7 (p0 : List Int) (p1 : ak) (p2 : Int) (p3 : Int) : Option (ak × Int × Int × (List Int)) :=
(
(
(ei p1 p2 p3).bind fun (d4 : Int) =>
(
dw p1 p2 d4 bv (0, p0)).bind fun (d5 : (List Int)) =>
some d5).bind fun (d2 : (List Int)) =>
some d2).bind fun (d1 : (List Int)) =>
some (p1, p2, p3, d1)

def eV (p0 : ak) (p1 : Int) (p2 : Int) : Option (ak × Int × Int × (List Int)) :=
(f7 ([] : List Int) p0 p1 p2).bind fun (d1 : ak × Int × Int × (List Int)) =>
some (d1.1, d1.2.1, d1.2.2.1, d1.2.2.2)

def fP (p0 : ab) (p1 : Int) : Option Unit :=
some ()

def cH (p1 : ab) (d4 : ak) : Nat → (Int × (List Int)) → Option (List Int)
| 0, _ => none
| k10 + 1, x10 =>
(aK p1 x10.1).bind fun (d11 : ad) =>
cond (!d11.Attr) (
gd (x10.2.length + [x10.1].length ≤ 68719476736) <|
(aN (⟨d4.Rows, d4.Cols⟩ : ak) (w64 (x10.1 + 1))).bind fun (d15 : Int) =>
cH p1 d4 k10 (d15, (x10.2 ++ [x10.1]))) (
some x10.2)

def fu (p0 : List Int) (p1 : ab) (p2 : Int) : Option (ab × Int × (List Int)) :=
(
(
(aO p1).bind fun (d4 : ak) =>
(aN (⟨d4.Rows, d4.Cols⟩ : ak) p2).bind fun (d5 : Int) =>
(aK p1 d5).bind fun (d6 : ad) =>
cond (!d6.Attr) (
some (p0, d5)) (
(aN (⟨d4.Rows, d4.Cols⟩ : ak) (w64 (d5 + 1))).bind fun (d8 : Int) =>
(
cH p1 d4 bv (d8, p0)).bind fun (d9 : (List Int)) =>
some (d9, d5))).bind fun (d2 : (List Int) × Int) =>
some (d2.1, d2.2)).bind fun (d1 : (List Int) × Int) =>
some (p1, d1.2, d1.1)

def fe (p0 : ab) (p1 : Int) : Option (ab × Int × (List Int)) :=
(fu ([] : List Int) p0 p1).bind fun (d1 : ab × Int × (List Int)) =>
some (d1.1, d1.2.1, d1.2.2)

def eH (p0 : List Int) (p1 : Int) : Nat → Int → Option ((Unit) ⊕ Int)
| 0, _ => none
| k2 + 1, x2 =>
cond (decide (x2 < (p0.length : Int))) (
gd ((0 : Int) ≤ x2 ∧ x2 < (p0.length : Int)) <|
cond (p1 == (rd p0 x2)) (
esc (
some x2)) (
eH p0 p1 k2 (w64 (x2 + 1)))) (
some (.inl ()))

def gC (p0 : List Int) (p1 : Int) : Option Int :=
jn (
eH p0 p1 bv 0) fun (d1 : Unit) =>
some (-1)

def gO (p0 : ab) (p1 : Int) : Option (ab × (List Int)) :=
(aO p0).bind fun (d1 : ak) =>
(aN (⟨d1.Rows, d1.Cols⟩ : ak) p1).bind fun (d2 : Int) =>
(eU p0 d2).bind fun (d3 : Int) =>
cond (decide (d3 < 0)) (
(aO p0).bind fun (d5 : ak) =>
(eW (⟨d5.Rows, d5.Cols⟩ : ak) d2 0).bind fun (d6 : Unit) =>
(eV (⟨(⟨d5.Rows, d5.Cols⟩ : ak).Rows, (⟨d5.Rows, d5.Cols⟩ : ak).Cols⟩ : ak) d2 0).bind fun (d7 : ak × Int × Int × (List Int)) =>
some (p0, d7.2.2.2)) (
(fP p0 d3).bind fun (d8 : Unit) =>
(fe p0 d3).bind fun (d9 : ab × Int × (List Int)) =>
(gC d9.2.2 d2).bind fun (d10 : Int) =>
gd ((0 : Int) ≤ d10 ∧ d10 ≤ (d9.2.2.length : Int) ∧ (d9.2.2.length : Int) ≤ (d9.2.2.length : Int)) <|
some (d9.1, (List.drop (Int.toNat d10) d9.2.2)))

def ib (p0 : ab) (p1 : Int) : Option (ab × (List Int)) :=
(bX p0).bind fun (d1 : Bool) =>
cond d1 (
(gO p0 p1).bind fun (d3 : ab × (List Int)) =>
some (d3.1, d3.2)) (
(aO p0).bind fun (d4 : ak) =>
(eW (⟨d4.Rows, d4.Cols⟩ : ak) p1 p1).bind fun (d5 : Unit) =>
(eV (⟨(⟨d4.Rows, d4.Cols⟩ : ak).Rows, (⟨d4.Rows, d4.Cols⟩ : ak).Cols⟩ : ak) p1 p1).bind fun (d6 : ak × Int × Int × (List Int)) =>
some (p0, d6.2.2.2))

def fQ (p0 : Int) (p1 : ab) : Option Bool :=
(aK p1 p0).bind fun (d1 : ad) =>
some (d1.Char == 0)

def dv (p0 : List Int) (p1 : ab) : Nat → Int → Option ((Unit) ⊕ Int)
| 0, _ => none
| k2 + 1, x2 =>
cond (decide (x2 < (p0.length : Int))) (
gd ((0 : Int) ≤ x2 ∧ x2 < (p0.length : Int)) <|
(fQ (rd p0 x2) p1).bind fun (d5 : Bool) =>
cond d5 (
esc (
some x2)) (
dv p0 p1 k2 (w64 (x2 + 1)))) (
some (.inl ()))

def e9 (p0 : List Int) (p1 : ab) : Option Int :=
jn (
dv p0 p1 bv 0) fun (d1 : Unit) =>
some (-1)

def eI (d3 : ab × (List Int)) : Nat → (Int × Int × Bool × Int × Int × (List ad) × Int × Int) → Option (Int × Bool × Int × Int × (List ad) × Int × Int)
| 0, _ => none
| k7 + 1, x7 =>
cond (decide (x7.1 > 0)) (
gd ((0 : Int) ≤ x7.1 ∧ x7.1 < (d3.2.length : Int)) <|
gd ((0 : Int) ≤ (w64 (x7.1 - 1)) ∧ (w64 (x7.1 - 1)) < (d3.2.length : Int)) <|
(aK (⟨x7.2.1, x7.2.2.1, (⟨x7.2.2.2.1, x7.2.2.2.2.1⟩ : ak), x7.2.2.2.2.2.1, x7.2.2.2.2.2.2.1, x7.2.2.2.2.2.2.2⟩ : ab) (rd d3.2 (w64 (x7.1 - 1)))).bind fun (d11 : ad) =>
(bi (⟨x7.2.1, x7.2.2.1, (⟨x7.2.2.2.1, x7.2.2.2.2.1⟩ : ak), x7.2.2.2.2.2.1, x7.2.2.2.2.2.2.1, x7.2.2.2.2.2.2.2⟩ : ab) (rd d3.2 x7.1) d11.Char).bind fun (d12 : ab) =>
eI d3 k7 (w64 (x7.1 - 1), d12.model, d12.alternate, d12.size.Rows, d12.size.Cols, d12.cells, d12.cursor, d12.attrs)) (
some (x7.2.1, x7.2.2.1, x7.2.2.2.1, x7.2.2.2.2.1, x7.2.2.2.2.2.1, x7.2.2.2.2.2.2.1, x7.2.2.2.2.2.2.2))

def gD (p0 : ab) (p1 : Int) (p2 : Int) : Option (ab × Bool) :=
(eS p0 p1).bind fun (d1 : Bool) =>
cond (!d1) (
some (p0, false)) (
(ib p0 p1).bind fun (d3 : ab × (List Int)) =>
(e9 d3.2 d3.1).bind fun (d4 : Int) =>
cond (decide (d4 < 0)) (
some (d3.1, false)) (
(
eI d3 bv (d4, d3.1.model, d3.1.alternate, d3.1.size.Rows, d3.1.size.Cols, d3.1.cells, d3.1.cursor, d3.1.attrs)).bind fun (d6 : Int × Bool × Int × Int × (List ad) × Int × Int) =>
gd ((0 : Int) ≤ 0 ∧ 0 < (d3.2.length : Int)) <|
(bi (⟨d6.1, d6.2.1, (⟨d6.2.2.1, d6.2.2.2.1⟩ : ak), d6.2.2.2.2.1, d6.2.2.2.2.2.1, d6.2.2.2.2.2.2⟩ : ab) (rd d3.2 0) p2).bind fun (d14 : ab) =>
(bF d14 p1).bind fun (d15 : ab × Bool) =>
some (d15.1, true)))

def fC (p0 : bO) : Option Bool :=
(
cond p0.Protected (
some p0.Numeric) (
some false)).bind fun (d1 : Bool) =>
some d1

def fg (p0 : ab) : Option ab :=
(dK p0 0 1).bind fun (d1 : ab) =>
(ba d1).bind fun (d2 : Int) =>
(aK d1 d2).bind fun (d3 : ad) =>
(
cond (!d3.Attr) (
some (d1.model, d1.alternate, d1.size.Rows, d1.size.Cols, d1.cells, d1.cursor, d1.attrs)) (
(gQ d3.FA).bind fun (d5 : bO) =>
(fC (⟨d5.Protected, d5.Numeric, d5.Display, d5.Modified⟩ : bO)).bind fun (d6 : Bool) =>
cond d6 (
(eT d1).bind fun (d7 : ab) =>
some (d7.model, d7.alternate, d7.size.Rows, d7.size.Cols, d7.cells, d7.cursor, d7.attrs)) (
(dK d1 0 1).bind fun (d8 : ab) =>
some (d8.model, d8.alternate, d8.size.Rows, d8.size.Cols, d8.cells, d8.cursor, d8.attrs)))).bind fun (d4 : Int × Bool × Int × Int × (List ad) × Int × Int) =>
some (⟨d4.1, d4.2.1, (⟨d4.2.2.1, d4.2.2.2.1⟩ : ak), d4.2.2.2.2.1, d4.2.2.2.2.2.1, d4.2.2.2.2.2.2⟩ : ab)

def df (p0 : ai) (p1 : ab) (p2 : aB) (p3 : Int) : Option (ab × aB × ai × Int) :=
(ba p1).bind fun (d1 : Int) =>
(il p1 d1).bind fun (d2 : bO × Bool) =>
(eS p1 d1).bind fun (d4 : Bool) =>
jn (
cond (!d4) (
(cO p0 p1 p2 2).bind fun (d6 : ai × Int) =>
esc (
some (p1, p2, (⟨d6.1.lock, d6.1.inserts, d6.1.aid⟩ : ai), d6.2))) (
(
cond d2.2 (
cond d2.1.Numeric (
(fk p2 p3).bind fun (d8 : Bool) =>
some (!d8)) (
some false)) (
some false)).bind fun (d7 : Bool) =>
cond d7 (
(cO (⟨p0.lock, p0.inserts, p0.aid⟩ : ai) p1 p2 3).bind fun (d9 : ai × Int) =>
esc (
some (p1, p2, (⟨d9.1.lock, d9.1.inserts, d9.1.aid⟩ : ai), d9.2))) (
(
cond p0.inserts (
some (p3 != 28)) (
some false)).bind fun (d10 : Bool) =>
cond d10 (
(gD p1 d1 p3).bind fun (d11 : ab × Bool) =>
cond (!d11.2) (
(cO (⟨p0.lock, p0.inserts, p0.aid⟩ : ai) d11.1 p2 4).bind fun (d12 : ai × Int) =>
esc (
some (d11.1, p2, (⟨d12.1.lock, d12.1.inserts, d12.1.aid⟩ : ai), d12.2))) (
some (.inl (d11.1.model, d11.1.alternate, d11.1.size.Rows, d11.1.size.Cols, d11.1.cells, d11.1.cursor, d11.1.attrs)))) (
some (.inl (p1.model, p1.alternate, p1.size.Rows, p1.size.Cols, p1.cells, p1.cursor, p1.attrs)))))) fun (d5 : Int × Bool × Int × Int × (List ad) × Int × Int) =>
(aK (⟨d5.1, d5.2.1, (⟨d5.2.2.1, d5.2.2.2.1⟩ : ak), d5.2.2.2.2.1, d5.2.2.2.2.2.1, d5.2.2.2.2.2.2⟩ : ab) d1).bind fun (d13 : ad) =>
(bZ (⟨d5.1, d5.2.1, (⟨d5.2.2.1, d5.2.2.2.1⟩ : ak), d5.2.2.2.2.1, d5.2.2.2.2.2.1, d5.2.2.2.2.2.2⟩ : ab) d1 (⟨p3, d13.Attr, d13.FA, d13.High, d13.Color, 0⟩ : ad)).bind fun (d15 : ab) =>
(bF d15 d1).bind fun (d16 : ab × Bool) =>
(
cond (p3 == 28) (
(eT d16.1).bind fun (d18 : ab) =>
some (d18.model, d18.alternate, d18.size.Rows, d18.size.Cols, d18.cells, d18.cursor, d18.attrs)) (
(fg d16.1).bind fun (d19 : ab) =>
some (d19.model, d19.alternate, d19.size.Rows, d19.size.Cols, d19.cells, d19.cursor, d19.attrs))).bind fun (d17 : Int × Bool × Int × Int × (List ad) × Int × Int) =>
some ((⟨d17.1, d17.2.1, (⟨d17.2.2.1, d17.2.2.2.1⟩ : ak), d17.2.2.2.2.1, d17.2.2.2.2.2.1, d17.2.2.2.2.2.2⟩ : ab), p2, (⟨p0.lock, p0.inserts, p0.aid⟩ : ai), 0)

def fw (p0 : ai) (p1 : ab) (p2 : aB) (p3 : Int) : Option (ab × aB × ai × Int) :=
(eh p2 p3).bind fun (d1 : Int × Bool) =>
(
cond (!d1.2) (
some true) (
(fB d1.1).bind fun (d3 : Bool) =>
some (!d3))).bind fun (d2 : Bool) =>
cond d2 (
some (p1, p2, (⟨p0.lock, p0.inserts, p0.aid⟩ : ai), 12)) (
(df (⟨p0.lock, p0.inserts, p0.aid⟩ : ai) p1 p2 d1.1).bind fun (d5 : ab × aB × ai × Int) =>
some (d5.1, d5.2.1, d5.2.2.1, d5.2.2.2))

def jN (p0 : ab) (p1 : Int) : Option Unit :=
some ()

def cU (p1 : ab) (d4 : ak) (d5 : Int) (d7 : Int) : Nat → (Int × (List Int)) → Option (((List Int)) ⊕ (List Int))
| 0, _ => none
| k9 + 1, x9 =>
cond (decide (x9.1 < (w64 (d4.Cols - d7)))) (
(
(aK p1 (w64 (d5 + x9.1))).bind fun (d13 : ad) =>
cond d13.Attr (
some (true, x9.2)) (
gd (x9.2.length + [w64 (d5 + x9.1)].length ≤ 68719476736) <|
some (false, (x9.2 ++ [w64 (d5 + x9.1)])))).bind fun (d12 : Bool × (List Int)) =>
cond d12.1 (
esc (
some d12.2)) (
cU p1 d4 d5 d7 k9 (w64 (x9.1 + 1), d12.2))) (
some (.inl x9.2))

def ft (p0 : List Int) (p1 : ab) (p2 : Int) : Option (ab × Int × (List Int)) :=
(
(
(aO p1).bind fun (d4 : ak) =>
(aN (⟨d4.Rows, d4.Cols⟩ : ak) p2).bind fun (d5 : Int) =>
(fm (⟨d4.Rows, d4.Cols⟩ : ak) d5).bind fun (d7 : Int) =>
jn (
cU p1 d4 d5 d7 bv (0, p0)) fun (d8 : (List Int)) =>
some d8).bind fun (d2 : (List Int)) =>
some d2).bind fun (d1 : (List Int)) =>
some (p1, p2, d1)

def fb (p0 : ab) (p1 : Int) : Option (ab × Int × (List Int)) :=
(ft ([] : List Int) p0 p1).bind fun (d1 : ab × Int × (List Int)) =>
some (d1.1, d1.2.1, d1.2.2)

def eJ (d4 : ab × Int × (List Int)) : Nat → (Int × Int × Bool × Int × Int × (List ad) × Int × Int) → Option (Int × Bool × Int × Int × (List ad) × Int × Int)
| 0, _ => none
| k6 + 1, x6 =>
cond (decide (x6.1 < (d4.2.2.length : Int))) (
gd ((0 : Int) ≤ x6.1 ∧ x6.1 < (d4.2.2.length : Int)) <|
(
cond (decide ((w64 (x6.1 + 1)) < (d4.2.2.length : Int))) (
gd ((0 : Int) ≤ (w64 (x6.1 + 1)) ∧ (w64 (x6.1 + 1)) < (d4.2.2.length : Int)) <|
(aK (⟨x6.2.1, x6.2.2.1, (⟨x6.2.2.2.1, x6.2.2.2.2.1⟩ : ak), x6.2.2.2.2.2.1, x6.2.2.2.2.2.2.1, x6.2.2.2.2.2.2.2⟩ : ab) (rd d4.2.2 (w64 (x6.1 + 1)))).bind fun (d10 : ad) =>
some d10.Char) (
some 0)).bind fun (d9 : Int) =>
(bi (⟨x6.2.1, x6.2.2.1, (⟨x6.2.2.2.1, x6.2.2.2.2.1⟩ : ak), x6.2.2.2.2.2.1, x6.2.2.2.2.2.2.1, x6.2.2.2.2.2.2.2⟩ : ab) (rd d4.2.2 x6.1) d9).bind fun (d11 : ab) =>
eJ d4 k6 (w64 (x6.1 + 1), d11.model, d11.alternate, d11.size.Rows, d11.size.Cols, d11.cells, d11.cursor, d11.attrs)) (
some (x6.2.1, x6.2.2.1, x6.2.2.2.1, x6.2.2.2.2.1, x6.2.2.2.2.2.1, x6.2.2.2.2.2.2.1, x6.2.2.2.2.2.2.2))

def gE (p0 : ab) (p1 : Int) : Option (ab × Bool) :=
(eS p0 p1).bind fun (d1 : Bool) =>
cond (!d1) (
some (p0, false)) (
(jN p0 p1).bind fun (d3 : Unit) =>
(fb p0 p1).bind fun (d4 : ab × Int × (List Int)) =>
(
eJ d4 bv (0, d4.1.model, d4.1.alternate, d4.1.size.Rows, d4.1.size.Cols, d4.1.cells, d4.1.cursor, d4.1.attrs)).bind fun (d5 : Int × Bool × Int × Int × (List ad) × Int × Int) =>
(bF (⟨d5.1, d5.2.1, (⟨d5.2.2.1, d5.2.2.2.1⟩ : ak), d5.2.2.2.2.1, d5.2.2.2.2.2.1, d5.2.2.2.2.2.2⟩ : ab) p1).bind fun (d12 : ab × Bool) =>
some (d12.1, true))

def gw (p0 : ai) (p1 : ab) (p2 : aB) (p3 : Bool) : Option (ai × Int) :=
cond (!p3) (
(cO p0 p1 p2 2).bind fun (d2 : ai × Int) =>
some ((⟨d2.1.lock, d2.1.inserts, d2.1.aid⟩ : ai), d2.2)) (
some (p0, 0))

def gh (d3 : ab × (List Int)) : Nat → (Int × Int × Bool × Int × Int × (List ad) × Int × Int) → Option (Int × Bool × Int × Int × (List ad) × Int × Int)
| 0, _ => none
| k5 + 1, x5 =>
cond (decide (x5.1 < (d3.2.length : Int))) (
gd ((0 : Int) ≤ x5.1 ∧ x5.1 < (d3.2.length : Int)) <|
(bi (⟨x5.2.1, x5.2.2.1, (⟨x5.2.2.2.1, x5.2.2.2.2.1⟩ : ak), x5.2.2.2.2.2.1, x5.2.2.2.2.2.2.1, x5.2.2.2.2.2.2.2⟩ : ab) (rd d3.2 x5.1) 0).bind fun (d8 : ab) =>
gh d3 k5 (w64 (x5.1 + 1), d8.model, d8.alternate, d8.size.Rows, d8.size.Cols, d8.cells, d8.cursor, d8.attrs)) (
some (x5.2.1, x5.2.2.1, x5.2.2.2.1, x5.2.2.2.2.1, x5.2.2.2.2.2.1, x5.2.2.2.2.2.2.1, x5.2.2.2.2.2.2.2))

def ja (p0 : ab) (p1 : Int) : Option (ab × Bool) :=
(eS p0 p1).bind fun (d1 : Bool) =>
cond (!d1) (
some (p0, false)) (
(gO p0 p1).bind fun (d3 : ab × (List Int)) =>
(
gh d3 bv (0, d3.1.model, d3.1.alternate, d3.1.size.Rows, d3.1.size.Cols, d3.1.cells, d3.1.cursor, d3.1.attrs)).bind fun (d4 : Int × Bool × Int × Int × (List ad) × Int × Int) =>
(bF (⟨d4.1, d4.2.1, (⟨d4.2.2.1, d4.2.2.2.1⟩ : ak), d4.2.2.2.2.1, d4.2.2.2.2.2.1, d4.2.2.2.2.2.2⟩ : ab) p1).bind fun (d9 : ab × Bool) =>
some ((⟨d9.1.model, d9.1.alternate, d9.1.size, d9.1.cells, d9.1.cursor, d9.1.attrs⟩ : ab), true))

def gg (d2 : Int) : Nat → (Int × Int × Bool × Int × Int × (List ad) × Int × Int) → Option (Int × Bool × Int × Int × (List ad) × Int × Int)
| 0, _ => none
| k4 + 1, x4 =>
cond (decide (x4.1 < d2)) (
(bi (⟨x4.2.1, x4.2.2.1, (⟨x4.2.2.2.1, x4.2.2.2.2.1⟩ : ak), x4.2.2.2.2.2.1, x4.2.2.2.2.2.2.1, x4.2.2.2.2.2.2.2⟩ : ab) x4.1 0).bind fun (d7 : ab) =>
gg d2 k4 (w64 (x4.1 + 1), d7.model, d7.alternate, d7.size.Rows, d7.size.Cols, d7.cells, d7.cursor, d7.attrs)) (
some (x4.2.1, x4.2.2.1, x4.2.2.2.1, x4.2.2.2.2.1, x4.2.2.2.2.2.1, x4.2.2.2.2.2.2.1, x4.2.2.2.2.2.2.2))

def iZ (p0 : ab) : Option ab :=
(aO p0).bind fun (d1 : ak) =>
(b5 (⟨d1.Rows, d1.Cols⟩ : ak)).bind fun (d2 : Int) =>
(
gg d2 bv (0, p0.model, p0.alternate, p0.size.Rows, p0.size.Cols, p0.cells, p0.cursor, p0.attrs)).bind fun (d3 : Int × Bool × Int × Int × (List ad) × Int × Int) =>
some (⟨d3.1, d3.2.1, (⟨d3.2.2.1, d3.2.2.2.1⟩ : ak), d3.2.2.2.2.1, d3.2.2.2.2.2.1, d3.2.2.2.2.2.2⟩ : ab)

def iz (p0 : ab) : Option Unit :=
some ()

def fM (p0 : ab) : Option Unit :=
some ()

def gv (p0 : ab) : Option Unit :=
some ()

def bW (d36 : ak) : Nat → (Int × Int × Bool × Int × Int × (List ad) × Int × Int) → Option (Int × Bool × Int × Int × (List ad) × Int × Int)
| 0, _ => none
| k42 + 1, x42 =>
(aK (⟨x42.2.1, x42.2.2.1, (⟨x42.2.2.2.1, x42.2.2.2.2.1⟩ : ak), x42.2.2.2.2.2.1, x42.2.2.2.2.2.2.1, x42.2.2.2.2.2.2.2⟩ : ab) x42.1).bind fun (d43 : ad) =>
cond (!d43.Attr) (
(bi (⟨x42.2.1, x42.2.2.1, (⟨x42.2.2.2.1, x42.2.2.2.2.1⟩ : ak), x42.2.2.2.2.2.1, x42.2.2.2.2.2.2.1, x42.2.2.2.2.2.2.2⟩ : ab) x42.1 0).bind fun (d47 : ab) =>
(aN (⟨d36.Rows, d36.Cols⟩ : ak) (w64 (x42.1 + 1))).bind fun (d48 : Int) =>
bW d36 k42 (d48, d47.model, d47.alternate, d47.size.Rows, d47.size.Cols, d47.cells, d47.cursor, d47.attrs)) (
some (x42.2.1, x42.2.2.1, x42.2.2.2.1, x42.2.2.2.2.1, x42.2.2.2.2.2.1, x42.2.2.2.2.2.2.1, x42.2.2.2.2.2.2.2))

def bN (d18 : Int) : Nat → (Int × Int × Bool × Int × Int × (List ad) × Int × Int) → Option (Int × Bool × Int × Int × (List ad) × Int × Int)
| 0, _ => none
| k20 + 1, x20 =>
cond (decide (x20.1 < d18)) (
(aK (⟨x20.2.1, x20.2.2.1, (⟨x20.2.2.2.1, x20.2.2.2.2.1⟩ : ak), x20.2.2.2.2.2.1, x20.2.2.2.2.2.2.1, x20.2.2.2.2.2.2.2⟩ : ab) x20.1).bind fun (d23 : ad) =>
(
cond d23.Attr (
(aK (⟨x20.2.1, x20.2.2.1, (⟨x20.2.2.2.1, x20.2.2.2.2.1⟩ : ak), x20.2.2.2.2.2.1, x20.2.2.2.2.2.2.1, x20.2.2.2.2.2.2.2⟩ : ab) x20.1).bind fun (d28 : ad) =>
(gQ d28.FA).bind fun (d29 : bO) =>
(
cond d29.Protected (
some (x20.2.1, x20.2.2.1, x20.2.2.2.1, x20.2.2.2.2.1, x20.2.2.2.2.2.1, x20.2.2.2.2.2.2.1, x20.2.2.2.2.2.2.2)) (
(fP (⟨x20.2.1, x20.2.2.1, (⟨x20.2.2.2.1, x20.2.2.2.2.1⟩ : ak), x20.2.2.2.2.2.1, x20.2.2.2.2.2.2.1, x20.2.2.2.2.2.2.2⟩ : ab) x20.1).bind fun (d32 : Unit) =>
(
(
(aO (⟨x20.2.1, x20.2.2.1, (⟨x20.2.2.2.1, x20.2.2.2.2.1⟩ : ak), x20.2.2.2.2.2.1, x20.2.2.2.2.2.2.1, x20.2.2.2.2.2.2.2⟩ : ab)).bind fun (d36 : ak) =>
(aN (⟨d36.Rows, d36.Cols⟩ : ak) x20.1).bind fun (d37 : Int) =>
(aK (⟨x20.2.1, x20.2.2.1, (⟨x20.2.2.2.1, x20.2.2.2.2.1⟩ : ak), x20.2.2.2.2.2.1, x20.2.2.2.2.2.2.1, x20.2.2.2.2.2.2.2⟩ : ab) d37).bind fun (d38 : ad) =>
cond (!d38.Attr) (
some (x20.2.1, x20.2.2.1, x20.2.2.2.1, x20.2.2.2.2.1, x20.2.2.2.2.2.1, x20.2.2.2.2.2.2.1, x20.2.2.2.2.2.2.2)) (
(aN (⟨d36.Rows, d36.Cols⟩ : ak) (w64 (d37 + 1))).bind fun (d40 : Int) =>
(
bW d36 bv (d40, x20.2.1, x20.2.2.1, x20.2.2.2.1, x20.2.2.2.2.1, x20.2.2.2.2.2.1, x20.2.2.2.2.2.2.1, x20.2.2.2.2.2.2.2)).bind fun (d41 : Int × Bool × Int × Int × (List ad) × Int × Int) =>
some (d41.1, d41.2.1, d41.2.2.1, d41.2.2.2.1, d41.2.2.2.2.1, d41.2.2.2.2.2.1, d41.2.2.2.2.2.2))).bind fun (d34 : Int × Bool × Int × Int × (List ad) × Int × Int) =>
some (d34.1, d34.2.1, d34.2.2.1, d34.2.2.2.1, d34.2.2.2.2.1, d34.2.2.2.2.2.1, d34.2.2.2.2.2.2)).bind fun (d33 : Int × Bool × Int × Int × (List ad) × Int × Int) =>
(aK (⟨d33.1, d33.2.1, (⟨d33.2.2.1, d33.2.2.2.1⟩ : ak), d33.2.2.2.2.1, d33.2.2.2.2.2.1, d33.2.2.2.2.2.2⟩ : ab) x20.1).bind fun (d49 : ad) =>
(bZ (⟨d33.1, d33.2.1, (⟨d33.2.2.1, d33.2.2.2.1⟩ : ak), d33.2.2.2.2.1, d33.2.2.2.2.2.1, d33.2.2.2.2.2.2⟩ : ab) x20.1 (⟨d49.Char, d49.Attr, ge .u8 d49.FA 1, d49.High, d49.Color, d49.f_Set⟩ : ad)).bind fun (d50 : ab) =>
some (d50.model, d50.alternate, d50.size.Rows, d50.size.Cols, d50.cells, d50.cursor, d50.attrs))).bind fun (d30 : Int × Bool × Int × Int × (List ad) × Int × Int) =>
some (d30.1, d30.2.1, d30.2.2.1, d30.2.2.2.1, d30.2.2.2.2.1, d30.2.2.2.2.2.1, d30.2.2.2.2.2.2)) (
some (x20.2.1, x20.2.2.1, x20.2.2.2.1, x20.2.2.2.2.1, x20.2.2.2.2.2.1, x20.2.2.2.2.2.2.1, x20.2.2.2.2.2.2.2))).bind fun (d25 : Int × Bool × Int × Int × (List ad) × Int × Int) =>
bN d18 k20 (w64 (x20.1 + 1), d25.1, d25.2.1, d25.2.2.1, d25.2.2.2.1, d25.2.2.2.2.1, d25.2.2.2.2.2.1, d25.2.2.2.2.2.2)) (
some (x20.2.1, x20.2.2.1, x20.2.2.2.1, x20.2.2.2.2.1, x20.2.2.2.2.2.1, x20.2.2.2.2.2.2.1, x20.2.2.2.2.2.2.2))

def eO (p0 : ab) : Option ab :=
(bX p0).bind fun (d1 : Bool) =>
cond (!d1) (
(iZ p0).bind fun (d3 : ab) =>
(bA d3 0).bind fun (d4 : ab) =>
some d4) (
(iz p0).bind fun (d5 : Unit) =>
(
(
(fM p0).bind fun (d9 : Unit) =>
(
(
(gv p0).bind fun (d13 : Unit) =>
(
(
(aO p0).bind fun (d17 : ak) =>
(b5 (⟨d17.Rows, d17.Cols⟩ : ak)).bind fun (d18 : Int) =>
(
bN d18 bv (0, p0.model, p0.alternate, p0.size.Rows, p0.size.Cols, p0.cells, p0.cursor, p0.attrs)).bind fun (d19 : Int × Bool × Int × Int × (List ad) × Int × Int) =>
some (d19.1, d19.2.1, d19.2.2.1, d19.2.2.2.1, d19.2.2.2.2.1, d19.2.2.2.2.2.1, d19.2.2.2.2.2.2)).bind fun (d15 : Int × Bool × Int × Int × (List ad) × Int × Int) =>
some (d15.1, d15.2.1, d15.2.2.1, d15.2.2.2.1, d15.2.2.2.2.1, d15.2.2.2.2.2.1, d15.2.2.2.2.2.2)).bind fun (d14 : Int × Bool × Int × Int × (List ad) × Int × Int) =>
some (d14.1, d14.2.1, d14.2.2.1, d14.2.2.2.1, d14.2.2.2.2.1, d14.2.2.2.2.2.1, d14.2.2.2.2.2.2)).bind fun (d11 : Int × Bool × Int × Int × (List ad) × Int × Int) =>
some (d11.1, d11.2.1, d11.2.2.1, d11.2.2.2.1, d11.2.2.2.2.1, d11.2.2.2.2.2.1, d11.2.2.2.2.2.2)).bind fun (d10 : Int × Bool × Int × Int × (List ad) × Int × Int) =>
some (d10.1, d10.2.1, d10.2.2.1, d10.2.2.2.1, d10.2.2.2.2.1, d10.2.2.2.2.2.1, d10.2.2.2.2.2.2)).bind fun (d7 : Int × Bool × Int × Int × (List ad) × Int × Int) =>
some (d7.1, d7.2.1, d7.2.2.1, d7.2.2.2.1, d7.2.2.2.2.1, d7.2.2.2.2.2.1, d7.2.2.2.2.2.2)).bind fun (d6 : Int × Bool × Int × Int × (List ad) × Int × Int) =>
(fA (⟨d6.1, d6.2.1, (⟨d6.2.2.1, d6.2.2.2.1⟩ : ak), d6.2.2.2.2.1, d6.2.2.2.2.2.1, d6.2.2.2.2.2.2⟩ : ab) (-1)).bind fun (d51 : Int) =>
(bA (⟨d6.1, d6.2.1, (⟨d6.2.2.1, d6.2.2.2.1⟩ : ak), d6.2.2.2.2.1, d6.2.2.2.2.2.1, d6.2.2.2.2.2.2⟩ : ab) (jZ d51 0)).bind fun (d52 : ab) =>
some d52)

def ey (p0 : ai) (p1 : ab) (p2 : aB) (p3 : co) : Option (ab × aB × ai × Int) :=
(ba p1).bind fun (d1 : Int) =>
jn (
cond (p3.Kind == 1) (
(fw (⟨p0.lock, p0.inserts, p0.aid⟩ : ai) p1 p2 p3.Sign).bind fun (d4 : ab × aB × ai × Int) =>
esc (
some (d4.1, d4.2.1, d4.2.2.1, d4.2.2.2))) (
cond (p3.Kind == 2) (
(
cond (decide (p3.N < 0)) (
some true) (
cond (decide (p3.N > 255)) (
some true) (
(fB (IntKind.wrap .u8 (p3.N))).bind fun (d6 : Bool) =>
some (!d6)))).bind fun (d5 : Bool) =>
cond d5 (
esc (
some (p1, p2, (⟨p0.lock, p0.inserts, p0.aid⟩ : ai), 1))) (
(df (⟨p0.lock, p0.inserts, p0.aid⟩ : ai) p1 p2 (IntKind.wrap .u8 (p3.N))).bind fun (d8 : ab × aB × ai × Int) =>
esc (
some ((⟨d8.1.model, d8.1.alternate, d8.1.size, d8.1.cells, d8.1.cursor, d8.1.attrs⟩ : ab), d8.2.1, d8.2.2.1, d8.2.2.2)))) (
cond (p3.Kind == 3) (
(df (⟨p0.lock, p0.inserts, p0.aid⟩ : ai) p1 p2 28).bind fun (d9 : ab × aB × ai × Int) =>
esc (
some (d9.1, d9.2.1, d9.2.2.1, d9.2.2.2))) (
cond (p3.Kind == 4) (
(df (⟨p0.lock, p0.inserts, p0.aid⟩ : ai) p1 p2 30).bind fun (d10 : ab × aB × ai × Int) =>
esc (
some (d10.1, d10.2.1, d10.2.2.1, d10.2.2.2))) (
cond (p3.Kind == 13) (
(gE p1 d1).bind fun (d11 : ab × Bool) =>
(gw p0 d11.1 p2 d11.2).bind fun (d12 : ai × Int) =>
esc (
some (d11.1, p2, d12.1, d12.2))) (
cond (p3.Kind == 14) (
(ja p1 d1).bind fun (d13 : ab × Bool) =>
(gw (⟨p0.lock, p0.inserts, p0.aid⟩ : ai) d13.1 p2 d13.2).bind fun (d14 : ai × Int) =>
esc (
some (d13.1, p2, (⟨d14.1.lock, d14.1.inserts, d14.1.aid⟩ : ai), d14.2))) (
cond (p3.Kind == 15) (
(eO p1).bind fun (d15 : ab) =>
some (.inl (d15.model, d15.alternate, d15.size.Rows, d15.size.Cols, d15.cells, d15.cursor, d15.attrs, p0.inserts))) (
cond (p3.Kind == 16) (
some (.inl (p1.model, p1.alternate, p1.size.Rows, p1.size.Cols, p1.cells, p1.cursor, p1.attrs, (!p0.inserts)))) (
some (.inl (p1.model, p1.alternate, p1.size.Rows, p1.size.Cols, p1.cells, p1.cursor, p1.attrs, p0.inserts))))))))))) fun (d3 : Int × Bool × Int × Int × (List ad) × Int × Int × Bool) =>
some ((⟨d3.1, d3.2.1, (⟨d3.2.2.1, d3.2.2.2.1⟩ : ak), d3.2.2.2.2.1, d3.2.2.2.2.2.1, d3.2.2.2.2.2.2.1⟩ : ab), p2, (⟨p0.lock, d3.2.2.2.2.2.2.2, p0.aid⟩ : ai), 0)

def bU (p0 : ai) (p1 : ab) (p2 : aB) (p3 : co) : Option (ab × aB × ai × Bool × Int) :=
(ga p3).bind fun (d1 : Int × Bool) =>
(
cond (decide (p3.Kind < 1)) (
some true) (
some (decide (p3.Kind > 22)))).bind fun (d3 : Bool) =>
cond d3 (
some (p1, p2, (⟨p0.lock, p0.inserts, p0.aid⟩ : ai), false, 1)) (
cond (p3.Kind == 17) (
(f8 p0 p1 p2).bind fun (d5 : ai) =>
some (p1, p2, (⟨d5.lock, d5.inserts, d5.aid⟩ : ai), false, 0)) (
cond (p0.lock != 0) (
some (p1, p2, (⟨p0.lock, p0.inserts, p0.aid⟩ : ai), false, 8)) (
cond (p3.Kind == 18) (
(eN (⟨p0.lock, p0.inserts, p0.aid⟩ : ai) p1 p2).bind fun (d6 : ab × aB × ai × Bool × Int) =>
some (d6.1, d6.2.1, d6.2.2.1, d6.2.2.2.1, d6.2.2.2.2)) (
cond d1.2 (
(
cond (p3.Kind == 22) (
(cW p1 false).bind fun (d8 : ab) =>
some (d8.model, d8.alternate, d8.size.Rows, d8.size.Cols, d8.cells, d8.cursor, d8.attrs)) (
some (p1.model, p1.alternate, p1.size.Rows, p1.size.Cols, p1.cells, p1.cursor, p1.attrs))).bind fun (d7 : Int × Bool × Int × Int × (List ad) × Int × Int) =>
(dN (⟨p0.lock, p0.inserts, p0.aid⟩ : ai) (⟨d7.1, d7.2.1, (⟨d7.2.2.1, d7.2.2.2.1⟩ : ak), d7.2.2.2.2.1, d7.2.2.2.2.2.1, d7.2.2.2.2.2.2⟩ : ab) p2 d1.1).bind fun (d9 : ai) =>
some ((⟨d7.1, d7.2.1, (⟨d7.2.2.1, d7.2.2.2.1⟩ : ak), d7.2.2.2.2.1, d7.2.2.2.2.2.1, d7.2.2.2.2.2.2⟩ : ab), p2, (⟨d9.lock, d9.inserts, d9.aid⟩ : ai), true, 0)) (
(
cond (p3.Kind == 20) (
some true) (
some (p3.Kind == 21))).bind fun (d10 : Bool) =>
cond d10 (
some (p1, p2, (⟨p0.lock, p0.inserts, p0.aid⟩ : ai), false, 1)) (
(eF (⟨p0.lock, p0.inserts, p0.aid⟩ : ai) p1 p2 p3.Kind).bind fun (d11 : ab × aB × ai × Bool) =>
cond d11.2.2.2 (
some (d11.1, d11.2.1, d11.2.2.1, false, 0)) (
(ey d11.2.2.1 d11.1 d11.2.1 p3).bind fun (d12 : ab × aB × ai × Int) =>
some (d12.1, d12.2.1, d12.2.2.1, false, d12.2.2.2))))))))

def gb (p3 : ByteArray) : Nat → (Nat × Int × Int × Bool × Int × Int × Bool × Int × Int × (List ad) × Int × Int × Int) → Option ((Int × Int × Bool × Int × Int × (List ad) × Int × Int × Int × Int × Bool × Int) ⊕ (ab × aB × ai × Int × Int))
| 0, _ => none
| k2 + 1, x2 =>
cond (decide (x2.1 < p3.size)) (
(bU (⟨x2.2.2.1, x2.2.2.2.1, x2.2.2.2.2.1⟩ : ai) (⟨x2.2.2.2.2.2.1, x2.2.2.2.2.2.2.1, (⟨x2.2.2.2.2.2.2.2.1, x2.2.2.2.2.2.2.2.2.1⟩ : ak), x2.2.2.2.2.2.2.2.2.2.1, x2.2.2.2.2.2.2.2.2.2.2.1, x2.2.2.2.2.2.2.2.2.2.2.2.1⟩ : ab) (⟨x2.2.2.2.2.2.2.2.2.2.2.2.2⟩ : aB) (⟨1, rdR p3 x2.1, 0⟩ : co)).bind fun (d3 : ab × aB × ai × Bool × Int) =>
cond (d3.2.2.2.2 != 0) (
esc (
some (d3.1, d3.2.1, d3.2.2.1, x2.2.1, d3.2.2.2.2))) (
gb p3 k2 ((x2.1 + rdW p3 x2.1), w64 (x2.2.1 + 1), d3.2.2.1.lock, d3.2.2.1.inserts, d3.2.2.1.aid, d3.1.model, d3.1.alternate, d3.1.size.Rows, d3.1.size.Cols, d3.1.cells, d3.1.cursor, d3.1.attrs, d3.2.1.number))) (
some (.inl (x2.2.1, x2.2.2.2.2.2.1, x2.2.2.2.2.2.2.1, x2.2.2.2.2.2.2.2.1, x2.2.2.2.2.2.2.2.2.1, x2.2.2.2.2.2.2.2.2.2.1, x2.2.2.2.2.2.2.2.2.2.2.1, x2.2.2.2.2.2.2.2.2.2.2.2.1, x2.2.2.2.2.2.2.2.2.2.2.2.2, x2.2.2.1, x2.2.2.2.1, x2.2.2.2.2.1)))

def gx (p0 : ai) (p1 : ab) (p2 : aB) (p3 : ByteArray) : Option (ab × aB × ai × Int × Int) :=
jn (
gb p3 bv (0, 0, p0.lock, p0.inserts, p0.aid, p1.model, p1.alternate, p1.size.Rows, p1.size.Cols, p1.cells, p1.cursor, p1.attrs, p2.number)) fun (d1 : Int × Int × Bool × Int × Int × (List ad) × Int × Int × Int × Int × Bool × Int) =>
some ((⟨d1.2.1, d1.2.2.1, (⟨d1.2.2.2.1, d1.2.2.2.2.1⟩ : ak), d1.2.2.2.2.2.1, d1.2.2.2.2.2.2.1, d1.2.2.2.2.2.2.2.1⟩ : ab), (⟨d1.2.2.2.2.2.2.2.2.1⟩ : aB), (⟨d1.2.2.2.2.2.2.2.2.2.1, d1.2.2.2.2.2.2.2.2.2.2.1, d1.2.2.2.2.2.2.2.2.2.2.2⟩ : ai), d1.1, 0)

def fO (p0 : ai) (p1 : ab) (p2 : aB) : Option Int :=
some p0.aid

def fx (p0 : ai) (p1 : ab) (p2 : aB) : Option Int :=
some p0.lock

def ex : Option Bool :=
(de 0 0 [(⟨3, 0, false, 0, (⟨0, false, 0, 0, 0, 0⟩ : ad), ([] : List Int)⟩ : aI), (⟨1, 1, false, 0, (⟨0, false, 0, 0, 0, 0⟩ : ad), ([] : List Int)⟩ : aI)]).bind fun (d2 : ai × ab × aB × ap × aa) =>
(gx (⟨d2.1.lock, d2.1.inserts, d2.1.aid⟩ : ai) (⟨d2.2.1.model, d2.2.1.alternate, d2.2.1.size, d2.2.1.cells, d2.2.1.cursor, d2.2.1.attrs⟩ : ab) (⟨d2.2.2.1.number⟩ : aB) (ByteArray.mk (List.toArray [65, 98]))).bind fun (d3 : ab × aB × ai × Int × Int) =>
(bU d3.2.2.1 d3.1 d3.2.1 (⟨19, 0, 0⟩ : co)).bind fun (d4 : ab × aB × ai × Bool × Int) =>
(
cond (d3.2.2.2.1 == 2) (
cond (d3.2.2.2.2 == 0) (
(aK d4.1 1).bind fun (d6 : ad) =>
cond (d6.Char == 193) (
(aK d4.1 2).bind fun (d7 : ad) =>
cond (d7.Char == 130) (
(aK d4.1 0).bind fun (d8 : ad) =>
cond (d8.FA == 1) (
cond d4.2.2.2.1 (
cond (d4.2.2.2.2 == 0) (
(fO d4.2.2.1 d4.1 d4.2.1).bind fun (d9 : Int) =>
cond (d9 == 125) (
(fx d4.2.2.1 d4.1 d4.2.1).bind fun (d10 : Int) =>
some (d10 == 1)) (
some false)) (
some false)) (
some false)) (
some false)) (
some false)) (
some false)) (
some false)) (
some false)).bind fun (d5 : Bool) =>
some d5

def ee (p0 : Int) : Option (ByteArray × Bool) :=
cond (p0 == 37) (
some ((ByteArray.mk (List.toArray [])), true)) (
cond (p0 == 273) (
some ((ByteArray.mk (List.toArray [52, 51, 48, 48, 55, 98, 52, 97, 48, 48, 99, 52, 52, 102, 48, 48, 50, 49, 53, 57, 48, 48, 55, 101, 53, 97, 48, 48, 100, 99, 53, 102, 48, 48, 53, 101, 54, 51, 48, 48, 53, 98, 54, 97, 48, 48, 102, 54, 55, 99, 48, 48, 97, 55, 97, 49, 48, 48, 100, 102, 98, 48, 48, 48, 97, 50, 98, 53, 48, 48, 52, 48, 98, 97, 48, 48, 97, 99, 98, 98, 48, 48, 55, 99, 99, 48, 48, 48, 101, 52, 99, 99, 48, 48, 97, 54, 100, 48, 48, 48, 102, 99, 100, 99, 48, 48, 55, 100, 101, 48, 48, 48, 100, 54, 101, 99, 48, 48, 53, 99, 102, 99, 48, 48, 53, 100])), true)) (
cond (p0 == 297) (
some ((ByteArray.mk (List.toArray [52, 52, 48, 48, 52, 48, 52, 56, 48, 48, 53, 99, 52, 97, 48, 48, 98, 48, 52, 102, 48, 48, 50, 49, 53, 49, 48, 48, 55, 98, 53, 52, 48, 48, 55, 100, 53, 97, 48, 48, 97, 55, 53, 102, 48, 48, 53, 101, 54, 97, 48, 48, 102, 57, 55, 57, 48, 48, 98, 53, 55, 98, 48, 48, 97, 51, 55, 99, 48, 48, 101, 48, 57, 48, 48, 48, 53, 98, 97, 48, 48, 48, 54, 48, 97, 49, 48, 48, 97, 56, 98, 48, 48, 48, 97, 50, 98, 49, 48, 48, 50, 51, 98, 53, 48, 48, 53, 100, 98, 97, 48, 48, 97, 99, 98, 98, 48, 48, 55, 99, 98, 100, 48, 48, 55, 101, 99, 48, 48, 48, 101, 57, 100, 48, 48, 48, 101, 56, 100, 100, 48, 48, 97, 54, 101, 48, 48, 48, 101, 55])), true)) (
cond (p0 == 500) (
some ((ByteArray.mk (List.toArray [52, 97, 48, 48, 53, 98, 52, 102, 48, 48, 50, 49, 53, 97, 48, 48, 53, 100, 53, 102, 48, 48, 53, 101, 98, 48, 48, 48, 97, 50, 98, 97, 48, 48, 97, 99, 98, 98, 48, 48, 55, 99])), true)) (
cond (p0 == 1047) (
some ((ByteArray.mk (List.toArray [53, 102, 48, 48, 53, 101, 97, 100, 48, 48, 53, 98, 98, 48, 48, 48, 97, 99, 98, 97, 48, 48, 100, 100, 98, 98, 48, 48, 97, 56, 98, 100, 48, 48, 53, 100])), true)) (
cond (p0 == 1140) (
some ((ByteArray.mk (List.toArray [57, 102, 50, 48, 97, 99])), true)) (
some ((ByteArray.mk (List.toArray [])), false)))))))

def du (p0 : ByteArray) : Nat → (Int × Int) → Option Int
| 0, _ => none
| k2 + 1, x2 =>
cond (decide (x2.1 < (p0.size : Int))) (
gd ((0 : Int) ≤ x2.1 ∧ x2.1 < (p0.size : Int)) <|
gd ((0 : Int) ≤ x2.1 ∧ x2.1 < (p0.size : Int)) <|
(
cond (decide ((ju p0 x2.1) ≥ 97)) (
gd ((0 : Int) ≤ x2.1 ∧ x2.1 < (p0.size : Int)) <|
some (w64 ((w64 (IntKind.wrap .u8 ((ju p0 x2.1) - 97))) + 10))) (
some (w64 (IntKind.wrap .u8 ((ju p0 x2.1) - 48))))).bind fun (d5 : Int) =>
du p0 k2 (w64 (x2.1 + 1), w64 ((w64 (16 * x2.2)) + d5))) (
some x2.2)

def b9 (p0 : ByteArray) : Option Int :=
(
du p0 bv (0, 0)).bind fun (d1 : Int) =>
some d1

def c7 (p1 : Int) (d1 : ByteArray × Bool) : Nat → Int → Option ((Unit) ⊕ Int)
| 0, _ => none
| k3 + 1, x3 =>
cond (decide (x3 < (d1.1.size : Int))) (
gd ((0 : Int) ≤ x3 ∧ x3 ≤ (w64 (x3 + 2)) ∧ (w64 (x3 + 2)) ≤ (d1.1.size : Int)) <|
(b9 (ByteArray.extract d1.1 (Int.toNat x3) (Int.toNat (w64 (x3 + 2))))).bind fun (d6 : Int) =>
cond (d6 == (w64 (p1))) (
gd ((0 : Int) ≤ (w64 (x3 + 2)) ∧ (w64 (x3 + 2)) ≤ (w64 (x3 + 6)) ∧ (w64 (x3 + 6)) ≤ (d1.1.size : Int)) <|
(b9 (ByteArray.extract d1.1 (Int.toNat (w64 (x3 + 2))) (Int.toNat (w64 (x3 + 6))))).bind fun (d8 : Int) =>
esc (
some (IntKind.wrap .i32 (d8)))) (
c7 p1 d1 k3 (w64 (x3 + 6)))) (
some (.inl ()))

def bm (p0 : Int) (p1 : Int) : Option Int :=
(ee p0).bind fun (d1 : ByteArray × Bool) =>
jn (
c7 p1 d1 bv 0) fun (d2 : Unit) =>
gd ((0 : Int) ≤ (w64 (4 * (w64 (p1)))) ∧ (w64 (4 * (w64 (p1)))) ≤ (w64 ((w64 (4 * (w64 (p1)))) + 4)) ∧ (w64 ((w64 (4 * (w64 (p1)))) + 4)) ≤ ((ByteArray.mk (List.toArray [48, 48, 48, 48, 48, 48, 48, 49, 48, 48, 48, 50, 48, 48, 48, 51, 48, 48, 57, 99, 48, 48, 48, 57, 48, 48, 56, 54, 48, 48, 55, 102, 48, 48, 57, 55, 48, 48, 56, 100, 48, 48, 56, 101, 48, 48, 48, 98, 48, 48, 48, 99, 48, 48, 48, 100, 48, 48, 48, 101, 48, 48, 48, 102, 48, 48, 49, 48, 48, 48, 49, 49, 48, 48, 49, 50, 48, 48, 49, 51, 48, 48, 57, 100, 48, 48, 56, 53, 48, 48, 48, 56, 48, 48, 56, 55, 48, 48, 49, 56, 48, 48, 49, 57, 48, 48, 57, 50, 48, 48, 56, 102, 48, 48, 49, 99, 48, 48, 49, 100, 48, 48, 49, 101, 48, 48, 49, 102, 48, 48, 56, 48, 48, 48, 56, 49, 48, 48, 56, 50, 48, 48, 56, 51, 48, 48, 56, 52, 48, 48, 48, 97, 48, 48, 49, 55, 48, 48, 49, 98, 48, 48, 56, 56, 48, 48, 56, 57, 48, 48, 56, 97, 48, 48, 56, 98, 48, 48, 56, 99, 48, 48, 48, 53, 48, 48, 48, 54, 48, 48, 48, 55, 48, 48, 57, 48, 48, 48, 57, 49, 48, 48, 49, 54, 48, 48, 57, 51, 48, 48, 57, 52, 48, 48, 57, 53, 48, 48, 57, 54, 48, 48, 48, 52, 48, 48, 57, 56, 48, 48, 57, 57, 48, 48, 57, 97, 48, 48, 57, 98, 48, 48, 49, 52, 48, 48, 49, 53, 48, 48, 57, 101, 48, 48, 49, 97, 48, 48, 50, 48, 48, 48, 97, 48, 48, 48, 101, 50, 48, 48, 101, 52, 48, 48, 101, 48, 48, 48, 101, 49, 48, 48, 101, 51, 48, 48, 101, 53, 48, 48, 101, 55, 48, 48, 102, 49, 48, 48, 97, 50, 48, 48, 50, 101, 48, 48, 51, 99, 48, 48, 50, 56, 48, 48, 50, 98, 48, 48, 55, 99, 48, 48, 50, 54, 48, 48, 101, 57, 48, 48, 101, 97, 48, 48, 101, 98, 48, 48, 101, 56, 48, 48, 101, 100, 48, 48, 101, 101, 48, 48, 101, 102, 48, 48, 101, 99, 48, 48, 100, 102, 48, 48, 50, 49, 48, 48, 50, 52, 48, 48, 50, 97, 48, 48, 50, 57, 48, 48, 51, 98, 48, 48, 97, 99, 48, 48, 50, 100, 48, 48, 50, 102, 48, 48, 99, 50, 48, 48, 99, 52, 48, 48, 99, 48, 48, 48, 99, 49, 48, 48, 99, 51, 48, 48, 99, 53, 48, 48, 99, 55, 48, 48, 100, 49, 48, 48, 97, 54, 48, 48, 50, 99, 48, 48, 50, 53, 48, 48, 53, 102, 48, 48, 51, 101, 48, 48, 51, 102, 48, 48, 102, 56, 48, 48, 99, 57, 48, 48, 99, 97, 48, 48, 99, 98, 48, 48, 99, 56, 48, 48, 99, 100, 48, 48, 99, 101, 48, 48, 99, 102, 48, 48, 99, 99, 48, 48, 54, 48, 48, 48, 51, 97, 48, 48, 50, 51, 48, 48, 52, 48, 48, 48, 50, 55, 48, 48, 51, 100, 48, 48, 50, 50, 48, 48, 100, 56, 48, 48, 54, 49, 48, 48, 54, 50, 48, 48, 54, 51, 48, 48, 54, 52, 48, 48, 54, 53, 48, 48, 54, 54, 48, 48, 54, 55, 48, 48, 54, 56, 48, 48, 54, 57, 48, 48, 97, 98, 48, 48, 98, 98, 48, 48, 102, 48, 48, 48, 102, 100, 48, 48, 102, 101, 48, 48, 98, 49, 48, 48, 98, 48, 48, 48, 54, 97, 48, 48, 54, 98, 48, 48, 54, 99, 48, 48, 54, 100, 48, 48, 54, 101, 48, 48, 54, 102, 48, 48, 55, 48, 48, 48, 55, 49, 48, 48, 55, 50, 48, 48, 97, 97, 48, 48, 98, 97, 48, 48, 101, 54, 48, 48, 98, 56, 48, 48, 99, 54, 48, 48, 97, 52, 48, 48, 98, 53, 48, 48, 55, 101, 48, 48, 55, 51, 48, 48, 55, 52, 48, 48, 55, 53, 48, 48, 55, 54, 48, 48, 55, 55, 48, 48, 55, 56, 48, 48, 55, 57, 48, 48, 55, 97, 48, 48, 97, 49, 48, 48, 98, 102, 48, 48, 100, 48, 48, 48, 100, 100, 48, 48, 100, 101, 48, 48, 97, 101, 48, 48, 53, 101, 48, 48, 97, 51, 48, 48, 97, 53, 48, 48, 98, 55, 48, 48, 97, 57, 48, 48, 97, 55, 48, 48, 98, 54, 48, 48, 98, 99, 48, 48, 98, 100, 48, 48, 98, 101, 48, 48, 53, 98, 48, 48, 53, 100, 48, 48, 97, 102, 48, 48, 97, 56, 48, 48, 98, 52, 48, 48, 100, 55, 48, 48, 55, 98, 48, 48, 52, 49, 48, 48, 52, 50, 48, 48, 52, 51, 48, 48, 52, 52, 48, 48, 52, 53, 48, 48, 52, 54, 48, 48, 52, 55, 48, 48, 52, 56, 48, 48, 52, 57, 48, 48, 97, 100, 48, 48, 102, 52, 48, 48, 102, 54, 48, 48, 102, 50, 48, 48, 102, 51, 48, 48, 102, 53, 48, 48, 55, 100, 48, 48, 52, 97, 48, 48, 52, 98, 48, 48, 52, 99, 48, 48, 52, 100, 48, 48, 52, 101, 48, 48, 52, 102, 48, 48, 53, 48, 48, 48, 53, 49, 48, 48, 53, 50, 48, 48, 98, 57, 48, 48, 102, 98, 48, 48, 102, 99, 48, 48, 102, 57, 48, 48, 102, 97, 48, 48, 102, 102, 48, 48, 53, 99, 48, 48, 102, 55, 48, 48, 53, 51, 48, 48, 53, 52, 48, 48, 53, 53, 48, 48, 53, 54, 48, 48, 53, 55, 48, 48, 53, 56, 48, 48, 53, 57, 48, 48, 53, 97, 48, 48, 98, 50, 48, 48, 100, 52, 48, 48, 100, 54, 48, 48, 100, 50, 48, 48, 100, 51, 48, 48, 100, 53, 48, 48, 51, 48, 48, 48, 51, 49, 48, 48, 51, 50, 48, 48, 51, 51, 48, 48, 51, 52, 48, 48, 51, 53, 48, 48, 51, 54, 48, 48, 51, 55, 48, 48, 51, 56, 48, 48, 51, 57, 48, 48, 98, 51, 48, 48, 100, 98, 48, 48, 100, 99, 48, 48, 100, 57, 48, 48, 100, 97, 48, 48, 57, 102])).size : Int)) <|
(b9 (ByteArray.extract (ByteArray.mk (List.toArray [48, 48, 48, 48, 48, 48, 48, 49, 48, 48, 48, 50, 48, 48, 48, 51, 48, 48, 57, 99, 48, 48, 48, 57, 48, 48, 56, 54, 48, 48, 55, 102, 48, 48, 57, 55, 48, 48, 56, 100, 48, 48, 56, 101, 48, 48, 48, 98, 48, 48, 48, 99, 48, 48, 48, 100, 48, 48, 48, 101, 48, 48, 48, 102, 48, 48, 49, 48, 48, 48, 49, 49, 48, 48, 49, 50, 48, 48, 49, 51, 48, 48, 57, 100, 48, 48, 56, 53, 48, 48, 48, 56, 48, 48, 56, 55, 48, 48, 49, 56, 48, 48, 49, 57, 48, 48, 57, 50, 48, 48, 56, 102, 48, 48, 49, 99, 48, 48, 49, 100, 48, 48, 49, 101, 48, 48, 49, 102, 48, 48, 56, 48, 48, 48, 56, 49, 48, 48, 56, 50, 48, 48, 56, 51, 48, 48, 56, 52, 48, 48, 48, 97, 48, 48, 49, 55, 48, 48, 49, 98, 48, 48, 56, 56, 48, 48, 56, 57, 48, 48, 56, 97, 48, 48, 56, 98, 48, 48, 56, 99, 48, 48, 48, 53, 48, 48, 48, 54, 48, 48, 48, 55, 48, 48, 57, 48, 48, 48, 57, 49, 48, 48, 49, 54, 48, 48, 57, 51, 48, 48, 57, 52, 48, 48, 57, 53, 48, 48, 57, 54, 48, 48, 48, 52, 48, 48, 57, 56, 48, 48, 57, 57, 48, 48, 57, 97, 48, 48, 57, 98, 48, 48, 49, 52, 48, 48, 49, 53, 48, 48, 57, 101, 48, 48, 49, 97, 48, 48, 50, 48, 48, 48, 97, 48, 48, 48, 101, 50, 48, 48, 101, 52, 48, 48, 101, 48, 48, 48, 101, 49, 48, 48, 101, 51, 48, 48, 101, 53, 48, 48, 101, 55, 48, 48, 102, 49, 48, 48, 97, 50, 48, 48, 50, 101, 48, 48, 51, 99, 48, 48, 50, 56, 48, 48, 50, 98, 48, 48, 55, 99, 48, 48, 50, 54, 48, 48, 101, 57, 48, 48, 101, 97, 48, 48, 101, 98, 48, 48, 101, 56, 48, 48, 101, 100, 48, 48, 101, 101, 48, 48, 101, 102, 48, 48, 101, 99, 48, 48, 100, 102, 48, 48, 50, 49, 48, 48, 50, 52, 48, 48, 50, 97, 48, 48, 50, 57, 48, 48, 51, 98, 48, 48, 97, 99, 48, 48, 50, 100, 48, 48, 50, 102, 48, 48, 99, 50, 48, 48, 99, 52, 48, 48, 99, 48, 48, 48, 99, 49, 48, 48, 99, 51, 48, 48, 99, 53, 48, 48, 99, 55, 48, 48, 100, 49, 48, 48, 97, 54, 48, 48, 50, 99, 48, 48, 50, 53, 48, 48, 53, 102, 48, 48, 51, 101, 48, 48, 51, 102, 48, 48, 102, 56, 48, 48, 99, 57, 48, 48, 99, 97, 48, 48, 99, 98, 48, 48, 99, 56, 48, 48, 99, 100, 48, 48, 99, 101, 48, 48, 99, 102, 48, 48, 99, 99, 48, 48, 54, 48, 48, 48, 51, 97, 48, 48, 50, 51, 48, 48, 52, 48, 48, 48, 50, 55, 48, 48, 51, 100, 48, 48, 50, 50, 48, 48, 100, 56, 48, 48, 54, 49, 48, 48, 54, 50, 48, 48, 54, 51, 48, 48, 54, 52, 48, 48, 54, 53, 48, 48, 54, 54, 48, 48, 54, 55, 48, 48, 54, 56, 48, 48, 54, 57, 48, 48, 97, 98, 48, 48, 98, 98, 48, 48, 102, 48, 48, 48, 102, 100, 48, 48, 102, 101, 48, 48, 98, 49, 48, 48, 98, 48, 48, 48, 54, 97, 48, 48, 54, 98, 48, 48, 54, 99, 48, 48, 54, 100, 48, 48, 54, 101, 48, 48, 54, 102, 48, 48, 55, 48, 48, 48, 55, 49, 48, 48, 55, 50, 48, 48, 97, 97, 48, 48, 98, 97, 48, 48, 101, 54, 48, 48, 98, 56, 48, 48, 99, 54, 48, 48, 97, 52, 48, 48, 98, 53, 48, 48, 55, 101, 48, 48, 55, 51, 48, 48, 55, 52, 48, 48, 55, 53, 48, 48, 55, 54, 48, 48, 55, 55, 48, 48, 55, 56, 48, 48, 55, 57, 48, 48, 55, 97, 48, 48, 97, 49, 48, 48, 98, 102, 48, 48, 100, 48, 48, 48, 100, 100, 48, 48, 100, 101, 48, 48, 97, 101, 48, 48, 53, 101, 48, 48, 97, 51, 48, 48, 97, 53, 48, 48, 98, 55, 48, 48, 97, 57, 48, 48, 97, 55, 48, 48, 98, 54, 48, 48, 98, 99, 48, 48, 98, 100, 48, 48, 98, 101, 48, 48, 53, 98, 48, 48, 53, 100, 48, 48, 97, 102, 48, 48, 97, 56, 48, 48, 98, 52, 48, 48, 100, 55, 48, 48, 55, 98, 48, 48, 52, 49, 48, 48, 52, 50, 48, 48, 52, 51, 48, 48, 52, 52, 48, 48, 52, 53, 48, 48, 52, 54, 48, 48, 52, 55, 48, 48, 52, 56, 48, 48, 52, 57, 48, 48, 97, 100, 48, 48, 102, 52, 48, 48, 102, 54, 48, 48, 102, 50, 48, 48, 102, 51, 48, 48, 102, 53, 48, 48, 55, 100, 48, 48, 52, 97, 48, 48, 52, 98, 48, 48, 52, 99, 48, 48, 52, 100, 48, 48, 52, 101, 48, 48, 52, 102, 48, 48, 53, 48, 48, 48, 53, 49, 48, 48, 53, 50, 48, 48, 98, 57, 48, 48, 102, 98, 48, 48, 102, 99, 48, 48, 102, 57, 48, 48, 102, 97, 48, 48, 102, 102, 48, 48, 53, 99, 48, 48, 102, 55, 48, 48, 53, 51, 48, 48, 53, 52, 48, 48, 53, 53, 48, 48, 53, 54, 48, 48, 53, 55, 48, 48, 53, 56, 48, 48, 53, 57, 48, 48, 53, 97, 48, 48, 98, 50, 48, 48, 100, 52, 48, 48, 100, 54, 48, 48, 100, 50, 48, 48, 100, 51, 48, 48, 100, 53, 48, 48, 51, 48, 48, 48, 51, 49, 48, 48, 51, 50, 48, 48, 51, 51, 48, 48, 51, 52, 48, 48, 51, 53, 48, 48, 51, 54, 48, 48, 51, 55, 48, 48, 51, 56, 48, 48, 51, 57, 48, 48, 98, 51, 48, 48, 100, 98, 48, 48, 100, 99, 48, 48, 100, 57, 48, 48, 100, 97, 48, 48, 57, 102])) (Int.toNat (w64 (4 * (w64 (p1))))) (Int.toNat (w64 ((w64 (4 * (w64 (p1)))) + 4))))).bind fun (d9 : Int) =>
some (IntKind.wrap .i32 (d9))

def c8 (p0 : Int) (p1 : Int) : Nat → Int → Option ((Unit) ⊕ Int)
| 0, _ => none
| k2 + 1, x2 =>
cond (decide (x2 < 256)) (
(bm p0 (IntKind.wrap .u8 (x2))).bind fun (d5 : Int) =>
cond (d5 == p1) (
esc (
some x2)) (
c8 p0 p1 k2 (w64 (x2 + 1)))) (
some (.inl ()))

def cm (p0 : Int) (p1 : Int) : Option Int :=
jn (
c8 p0 p1 bv 0) fun (d1 : Unit) =>
some (-1)

def cT (p0 : aa) : Nat → (Int × (List Int)) → Option (List Int)
| 0, _ => none
| k2 + 1, x2 =>
cond (decide (x2.1 < (p0.L.length : Int))) (
gd ((0 : Int) ≤ x2.1 ∧ x2.1 < (p0.L.length : Int)) <|
(
cond ((rd p0.L x2.1).Attr) (
gd (x2.2.length + [x2.1].length ≤ 68719476736) <|
some (x2.2 ++ [x2.1])) (
some x2.2)).bind fun (d5 : (List Int)) =>
cT p0 k2 (w64 (x2.1 + 1), d5)) (
some x2.2)

def cA (p0 : aa) : Option (List Int) :=
(
cT p0 bv (0, ([] : List Int))).bind fun (d1 : (List Int)) =>
some d1

def cE (p0 : aa) : Nat → (Int × Int × (List Int)) → Option (List Int)
| 0, _ => none
| k4 + 1, x4 =>
cond (decide (x4.1 < (p0.L.length : Int))) (
gd ((0 : Int) ≤ x4.1 ∧ x4.1 < (p0.L.length : Int)) <|
(
cond ((rd p0.L x4.1).Attr) (
some x4.1) (
some x4.2.1)).bind fun (d7 : Int) =>
gd ((0 : Int) ≤ x4.1 ∧ x4.1 < (x4.2.2.length : Int)) <|
cE p0 k4 (w64 (x4.1 + 1), d7, (List.set x4.2.2 (Int.toNat x4.1) d7))) (
some x4.2.2)

def ce (p0 : aa) : Option (List Int) :=
(cA p0).bind fun (d1 : (List Int)) =>
gd ((0 : Int) ≤ (p0.L.length : Int) ∧ (p0.L.length : Int) ≤ 68719476736) <|
(
cond (decide ((d1.length : Int) > 0)) (
gd ((0 : Int) ≤ (w64 ((d1.length : Int) - 1)) ∧ (w64 ((d1.length : Int) - 1)) < (d1.length : Int)) <|
some (rd d1 (w64 ((d1.length : Int) - 1)))) (
some (-1))).bind fun (d2 : Int) =>
(
cE p0 bv (0, d2, (List.replicate (Int.toNat (p0.L.length : Int)) 0))).bind fun (d3 : (List Int)) =>
some d3

def bY (p0 : aa) (p1 : Int) : Option Int :=
(ce p0).bind fun (d1 : (List Int)) =>
(aT p0 p1).bind fun (d2 : Int) =>
gd ((0 : Int) ≤ d2 ∧ d2 < (d1.length : Int)) <|
some (rd d1 d2)

def bj (p0 : aa) (p1 : Int) : Option aX :=
gd ((0 : Int) ≤ p1 ∧ p1 < (p0.L.length : Int)) <|
(eD ((rd p0.L p1).FA)).bind fun (d1 : aX) =>
some (⟨d1.Protected, d1.Numeric, d1.Display, d1.Modified⟩ : aX)

def ck (p0 : aa) (p1 : Int) : Option Bool :=
(aT p0 p1).bind fun (d1 : Int) =>
(bY p0 d1).bind fun (d2 : Int) =>
(
gd ((0 : Int) ≤ d1 ∧ d1 < (p0.L.length : Int)) <|
cond (!((rd p0.L d1).Attr)) (
cond (decide (d2 < 0)) (
some true) (
(bj p0 d2).bind fun (d4 : aX) =>
some (!d4.Protected))) (
some false)).bind fun (d3 : Bool) =>
some d3

def bt (p0 : ap) (p1 : aa) (p2 : Int) (p3 : Int) : Option (ap × Bool × Int) :=
some ({ p0 with Lock := p2 }, false, p3)

def eL (p0 : Int) : Option Bool :=
(
cond (decide (p0 ≥ 64)) (
some (decide (p0 ≤ 254))) (
some false)).bind fun (d1 : Bool) =>
some d1

def dl (p0 : Int) (p1 : Int) : Option Bool :=
(bm p0 p1).bind fun (d1 : Int) =>
(
cond (p1 == 28) (
some true) (
(eL p1).bind fun (d3 : Bool) =>
cond d3 (
cond (decide (d1 ≥ 48)) (
cond (decide (d1 ≤ 57)) (
some true) (
cond (d1 == 46) (
some true) (
some (d1 == 45)))) (
cond (d1 == 46) (
some true) (
some (d1 == 45)))) (
some false))).bind fun (d2 : Bool) =>
some d2

def cF (p0 : aa) (d1 : Int) (d3 : (List Int)) : Nat → (Int × (List Int)) → Option (List Int)
| 0, _ => none
| k5 + 1, x5 =>
cond (decide (x5.1 < (p0.L.length : Int))) (
(bs (w64 (d1 + x5.1)) (p0.L.length : Int)).bind fun (d8 : Int) =>
gd ((0 : Int) ≤ d8 ∧ d8 < (d3.length : Int)) <|
cond ((rd d3 d8) != d1) (
some x5.2) (
gd (x5.2.length + [d8].length ≤ 68719476736) <|
cF p0 d1 d3 k5 (w64 (x5.1 + 1), (x5.2 ++ [d8])))) (
some x5.2)

def dD (p0 : aa) (p1 : Int) : Option (List Int) :=
(aT p0 p1).bind fun (d1 : Int) =>
gd ((0 : Int) ≤ d1 ∧ d1 < (p0.L.length : Int)) <|
cond (!((rd p0.L d1).Attr)) (
some ([] : List Int)) (
(ce p0).bind fun (d3 : (List Int)) =>
(
cF p0 d1 d3 bv (1, ([] : List Int))).bind fun (d4 : (List Int)) =>
some d4)

def c4 (p0 : aa) (p2 : Bool) (d1 : Int) : Nat → (Int × (List Int)) → Option (List Int)
| 0, _ => none
| k5 + 1, x5 =>
cond (decide (x5.1 < (p0.L.length : Int))) (
(
cond p2 (
some true) (
some (decide ((w64 (d1 + x5.1)) < (p0.L.length : Int))))).bind fun (d8 : Bool) =>
(
cond d8 (
(aT p0 (w64 (d1 + x5.1))).bind fun (d10 : Int) =>
gd (x5.2.length + [d10].length ≤ 68719476736) <|
some (x5.2 ++ [d10])) (
some x5.2)).bind fun (d9 : (List Int)) =>
c4 p0 p2 d1 k5 (w64 (x5.1 + 1), d9)) (
some x5.2)

def cS (d1 : Int) (d11 : (List Int)) : Nat → (Int × Bool × (List Int)) → Option (List Int)
| 0, _ => none
| k13 + 1, x13 =>
cond (decide (x13.1 < (d11.length : Int))) (
gd ((0 : Int) ≤ x13.1 ∧ x13.1 < (d11.length : Int)) <|
(
cond x13.2.1 (
some true) (
some ((rd d11 x13.1) == d1))).bind fun (d16 : Bool) =>
(
cond d16 (
gd (x13.2.2.length + [(rd d11 x13.1)].length ≤ 68719476736) <|
some (x13.2.2 ++ [(rd d11 x13.1)])) (
some x13.2.2)).bind fun (d17 : (List Int)) =>
cS d1 d11 k13 (w64 (x13.1 + 1), d16, d17)) (
some x13.2.2)

def dQ (p0 : aa) (p1 : Int) (p2 : Bool) : Option (List Int) :=
(aT p0 p1).bind fun (d1 : Int) =>
(bY p0 d1).bind fun (d2 : Int) =>
cond (decide (d2 < 0)) (
(
c4 p0 p2 d1 bv (0, ([] : List Int))).bind fun (d4 : (List Int)) =>
some d4) (
(dD p0 d2).bind fun (d11 : (List Int)) =>
(
cS d1 d11 bv (0, false, ([] : List Int))).bind fun (d12 : (List Int)) =>
some d12)

def cR (p0 : aa) (p1 : List Int) : Nat → (Int × (List Int)) → Option (List Int)
| 0, _ => none
| k2 + 1, x2 =>
cond (decide (x2.1 < (p1.length : Int))) (
gd ((0 : Int) ≤ x2.1 ∧ x2.1 < (p1.length : Int)) <|
gd ((0 : Int) ≤ (rd p1 x2.1) ∧ (rd p1 x2.1) < (p0.L.length : Int)) <|
gd (x2.2.length + [(rd p0.L (rd p1 x2.1)).Char].length ≤ 68719476736) <|
cR p0 p1 k2 (w64 (x2.1 + 1), (x2.2 ++ [(rd p0.L (rd p1 x2.1)).Char]))) (
some x2.2)

def dH (p0 : aa) (p1 : List Int) : Option (List Int) :=
(
cR p0 p1 bv (0, ([] : List Int))).bind fun (d1 : (List Int)) =>
some d1

def c3 (p1 : List Int) (p2 : List Int) : Nat → (Int × Int × Bool × Int × Int × (List ad) × Int) → Option (Int × Bool × Int × Int × (List ad) × Int)
| 0, _ => none
| k2 + 1, x2 =>
cond (decide (x2.1 < (p1.length : Int))) (
gd ((0 : Int) ≤ x2.1 ∧ x2.1 < (p1.length : Int)) <|
gd ((0 : Int) ≤ x2.1 ∧ x2.1 < (p2.length : Int)) <|
(bf (⟨x2.2.1, x2.2.2.1, (⟨x2.2.2.2.1, x2.2.2.2.2.1⟩ : ae), x2.2.2.2.2.2.1, x2.2.2.2.2.2.2⟩ : aa) (rd p1 x2.1) (rd p2 x2.1)).bind fun (d5 : aa) =>
c3 p1 p2 k2 (w64 (x2.1 + 1), d5.Model, d5.Alt, d5.Size.Rows, d5.Size.Cols, d5.L, d5.Cursor)) (
some (x2.2.1, x2.2.2.1, x2.2.2.2.1, x2.2.2.2.2.1, x2.2.2.2.2.2.1, x2.2.2.2.2.2.2))

def eK (p0 : aa) (p1 : List Int) (p2 : List Int) : Option aa :=
(
c3 p1 p2 bv (0, p0.Model, p0.Alt, p0.Size.Rows, p0.Size.Cols, p0.L, p0.Cursor)).bind fun (d1 : Int × Bool × Int × Int × (List ad) × Int) =>
some (⟨d1.1, d1.2.1, (⟨d1.2.2.1, d1.2.2.2.1⟩ : ae), d1.2.2.2.2.1, d1.2.2.2.2.2⟩ : aa)

def bB (p0 : aa) (p1 : Int) : Option (aa × Bool) :=
(bY p0 p1).bind fun (d1 : Int) =>
cond (decide (d1 < 0)) (
some (p0, false)) (
gd ((0 : Int) ≤ d1 ∧ d1 < (p0.L.length : Int)) <|
(bx p0 d1 { (rd p0.L d1) with FA := iH .u8 ((rd p0.L d1).FA) 1 }).bind fun (d3 : aa) =>
some (d3, true))

def cD (p0 : aa) (p1 : Int) (p2 : Int) (d3 : (List Int)) (d4 : (List Int)) : Nat → Int → Option ((Unit) ⊕ (aa × Bool))
| 0, _ => none
| k6 + 1, x6 =>
cond (decide (x6 < (d4.length : Int))) (
gd ((0 : Int) ≤ x6 ∧ x6 < (d4.length : Int)) <|
cond ((rd d4 x6) == 0) (
gd ((0 : Int) ≤ 0 ∧ 0 ≤ (w64 (x6 + 1)) ∧ (w64 (x6 + 1)) ≤ (d3.length : Int)) <|
gd ((0 : Int) ≤ 0 ∧ 0 ≤ x6 ∧ x6 ≤ (d4.length : Int)) <|
gd ([p2].length + (List.take (Int.toNat x6) d4).length ≤ 68719476736) <|
(eK p0 (List.take (Int.toNat (w64 (x6 + 1))) d3) ([p2] ++ (List.take (Int.toNat x6) d4))).bind fun (d11 : aa) =>
(bB d11 p1).bind fun (d12 : aa × Bool) =>
esc (
some (d12.1, true))) (
cD p0 p1 p2 d3 d4 k6 (w64 (x6 + 1)))) (
some (.inl ()))

def ea (p0 : aa) (p1 : Int) (p2 : Int) : Option (aa × Bool) :=
(ck p0 p1).bind fun (d1 : Bool) =>
cond (!d1) (
some (p0, false)) (
(dQ p0 p1 true).bind fun (d3 : (List Int)) =>
(dH p0 d3).bind fun (d4 : (List Int)) =>
jn (
cD p0 p1 p2 d3 d4 bv 0) fun (d5 : Unit) =>
some (p0, false))

def cG (p0 : aa) (d1 : (List Int)) : Nat → (Int × (List Int)) → Option (List Int)
| 0, _ => none
| k3 + 1, x3 =>
cond (decide (x3.1 < (d1.length : Int))) (
gd ((0 : Int) ≤ x3.1 ∧ x3.1 < (d1.length : Int)) <|
(dD p0 (rd d1 x3.1)).bind fun (d6 : (List Int)) =>
(
cond (decide ((d6.length : Int) > 0)) (
(bj p0 (rd d1 x3.1)).bind fun (d8 : aX) =>
some (!d8.Protected)) (
some false)).bind fun (d7 : Bool) =>
(
cond d7 (
gd ((0 : Int) ≤ 0 ∧ 0 < (d6.length : Int)) <|
gd (x3.2.length + [(rd d6 0)].length ≤ 68719476736) <|
some (x3.2 ++ [(rd d6 0)])) (
some x3.2)).bind fun (d9 : (List Int)) =>
cG p0 d1 k3 (w64 (x3.1 + 1), d9)) (
some x3.2)

def ec (p0 : aa) : Option (List Int) :=
(cA p0).bind fun (d1 : (List Int)) =>
(
cG p0 d1 bv (0, ([] : List Int))).bind fun (d2 : (List Int)) =>
some d2

def c5 (p0 : aa) (p1 : Int) (p2 : Bool) (d1 : (List Int)) : Nat → (Int × Int × Int) → Option Int
| 0, _ => none
| k3 + 1, x3 =>
cond (decide (x3.1 < (d1.length : Int))) (
gd ((0 : Int) ≤ x3.1 ∧ x3.1 < (d1.length : Int)) <|
(aT p0 p1).bind fun (d7 : Int) =>
(bs (w64 ((rd d1 x3.1) - d7)) (p0.L.length : Int)).bind fun (d8 : Int) =>
(
cond p2 (
(aT p0 p1).bind fun (d10 : Int) =>
(bs (w64 (d10 - (rd d1 x3.1))) (p0.L.length : Int)).bind fun (d11 : Int) =>
some d11) (
some d8)).bind fun (d9 : Int) =>
(
cond (d9 == 0) (
some (p0.L.length : Int)) (
some d9)).bind fun (d12 : Int) =>
(
cond (decide (x3.2.2 < 0)) (
some true) (
some (decide (d12 < x3.2.1)))).bind fun (d13 : Bool) =>
(
cond d13 (
some (d12, (rd d1 x3.1))) (
some (x3.2.1, x3.2.2))).bind fun (d14 : Int × Int) =>
c5 p0 p1 p2 d1 k3 (w64 (x3.1 + 1), d14.1, d14.2)) (
some x3.2.2)

def cl (p0 : aa) (p1 : Int) (p2 : Bool) : Option Int :=
(ec p0).bind fun (d1 : (List Int)) =>
(
c5 p0 p1 p2 d1 bv (0, 0, (-1))).bind fun (d2 : Int) =>
some d2

def bT (p0 : aa) (p1 : Int) (p2 : Bool) : Option Int :=
(cl p0 p1 p2).bind fun (d1 : Int) =>
some (jZ d1 0)

def dM (p0 : ae) (p1 : Int) (p2 : Int) : Option Int :=
(dI p0).bind fun (d1 : Bool) =>
cond (!d1) (
some 0) (
(bs p1 p0.Rows).bind fun (d4 : Int) =>
(bs p2 p0.Cols).bind fun (d5 : Int) =>
some (w64 ((w64 (p0.Cols * d4)) + d5)))

def dG (p0 : aa) (p1 : Int) : Option Int :=
(ck p0 p1).bind fun (d1 : Bool) =>
cond d1 (
(aT p0 p1).bind fun (d3 : Int) =>
some d3) (
(bT p0 p1 false).bind fun (d4 : Int) =>
some d4)

def dS (p0 : ae) (p1 : Int) (p2 : Int) (p3 : Int) : Option Int :=
(dI p0).bind fun (d1 : Bool) =>
cond (!d1) (
some 0) (
(dz p0 p1).bind fun (d4 : Int) =>
(dz p0 p3).bind fun (d5 : Int) =>
(db p0).bind fun (d6 : Int) =>
(bs (w64 (d4 + d5)) d6).bind fun (d7 : Int) =>
gd (p0.Cols ≠ 0) <|
gd (p0.Cols ≠ 0) <|
(bs p2 p0.Rows).bind fun (d9 : Int) =>
(dM p0 (w64 ((w64 (Int.tdiv d7 p0.Cols)) + d9)) (Int.tmod d7 p0.Cols)).bind fun (d10 : Int) =>
some d10)

def aY (p0 : aa) (p1 : bq) : Option aa :=
(
cond ((Int.tmod p1.Do 6) == 0) (
(bT p0 p0.Cursor false).bind fun (d2 : Int) =>
some d2) (
cond ((Int.tmod p1.Do 6) == 1) (
(bT p0 p0.Cursor true).bind fun (d3 : Int) =>
some d3) (
cond ((Int.tmod p1.Do 6) == 2) (
gd (p0.Size.Cols ≠ 0) <|
(dM p0.Size (w64 ((w64 (Int.tdiv p0.Cursor p0.Size.Cols)) + 1)) 0).bind fun (d4 : Int) =>
(dG p0 d4).bind fun (d5 : Int) =>
some d5) (
cond ((Int.tmod p1.Do 6) == 3) (
(dG p0 0).bind fun (d6 : Int) =>
some d6) (
cond ((Int.tmod p1.Do 6) == 4) (
(dS p0.Size p0.Cursor p1.Rows p1.Cols).bind fun (d7 : Int) =>
some d7) (
(aT (⟨p0.Model, p0.Alt, p0.Size, p0.L, p0.Cursor⟩ : aa) (w64 (p0.Cursor + 1))).bind fun (d8 : Int) =>
gd ((0 : Int) ≤ d8 ∧ d8 < (p0.L.length : Int)) <|
cond ((rd p0.L d8).Attr) (
(bj (⟨p0.Model, p0.Alt, p0.Size, p0.L, d8⟩ : aa) d8).bind fun (d9 : aX) =>
(
cond d9.Protected (
some d9.Numeric) (
some false)).bind fun (d10 : Bool) =>
cond d10 (
(bT (⟨p0.Model, p0.Alt, p0.Size, p0.L, d8⟩ : aa) d8 false).bind fun (d11 : Int) =>
some d11) (
(aT (⟨p0.Model, p0.Alt, p0.Size, p0.L, d8⟩ : aa) (w64 (d8 + 1))).bind fun (d12 : Int) =>
some d12)) (
some d8))))))).bind fun (d1 : Int) =>
some (⟨p0.Model, p0.Alt, p0.Size, p0.L, d1⟩ : aa)

def cz (p0 : ap) (p1 : aa) (p2 : Int) : Option (aa × ap × Bool × Int) :=
(ck p1 p1.Cursor).bind fun (d1 : Bool) =>
cond (!d1) (
(bt p0 p1 2 13).bind fun (d3 : ap × Bool × Int) =>
some ((⟨p1.Model, p1.Alt, p1.Size, p1.L, p1.Cursor⟩ : aa), (⟨d3.1.Page, d3.1.Lock, d3.1.Ins, d3.1.AID⟩ : ap), d3.2.1, d3.2.2)) (
(bY p1 p1.Cursor).bind fun (d4 : Int) =>
(
cond (decide (d4 ≥ 0)) (
(bj p1 d4).bind fun (d6 : aX) =>
cond d6.Numeric (
(dl p0.Page p2).bind fun (d7 : Bool) =>
some (!d7)) (
some false)) (
some false)).bind fun (d5 : Bool) =>
cond d5 (
(bt p0 p1 3 14).bind fun (d9 : ap × Bool × Int) =>
some ((⟨p1.Model, p1.Alt, p1.Size, p1.L, p1.Cursor⟩ : aa), (⟨d9.1.Page, d9.1.Lock, d9.1.Ins, d9.1.AID⟩ : ap), d9.2.1, d9.2.2)) (
(
cond p0.Ins (
cond (p2 != 28) (
(ea p1 p1.Cursor p2).bind fun (d11 : aa × Bool) =>
some ((!d11.2), d11.1.Model, d11.1.Alt, d11.1.Size.Rows, d11.1.Size.Cols, d11.1.L, d11.1.Cursor)) (
some (false, p1.Model, p1.Alt, p1.Size.Rows, p1.Size.Cols, p1.L, p1.Cursor))) (
some (false, p1.Model, p1.Alt, p1.Size.Rows, p1.Size.Cols, p1.L, p1.Cursor))).bind fun (d10 : Bool × Int × Bool × Int × Int × (List ad) × Int) =>
cond d10.1 (
(bt (⟨p0.Page, p0.Lock, p0.Ins, p0.AID⟩ : ap) (⟨d10.2.1, d10.2.2.1, (⟨d10.2.2.2.1, d10.2.2.2.2.1⟩ : ae), d10.2.2.2.2.2.1, d10.2.2.2.2.2.2⟩ : aa) 4 7).bind fun (d13 : ap × Bool × Int) =>
some ((⟨d10.2.1, d10.2.2.1, (⟨d10.2.2.2.1, d10.2.2.2.2.1⟩ : ae), d10.2.2.2.2.2.1, d10.2.2.2.2.2.2⟩ : aa), (⟨d13.1.Page, d13.1.Lock, d13.1.Ins, d13.1.AID⟩ : ap), d13.2.1, d13.2.2)) (
gd ((0 : Int) ≤ p1.Cursor ∧ p1.Cursor < (d10.2.2.2.2.2.1.length : Int)) <|
(bx (⟨d10.2.1, d10.2.2.1, (⟨d10.2.2.2.1, d10.2.2.2.2.1⟩ : ae), d10.2.2.2.2.2.1, d10.2.2.2.2.2.2⟩ : aa) p1.Cursor { (rd d10.2.2.2.2.2.1 p1.Cursor) with Char := p2, f_Set := 0 }).bind fun (d14 : aa) =>
(bB d14 p1.Cursor).bind fun (d15 : aa × Bool) =>
(
cond (p2 == 28) (
(aY d15.1 (⟨0, 0, 0⟩ : bq)).bind fun (d17 : aa) =>
some (d17.Model, d17.Alt, d17.Size.Rows, d17.Size.Cols, d17.L, d17.Cursor)) (
(aY d15.1 (⟨5, 0, 0⟩ : bq)).bind fun (d18 : aa) =>
some (d18.Model, d18.Alt, d18.Size.Rows, d18.Size.Cols, d18.L, d18.Cursor))).bind fun (d16 : Int × Bool × Int × Int × (List ad) × Int) =>
some ((⟨d16.1, d16.2.1, (⟨d16.2.2.1, d16.2.2.2.1⟩ : ae), d16.2.2.2.2.1, d16.2.2.2.2.2⟩ : aa), (⟨p0.Page, p0.Lock, p0.Ins, p0.AID⟩ : ap), false, 0))))

def cf (p0 : aa) : Nat → (Int × (List Int)) → Option (List Int)
| 0, _ => none
| k3 + 1, x3 =>
(
cond (decide (x3.1 < (p0.L.length : Int))) (
gd ((0 : Int) ≤ x3.1 ∧ x3.1 < (p0.L.length : Int)) <|
some (!((rd p0.L x3.1).Attr))) (
some false)).bind fun (d4 : Bool) =>
cond d4 (
gd (x3.2.length + [x3.1].length ≤ 68719476736) <|
gd (p0.Size.Cols ≠ 0) <|
cond ((Int.tmod x3.1 p0.Size.Cols) == (w64 (p0.Size.Cols - 1))) (
some (x3.2 ++ [x3.1])) (
cf p0 k3 (w64 (x3.1 + 1), (x3.2 ++ [x3.1])))) (
some x3.2)

def eY (p0 : aa) (p1 : Int) : Option (List Int) :=
(aT p0 p1).bind fun (d1 : Int) =>
(
cf p0 bv (d1, ([] : List Int))).bind fun (d2 : (List Int)) =>
some d2

def cC (p1 : List Int) (p2 : List Int) : Nat → (Int × Int × Bool × Int × Int × (List ad) × Int) → Option (Int × Bool × Int × Int × (List ad) × Int)
| 0, _ => none
| k2 + 1, x2 =>
cond (decide (x2.1 < (p1.length : Int))) (
gd ((0 : Int) ≤ x2.1 ∧ x2.1 < (p1.length : Int)) <|
gd ((0 : Int) ≤ x2.1 ∧ x2.1 < (p2.length : Int)) <|
(bf (⟨x2.2.1, x2.2.2.1, (⟨x2.2.2.2.1, x2.2.2.2.2.1⟩ : ae), x2.2.2.2.2.2.1, x2.2.2.2.2.2.2⟩ : aa) (rd p1 x2.1) (rd p2 x2.1)).bind fun (d5 : aa) =>
cC p1 p2 k2 (w64 (x2.1 + 1), d5.Model, d5.Alt, d5.Size.Rows, d5.Size.Cols, d5.L, d5.Cursor)) (
some (x2.2.1, x2.2.2.1, x2.2.2.2.1, x2.2.2.2.2.1, x2.2.2.2.2.2.1, x2.2.2.2.2.2.2))

def dZ (p0 : aa) (p1 : List Int) (p2 : List Int) : Option aa :=
(
cC p1 p2 bv (0, p0.Model, p0.Alt, p0.Size.Rows, p0.Size.Cols, p0.L, p0.Cursor)).bind fun (d1 : Int × Bool × Int × Int × (List ad) × Int) =>
some (⟨d1.1, d1.2.1, (⟨d1.2.2.1, d1.2.2.2.1⟩ : ae), d1.2.2.2.2.1, d1.2.2.2.2.2⟩ : aa)

def eb (p0 : aa) (p1 : Int) : Option (aa × Bool) :=
(ck p0 p1).bind fun (d1 : Bool) =>
cond (!d1) (
some (p0, false)) (
(eY p0 p1).bind fun (d3 : (List Int)) =>
(dH p0 d3).bind fun (d4 : (List Int)) =>
gd ((0 : Int) ≤ 1 ∧ (1 : Int) ≤ (d4.length : Int) ∧ (d4.length : Int) ≤ (d4.length : Int)) <|
gd ((List.drop 1 d4).length + [0].length ≤ 68719476736) <|
(dZ p0 d3 ((List.drop 1 d4) ++ [0])).bind fun (d5 : aa) =>
(bB d5 p1).bind fun (d6 : aa × Bool) =>
some (d6.1, true))

def dt (d3 : (List Int)) : Nat → (Int × Int × Bool × Int × Int × (List ad) × Int) → Option (Int × Bool × Int × Int × (List ad) × Int)
| 0, _ => none
| k5 + 1, x5 =>
cond (decide (x5.1 < (d3.length : Int))) (
gd ((0 : Int) ≤ x5.1 ∧ x5.1 < (d3.length : Int)) <|
(bf (⟨x5.2.1, x5.2.2.1, (⟨x5.2.2.2.1, x5.2.2.2.2.1⟩ : ae), x5.2.2.2.2.2.1, x5.2.2.2.2.2.2⟩ : aa) (rd d3 x5.1) 0).bind fun (d8 : aa) =>
dt d3 k5 (w64 (x5.1 + 1), d8.Model, d8.Alt, d8.Size.Rows, d8.Size.Cols, d8.L, d8.Cursor)) (
some (x5.2.1, x5.2.2.1, x5.2.2.2.1, x5.2.2.2.2.1, x5.2.2.2.2.2.1, x5.2.2.2.2.2.2))

def eZ (p0 : aa) (p1 : Int) : Option (aa × Bool) :=
(ck p0 p1).bind fun (d1 : Bool) =>
cond (!d1) (
some (p0, false)) (
(dQ p0 p1 false).bind fun (d3 : (List Int)) =>
(
dt d3 bv (0, p0.Model, p0.Alt, p0.Size.Rows, p0.Size.Cols, p0.L, p0.Cursor)).bind fun (d4 : Int × Bool × Int × Int × (List ad) × Int) =>
(bB (⟨d4.1, d4.2.1, (⟨d4.2.2.1, d4.2.2.2.1⟩ : ae), d4.2.2.2.2.1, d4.2.2.2.2.2⟩ : aa) p1).bind fun (d9 : aa × Bool) =>
some (d9.1, true))

def bQ (p0 : aa) (d1 : (List Int)) : Nat → (Int × Int × Bool × Int × Int × (List ad) × Int) → Option (Int × Bool × Int × Int × (List ad) × Int)
| 0, _ => none
| k3 + 1, x3 =>
cond (decide (x3.1 < (p0.L.length : Int))) (
(
gd ((0 : Int) ≤ x3.1 ∧ x3.1 < (d1.length : Int)) <|
cond (decide ((rd d1 x3.1) < 0)) (
some true) (
gd ((0 : Int) ≤ x3.1 ∧ x3.1 < (d1.length : Int)) <|
(bj (⟨x3.2.1, x3.2.2.1, (⟨x3.2.2.2.1, x3.2.2.2.2.1⟩ : ae), x3.2.2.2.2.2.1, x3.2.2.2.2.2.2⟩ : aa) (rd d1 x3.1)).bind fun (d7 : aX) =>
some (!d7.Protected))).bind fun (d6 : Bool) =>
(
cond d6 (
(bf (⟨x3.2.1, x3.2.2.1, (⟨x3.2.2.2.1, x3.2.2.2.2.1⟩ : ae), x3.2.2.2.2.2.1, x3.2.2.2.2.2.2⟩ : aa) x3.1 0).bind fun (d9 : aa) =>
some (d9.Model, d9.Alt, d9.Size.Rows, d9.Size.Cols, d9.L, d9.Cursor)) (
some (x3.2.1, x3.2.2.1, x3.2.2.2.1, x3.2.2.2.2.1, x3.2.2.2.2.2.1, x3.2.2.2.2.2.2))).bind fun (d8 : Int × Bool × Int × Int × (List ad) × Int) =>
bQ p0 d1 k3 (w64 (x3.1 + 1), d8.1, d8.2.1, d8.2.2.1, d8.2.2.2.1, d8.2.2.2.2.1, d8.2.2.2.2.2)) (
some (x3.2.1, x3.2.2.1, x3.2.2.2.1, x3.2.2.2.2.1, x3.2.2.2.2.2.1, x3.2.2.2.2.2.2))

def bE (d10 : (List Int)) : Nat → (Int × Int × Bool × Int × Int × (List ad) × Int) → Option (Int × Bool × Int × Int × (List ad) × Int)
| 0, _ => none
| k12 + 1, x12 =>
cond (decide (x12.1 < (d10.length : Int))) (
gd ((0 : Int) ≤ x12.1 ∧ x12.1 < (d10.length : Int)) <|
(bj (⟨x12.2.1, x12.2.2.1, (⟨x12.2.2.2.1, x12.2.2.2.2.1⟩ : ae), x12.2.2.2.2.2.1, x12.2.2.2.2.2.2⟩ : aa) (rd d10 x12.1)).bind fun (d15 : aX) =>
(
cond (!d15.Protected) (
gd ((0 : Int) ≤ (rd d10 x12.1) ∧ (rd d10 x12.1) < (x12.2.2.2.2.2.1.length : Int)) <|
(bx (⟨x12.2.1, x12.2.2.1, (⟨x12.2.2.2.1, x12.2.2.2.2.1⟩ : ae), x12.2.2.2.2.2.1, x12.2.2.2.2.2.2⟩ : aa) (rd d10 x12.1) { (rd x12.2.2.2.2.2.1 (rd d10 x12.1)) with FA := bJ .u8 ((rd x12.2.2.2.2.2.1 (rd d10 x12.1)).FA) 254 }).bind fun (d17 : aa) =>
some (d17.Model, d17.Alt, d17.Size.Rows, d17.Size.Cols, d17.L, d17.Cursor)) (
some (x12.2.1, x12.2.2.1, x12.2.2.2.1, x12.2.2.2.2.1, x12.2.2.2.2.2.1, x12.2.2.2.2.2.2))).bind fun (d16 : Int × Bool × Int × Int × (List ad) × Int) =>
bE d10 k12 (w64 (x12.1 + 1), d16.1, d16.2.1, d16.2.2.1, d16.2.2.2.1, d16.2.2.2.2.1, d16.2.2.2.2.2)) (
some (x12.2.1, x12.2.2.1, x12.2.2.2.1, x12.2.2.2.2.1, x12.2.2.2.2.2.1, x12.2.2.2.2.2.2))

def da (p0 : aa) : Option aa :=
(ce p0).bind fun (d1 : (List Int)) =>
(
bQ p0 d1 bv (0, p0.Model, p0.Alt, p0.Size.Rows, p0.Size.Cols, p0.L, p0.Cursor)).bind fun (d2 : Int × Bool × Int × Int × (List ad) × Int) =>
(cA (⟨d2.1, d2.2.1, (⟨d2.2.2.1, d2.2.2.2.1⟩ : ae), d2.2.2.2.2.1, d2.2.2.2.2.2⟩ : aa)).bind fun (d10 : (List Int)) =>
(
bE d10 bv (0, d2.1, d2.2.1, d2.2.2.1, d2.2.2.2.1, d2.2.2.2.2.1, d2.2.2.2.2.2)).bind fun (d11 : Int × Bool × Int × Int × (List ad) × Int) =>
(cl (⟨d11.1, d11.2.1, (⟨d11.2.2.1, d11.2.2.2.1⟩ : ae), d11.2.2.2.2.1, d11.2.2.2.2.2⟩ : aa) (-1) false).bind fun (d18 : Int) =>
some (⟨d11.1, d11.2.1, (⟨d11.2.2.1, d11.2.2.2.1⟩ : ae), d11.2.2.2.2.1, jZ d18 0⟩ : aa)

def dp (p0 : Int) (p1 : Int) : Option Int :=
(bm p0 p1).bind fun (d1 : Int) =>
cond (d1 == 63) (
some 1) (
cond (d1 == 62) (
some 2) (
(
cond (p1 == 0) (
some true) (
some (d1 == 32))).bind fun (d4 : Bool) =>
cond d4 (
some 3) (
cond (d1 == 38) (
some 4) (
some 0))))

def ci (p0 : ap) (p1 : aa) (p2 : Int) : Option (ap × Bool × Int) :=
some ((⟨p0.Page, 1, false, p2⟩ : ap), true, 0)

def dY (p0 : ap) (p1 : aa) : Option (aa × ap × Bool × Int) :=
(bY p1 p1.Cursor).bind fun (d1 : Int) =>
(
cond (decide (d1 < 0)) (
some true) (
gd ((0 : Int) ≤ p1.Cursor ∧ p1.Cursor < (p1.L.length : Int)) <|
some ((rd p1.L p1.Cursor).Attr))).bind fun (d2 : Bool) =>
cond d2 (
(bt p0 p1 2 13).bind fun (d4 : ap × Bool × Int) =>
some (p1, (⟨d4.1.Page, d4.1.Lock, d4.1.Ins, d4.1.AID⟩ : ap), d4.2.1, d4.2.2)) (
(bj p1 d1).bind fun (d5 : aX) =>
(aT p1 (w64 (d1 + 1))).bind fun (d7 : Int) =>
gd ((0 : Int) ≤ d7 ∧ d7 < (p1.L.length : Int)) <|
(dp p0.Page ((rd p1.L d7).Char)).bind fun (d8 : Int) =>
(
cond (d5.Display != 1) (
cond (d5.Display != 2) (
some true) (
cond (d8 == 0) (
some true) (
cond (decide (d8 < 3)) (
some d5.Protected) (
some false)))) (
cond (d8 == 0) (
some true) (
cond (decide (d8 < 3)) (
some d5.Protected) (
some false)))).bind fun (d9 : Bool) =>
cond d9 (
(bt p0 p1 2 13).bind fun (d11 : ap × Bool × Int) =>
some (p1, (⟨d11.1.Page, d11.1.Lock, d11.1.Ins, d11.1.AID⟩ : ap), d11.2.1, d11.2.2)) (
cond (d8 == 2) (
(cm p0.Page 63).bind fun (d13 : Int) =>
(bf p1 (w64 (d1 + 1)) (IntKind.wrap .u8 (d13))).bind fun (d14 : aa) =>
some (d14, p0, false, 0)) (
(bB p1 p1.Cursor).bind fun (d15 : aa × Bool) =>
cond (d8 == 1) (
(cm p0.Page 62).bind fun (d18 : Int) =>
(bf d15.1 (w64 (d1 + 1)) (IntKind.wrap .u8 (d18))).bind fun (d19 : aa) =>
some (d19, p0, false, 0)) (
cond (d8 == 3) (
(ci p0 d15.1 126).bind fun (d20 : ap × Bool × Int) =>
some (d15.1, d20.1, d20.2.1, d20.2.2)) (
(ci p0 d15.1 125).bind fun (d21 : ap × Bool × Int) =>
some (d15.1, d21.1, d21.2.1, d21.2.2))))))

def gu (p0 : Int) : Option Int :=
gd ((0 : Int) ≤ (w64 (2 * p0)) ∧ (w64 (2 * p0)) ≤ (w64 ((w64 (2 * p0)) + 2)) ∧ (w64 ((w64 (2 * p0)) + 2)) ≤ ((ByteArray.mk (List.toArray [102, 49, 102, 50, 102, 51, 102, 52, 102, 53, 102, 54, 102, 55, 102, 56, 102, 57, 55, 97, 55, 98, 55, 99, 99, 49, 99, 50, 99, 51, 99, 52, 99, 53, 99, 54, 99, 55, 99, 56, 99, 57, 52, 97, 52, 98, 52, 99, 54, 99, 54, 101, 54, 98])).size : Int)) <|
(b9 (ByteArray.extract (ByteArray.mk (List.toArray [102, 49, 102, 50, 102, 51, 102, 52, 102, 53, 102, 54, 102, 55, 102, 56, 102, 57, 55, 97, 55, 98, 55, 99, 99, 49, 99, 50, 99, 51, 99, 52, 99, 53, 99, 54, 99, 55, 99, 56, 99, 57, 52, 97, 52, 98, 52, 99, 54, 99, 54, 101, 54, 98])) (Int.toNat (w64 (2 * p0))) (Int.toNat (w64 ((w64 (2 * p0)) + 2))))).bind fun (d1 : Int) =>
some (IntKind.wrap .u8 (d1))

def cI (p0 : cp) : Option Int :=
jn (
cond (p0.Kind == 19) (
esc (
some 125)) (
cond (p0.Kind == 22) (
esc (
some 109)) (
cond (p0.Kind == 20) (
(
cond (decide (p0.N ≥ 1)) (
some (decide (p0.N ≤ 24))) (
some false)).bind fun (d3 : Bool) =>
cond d3 (
(gu (w64 (p0.N - 1))).bind fun (d4 : Int) =>
esc (
some d4)) (
some (.inl ()))) (
cond (p0.Kind == 21) (
(
cond (decide (p0.N ≥ 1)) (
some (decide (p0.N ≤ 3))) (
some false)).bind fun (d5 : Bool) =>
cond d5 (
(gu (w64 (23 + p0.N))).bind fun (d6 : Int) =>
esc (
some d6)) (
some (.inl ()))) (
some (.inl ())))))) fun (d2 : Unit) =>
some 0

def dF (p0 : ap) (p1 : aa) (p2 : cp) : Option (aa × ap × Bool × Int) :=
(
cond (decide (p2.Kind < 1)) (
some true) (
some (decide (p2.Kind > 22)))).bind fun (d1 : Bool) =>
cond d1 (
some (p1, (⟨p0.Page, p0.Lock, p0.Ins, p0.AID⟩ : ap), false, 1)) (
cond (p2.Kind == 17) (
(
cond (p0.Lock != 1) (
some 0) (
some p0.Lock)).bind fun (d4 : Int) =>
some (p1, (⟨p0.Page, d4, false, p0.AID⟩ : ap), false, 0)) (
cond (p0.Lock != 0) (
some (p1, (⟨p0.Page, p0.Lock, p0.Ins, p0.AID⟩ : ap), false, 8)) (
jn (
cond (p2.Kind == 1) (
(cm p0.Page p2.Sign).bind fun (d9 : Int) =>
(
cond (decide (d9 < 64)) (
some true) (
some (decide (d9 > 254)))).bind fun (d10 : Bool) =>
cond d10 (
esc (
some (p1, (⟨p0.Page, p0.Lock, p0.Ins, p0.AID⟩ : ap), false, 12))) (
(cz (⟨p0.Page, p0.Lock, p0.Ins, p0.AID⟩ : ap) (⟨p1.Model, p1.Alt, p1.Size, p1.L, p1.Cursor⟩ : aa) (IntKind.wrap .u8 (d9))).bind fun (d12 : aa × ap × Bool × Int) =>
esc (
some (d12.1, d12.2.1, d12.2.2.1, d12.2.2.2)))) (
cond (p2.Kind == 2) (
(
cond (decide (p2.N < 64)) (
some true) (
some (decide (p2.N > 254)))).bind fun (d13 : Bool) =>
cond d13 (
esc (
some (p1, (⟨p0.Page, p0.Lock, p0.Ins, p0.AID⟩ : ap), false, 1))) (
(cz (⟨p0.Page, p0.Lock, p0.Ins, p0.AID⟩ : ap) (⟨p1.Model, p1.Alt, p1.Size, p1.L, p1.Cursor⟩ : aa) (IntKind.wrap .u8 (p2.N))).bind fun (d15 : aa × ap × Bool × Int) =>
esc (
some (d15.1, d15.2.1, d15.2.2.1, d15.2.2.2)))) (
cond (p2.Kind == 3) (
(cz (⟨p0.Page, p0.Lock, p0.Ins, p0.AID⟩ : ap) (⟨p1.Model, p1.Alt, p1.Size, p1.L, p1.Cursor⟩ : aa) 28).bind fun (d16 : aa × ap × Bool × Int) =>
esc (
some (d16.1, d16.2.1, d16.2.2.1, d16.2.2.2))) (
cond (p2.Kind == 4) (
(cz (⟨p0.Page, p0.Lock, p0.Ins, p0.AID⟩ : ap) (⟨p1.Model, p1.Alt, p1.Size, p1.L, p1.Cursor⟩ : aa) 30).bind fun (d17 : aa × ap × Bool × Int) =>
esc (
some (d17.1, d17.2.1, d17.2.2.1, d17.2.2.2))) (
(
cond (p2.Kind == 5) (
some (p2.Kind == 5)) (
cond (p2.Kind == 6) (
some (p2.Kind == 6)) (
cond (p2.Kind == 7) (
some (p2.Kind == 7)) (
some (p2.Kind == 8))))).bind fun (d18 : Bool) =>
cond d18 (
(aY (⟨p1.Model, p1.Alt, p1.Size, p1.L, p1.Cursor⟩ : aa) (⟨IntKind.wrap .u8 (w64 (p2.Kind - 5)), 0, 0⟩ : bq)).bind fun (d19 : aa) =>
some (.inl (true, p0.Ins, d19.Model, d19.Alt, d19.Size.Rows, d19.Size.Cols, d19.L, d19.Cursor))) (
cond (p2.Kind == 9) (
(aY (⟨p1.Model, p1.Alt, p1.Size, p1.L, p1.Cursor⟩ : aa) (⟨4, (-1), 0⟩ : bq)).bind fun (d20 : aa) =>
some (.inl (true, p0.Ins, d20.Model, d20.Alt, d20.Size.Rows, d20.Size.Cols, d20.L, d20.Cursor))) (
cond (p2.Kind == 10) (
(aY (⟨p1.Model, p1.Alt, p1.Size, p1.L, p1.Cursor⟩ : aa) (⟨4, 1, 0⟩ : bq)).bind fun (d21 : aa) =>
some (.inl (true, p0.Ins, d21.Model, d21.Alt, d21.Size.Rows, d21.Size.Cols, d21.L, d21.Cursor))) (
cond (p2.Kind == 11) (
(aY (⟨p1.Model, p1.Alt, p1.Size, p1.L, p1.Cursor⟩ : aa) (⟨4, 0, (-1)⟩ : bq)).bind fun (d22 : aa) =>
some (.inl (true, p0.Ins, d22.Model, d22.Alt, d22.Size.Rows, d22.Size.Cols, d22.L, d22.Cursor))) (
cond (p2.Kind == 12) (
(aY (⟨p1.Model, p1.Alt, p1.Size, p1.L, p1.Cursor⟩ : aa) (⟨4, 0, 1⟩ : bq)).bind fun (d23 : aa) =>
some (.inl (true, p0.Ins, d23.Model, d23.Alt, d23.Size.Rows, d23.Size.Cols, d23.L, d23.Cursor))) (
cond (p2.Kind == 13) (
(eb (⟨p1.Model, p1.Alt, p1.Size, p1.L, p1.Cursor⟩ : aa) p1.Cursor).bind fun (d24 : aa × Bool) =>
some (.inl (d24.2, p0.Ins, d24.1.Model, d24.1.Alt, d24.1.Size.Rows, d24.1.Size.Cols, d24.1.L, d24.1.Cursor))) (
cond (p2.Kind == 14) (
(eZ (⟨p1.Model, p1.Alt, p1.Size, p1.L, p1.Cursor⟩ : aa) p1.Cursor).bind fun (d25 : aa × Bool) =>
some (.inl (d25.2, p0.Ins, d25.1.Model, d25.1.Alt, d25.1.Size.Rows, d25.1.Size.Cols, d25.1.L, d25.1.Cursor))) (
cond (p2.Kind == 15) (
(da (⟨p1.Model, p1.Alt, p1.Size, p1.L, p1.Cursor⟩ : aa)).bind fun (d26 : aa) =>
some (.inl (true, p0.Ins, d26.Model, d26.Alt, d26.Size.Rows, d26.Size.Cols, d26.L, d26.Cursor))) (
cond (p2.Kind == 16) (
some (.inl (true, (!p0.Ins), p1.Model, p1.Alt, p1.Size.Rows, p1.Size.Cols, p1.L, p1.Cursor))) (
cond (p2.Kind == 18) (
(dY p0 p1).bind fun (d27 : aa × ap × Bool × Int) =>
esc (
some (d27.1, d27.2.1, d27.2.2.1, d27.2.2.2))) (
(cI p2).bind fun (d28 : Int) =>
cond (d28 == 0) (
esc (
some (p1, (⟨p0.Page, p0.Lock, p0.Ins, p0.AID⟩ : ap), false, 1))) (
(
cond (p2.Kind == 22) (
(dk p1 false).bind fun (d31 : aa) =>
some (d31.Model, d31.Alt, d31.Size.Rows, d31.Size.Cols, d31.L, d31.Cursor)) (
some (p1.Model, p1.Alt, p1.Size.Rows, p1.Size.Cols, p1.L, p1.Cursor))).bind fun (d30 : Int × Bool × Int × Int × (List ad) × Int) =>
(ci (⟨p0.Page, p0.Lock, p0.Ins, p0.AID⟩ : ap) (⟨d30.1, d30.2.1, (⟨d30.2.2.1, d30.2.2.2.1⟩ : ae), d30.2.2.2.2.1, d30.2.2.2.2.2⟩ : aa) d28).bind fun (d32 : ap × Bool × Int) =>
esc (
some ((⟨d30.1, d30.2.1, (⟨d30.2.2.1, d30.2.2.2.1⟩ : ae), d30.2.2.2.2.1, d30.2.2.2.2.2⟩ : aa), (⟨d32.1.Page, d32.1.Lock, d32.1.Ins, d32.1.AID⟩ : ap), d32.2.1, d32.2.2)))))))))))))))))) fun (d7 : Bool × Bool × Int × Bool × Int × Int × (List ad) × Int) =>
cond (!d7.1) (
(bt (⟨p0.Page, p0.Lock, d7.2.1, p0.AID⟩ : ap) (⟨d7.2.2.1, d7.2.2.2.1, (⟨d7.2.2.2.2.1, d7.2.2.2.2.2.1⟩ : ae), d7.2.2.2.2.2.2.1, d7.2.2.2.2.2.2.2⟩ : aa) 2 13).bind fun (d34 : ap × Bool × Int) =>
some ((⟨d7.2.2.1, d7.2.2.2.1, (⟨d7.2.2.2.2.1, d7.2.2.2.2.2.1⟩ : ae), d7.2.2.2.2.2.2.1, d7.2.2.2.2.2.2.2⟩ : aa), (⟨d34.1.Page, d34.1.Lock, d34.1.Ins, d34.1.AID⟩ : ap), d34.2.1, d34.2.2)) (
some ((⟨d7.2.2.1, d7.2.2.2.1, (⟨d7.2.2.2.2.1, d7.2.2.2.2.2.1⟩ : ae), d7.2.2.2.2.2.2.1, d7.2.2.2.2.2.2.2⟩ : aa), (⟨p0.Page, p0.Lock, d7.2.1, p0.AID⟩ : ap), false, 0)))))

def eE (p0 : ab) : Option Bool :=
some p0.alternate

def fy (p0 : ai) (p1 : ab) (p2 : aB) : Option Bool :=
some p0.inserts

def c9 (p1 : ab) (p4 : aa) : Nat → Int → Option ((Unit) ⊕ Bool)
| 0, _ => none
| k2 + 1, x2 =>
cond (decide (x2 < (p4.L.length : Int))) (
gd ((0 : Int) ≤ x2 ∧ x2 < (p4.L.length : Int)) <|
(aK p1 x2).bind fun (d6 : ad) =>
cond (!((d6.Char == ((rd p4.L x2).Char)) && ((d6.Attr == ((rd p4.L x2).Attr)) && ((d6.FA == ((rd p4.L x2).FA)) && ((d6.High == ((rd p4.L x2).High)) && ((d6.Color == ((rd p4.L x2).Color)) && ((d6.f_Set == ((rd p4.L x2).f_Set)) && true))))))) (
esc (
some false)) (
c9 p1 p4 k2 (w64 (x2 + 1)))) (
some (.inl ()))

def dT (p0 : ai) (p1 : ab) (p2 : aB) (p3 : ap) (p4 : aa) : Option Bool :=
jn (
c9 p1 p4 bv 0) fun (d1 : Unit) =>
(
(ba p1).bind fun (d9 : Int) =>
cond (d9 == p4.Cursor) (
(eE p1).bind fun (d10 : Bool) =>
cond (d10 == p4.Alt) (
(fx (⟨p0.lock, p0.inserts, p0.aid⟩ : ai) p1 p2).bind fun (d11 : Int) =>
cond (d11 == p3.Lock) (
(fy p0 p1 p2).bind fun (d12 : Bool) =>
cond (d12 == p3.Ins) (
(fO p0 p1 p2).bind fun (d13 : Int) =>
some (d13 == p3.AID)) (
some false)) (
some false)) (
some false)) (
some false)).bind fun (d8 : Bool) =>
some d8

def dq (p0 : Int) (p1 : Int) (p2 : Int) (p3 : Bool) : Option Bool :=
(ex).bind fun (d1 : Bool) =>
cond (!d1) (
some false) (
(dR (⟨p3, false, w64 (Int.tmod p1 4), false⟩ : aX)).bind fun (d3 : Int × Int) =>
(de 0 p0 [(⟨3, 0, false, d3.1, (⟨0, false, 0, 0, 0, 0⟩ : ad), ([] : List Int)⟩ : aI), (⟨3, 9, false, 0, (⟨0, false, 0, 0, 0, 0⟩ : ad), ([] : List Int)⟩ : aI), (⟨1, 4, false, 0, (⟨0, false, 0, 0, 0, 0⟩ : ad), ([] : List Int)⟩ : aI)]).bind fun (d5 : ai × ab × aB × ap × aa) =>
(cm d5.2.2.2.1.Page p2).bind fun (d6 : Int) =>
(
cond (decide (d6 ≥ 0)) (
(bi (⟨d5.2.1.model, d5.2.1.alternate, d5.2.1.size, d5.2.1.cells, d5.2.1.cursor, d5.2.1.attrs⟩ : ab) 1 (IntKind.wrap .u8 (d6))).bind fun (d8 : ab) =>
(bf d5.2.2.2.2 1 (IntKind.wrap .u8 (d6))).bind fun (d9 : aa) =>
some (d8.model, d8.alternate, d8.size.Rows, d8.size.Cols, d8.cells, d8.cursor, d8.attrs, d9.Model, d9.Alt, d9.Size.Rows, d9.Size.Cols, d9.L, d9.Cursor)) (
some (d5.2.1.model, d5.2.1.alternate, d5.2.1.size.Rows, d5.2.1.size.Cols, d5.2.1.cells, d5.2.1.cursor, d5.2.1.attrs, d5.2.2.2.2.Model, d5.2.2.2.2.Alt, d5.2.2.2.2.Size.Rows, d5.2.2.2.2.Size.Cols, d5.2.2.2.2.L, d5.2.2.2.2.Cursor))).bind fun (d7 : Int × Bool × Int × Int × (List ad) × Int × Int × Int × Bool × Int × Int × (List ad) × Int) =>
(bU (⟨d5.1.lock, d5.1.inserts, d5.1.aid⟩ : ai) (⟨d7.1, d7.2.1, (⟨d7.2.2.1, d7.2.2.2.1⟩ : ak), d7.2.2.2.2.1, d7.2.2.2.2.2.1, d7.2.2.2.2.2.2.1⟩ : ab) (⟨d5.2.2.1.number⟩ : aB) (⟨18, 0, 0⟩ : co)).bind fun (d10 : ab × aB × ai × Bool × Int) =>
(dF d5.2.2.2.1 (⟨d7.2.2.2.2.2.2.2.1, d7.2.2.2.2.2.2.2.2.1, (⟨d7.2.2.2.2.2.2.2.2.2.1, d7.2.2.2.2.2.2.2.2.2.2.1⟩ : ae), d7.2.2.2.2.2.2.2.2.2.2.2.1, d7.2.2.2.2.2.2.2.2.2.2.2.2⟩ : aa) (⟨18, 0, 0⟩ : cp)).bind fun (d11 : aa × ap × Bool × Int) =>
(
cond (!(d10.2.2.2.1 == d11.2.2.1)) (
some true) (
cond (d10.2.2.2.2 != d11.2.2.2) (
some true) (
(dT d10.2.2.1 (⟨d10.1.model, d10.1.alternate, d10.1.size, d10.1.cells, d10.1.cursor, d10.1.attrs⟩ : ab) (⟨d10.2.1.number⟩ : aB) d11.2.1 d11.1).bind fun (d13 : Bool) =>
some (!d13)))).bind fun (d12 : Bool) =>
cond d12 (
some false) (
(
cond (d10.2.2.2.2 != 0) (
some true) (
cond d10.2.2.2.1 (
some true) (
some (p2 != 63)))).bind fun (d15 : Bool) =>
cond d15 (
some true) (
(bU d10.2.2.1 (⟨d10.1.model, d10.1.alternate, d10.1.size, d10.1.cells, d10.1.cursor, d10.1.attrs⟩ : ab) (⟨d10.2.1.number⟩ : aB) (⟨18, 0, 0⟩ : co)).bind fun (d17 : ab × aB × ai × Bool × Int) =>
(cm d11.2.1.Page 63).bind fun (d18 : Int) =>
(
cond (d17.2.2.2.2 == 0) (
(aK (⟨d17.1.model, d17.1.alternate, d17.1.size, d17.1.cells, d17.1.cursor, d17.1.attrs⟩ : ab) 1).bind fun (d20 : ad) =>
cond ((w64 (d20.Char)) == d18) (
(aK (⟨d17.1.model, d17.1.alternate, d17.1.size, d17.1.cells, d17.1.cursor, d17.1.attrs⟩ : ab) 0).bind fun (d21 : ad) =>
some ((bJ .u8 d21.FA 1) == 1)) (
some false)) (
some false)).bind fun (d19 : Bool) =>
some d19)))

end Go.Vt
