/- Lemmas. No conditions. -/
import Derived.Test.YtdehoidiaedcoaaGreatVmax
set_option linter.unusedVariables false
set_option linter.unusedSimpArgs false
set_option linter.unusedVariables false
namespace Go.Vt
structure Vpage_other where
  code : Int
  sign : Int
  deriving Inhabited, DecidableEq

structure Vvitrineref18_Key where
  Kind : Int
  Sign : Int
  N : Int
  deriving Inhabited, DecidableEq

structure Vapi_Cell where
  Char : Int
  Attr : Bool
  FA : Int
  High : Int
  Color : Int
  f_Set : Int
  deriving Inhabited, DecidableEq

structure Vvitrineref12_Act where
  Do : Int
  N : Int
  On : Bool
  Code : Int
  C : Vapi_Cell
  Text : (List Int)
  deriving Inhabited, DecidableEq

structure Vaddr_Size where
  Rows : Int
  Cols : Int
  deriving Inhabited, DecidableEq

structure Vspace_Space where
  model : Int
  alternate : Bool
  size : Vaddr_Size
  cells : (List Vapi_Cell)
  cursor : Int
  attrs : Int
  deriving Inhabited, DecidableEq

structure Vpage_Page where
  number : Int
  deriving Inhabited, DecidableEq

structure Vvitrineref04_Size where
  Rows : Int
  Cols : Int
  deriving Inhabited, DecidableEq

structure Vvitrineref12_Space where
  Model : Int
  Alt : Bool
  Size : Vvitrineref04_Size
  L : (List Vapi_Cell)
  Cursor : Int
  deriving Inhabited, DecidableEq

structure Vvitrineref05_Field where
  Protected : Bool
  Numeric : Bool
  Display : Int
  Modified : Bool
  deriving Inhabited, DecidableEq

structure Vkeys_Board where
  lock : Int
  inserts : Bool
  aid : Int
  deriving Inhabited, DecidableEq

structure Vvitrineref18_Board where
  Page : Int
  Lock : Int
  Ins : Bool
  AID : Int
  deriving Inhabited, DecidableEq

structure Vkeys_Key where
  Kind : Int
  Sign : Int
  N : Int
  deriving Inhabited, DecidableEq

structure Vattr_Field where
  Protected : Bool
  Numeric : Bool
  Display : Int
  Modified : Bool
  deriving Inhabited, DecidableEq

structure Vvitrineref15_Act where
  Do : Int
  Rows : Int
  Cols : Int
  deriving Inhabited, DecidableEq

def m_page_row (p0 : Int) : Option (Int × Int × Int × Int × Int × Int × Int × Int × Int × Int × Int × Int × Int × Int × Int × Int) :=
  cond (p0 == 0) (
   some (0, 1, 2, 3, 156, 9, 134, 127, 151, 141, 142, 11, 12, 13, 14, 15)) (
   cond (p0 == 1) (
    some (16, 17, 18, 19, 157, 133, 8, 135, 24, 25, 146, 143, 28, 29, 30, 31)) (
    cond (p0 == 2) (
     some (128, 129, 130, 131, 132, 10, 23, 27, 136, 137, 138, 139, 140, 5, 6, 7)) (
     cond (p0 == 3) (
      some (144, 145, 22, 147, 148, 149, 150, 4, 152, 153, 154, 155, 20, 21, 158, 26)) (
      cond (p0 == 4) (
       some (32, 160, 226, 228, 224, 225, 227, 229, 231, 241, 162, 46, 60, 40, 43, 124)) (
       cond (p0 == 5) (
        some (38, 233, 234, 235, 232, 237, 238, 239, 236, 223, 33, 36, 42, 41, 59, 172)) (
        cond (p0 == 6) (
         some (45, 47, 194, 196, 192, 193, 195, 197, 199, 209, 166, 44, 37, 95, 62, 63)) (
         cond (p0 == 7) (
          some (248, 201, 202, 203, 200, 205, 206, 207, 204, 96, 58, 35, 64, 39, 61, 34)) (
          cond (p0 == 8) (
           some (216, 97, 98, 99, 100, 101, 102, 103, 104, 105, 171, 187, 240, 253, 254, 177)) (
           cond (p0 == 9) (
            some (176, 106, 107, 108, 109, 110, 111, 112, 113, 114, 170, 186, 230, 184, 198, 164)) (
            cond (p0 == 10) (
             some (181, 126, 115, 116, 117, 118, 119, 120, 121, 122, 161, 191, 208, 221, 222, 174)) (
             cond (p0 == 11) (
              some (94, 163, 165, 183, 169, 167, 182, 188, 189, 190, 91, 93, 175, 168, 180, 215)) (
              cond (p0 == 12) (
               some (123, 65, 66, 67, 68, 69, 70, 71, 72, 73, 173, 244, 246, 242, 243, 245)) (
               cond (p0 == 13) (
                some (125, 74, 75, 76, 77, 78, 79, 80, 81, 82, 185, 251, 252, 249, 250, 255)) (
                cond (p0 == 14) (
                 some (92, 247, 83, 84, 85, 86, 87, 88, 89, 90, 178, 212, 214, 210, 211, 213)) (
                 cond (p0 == 15) (
                  some (48, 49, 50, 51, 52, 53, 54, 55, 56, 57, 179, 219, 220, 217, 218, 159)) (
                  some (0, 0, 0, 0, 0, 0, 0, 0, 0, 0, 0, 0, 0, 0, 0, 0)))))))))))))))))

def m_page_others (p0 : Int) : Option ((List Vpage_other) × Bool) :=
  cond (p0 == 37) (
   some (([] : List Vpage_other), true)) (
   cond (p0 == 273) (
    some ([(⟨67, 123⟩ : Vpage_other), (⟨74, 196⟩ : Vpage_other), (⟨79, 33⟩ : Vpage_other), (⟨89, 126⟩ : Vpage_other), (⟨90, 220⟩ : Vpage_other), (⟨95, 94⟩ : Vpage_other), (⟨99, 91⟩ : Vpage_other), (⟨106, 246⟩ : Vpage_other), (⟨124, 167⟩ : Vpage_other), (⟨161, 223⟩ : Vpage_other), (⟨176, 162⟩ : Vpage_other), (⟨181, 64⟩ : Vpage_other), (⟨186, 172⟩ : Vpage_other), (⟨187, 124⟩ : Vpage_other), (⟨192, 228⟩ : Vpage_other), (⟨204, 166⟩ : Vpage_other), (⟨208, 252⟩ : Vpage_other), (⟨220, 125⟩ : Vpage_other), (⟨224, 214⟩ : Vpage_other), (⟨236, 92⟩ : Vpage_other), (⟨252, 93⟩ : Vpage_other)], true)) (
    cond (p0 == 297) (
     some ([(⟨68, 64⟩ : Vpage_other), (⟨72, 92⟩ : Vpage_other), (⟨74, 176⟩ : Vpage_other), (⟨79, 33⟩ : Vpage_other), (⟨81, 123⟩ : Vpage_other), (⟨84, 125⟩ : Vpage_other), (⟨90, 167⟩ : Vpage_other), (⟨95, 94⟩ : Vpage_other), (⟨106, 249⟩ : Vpage_other), (⟨121, 181⟩ : Vpage_other), (⟨123, 163⟩ : Vpage_other), (⟨124, 224⟩ : Vpage_other), (⟨144, 91⟩ : Vpage_other), (⟨160, 96⟩ : Vpage_other), (⟨161, 168⟩ : Vpage_other), (⟨176, 162⟩ : Vpage_other), (⟨177, 35⟩ : Vpage_other), (⟨181, 93⟩ : Vpage_other), (⟨186, 172⟩ : Vpage_other), (⟨187, 124⟩ : Vpage_other), (⟨189, 126⟩ : Vpage_other), (⟨192, 233⟩ : Vpage_other), (⟨208, 232⟩ : Vpage_other), (⟨221, 166⟩ : Vpage_other), (⟨224, 231⟩ : Vpage_other)], true)) (
     cond (p0 == 500) (
      some ([(⟨74, 91⟩ : Vpage_other), (⟨79, 33⟩ : Vpage_other), (⟨90, 93⟩ : Vpage_other), (⟨95, 94⟩ : Vpage_other), (⟨176, 162⟩ : Vpage_other), (⟨186, 172⟩ : Vpage_other), (⟨187, 124⟩ : Vpage_other)], true)) (
      cond (p0 == 1047) (
       some ([(⟨95, 94⟩ : Vpage_other), (⟨173, 91⟩ : Vpage_other), (⟨176, 172⟩ : Vpage_other), (⟨186, 221⟩ : Vpage_other), (⟨187, 168⟩ : Vpage_other), (⟨189, 93⟩ : Vpage_other)], true)) (
       cond (p0 == 1140) (
        some ([(⟨159, 8364⟩ : Vpage_other)], true)) (
        some (([] : List Vpage_other), false)))))))

def rowL (d : Nat) : List Int := match m_page_row d with
  | some r => [r.1, r.2.1, r.2.2.1, r.2.2.2.1, r.2.2.2.2.1, r.2.2.2.2.2.1, r.2.2.2.2.2.2.1, r.2.2.2.2.2.2.2.1, r.2.2.2.2.2.2.2.2.1, r.2.2.2.2.2.2.2.2.2.1, r.2.2.2.2.2.2.2.2.2.2.1, r.2.2.2.2.2.2.2.2.2.2.2.1, r.2.2.2.2.2.2.2.2.2.2.2.2.1, r.2.2.2.2.2.2.2.2.2.2.2.2.2.1, r.2.2.2.2.2.2.2.2.2.2.2.2.2.2.1, r.2.2.2.2.2.2.2.2.2.2.2.2.2.2.2]
  | none => []
def rowsFrom : Nat → Nat → List Int → List Int
  | 0, _, l => l
  | n + 1, d, l => rowsFrom n (d + 1) (wr l (16 * d) (rowL d))
def zeros : List Int := List.replicate 256 0
def sgn0 : List Int := rowsFrom 16 0 zeros
def othS : List Int → List Vpage_other → List Int
  | l, [] => l
  | l, o :: os => othS (l.set o.code.toNat (IntKind.wrap .i32 o.sign)) os
def mp : Nat → List Int → List (Int × Value) → List (Int × Value)
  | _, [], m => m
  | c, s :: ss, m => mp (c + 1) ss (alSet m s (.int .u8 (IntKind.wrap .u8 c)))
def sgn (os : List Vpage_other) : List Int := othS sgn0 os
def pgSign (n p1 : Int) : Option Int := match m_page_others n with
  | some (os, true) => gd ((0 : Int) ≤ p1 ∧ p1 < 256) ((sgn os)[p1.toNat]?)
  | _ => none
def pgCode (n z : Int) : Option (Int × Bool) := match m_page_others n with
  | some (os, true) => some (match alGet (mp 0 (sgn os) []) z with
    | some (.int _ c) => (c, true)
    | _ => (0, false))
  | _ => none

def m_vitrinelaw18_pages : Option (List Int) :=
  some [37, 273, 297, 500, 1047, 1140]

def m_addr_Model (p0 : Int) : Option (Vaddr_Size × Int) :=
  cond (p0 == 2) (
   some ((⟨24, 80⟩ : Vaddr_Size), 0)) (
   cond (p0 == 3) (
    some ((⟨32, 80⟩ : Vaddr_Size), 0)) (
    cond (p0 == 4) (
     some ((⟨43, 80⟩ : Vaddr_Size), 0)) (
     cond (p0 == 5) (
      some ((⟨27, 132⟩ : Vaddr_Size), 0)) (
      some ((⟨0, 0⟩ : Vaddr_Size), 5)))))

def m_addr_Size_Valid (p0 : Vaddr_Size) : Option Bool :=
  (
   cond (decide (p0.Rows ≥ 1)) (
    cond (decide (p0.Rows ≤ 43)) (
     cond (decide (p0.Cols ≥ 1)) (
      cond (decide (p0.Cols ≤ 132)) (
       some (decide ((w64 (p0.Rows * p0.Cols)) ≤ 3564))) (
       some false)) (
      some false)) (
     some false)) (
    some false)).bind fun (d1 : Bool) =>
  some d1

def m_addr_Size_Cells (p0 : Vaddr_Size) : Option Int :=
  (m_addr_Size_Valid p0).bind fun (d1 : Bool) =>
  cond (!d1) (
   some 0) (
   some (w64 (p0.Rows * p0.Cols)))

def m_space_Space_Clear (p0 : Vspace_Space) (p1 : Bool) : Option Vspace_Space :=
  (
   cond p1 (
    some p0.model) (
    some 2)).bind fun (d1 : Int) =>
  (m_addr_Model d1).bind fun (d2 : Vaddr_Size × Int) =>
  (m_addr_Size_Cells d2.1).bind fun (d3 : Int) =>
  gd ((0 : Int) ≤ d3 ∧ d3 ≤ 68719476736) <|
  some (⟨p0.model, p1, d2.1, (List.replicate (Int.toNat d3) (⟨0, false, 0, 0, 0, 0⟩ : Vapi_Cell)), 0, 0⟩ : Vspace_Space)

def m_space_New (p0 : Int) : Option ((Int) ⊕ (Vspace_Space × Int)) :=
  (m_addr_Model p0).bind fun (d1 : Vaddr_Size × Int) =>
  cond (d1.2 != 0) (
   some (.inl d1.2)) (
   (m_space_Space_Clear (⟨p0, false, (⟨0, 0⟩ : Vaddr_Size), ([] : List Vapi_Cell), 0, 0⟩ : Vspace_Space) false).bind fun (d3 : Vspace_Space) =>
   some (.inr (d3, 0)))

def m_page_New (p0 : Int) : Option ((Int) ⊕ (Vpage_Page × Int)) :=
  (m_page_others p0).bind fun (d1 : (List Vpage_other) × Bool) =>
  cond (!d1.2) (
   some (.inl 5)) (
   some (.inr ((⟨p0⟩ : Vpage_Page), 0)))

def m_vitrineref04_Model (p0 : Int) : Option (Vvitrineref04_Size × Bool) :=
  (
   cond (decide (p0 < 2)) (
    some true) (
    some (decide (p0 > 5)))).bind fun (d1 : Bool) =>
  cond d1 (
   some ((⟨0, 0⟩ : Vvitrineref04_Size), false)) (
   gd ((0 : Int) ≤ (w64 (p0 - 2)) ∧ (w64 (p0 - 2)) < ([(⟨24, 80⟩ : Vvitrineref04_Size), (⟨32, 80⟩ : Vvitrineref04_Size), (⟨43, 80⟩ : Vvitrineref04_Size), (⟨27, 132⟩ : Vvitrineref04_Size)].length : Int)) <|
   some ((rd [(⟨24, 80⟩ : Vvitrineref04_Size), (⟨32, 80⟩ : Vvitrineref04_Size), (⟨43, 80⟩ : Vvitrineref04_Size), (⟨27, 132⟩ : Vvitrineref04_Size)] (w64 (p0 - 2))), true))

def m_vitrineref04_Valid (p0 : Vvitrineref04_Size) : Option Bool :=
  (
   cond (decide (p0.Rows ≥ 1)) (
    cond (decide (p0.Rows ≤ 43)) (
     cond (decide (p0.Cols ≥ 1)) (
      cond (decide (p0.Cols ≤ 132)) (
       some (decide ((w64 (p0.Rows * p0.Cols)) ≤ 3564))) (
       some false)) (
      some false)) (
     some false)) (
    some false)).bind fun (d1 : Bool) =>
  some d1

def m_vitrineref04_Cells (p0 : Vvitrineref04_Size) : Option Int :=
  (m_vitrineref04_Valid p0).bind fun (d1 : Bool) =>
  cond (!d1) (
   some 0) (
   some (w64 (p0.Rows * p0.Cols)))

def m_vitrineref12_Clear (p0 : Vvitrineref12_Space) (p1 : Bool) : Option Vvitrineref12_Space :=
  (m_vitrineref04_Model 2).bind fun (d1 : Vvitrineref04_Size × Bool) =>
  (
   cond p1 (
    (m_vitrineref04_Model p0.Model).bind fun (d3 : Vvitrineref04_Size × Bool) =>
    some (d3.1.Rows, d3.1.Cols)) (
    some (d1.1.Rows, d1.1.Cols))).bind fun (d2 : Int × Int) =>
  (m_vitrineref04_Cells (⟨d2.1, d2.2⟩ : Vvitrineref04_Size)).bind fun (d4 : Int) =>
  gd ((0 : Int) ≤ d4 ∧ d4 ≤ 68719476736) <|
  some (⟨p0.Model, p1, (⟨d2.1, d2.2⟩ : Vvitrineref04_Size), (List.replicate (Int.toNat d4) (⟨0, false, 0, 0, 0, 0⟩ : Vapi_Cell)), 0⟩ : Vvitrineref12_Space)

def m_vitrineref12_New (p0 : Int) : Option ((Unit) ⊕ (Vvitrineref12_Space)) :=
  (m_vitrineref04_Model p0).bind fun (d1 : Vvitrineref04_Size × Bool) =>
  cond (!d1.2) (
   some (.inl ())) (
   (m_vitrineref12_Clear (⟨p0, false, (⟨0, 0⟩ : Vvitrineref04_Size), ([] : List Vapi_Cell), 0⟩ : Vvitrineref12_Space) false).bind fun (d3 : Vvitrineref12_Space) =>
   some (.inr d3))

def m_vitrineref12_Clear_2 (p0 : Vvitrineref12_Space) (p1 : Bool) : Option Vvitrineref12_Space :=
  (m_vitrineref04_Model 2).bind fun (d1 : Vvitrineref04_Size × Bool) =>
  (
   cond p1 (
    (m_vitrineref04_Model p0.Model).bind fun (d3 : Vvitrineref04_Size × Bool) =>
    some (d3.1.Rows, d3.1.Cols)) (
    some (d1.1.Rows, d1.1.Cols))).bind fun (d2 : Int × Int) =>
  (m_vitrineref04_Cells (⟨d2.1, d2.2⟩ : Vvitrineref04_Size)).bind fun (d4 : Int) =>
  gd ((0 : Int) ≤ d4 ∧ d4 ≤ 68719476736) <|
  some (⟨p0.Model, p1, (⟨d2.1, d2.2⟩ : Vvitrineref04_Size), (List.replicate (Int.toNat d4) (⟨0, false, 0, 0, 0, 0⟩ : Vapi_Cell)), 0⟩ : Vvitrineref12_Space)

def m_vitrineref04_Mod (p0 : Int) (p1 : Int) : Option Int :=
  cond (decide (p1 < 1)) (
   some 0) (
   gd (p1 ≠ 0) <|
   gd (p1 ≠ 0) <|
   some (Int.tmod (w64 ((Int.tmod p0 p1) + p1)) p1))

def m_vitrineref04_Wrap (p0 : Vvitrineref04_Size) (p1 : Int) : Option Int :=
  (m_vitrineref04_Cells p0).bind fun (d1 : Int) =>
  (m_vitrineref04_Mod p1 d1).bind fun (d2 : Int) =>
  some d2

def m_vitrineref12_Wrap (p0 : Vvitrineref12_Space) (p1 : Int) : Option Int :=
  (m_vitrineref04_Wrap p0.Size p1).bind fun (d1 : Int) =>
  some d1

def m_vitrineref12_At (p0 : Vvitrineref12_Space) (p1 : Int) : Option Vapi_Cell :=
  (m_vitrineref12_Wrap p0 p1).bind fun (d2 : Int) =>
  gd ((0 : Int) ≤ d2 ∧ d2 < (p0.L.length : Int)) <|
  some (rd p0.L d2)

def m_vitrineref05_Of (p0 : Int) : Option Vvitrineref05_Field :=
  some (⟨(decide ((Int.tmod (w64 (p0)) 64) ≥ 32)), ((Int.tmod (w64 (Int.tdiv (Int.tmod (w64 (p0)) 64) 16)) 2) == 1), Int.tmod (w64 (Int.tdiv (Int.tmod (w64 (p0)) 64) 4)) 4, ((Int.tmod (Int.tmod (w64 (p0)) 64) 2) == 1)⟩ : Vvitrineref05_Field)

def m_vitrineref05_Bits (p0 : Vvitrineref05_Field) : Option (Int × Int) :=
  (
   cond (decide (p0.Display < 0)) (
    some true) (
    some (decide (p0.Display > 3)))).bind fun (d1 : Bool) =>
  cond d1 (
   some (0, 1)) (
   (
    cond p0.Protected (
     some (w64 ((w64 (4 * p0.Display)) + 32))) (
     some (w64 (4 * p0.Display)))).bind fun (d3 : Int) =>
   (
    cond p0.Numeric (
     some (w64 (d3 + 16))) (
     some d3)).bind fun (d4 : Int) =>
   (
    cond p0.Modified (
     some (w64 (d4 + 1))) (
     some d4)).bind fun (d5 : Int) =>
   some (IntKind.wrap .u8 (d5), 0))

def m_vitrineref05_Six (p0 : Int) : Option Int :=
  (m_vitrineref05_Of p0).bind fun (d1 : Vvitrineref05_Field) =>
  (m_vitrineref05_Bits d1).bind fun (d2 : Int × Int) =>
  some d2.1

def m_vitrineref12_Fit (p0 : Vapi_Cell) : Option Vapi_Cell :=
  (
   cond p0.Attr (
    (m_vitrineref05_Six p0.FA).bind fun (d2 : Int) =>
    some (0, d2)) (
    some (p0.Char, 0))).bind fun (d1 : Int × Int) =>
  some (⟨d1.1, p0.Attr, d1.2, p0.High, p0.Color, p0.f_Set⟩ : Vapi_Cell)

def m_vitrineref12_Set (p0 : Vvitrineref12_Space) (p1 : Int) (p2 : Vapi_Cell) : Option Vvitrineref12_Space :=
  (m_vitrineref12_Wrap p0 p1).bind fun (d1 : Int) =>
  (m_vitrineref12_Fit p2).bind fun (d2 : Vapi_Cell) =>
  gd ((0 : Int) ≤ d1 ∧ d1 < (p0.L.length : Int)) <|
  some (⟨p0.Model, p0.Alt, p0.Size, (List.set p0.L (Int.toNat d1) d2), p0.Cursor⟩ : Vvitrineref12_Space)

def m_vitrineref12_Put (p0 : Vvitrineref12_Space) (p1 : Int) (p2 : Int) : Option Vvitrineref12_Space :=
  (m_vitrineref12_At p0 p1).bind fun (d1 : Vapi_Cell) =>
  cond (!d1.Attr) (
   (m_vitrineref12_Set (⟨p0.Model, p0.Alt, p0.Size, p0.L, p0.Cursor⟩ : Vvitrineref12_Space) p1 (⟨p2, d1.Attr, d1.FA, d1.High, d1.Color, d1.f_Set⟩ : Vapi_Cell)).bind fun (d2 : Vvitrineref12_Space) =>
   some d2) (
   some (⟨p0.Model, p0.Alt, p0.Size, p0.L, p0.Cursor⟩ : Vvitrineref12_Space))

def vitrineref12_Do_l9 (p1 : Vvitrineref12_Act) : Nat → (Int × Int × Bool × Int × Int × (List Vapi_Cell) × Int) → Option (Int × Bool × Int × Int × (List Vapi_Cell) × Int)
  | 0, _ => none
  | k9 + 1, x9 =>
    cond (decide (x9.1 < (p1.Text.length : Int))) (
     gd ((0 : Int) ≤ x9.1 ∧ x9.1 < (p1.Text.length : Int)) <|
     (
      cond (decide (x9.1 < 200)) (
       (m_vitrineref12_Wrap (⟨x9.2.1, x9.2.2.1, (⟨x9.2.2.2.1, x9.2.2.2.2.1⟩ : Vvitrineref04_Size), x9.2.2.2.2.2.1, x9.2.2.2.2.2.2⟩ : Vvitrineref12_Space) p1.N).bind fun (d13 : Int) =>
       (m_vitrineref12_Put (⟨x9.2.1, x9.2.2.1, (⟨x9.2.2.2.1, x9.2.2.2.2.1⟩ : Vvitrineref04_Size), x9.2.2.2.2.2.1, x9.2.2.2.2.2.2⟩ : Vvitrineref12_Space) (w64 (d13 + x9.1)) (rd p1.Text x9.1)).bind fun (d14 : Vvitrineref12_Space) =>
       some (d14.Model, d14.Alt, d14.Size.Rows, d14.Size.Cols, d14.L, d14.Cursor)) (
       some (x9.2.1, x9.2.2.1, x9.2.2.2.1, x9.2.2.2.2.1, x9.2.2.2.2.2.1, x9.2.2.2.2.2.2))).bind fun (d12 : Int × Bool × Int × Int × (List Vapi_Cell) × Int) =>
     vitrineref12_Do_l9 p1 k9 (w64 (x9.1 + 1), d12.1, d12.2.1, d12.2.2.1, d12.2.2.2.1, d12.2.2.2.2.1, d12.2.2.2.2.2)) (
     some (x9.2.1, x9.2.2.1, x9.2.2.2.1, x9.2.2.2.2.1, x9.2.2.2.2.2.1, x9.2.2.2.2.2.2))

def m_vitrineref12_Do (p0 : Vvitrineref12_Space) (p1 : Vvitrineref12_Act) : Option Vvitrineref12_Space :=
  (
   (
    cond ((Int.tmod p1.Do 6) == 0) (
     (m_vitrineref12_Clear_2 p0 p1.On).bind fun (d3 : Vvitrineref12_Space) =>
     some (d3.Model, d3.Alt, d3.Size.Rows, d3.Size.Cols, d3.L, d3.Cursor)) (
     cond ((Int.tmod p1.Do 6) == 1) (
      (m_vitrineref12_Wrap (⟨p0.Model, p0.Alt, p0.Size, p0.L, p0.Cursor⟩ : Vvitrineref12_Space) p1.N).bind fun (d4 : Int) =>
      some (p0.Model, p0.Alt, p0.Size.Rows, p0.Size.Cols, p0.L, d4)) (
      cond ((Int.tmod p1.Do 6) == 2) (
       (m_vitrineref12_Put (⟨p0.Model, p0.Alt, p0.Size, p0.L, p0.Cursor⟩ : Vvitrineref12_Space) p1.N p1.Code).bind fun (d5 : Vvitrineref12_Space) =>
       some (d5.Model, d5.Alt, d5.Size.Rows, d5.Size.Cols, d5.L, d5.Cursor)) (
       cond ((Int.tmod p1.Do 6) == 3) (
        (m_vitrineref12_Set (⟨p0.Model, p0.Alt, p0.Size, p0.L, p0.Cursor⟩ : Vvitrineref12_Space) p1.N (⟨0, true, p1.Code, 0, 0, 0⟩ : Vapi_Cell)).bind fun (d6 : Vvitrineref12_Space) =>
        some (d6.Model, d6.Alt, d6.Size.Rows, d6.Size.Cols, d6.L, d6.Cursor)) (
        cond ((Int.tmod p1.Do 6) == 4) (
         (m_vitrineref12_Set (⟨p0.Model, p0.Alt, p0.Size, p0.L, p0.Cursor⟩ : Vvitrineref12_Space) p1.N p1.C).bind fun (d7 : Vvitrineref12_Space) =>
         some (d7.Model, d7.Alt, d7.Size.Rows, d7.Size.Cols, d7.L, d7.Cursor)) (
         (
          vitrineref12_Do_l9 p1 fuel (0, p0.Model, p0.Alt, p0.Size.Rows, p0.Size.Cols, p0.L, p0.Cursor)).bind fun (d8 : Int × Bool × Int × Int × (List Vapi_Cell) × Int) =>
         some (d8.1, d8.2.1, d8.2.2.1, d8.2.2.2.1, d8.2.2.2.2.1, d8.2.2.2.2.2))))))).bind fun (d2 : Int × Bool × Int × Int × (List Vapi_Cell) × Int) =>
   some (d2.1, d2.2.1, d2.2.2.1, d2.2.2.2.1, d2.2.2.2.2.1, d2.2.2.2.2.2)).bind fun (d1 : Int × Bool × Int × Int × (List Vapi_Cell) × Int) =>
  some (⟨d1.1, d1.2.1, (⟨d1.2.2.1, d1.2.2.2.1⟩ : Vvitrineref04_Size), d1.2.2.2.2.1, d1.2.2.2.2.2⟩ : Vvitrineref12_Space)

def m_space_Space_Clear_2 (p0 : Vspace_Space) (p1 : Bool) : Option Vspace_Space :=
  (
   cond p1 (
    some p0.model) (
    some 2)).bind fun (d1 : Int) =>
  (m_addr_Model d1).bind fun (d2 : Vaddr_Size × Int) =>
  (m_addr_Size_Cells (⟨d2.1.Rows, d2.1.Cols⟩ : Vaddr_Size)).bind fun (d3 : Int) =>
  gd ((0 : Int) ≤ d3 ∧ d3 ≤ 68719476736) <|
  some (⟨p0.model, p1, (⟨d2.1.Rows, d2.1.Cols⟩ : Vaddr_Size), (List.replicate (Int.toNat d3) (⟨0, false, 0, 0, 0, 0⟩ : Vapi_Cell)), 0, 0⟩ : Vspace_Space)

def m_addr_rest (p0 : Int) (p1 : Int) : Option Int :=
  gd (p1 ≠ 0) <|
  (
   cond (decide ((Int.tmod p0 p1) < 0)) (
    some (w64 ((Int.tmod p0 p1) + p1))) (
    some (Int.tmod p0 p1))).bind fun (d1 : Int) =>
  some d1

def m_addr_Size_Wrap (p0 : Vaddr_Size) (p1 : Int) : Option Int :=
  (m_addr_Size_Valid p0).bind fun (d1 : Bool) =>
  cond (!d1) (
   some 0) (
   (m_addr_Size_Cells p0).bind fun (d3 : Int) =>
   (m_addr_rest p1 d3).bind fun (d4 : Int) =>
   some d4)

def m_space_count (p0 : Vapi_Cell) : Option Int :=
  cond p0.Attr (
   some 1) (
   some 0)

def m_space_Space_Set (p0 : Vspace_Space) (p1 : Int) (p2 : Vapi_Cell) : Option Vspace_Space :=
  (
   cond p2.Attr (
    some (0, iband .u8 p2.FA 61)) (
    some (p2.Char, 0))).bind fun (d1 : Int × Int) =>
  (m_addr_Size_Wrap p0.size p1).bind fun (d2 : Int) =>
  gd ((0 : Int) ≤ d2 ∧ d2 < (p0.cells.length : Int)) <|
  (m_space_count { p2 with Char := d1.1, FA := d1.2 }).bind fun (d4 : Int) =>
  (m_space_count (rd p0.cells d2)).bind fun (d5 : Int) =>
  gd ((0 : Int) ≤ d2 ∧ d2 < (p0.cells.length : Int)) <|
  some (⟨p0.model, p0.alternate, p0.size, (List.set p0.cells (Int.toNat d2) { p2 with Char := d1.1, FA := d1.2 }), p0.cursor, w64 (p0.attrs + (w64 (d4 - d5)))⟩ : Vspace_Space)

def m_space_Space_Place (p0 : Vspace_Space) (p1 : Int) : Option Vspace_Space :=
  (m_addr_Size_Wrap p0.size p1).bind fun (d1 : Int) =>
  some { p0 with cursor := d1 }

def m_keys_New (p0 : Vspace_Space) (p1 : Vpage_Page) : Option (Vkeys_Board × Int) :=
  some ((⟨0, false, 96⟩ : Vkeys_Board), 0)

def m_vitrineref18_New (p0 : Vvitrineref12_Space) (p1 : Int) : Option Vvitrineref18_Board :=
  some (⟨p1, 0, false, 96⟩ : Vvitrineref18_Board)

def vitrinelaw18_lay_l10 (p2 : List Vvitrineref12_Act) : Nat → (Int × Int × Bool × Int × Int × (List Vapi_Cell) × Int × Int × Int × Bool × Int × Int × (List Vapi_Cell) × Int × Int) → Option (Int × Bool × Int × Int × (List Vapi_Cell) × Int × Int × Int × Bool × Int × Int × (List Vapi_Cell) × Int × Int)
  | 0, _ => none
  | k10 + 1, x10 =>
    cond (decide (x10.1 < (p2.length : Int))) (
     gd ((0 : Int) ≤ x10.1 ∧ x10.1 < (p2.length : Int)) <|
     (
      cond (decide (x10.1 < 30)) (
       (m_vitrineref12_Do (⟨x10.2.1, x10.2.2.1, (⟨x10.2.2.2.1, x10.2.2.2.2.1⟩ : Vvitrineref04_Size), x10.2.2.2.2.2.1, x10.2.2.2.2.2.2.1⟩ : Vvitrineref12_Space) { (rd p2 x10.1) with C := ((rd p2 x10.1).C) }).bind fun (d14 : Vvitrineref12_Space) =>
       some (d14.Model, d14.Alt, d14.Size.Rows, d14.Size.Cols, d14.L, d14.Cursor)) (
       some (x10.2.1, x10.2.2.1, x10.2.2.2.1, x10.2.2.2.2.1, x10.2.2.2.2.2.1, x10.2.2.2.2.2.2.1))).bind fun (d13 : Int × Bool × Int × Int × (List Vapi_Cell) × Int) =>
     vitrinelaw18_lay_l10 p2 k10 (w64 (x10.1 + 1), d13.1, d13.2.1, d13.2.2.1, d13.2.2.2.1, d13.2.2.2.2.1, d13.2.2.2.2.2, x10.2.2.2.2.2.2.2.1, x10.2.2.2.2.2.2.2.2.1, x10.2.2.2.2.2.2.2.2.2.1, x10.2.2.2.2.2.2.2.2.2.2.1, x10.2.2.2.2.2.2.2.2.2.2.2.1, x10.2.2.2.2.2.2.2.2.2.2.2.2.1, x10.2.2.2.2.2.2.2.2.2.2.2.2.2.1, x10.2.2.2.2.2.2.2.2.2.2.2.2.2.2)) (
     some (x10.2.1, x10.2.2.1, x10.2.2.2.1, x10.2.2.2.2.1, x10.2.2.2.2.2.1, x10.2.2.2.2.2.2.1, x10.2.2.2.2.2.2.2.1, x10.2.2.2.2.2.2.2.2.1, x10.2.2.2.2.2.2.2.2.2.1, x10.2.2.2.2.2.2.2.2.2.2.1, x10.2.2.2.2.2.2.2.2.2.2.2.1, x10.2.2.2.2.2.2.2.2.2.2.2.2.1, x10.2.2.2.2.2.2.2.2.2.2.2.2.2.1, x10.2.2.2.2.2.2.2.2.2.2.2.2.2.2))

def vitrinelaw18_lay_l18 (d9 : Int × Bool × Int × Int × (List Vapi_Cell) × Int × Int × Int × Bool × Int × Int × (List Vapi_Cell) × Int × Int) : Nat → (Int × Int × Bool × Int × Int × (List Vapi_Cell) × Int × Int) → Option (Int × Bool × Int × Int × (List Vapi_Cell) × Int × Int)
  | 0, _ => none
  | k18 + 1, x18 =>
    cond (decide (x18.1 < (d9.2.2.2.2.1.length : Int))) (
     gd ((0 : Int) ≤ x18.1 ∧ x18.1 < (d9.2.2.2.2.1.length : Int)) <|
     (
      cond (!((((rd d9.2.2.2.2.1 x18.1).Char) == 0) && ((((rd d9.2.2.2.2.1 x18.1).Attr) == false) && ((((rd d9.2.2.2.2.1 x18.1).FA) == 0) && ((((rd d9.2.2.2.2.1 x18.1).High) == 0) && ((((rd d9.2.2.2.2.1 x18.1).Color) == 0) && ((((rd d9.2.2.2.2.1 x18.1).f_Set) == 0) && true))))))) (
       (m_space_Space_Set (⟨x18.2.1, x18.2.2.1, (⟨x18.2.2.2.1, x18.2.2.2.2.1⟩ : Vaddr_Size), x18.2.2.2.2.2.1, x18.2.2.2.2.2.2.1, x18.2.2.2.2.2.2.2⟩ : Vspace_Space) x18.1 (rd d9.2.2.2.2.1 x18.1)).bind fun (d22 : Vspace_Space) =>
       some (d22.model, d22.alternate, d22.size.Rows, d22.size.Cols, d22.cells, d22.cursor, d22.attrs)) (
       some (x18.2.1, x18.2.2.1, x18.2.2.2.1, x18.2.2.2.2.1, x18.2.2.2.2.2.1, x18.2.2.2.2.2.2.1, x18.2.2.2.2.2.2.2))).bind fun (d21 : Int × Bool × Int × Int × (List Vapi_Cell) × Int × Int) =>
     vitrinelaw18_lay_l18 d9 k18 (w64 (x18.1 + 1), d21.1, d21.2.1, d21.2.2.1, d21.2.2.2.1, d21.2.2.2.2.1, d21.2.2.2.2.2.1, d21.2.2.2.2.2.2)) (
     some (x18.2.1, x18.2.2.1, x18.2.2.2.1, x18.2.2.2.2.1, x18.2.2.2.2.2.1, x18.2.2.2.2.2.2.1, x18.2.2.2.2.2.2.2))

def m_vitrinelaw18_lay (p0 : Int) (p1 : Int) (p2 : List Vvitrineref12_Act) : Option (Vkeys_Board × Vspace_Space × Vpage_Page × Vvitrineref18_Board × Vvitrineref12_Space) :=
  (m_vitrinelaw18_pages).bind fun (d2 : (List Int)) =>
  gd ((0 : Int) ≤ (Int.tmod p1 6) ∧ (Int.tmod p1 6) < (d2.length : Int)) <|
  (m_space_New (w64 (2 + (w64 (Int.tmod p0 4))))).bind fun (d4 : (Int) ⊕ (Vspace_Space × Int)) => match d4 with
  | .inl d4 => (
   none)
  | .inr d4 => (
   (m_page_New (rd d2 (Int.tmod p1 6))).bind fun (d6 : (Int) ⊕ (Vpage_Page × Int)) => match d6 with
   | .inl d6 => (
    none)
   | .inr d6 => (
    (m_vitrineref12_New (w64 (2 + (w64 (Int.tmod p0 4))))).bind fun (d8 : (Unit) ⊕ (Vvitrineref12_Space)) => match d8 with
    | .inl d8 => (
     none)
    | .inr d8 => (
     (
      vitrinelaw18_lay_l10 p2 fuel (0, d8.Model, d8.Alt, d8.Size.Rows, d8.Size.Cols, d8.L, d8.Cursor, d6.1.number, d4.1.model, d4.1.alternate, d4.1.size.Rows, d4.1.size.Cols, d4.1.cells, d4.1.cursor, d4.1.attrs)).bind fun (d9 : Int × Bool × Int × Int × (List Vapi_Cell) × Int × Int × Int × Bool × Int × Int × (List Vapi_Cell) × Int × Int) =>
     (
      cond d9.2.1 (
       (m_space_Space_Clear_2 (⟨d9.2.2.2.2.2.2.2.1, d9.2.2.2.2.2.2.2.2.1, (⟨d9.2.2.2.2.2.2.2.2.2.1, d9.2.2.2.2.2.2.2.2.2.2.1⟩ : Vaddr_Size), d9.2.2.2.2.2.2.2.2.2.2.2.1, d9.2.2.2.2.2.2.2.2.2.2.2.2.1, d9.2.2.2.2.2.2.2.2.2.2.2.2.2⟩ : Vspace_Space) true).bind fun (d16 : Vspace_Space) =>
       some (d16.model, d16.alternate, d16.size.Rows, d16.size.Cols, d16.cells, d16.cursor, d16.attrs)) (
       some (d9.2.2.2.2.2.2.2.1, d9.2.2.2.2.2.2.2.2.1, d9.2.2.2.2.2.2.2.2.2.1, d9.2.2.2.2.2.2.2.2.2.2.1, d9.2.2.2.2.2.2.2.2.2.2.2.1, d9.2.2.2.2.2.2.2.2.2.2.2.2.1, d9.2.2.2.2.2.2.2.2.2.2.2.2.2))).bind fun (d15 : Int × Bool × Int × Int × (List Vapi_Cell) × Int × Int) =>
     (
      vitrinelaw18_lay_l18 d9 fuel (0, d15.1, d15.2.1, d15.2.2.1, d15.2.2.2.1, d15.2.2.2.2.1, d15.2.2.2.2.2.1, d15.2.2.2.2.2.2)).bind fun (d17 : Int × Bool × Int × Int × (List Vapi_Cell) × Int × Int) =>
     (m_space_Space_Place (⟨d17.1, d17.2.1, (⟨d17.2.2.1, d17.2.2.2.1⟩ : Vaddr_Size), d17.2.2.2.2.1, d17.2.2.2.2.2.1, d17.2.2.2.2.2.2⟩ : Vspace_Space) d9.2.2.2.2.2.1).bind fun (d23 : Vspace_Space) =>
     (m_keys_New d23 (⟨d9.2.2.2.2.2.2.1⟩ : Vpage_Page)).bind fun (d25 : Vkeys_Board × Int) =>
     (m_vitrineref18_New (⟨d9.1, d9.2.1, (⟨d9.2.2.1, d9.2.2.2.1⟩ : Vvitrineref04_Size), d9.2.2.2.2.1, d9.2.2.2.2.2.1⟩ : Vvitrineref12_Space) (rd d2 (Int.tmod p1 6))).bind fun (d27 : Vvitrineref18_Board) =>
     some (d25.1, d23, (⟨d9.2.2.2.2.2.2.1⟩ : Vpage_Page), d27, (⟨d9.1, d9.2.1, (⟨d9.2.2.1, d9.2.2.2.1⟩ : Vvitrineref04_Size), d9.2.2.2.2.1, d9.2.2.2.2.2.1⟩ : Vvitrineref12_Space)))))

def m_keys_AID (p0 : Vkeys_Key) : Option (Int × Bool) :=
  cond (p0.Kind == 19) (
   some (125, true)) (
   cond (p0.Kind == 22) (
    some (109, true)) (
    (
     cond (p0.Kind == 20) (
      cond (decide (p0.N ≥ 1)) (
       some (decide (p0.N ≤ 24))) (
       some false)) (
      some false)).bind fun (d3 : Bool) =>
    cond d3 (
     gd ((0 : Int) ≤ (w64 (p0.N - 1)) ∧ (w64 (p0.N - 1)) < ((ByteArray.mk (List.toArray [241, 242, 243, 244, 245, 246, 247, 248, 249, 122, 123, 124, 193, 194, 195, 196, 197, 198, 199, 200, 201, 74, 75, 76])).size : Int)) <|
     some (sbyte (ByteArray.mk (List.toArray [241, 242, 243, 244, 245, 246, 247, 248, 249, 122, 123, 124, 193, 194, 195, 196, 197, 198, 199, 200, 201, 74, 75, 76])) (w64 (p0.N - 1)), true)) (
     (
      cond (p0.Kind == 21) (
       cond (decide (p0.N ≥ 1)) (
        some (decide (p0.N ≤ 3))) (
        some false)) (
       some false)).bind fun (d4 : Bool) =>
     cond d4 (
      gd ((0 : Int) ≤ (w64 (p0.N - 1)) ∧ (w64 (p0.N - 1)) < ((ByteArray.mk (List.toArray [108, 110, 107])).size : Int)) <|
      some (sbyte (ByteArray.mk (List.toArray [108, 110, 107])) (w64 (p0.N - 1)), true)) (
      some (0, false)))))

def m_keys_Board_reset (p0 : Vkeys_Board) (p1 : Vspace_Space) (p2 : Vpage_Page) : Option Vkeys_Board :=
  (
   cond (p0.lock != 1) (
    some 0) (
    some p0.lock)).bind fun (d1 : Int) =>
  some (⟨d1, false, p0.aid⟩ : Vkeys_Board)

def m_space_Space_Cursor (p0 : Vspace_Space) : Option Int :=
  some p0.cursor

def m_space_Space_Formatted (p0 : Vspace_Space) : Option Bool :=
  some (decide (p0.attrs > 0))

def m_space_Space_Size (p0 : Vspace_Space) : Option Vaddr_Size :=
  some p0.size

def m_space_Space_At (p0 : Vspace_Space) (p1 : Int) : Option Vapi_Cell :=
  (m_addr_Size_Wrap p0.size p1).bind fun (d2 : Int) =>
  gd ((0 : Int) ≤ d2 ∧ d2 < (p0.cells.length : Int)) <|
  some (rd p0.cells d2)

def field_Start_l6 (p0 : Vspace_Space) (d3 : Vaddr_Size) : Nat → Int → Option Int
  | 0, _ => none
  | k6 + 1, x6 =>
    (m_space_Space_At p0 x6).bind fun (d7 : Vapi_Cell) =>
    cond (!d7.Attr) (
     (m_addr_Size_Wrap d3 (w64 (x6 - 1))).bind fun (d9 : Int) =>
     field_Start_l6 p0 d3 k6 d9) (
     some x6)

def m_field_Start (p0 : Vspace_Space) (p1 : Int) : Option Int :=
  (m_space_Space_Formatted p0).bind fun (d1 : Bool) =>
  cond (!d1) (
   some (-1)) (
   (m_space_Space_Size p0).bind fun (d3 : Vaddr_Size) =>
   (m_addr_Size_Wrap d3 p1).bind fun (d4 : Int) =>
   (
    field_Start_l6 p0 d3 fuel d4).bind fun (d5 : Int) =>
   some d5)

def m_attr_Of (p0 : Int) : Option Vattr_Field :=
  some (⟨((iband .u8 p0 32) != 0), ((iband .u8 p0 16) != 0), ishr .i64 (w64 (iband .u8 p0 12)) 2, ((iband .u8 p0 1) != 0)⟩ : Vattr_Field)

def m_field_Of (p0 : Vspace_Space) (p1 : Int) : Option (Vattr_Field × Bool) :=
  (m_field_Start p0 p1).bind fun (d1 : Int) =>
  cond (d1 == (-1)) (
   some ((⟨false, false, 0, false⟩ : Vattr_Field), false)) (
   (m_space_Space_At p0 d1).bind fun (d3 : Vapi_Cell) =>
   (m_attr_Of d3.FA).bind fun (d4 : Vattr_Field) =>
   some (d4, true))

def m_attr_Field_Detectable (p0 : Vattr_Field) : Option Bool :=
  (
   cond (p0.Display == 1) (
    some true) (
    some (p0.Display == 2))).bind fun (d1 : Bool) =>
  some d1

def m_keys_Board_refuse (p0 : Vkeys_Board) (p1 : Vspace_Space) (p2 : Vpage_Page) (p3 : Int) : Option (Vkeys_Board × Int) :=
  cond (p3 == 3) (
   some ({ p0 with lock := p3 }, 14)) (
   cond (p3 == 4) (
    some ({ p0 with lock := p3 }, 7)) (
    some ({ p0 with lock := p3 }, 13)))

def m_page_Page_Sign (p0 : Vpage_Page) (p1 : Int) : Option Int :=
  pgSign p0.number p1

def m_class_sign (p0 : Vpage_Page) (p1 : Int) : Option Int :=
  (m_page_Page_Sign p0 p1).bind fun (d1 : Int) =>
  some d1

def m_class_Designator (p0 : Vpage_Page) (p1 : Int) : Option Int :=
  cond (p1 == 0) (
   some 3) (
   (m_class_sign p0 p1).bind fun (d2 : Int) =>
   cond (d2 == 63) (
    some 1) (
    cond (d2 == 62) (
     some 2) (
     cond (d2 == 32) (
      some 3) (
      cond (d2 == 38) (
       some 4) (
       some 0)))))

def m_page_Page_Code (p0 : Vpage_Page) (p1 : Int) : Option (Int × Bool) :=
  pgCode p0.number p1

def m_space_Space_Put (p0 : Vspace_Space) (p1 : Int) (p2 : Int) : Option Vspace_Space :=
  (m_addr_Size_Wrap p0.size p1).bind fun (d2 : Int) =>
  gd ((0 : Int) ≤ d2 ∧ d2 < (p0.cells.length : Int)) <|
  cond (!((rd p0.cells d2).Attr)) (
   some { p0 with cells := (List.set p0.cells (Int.toNat d2) { (rd p0.cells d2) with Char := p2 }) }) (
   some p0)

def m_keys_Board_designate (p0 : Vkeys_Board) (p1 : Vspace_Space) (p2 : Vpage_Page) (p3 : Int) (p4 : Int) : Option (Vspace_Space × Vpage_Page × Vkeys_Board) :=
  (m_page_Page_Code p2 p3).bind fun (d1 : Int × Bool) =>
  (m_space_Space_Put p1 (w64 (p4 + 1)) d1.1).bind fun (d2 : Vspace_Space) =>
  some (d2, p2, (⟨p0.lock, p0.inserts, p0.aid⟩ : Vkeys_Board))

def m_keys_Board_send (p0 : Vkeys_Board) (p1 : Vspace_Space) (p2 : Vpage_Page) (p3 : Int) : Option Vkeys_Board :=
  some (⟨1, false, p3⟩ : Vkeys_Board)

def m_field_Modify (p0 : Vspace_Space) (p1 : Int) : Option (Vspace_Space × Bool) :=
  (m_field_Start p0 p1).bind fun (d1 : Int) =>
  cond (d1 == (-1)) (
   some (p0, false)) (
   (m_space_Space_At p0 d1).bind fun (d3 : Vapi_Cell) =>
   (m_space_Space_Set p0 d1 (⟨d3.Char, d3.Attr, ibor .u8 d3.FA 1, d3.High, d3.Color, d3.f_Set⟩ : Vapi_Cell)).bind fun (d4 : Vspace_Space) =>
   some ((⟨d4.model, d4.alternate, d4.size, d4.cells, d4.cursor, d4.attrs⟩ : Vspace_Space), true))

def m_keys_Board_choose (p0 : Vkeys_Board) (p1 : Vspace_Space) (p2 : Vpage_Page) : Option (Vspace_Space × Vpage_Page × Vkeys_Board × Bool × Int) :=
  (m_space_Space_Cursor p1).bind fun (d1 : Int) =>
  (m_field_Start p1 d1).bind fun (d2 : Int) =>
  (m_field_Of p1 d1).bind fun (d3 : Vattr_Field × Bool) =>
  (
   cond (!d3.2) (
    some true) (
    (m_space_Space_At p1 d1).bind fun (d5 : Vapi_Cell) =>
    cond d5.Attr (
     some true) (
     (m_attr_Field_Detectable d3.1).bind fun (d6 : Bool) =>
     some (!d6)))).bind fun (d4 : Bool) =>
  cond d4 (
   (m_keys_Board_refuse p0 p1 p2 2).bind fun (d8 : Vkeys_Board × Int) =>
   some (p1, p2, d8.1, false, d8.2)) (
   (m_space_Space_At p1 (w64 (d2 + 1))).bind fun (d10 : Vapi_Cell) =>
   (m_class_Designator p2 d10.Char).bind fun (d11 : Int) =>
   (
    cond (d11 == 0) (
     some true) (
     cond (decide (d11 < 3)) (
      some d3.1.Protected) (
      some false))).bind fun (d12 : Bool) =>
   cond d12 (
    (m_keys_Board_refuse (⟨p0.lock, p0.inserts, p0.aid⟩ : Vkeys_Board) p1 p2 2).bind fun (d14 : Vkeys_Board × Int) =>
    some (p1, p2, d14.1, false, d14.2)) (
    jn (
     cond (d11 == 1) (
      (m_keys_Board_designate (⟨p0.lock, p0.inserts, p0.aid⟩ : Vkeys_Board) p1 p2 62 d2).bind fun (d17 : Vspace_Space × Vpage_Page × Vkeys_Board) =>
      some (.inl (d17.2.2.lock, d17.2.2.inserts, d17.2.2.aid, d17.1.model, d17.1.alternate, d17.1.size.Rows, d17.1.size.Cols, d17.1.cells, d17.1.cursor, d17.1.attrs, d17.2.1.number))) (
      cond (d11 == 2) (
       (m_keys_Board_designate (⟨p0.lock, p0.inserts, p0.aid⟩ : Vkeys_Board) p1 p2 63 d2).bind fun (d18 : Vspace_Space × Vpage_Page × Vkeys_Board) =>
       esc (
        some (d18.1, d18.2.1, d18.2.2, false, 0))) (
       cond (d11 == 3) (
        (m_keys_Board_send p0 p1 p2 126).bind fun (d19 : Vkeys_Board) =>
        some (.inl (d19.lock, d19.inserts, d19.aid, p1.model, p1.alternate, p1.size.Rows, p1.size.Cols, p1.cells, p1.cursor, p1.attrs, p2.number))) (
        (m_keys_Board_send p0 p1 p2 125).bind fun (d20 : Vkeys_Board) =>
        some (.inl (d20.lock, d20.inserts, d20.aid, p1.model, p1.alternate, p1.size.Rows, p1.size.Cols, p1.cells, p1.cursor, p1.attrs, p2.number)))))) fun (d16 : Int × Bool × Int × Int × Bool × Int × Int × (List Vapi_Cell) × Int × Int × Int) =>
    (m_field_Modify (⟨d16.2.2.2.1, d16.2.2.2.2.1, (⟨d16.2.2.2.2.2.1, d16.2.2.2.2.2.2.1⟩ : Vaddr_Size), d16.2.2.2.2.2.2.2.1, d16.2.2.2.2.2.2.2.2.1, d16.2.2.2.2.2.2.2.2.2.1⟩ : Vspace_Space) d1).bind fun (d21 : Vspace_Space × Bool) =>
    some (d21.1, (⟨d16.2.2.2.2.2.2.2.2.2.2⟩ : Vpage_Page), (⟨d16.1, d16.2.1, d16.2.2.1⟩ : Vkeys_Board), (decide (d11 > 2)), 0)))

def m_field_first (p0 : Vspace_Space) (p1 : Int) : Option Bool :=
  (m_space_Space_At p0 (w64 (p1 - 1))).bind fun (d1 : Vapi_Cell) =>
  (
   cond d1.Attr (
    (m_space_Space_At p0 p1).bind fun (d3 : Vapi_Cell) =>
    cond (!d3.Attr) (
     (m_attr_Of d1.FA).bind fun (d4 : Vattr_Field) =>
     some (!d4.Protected)) (
     some false)) (
    some false)).bind fun (d2 : Bool) =>
  some d2

def field_find_l4 (p0 : Vspace_Space) (p2 : Int) (d1 : Vaddr_Size) (d2 : Int) : Nat → (Int × Int) → Option ((Unit) ⊕ Int)
  | 0, _ => none
  | k4 + 1, x4 =>
    cond (decide (x4.1 < d2)) (
     (m_addr_Size_Wrap (⟨d1.Rows, d1.Cols⟩ : Vaddr_Size) (w64 (x4.2 + p2))).bind fun (d7 : Int) =>
     (m_field_first p0 d7).bind fun (d8 : Bool) =>
     cond d8 (
      esc (
       some d7)) (
      field_find_l4 p0 p2 d1 d2 k4 (w64 (x4.1 + 1), d7))) (
     some (.inl ()))

def m_field_find (p0 : Vspace_Space) (p1 : Int) (p2 : Int) : Option Int :=
  (m_space_Space_Size p0).bind fun (d1 : Vaddr_Size) =>
  (m_addr_Size_Cells (⟨d1.Rows, d1.Cols⟩ : Vaddr_Size)).bind fun (d2 : Int) =>
  jn (
   field_find_l4 p0 p2 d1 d2 fuel (0, p1)) fun (d3 : Unit) =>
  some (-1)

def m_field_Next (p0 : Vspace_Space) (p1 : Int) : Option Int :=
  (m_space_Space_Size p0).bind fun (d1 : Vaddr_Size) =>
  (m_addr_Size_Wrap (⟨d1.Rows, d1.Cols⟩ : Vaddr_Size) p1).bind fun (d2 : Int) =>
  (m_field_find p0 d2 1).bind fun (d3 : Int) =>
  some d3

def m_cursor_Tab (p0 : Vspace_Space) : Option Vspace_Space :=
  (m_space_Space_Cursor p0).bind fun (d1 : Int) =>
  (m_field_Next p0 d1).bind fun (d2 : Int) =>
  (m_space_Space_Place p0 (imax d2 0)).bind fun (d3 : Vspace_Space) =>
  some (⟨d3.model, d3.alternate, d3.size, d3.cells, d3.cursor, d3.attrs⟩ : Vspace_Space)

def m_field_Prev (p0 : Vspace_Space) (p1 : Int) : Option Int :=
  (m_space_Space_Size p0).bind fun (d1 : Vaddr_Size) =>
  (m_addr_Size_Wrap (⟨d1.Rows, d1.Cols⟩ : Vaddr_Size) p1).bind fun (d2 : Int) =>
  (m_field_find p0 d2 (-1)).bind fun (d3 : Int) =>
  some d3

def m_cursor_BackTab (p0 : Vspace_Space) : Option Vspace_Space :=
  (m_space_Space_Cursor p0).bind fun (d1 : Int) =>
  (m_field_Prev p0 d1).bind fun (d2 : Int) =>
  (m_space_Space_Place p0 (imax d2 0)).bind fun (d3 : Vspace_Space) =>
  some d3

def m_addr_Size_Row (p0 : Vaddr_Size) (p1 : Int) : Option Int :=
  (m_addr_Size_Valid p0).bind fun (d1 : Bool) =>
  cond (!d1) (
   some 0) (
   (m_addr_Size_Wrap p0 p1).bind fun (d4 : Int) =>
   gd (p0.Cols ≠ 0) <|
   some (w64 (Int.tdiv d4 p0.Cols)))

def m_addr_Size_At (p0 : Vaddr_Size) (p1 : Int) (p2 : Int) : Option Int :=
  (m_addr_Size_Valid p0).bind fun (d1 : Bool) =>
  cond (!d1) (
   some 0) (
   (m_addr_rest p1 p0.Rows).bind fun (d4 : Int) =>
   (m_addr_rest p2 p0.Cols).bind fun (d5 : Int) =>
   some (w64 ((w64 (d4 * p0.Cols)) + d5)))

def m_addr_Size_Line (p0 : Vaddr_Size) (p1 : Int) : Option Int :=
  (m_addr_Size_Row p0 p1).bind fun (d2 : Int) =>
  (m_addr_Size_At p0 (w64 (d2 + 1)) 0).bind fun (d3 : Int) =>
  some d3

def m_field_Open (p0 : Vspace_Space) (p1 : Int) : Option Bool :=
  (m_field_Of p0 p1).bind fun (d1 : Vattr_Field × Bool) =>
  (
   (m_space_Space_At p0 p1).bind fun (d3 : Vapi_Cell) =>
   cond (!d3.Attr) (
    cond d1.2 (
     some (!d1.1.Protected)) (
     some true)) (
    some false)).bind fun (d2 : Bool) =>
  some d2

def m_cursor_First (p0 : Vspace_Space) (p1 : Int) : Option Int :=
  (m_field_Open p0 p1).bind fun (d1 : Bool) =>
  cond d1 (
   (m_space_Space_Size p0).bind fun (d3 : Vaddr_Size) =>
   (m_addr_Size_Wrap (⟨d3.Rows, d3.Cols⟩ : Vaddr_Size) p1).bind fun (d4 : Int) =>
   some d4) (
   (m_field_Next p0 p1).bind fun (d5 : Int) =>
   some (imax d5 0))

def m_cursor_NewLine (p0 : Vspace_Space) : Option Vspace_Space :=
  (m_space_Space_Size p0).bind fun (d1 : Vaddr_Size) =>
  (m_space_Space_Cursor p0).bind fun (d2 : Int) =>
  (m_addr_Size_Line (⟨d1.Rows, d1.Cols⟩ : Vaddr_Size) d2).bind fun (d3 : Int) =>
  (m_cursor_First p0 d3).bind fun (d4 : Int) =>
  (m_space_Space_Place p0 d4).bind fun (d5 : Vspace_Space) =>
  some d5

def m_cursor_Home (p0 : Vspace_Space) : Option Vspace_Space :=
  (m_cursor_First p0 0).bind fun (d1 : Int) =>
  (m_space_Space_Place p0 d1).bind fun (d2 : Vspace_Space) =>
  some d2

def m_addr_Size_Col (p0 : Vaddr_Size) (p1 : Int) : Option Int :=
  (m_addr_Size_Valid p0).bind fun (d1 : Bool) =>
  cond (!d1) (
   some 0) (
   (m_addr_Size_Wrap p0 p1).bind fun (d4 : Int) =>
   gd (p0.Cols ≠ 0) <|
   some (Int.tmod d4 p0.Cols))

def m_addr_Size_Move (p0 : Vaddr_Size) (p1 : Int) (p2 : Int) (p3 : Int) : Option Int :=
  (m_addr_Size_Valid p0).bind fun (d1 : Bool) =>
  cond (!d1) (
   some 0) (
   (m_addr_Size_Wrap p0 p1).bind fun (d4 : Int) =>
   (m_addr_Size_Wrap p0 p3).bind fun (d5 : Int) =>
   (m_addr_Size_Wrap p0 (w64 (d4 + d5))).bind fun (d6 : Int) =>
   (m_addr_Size_Row p0 d6).bind fun (d8 : Int) =>
   (m_addr_rest p2 p0.Rows).bind fun (d9 : Int) =>
   (m_addr_Size_Col p0 d6).bind fun (d10 : Int) =>
   (m_addr_Size_At p0 (w64 (d8 + d9)) d10).bind fun (d11 : Int) =>
   some d11)

def m_cursor_Move (p0 : Vspace_Space) (p1 : Int) (p2 : Int) : Option Vspace_Space :=
  (m_space_Space_Size p0).bind fun (d1 : Vaddr_Size) =>
  (m_space_Space_Cursor p0).bind fun (d2 : Int) =>
  (m_addr_Size_Move (⟨d1.Rows, d1.Cols⟩ : Vaddr_Size) d2 p1 p2).bind fun (d3 : Int) =>
  (m_space_Space_Place (⟨p0.model, p0.alternate, p0.size, p0.cells, p0.cursor, p0.attrs⟩ : Vspace_Space) d3).bind fun (d4 : Vspace_Space) =>
  some d4

def m_keys_Board_move (p0 : Vkeys_Board) (p1 : Vspace_Space) (p2 : Vpage_Page) (p3 : Int) : Option (Vspace_Space × Vpage_Page × Vkeys_Board × Bool) :=
  jn (
   cond (p3 == 5) (
    (m_cursor_Tab p1).bind fun (d3 : Vspace_Space) =>
    some (.inl (d3.model, d3.alternate, d3.size.Rows, d3.size.Cols, d3.cells, d3.cursor, d3.attrs))) (
    cond (p3 == 6) (
     (m_cursor_BackTab p1).bind fun (d4 : Vspace_Space) =>
     some (.inl (d4.model, d4.alternate, d4.size.Rows, d4.size.Cols, d4.cells, d4.cursor, d4.attrs))) (
     cond (p3 == 7) (
      (m_cursor_NewLine p1).bind fun (d5 : Vspace_Space) =>
      some (.inl (d5.model, d5.alternate, d5.size.Rows, d5.size.Cols, d5.cells, d5.cursor, d5.attrs))) (
      cond (p3 == 8) (
       (m_cursor_Home p1).bind fun (d6 : Vspace_Space) =>
       some (.inl (d6.model, d6.alternate, d6.size.Rows, d6.size.Cols, d6.cells, d6.cursor, d6.attrs))) (
       cond (p3 == 9) (
        (m_cursor_Move p1 (-1) 0).bind fun (d7 : Vspace_Space) =>
        some (.inl (d7.model, d7.alternate, d7.size.Rows, d7.size.Cols, d7.cells, d7.cursor, d7.attrs))) (
        cond (p3 == 10) (
         (m_cursor_Move p1 1 0).bind fun (d8 : Vspace_Space) =>
         some (.inl (d8.model, d8.alternate, d8.size.Rows, d8.size.Cols, d8.cells, d8.cursor, d8.attrs))) (
         cond (p3 == 11) (
          (m_cursor_Move p1 0 (-1)).bind fun (d9 : Vspace_Space) =>
          some (.inl (d9.model, d9.alternate, d9.size.Rows, d9.size.Cols, d9.cells, d9.cursor, d9.attrs))) (
          cond (p3 == 12) (
           (m_cursor_Move p1 0 1).bind fun (d10 : Vspace_Space) =>
           some (.inl (d10.model, d10.alternate, d10.size.Rows, d10.size.Cols, d10.cells, d10.cursor, d10.attrs))) (
           esc (
            some (p1, p2, (⟨p0.lock, p0.inserts, p0.aid⟩ : Vkeys_Board), false))))))))))) fun (d2 : Int × Bool × Int × Int × (List Vapi_Cell) × Int × Int) =>
  some ((⟨d2.1, d2.2.1, (⟨d2.2.2.1, d2.2.2.2.1⟩ : Vaddr_Size), d2.2.2.2.2.1, d2.2.2.2.2.2.1, d2.2.2.2.2.2.2⟩ : Vspace_Space), p2, (⟨p0.lock, p0.inserts, p0.aid⟩ : Vkeys_Board), true)

def m_class_Data (p0 : Int) : Option Bool :=
  (
   cond (decide (p0 ≥ 64)) (
    some (decide (p0 < 255))) (
    some false)).bind fun (d1 : Bool) =>
  some d1

def m_class_Numeric (p0 : Vpage_Page) (p1 : Int) : Option Bool :=
  cond (p1 == 28) (
   some true) (
   (m_class_sign p0 p1).bind fun (d2 : Int) =>
   (
    (m_class_Data p1).bind fun (d4 : Bool) =>
    cond d4 (
     cond (decide (d2 ≥ 48)) (
      cond (decide (d2 ≤ 57)) (
       some true) (
       cond (d2 == 46) (
        some true) (
        some (d2 == 45)))) (
      cond (d2 == 46) (
       some true) (
       some (d2 == 45)))) (
     some false)).bind fun (d3 : Bool) =>
   some d3)

def m_addr_Size_Span (p0 : Vaddr_Size) (p1 : Int) (p2 : Int) : Option Unit :=
  some ()

def m_addr_Size_Length (p0 : Vaddr_Size) (p1 : Int) (p2 : Int) : Option Int :=
  (m_addr_Size_Wrap p0 p2).bind fun (d2 : Int) =>
  (m_addr_Size_Wrap p0 p1).bind fun (d3 : Int) =>
  (m_addr_Size_Wrap p0 (w64 (d2 - d3))).bind fun (d4 : Int) =>
  cond (decide (d4 > 0)) (
   some d4) (
   (m_addr_Size_Cells p0).bind fun (d6 : Int) =>
   some d6)

def slices_AppendSeq_l6 (p1 : Vaddr_Size) (p2 : Int) (d4 : Int) : Nat → (Int × (List Int)) → Option (List Int)
  | 0, _ => none
  | k6 + 1, x6 =>
    cond (decide (x6.1 < d4)) (
     (m_addr_Size_Wrap p1 p2).bind fun (d10 : Int) =>
     (m_addr_Size_Wrap p1 (w64 (d10 + x6.1))).bind fun (d11 : Int) =>
     gd (x6.2.length + [d11].length ≤ 68719476736) <|
     slices_AppendSeq_l6 p1 p2 d4 k6 (w64 (x6.1 + 1), (x6.2 ++ [d11]))) (
     some x6.2)

def m_slices_AppendSeq (p0 : List Int) (p1 : Vaddr_Size) (p2 : Int) (p3 : Int) : Option (Vaddr_Size × Int × Int × (List Int)) :=
  (
   (
    (m_addr_Size_Length p1 p2 p3).bind fun (d4 : Int) =>
    (
     slices_AppendSeq_l6 p1 p2 d4 fuel (0, p0)).bind fun (d5 : (List Int)) =>
    some d5).bind fun (d2 : (List Int)) =>
   some d2).bind fun (d1 : (List Int)) =>
  some (p1, p2, p3, d1)

def m_slices_Collect (p0 : Vaddr_Size) (p1 : Int) (p2 : Int) : Option (Vaddr_Size × Int × Int × (List Int)) :=
  (m_slices_AppendSeq ([] : List Int) p0 p1 p2).bind fun (d1 : Vaddr_Size × Int × Int × (List Int)) =>
  some (d1.1, d1.2.1, d1.2.2.1, d1.2.2.2)

def m_field_Places (p0 : Vspace_Space) (p1 : Int) : Option Unit :=
  some ()

def slices_AppendSeq_2_l10 (p1 : Vspace_Space) (d4 : Vaddr_Size) : Nat → (Int × (List Int)) → Option (List Int)
  | 0, _ => none
  | k10 + 1, x10 =>
    (m_space_Space_At p1 x10.1).bind fun (d11 : Vapi_Cell) =>
    cond (!d11.Attr) (
     gd (x10.2.length + [x10.1].length ≤ 68719476736) <|
     (m_addr_Size_Wrap (⟨d4.Rows, d4.Cols⟩ : Vaddr_Size) (w64 (x10.1 + 1))).bind fun (d15 : Int) =>
     slices_AppendSeq_2_l10 p1 d4 k10 (d15, (x10.2 ++ [x10.1]))) (
     some x10.2)

def m_slices_AppendSeq_2 (p0 : List Int) (p1 : Vspace_Space) (p2 : Int) : Option (Vspace_Space × Int × (List Int)) :=
  (
   (
    (m_space_Space_Size p1).bind fun (d4 : Vaddr_Size) =>
    (m_addr_Size_Wrap (⟨d4.Rows, d4.Cols⟩ : Vaddr_Size) p2).bind fun (d5 : Int) =>
    (m_space_Space_At p1 d5).bind fun (d6 : Vapi_Cell) =>
    cond (!d6.Attr) (
     some (p0, d5)) (
     (m_addr_Size_Wrap (⟨d4.Rows, d4.Cols⟩ : Vaddr_Size) (w64 (d5 + 1))).bind fun (d8 : Int) =>
     (
      slices_AppendSeq_2_l10 p1 d4 fuel (d8, p0)).bind fun (d9 : (List Int)) =>
     some (d9, d5))).bind fun (d2 : (List Int) × Int) =>
   some (d2.1, d2.2)).bind fun (d1 : (List Int) × Int) =>
  some (p1, d1.2, d1.1)

def m_slices_Collect_2 (p0 : Vspace_Space) (p1 : Int) : Option (Vspace_Space × Int × (List Int)) :=
  (m_slices_AppendSeq_2 ([] : List Int) p0 p1).bind fun (d1 : Vspace_Space × Int × (List Int)) =>
  some (d1.1, d1.2.1, d1.2.2)

def slices_Index_l2 (p0 : List Int) (p1 : Int) : Nat → Int → Option ((Unit) ⊕ Int)
  | 0, _ => none
  | k2 + 1, x2 =>
    cond (decide (x2 < (p0.length : Int))) (
     gd ((0 : Int) ≤ x2 ∧ x2 < (p0.length : Int)) <|
     cond (p1 == (rd p0 x2)) (
      esc (
       some x2)) (
      slices_Index_l2 p0 p1 k2 (w64 (x2 + 1)))) (
     some (.inl ()))

def m_slices_Index (p0 : List Int) (p1 : Int) : Option Int :=
  jn (
   slices_Index_l2 p0 p1 fuel 0) fun (d1 : Unit) =>
  some (-1)

def m_erase_rest (p0 : Vspace_Space) (p1 : Int) : Option (Vspace_Space × (List Int)) :=
  (m_space_Space_Size p0).bind fun (d1 : Vaddr_Size) =>
  (m_addr_Size_Wrap (⟨d1.Rows, d1.Cols⟩ : Vaddr_Size) p1).bind fun (d2 : Int) =>
  (m_field_Start p0 d2).bind fun (d3 : Int) =>
  cond (decide (d3 < 0)) (
   (m_space_Space_Size p0).bind fun (d5 : Vaddr_Size) =>
   (m_addr_Size_Span (⟨d5.Rows, d5.Cols⟩ : Vaddr_Size) d2 0).bind fun (d6 : Unit) =>
   (m_slices_Collect (⟨(⟨d5.Rows, d5.Cols⟩ : Vaddr_Size).Rows, (⟨d5.Rows, d5.Cols⟩ : Vaddr_Size).Cols⟩ : Vaddr_Size) d2 0).bind fun (d7 : Vaddr_Size × Int × Int × (List Int)) =>
   some (p0, d7.2.2.2)) (
   (m_field_Places p0 d3).bind fun (d8 : Unit) =>
   (m_slices_Collect_2 p0 d3).bind fun (d9 : Vspace_Space × Int × (List Int)) =>
   (m_slices_Index d9.2.2 d2).bind fun (d10 : Int) =>
   gd ((0 : Int) ≤ d10 ∧ d10 ≤ (d9.2.2.length : Int) ∧ (d9.2.2.length : Int) ≤ (d9.2.2.length : Int)) <|
   some (d9.1, (List.drop (Int.toNat d10) d9.2.2)))

def m_erase_round (p0 : Vspace_Space) (p1 : Int) : Option (Vspace_Space × (List Int)) :=
  (m_space_Space_Formatted p0).bind fun (d1 : Bool) =>
  cond d1 (
   (m_erase_rest p0 p1).bind fun (d3 : Vspace_Space × (List Int)) =>
   some (d3.1, d3.2)) (
   (m_space_Space_Size p0).bind fun (d4 : Vaddr_Size) =>
   (m_addr_Size_Span (⟨d4.Rows, d4.Cols⟩ : Vaddr_Size) p1 p1).bind fun (d5 : Unit) =>
   (m_slices_Collect (⟨(⟨d4.Rows, d4.Cols⟩ : Vaddr_Size).Rows, (⟨d4.Rows, d4.Cols⟩ : Vaddr_Size).Cols⟩ : Vaddr_Size) p1 p1).bind fun (d6 : Vaddr_Size × Int × Int × (List Int)) =>
   some (p0, d6.2.2.2))

def m_erase_Insert_1 (p0 : Int) (p1 : Vspace_Space) : Option Bool :=
  (m_space_Space_At p1 p0).bind fun (d1 : Vapi_Cell) =>
  some (d1.Char == 0)

def slices_IndexFunc_l2 (p0 : List Int) (p1 : Vspace_Space) : Nat → Int → Option ((Unit) ⊕ Int)
  | 0, _ => none
  | k2 + 1, x2 =>
    cond (decide (x2 < (p0.length : Int))) (
     gd ((0 : Int) ≤ x2 ∧ x2 < (p0.length : Int)) <|
     (m_erase_Insert_1 (rd p0 x2) p1).bind fun (d5 : Bool) =>
     cond d5 (
      esc (
       some x2)) (
      slices_IndexFunc_l2 p0 p1 k2 (w64 (x2 + 1)))) (
     some (.inl ()))

def m_slices_IndexFunc (p0 : List Int) (p1 : Vspace_Space) : Option Int :=
  jn (
   slices_IndexFunc_l2 p0 p1 fuel 0) fun (d1 : Unit) =>
  some (-1)

def erase_Insert_l7 (d3 : Vspace_Space × (List Int)) : Nat → (Int × Int × Bool × Int × Int × (List Vapi_Cell) × Int × Int) → Option (Int × Bool × Int × Int × (List Vapi_Cell) × Int × Int)
  | 0, _ => none
  | k7 + 1, x7 =>
    cond (decide (x7.1 > 0)) (
     gd ((0 : Int) ≤ x7.1 ∧ x7.1 < (d3.2.length : Int)) <|
     gd ((0 : Int) ≤ (w64 (x7.1 - 1)) ∧ (w64 (x7.1 - 1)) < (d3.2.length : Int)) <|
     (m_space_Space_At (⟨x7.2.1, x7.2.2.1, (⟨x7.2.2.2.1, x7.2.2.2.2.1⟩ : Vaddr_Size), x7.2.2.2.2.2.1, x7.2.2.2.2.2.2.1, x7.2.2.2.2.2.2.2⟩ : Vspace_Space) (rd d3.2 (w64 (x7.1 - 1)))).bind fun (d11 : Vapi_Cell) =>
     (m_space_Space_Put (⟨x7.2.1, x7.2.2.1, (⟨x7.2.2.2.1, x7.2.2.2.2.1⟩ : Vaddr_Size), x7.2.2.2.2.2.1, x7.2.2.2.2.2.2.1, x7.2.2.2.2.2.2.2⟩ : Vspace_Space) (rd d3.2 x7.1) d11.Char).bind fun (d12 : Vspace_Space) =>
     erase_Insert_l7 d3 k7 (w64 (x7.1 - 1), d12.model, d12.alternate, d12.size.Rows, d12.size.Cols, d12.cells, d12.cursor, d12.attrs)) (
     some (x7.2.1, x7.2.2.1, x7.2.2.2.1, x7.2.2.2.2.1, x7.2.2.2.2.2.1, x7.2.2.2.2.2.2.1, x7.2.2.2.2.2.2.2))

def m_erase_Insert (p0 : Vspace_Space) (p1 : Int) (p2 : Int) : Option (Vspace_Space × Bool) :=
  (m_field_Open p0 p1).bind fun (d1 : Bool) =>
  cond (!d1) (
   some (p0, false)) (
   (m_erase_round p0 p1).bind fun (d3 : Vspace_Space × (List Int)) =>
   (m_slices_IndexFunc d3.2 d3.1).bind fun (d4 : Int) =>
   cond (decide (d4 < 0)) (
    some (d3.1, false)) (
    (
     erase_Insert_l7 d3 fuel (d4, d3.1.model, d3.1.alternate, d3.1.size.Rows, d3.1.size.Cols, d3.1.cells, d3.1.cursor, d3.1.attrs)).bind fun (d6 : Int × Bool × Int × Int × (List Vapi_Cell) × Int × Int) =>
    gd ((0 : Int) ≤ 0 ∧ 0 < (d3.2.length : Int)) <|
    (m_space_Space_Put (⟨d6.1, d6.2.1, (⟨d6.2.2.1, d6.2.2.2.1⟩ : Vaddr_Size), d6.2.2.2.2.1, d6.2.2.2.2.2.1, d6.2.2.2.2.2.2⟩ : Vspace_Space) (rd d3.2 0) p2).bind fun (d14 : Vspace_Space) =>
    (m_field_Modify d14 p1).bind fun (d15 : Vspace_Space × Bool) =>
    some (d15.1, true)))

def m_attr_Field_Skipped (p0 : Vattr_Field) : Option Bool :=
  (
   cond p0.Protected (
    some p0.Numeric) (
    some false)).bind fun (d1 : Bool) =>
  some d1

def m_cursor_After (p0 : Vspace_Space) : Option Vspace_Space :=
  (m_cursor_Move p0 0 1).bind fun (d1 : Vspace_Space) =>
  (m_space_Space_Cursor d1).bind fun (d2 : Int) =>
  (m_space_Space_At d1 d2).bind fun (d3 : Vapi_Cell) =>
  (
   cond (!d3.Attr) (
    some (d1.model, d1.alternate, d1.size.Rows, d1.size.Cols, d1.cells, d1.cursor, d1.attrs)) (
    (m_attr_Of d3.FA).bind fun (d5 : Vattr_Field) =>
    (m_attr_Field_Skipped (⟨d5.Protected, d5.Numeric, d5.Display, d5.Modified⟩ : Vattr_Field)).bind fun (d6 : Bool) =>
    cond d6 (
     (m_cursor_Tab d1).bind fun (d7 : Vspace_Space) =>
     some (d7.model, d7.alternate, d7.size.Rows, d7.size.Cols, d7.cells, d7.cursor, d7.attrs)) (
     (m_cursor_Move d1 0 1).bind fun (d8 : Vspace_Space) =>
     some (d8.model, d8.alternate, d8.size.Rows, d8.size.Cols, d8.cells, d8.cursor, d8.attrs)))).bind fun (d4 : Int × Bool × Int × Int × (List Vapi_Cell) × Int × Int) =>
  some (⟨d4.1, d4.2.1, (⟨d4.2.2.1, d4.2.2.2.1⟩ : Vaddr_Size), d4.2.2.2.2.1, d4.2.2.2.2.2.1, d4.2.2.2.2.2.2⟩ : Vspace_Space)

def m_keys_Board_enter (p0 : Vkeys_Board) (p1 : Vspace_Space) (p2 : Vpage_Page) (p3 : Int) : Option (Vspace_Space × Vpage_Page × Vkeys_Board × Int) :=
  (m_space_Space_Cursor p1).bind fun (d1 : Int) =>
  (m_field_Of p1 d1).bind fun (d2 : Vattr_Field × Bool) =>
  (m_field_Open p1 d1).bind fun (d4 : Bool) =>
  jn (
   cond (!d4) (
    (m_keys_Board_refuse p0 p1 p2 2).bind fun (d6 : Vkeys_Board × Int) =>
    esc (
     some (p1, p2, (⟨d6.1.lock, d6.1.inserts, d6.1.aid⟩ : Vkeys_Board), d6.2))) (
    (
     cond d2.2 (
      cond d2.1.Numeric (
       (m_class_Numeric p2 p3).bind fun (d8 : Bool) =>
       some (!d8)) (
       some false)) (
      some false)).bind fun (d7 : Bool) =>
    cond d7 (
     (m_keys_Board_refuse (⟨p0.lock, p0.inserts, p0.aid⟩ : Vkeys_Board) p1 p2 3).bind fun (d9 : Vkeys_Board × Int) =>
     esc (
      some (p1, p2, (⟨d9.1.lock, d9.1.inserts, d9.1.aid⟩ : Vkeys_Board), d9.2))) (
     (
      cond p0.inserts (
       some (p3 != 28)) (
       some false)).bind fun (d10 : Bool) =>
     cond d10 (
      (m_erase_Insert p1 d1 p3).bind fun (d11 : Vspace_Space × Bool) =>
      cond (!d11.2) (
       (m_keys_Board_refuse (⟨p0.lock, p0.inserts, p0.aid⟩ : Vkeys_Board) d11.1 p2 4).bind fun (d12 : Vkeys_Board × Int) =>
       esc (
        some (d11.1, p2, (⟨d12.1.lock, d12.1.inserts, d12.1.aid⟩ : Vkeys_Board), d12.2))) (
       some (.inl (d11.1.model, d11.1.alternate, d11.1.size.Rows, d11.1.size.Cols, d11.1.cells, d11.1.cursor, d11.1.attrs)))) (
      some (.inl (p1.model, p1.alternate, p1.size.Rows, p1.size.Cols, p1.cells, p1.cursor, p1.attrs)))))) fun (d5 : Int × Bool × Int × Int × (List Vapi_Cell) × Int × Int) =>
  (m_space_Space_At (⟨d5.1, d5.2.1, (⟨d5.2.2.1, d5.2.2.2.1⟩ : Vaddr_Size), d5.2.2.2.2.1, d5.2.2.2.2.2.1, d5.2.2.2.2.2.2⟩ : Vspace_Space) d1).bind fun (d13 : Vapi_Cell) =>
  (m_space_Space_Set (⟨d5.1, d5.2.1, (⟨d5.2.2.1, d5.2.2.2.1⟩ : Vaddr_Size), d5.2.2.2.2.1, d5.2.2.2.2.2.1, d5.2.2.2.2.2.2⟩ : Vspace_Space) d1 (⟨p3, d13.Attr, d13.FA, d13.High, d13.Color, 0⟩ : Vapi_Cell)).bind fun (d15 : Vspace_Space) =>
  (m_field_Modify d15 d1).bind fun (d16 : Vspace_Space × Bool) =>
  (
   cond (p3 == 28) (
    (m_cursor_Tab d16.1).bind fun (d18 : Vspace_Space) =>
    some (d18.model, d18.alternate, d18.size.Rows, d18.size.Cols, d18.cells, d18.cursor, d18.attrs)) (
    (m_cursor_After d16.1).bind fun (d19 : Vspace_Space) =>
    some (d19.model, d19.alternate, d19.size.Rows, d19.size.Cols, d19.cells, d19.cursor, d19.attrs))).bind fun (d17 : Int × Bool × Int × Int × (List Vapi_Cell) × Int × Int) =>
  some ((⟨d17.1, d17.2.1, (⟨d17.2.2.1, d17.2.2.2.1⟩ : Vaddr_Size), d17.2.2.2.2.1, d17.2.2.2.2.2.1, d17.2.2.2.2.2.2⟩ : Vspace_Space), p2, (⟨p0.lock, p0.inserts, p0.aid⟩ : Vkeys_Board), 0)

def m_keys_Board_char (p0 : Vkeys_Board) (p1 : Vspace_Space) (p2 : Vpage_Page) (p3 : Int) : Option (Vspace_Space × Vpage_Page × Vkeys_Board × Int) :=
  (m_page_Page_Code p2 p3).bind fun (d1 : Int × Bool) =>
  (
   cond (!d1.2) (
    some true) (
    (m_class_Data d1.1).bind fun (d3 : Bool) =>
    some (!d3))).bind fun (d2 : Bool) =>
  cond d2 (
   some (p1, p2, (⟨p0.lock, p0.inserts, p0.aid⟩ : Vkeys_Board), 12)) (
   (m_keys_Board_enter (⟨p0.lock, p0.inserts, p0.aid⟩ : Vkeys_Board) p1 p2 d1.1).bind fun (d5 : Vspace_Space × Vpage_Page × Vkeys_Board × Int) =>
   some (d5.1, d5.2.1, d5.2.2.1, d5.2.2.2))

def m_erase_Row (p0 : Vspace_Space) (p1 : Int) : Option Unit :=
  some ()

def slices_AppendSeq_3_l9 (p1 : Vspace_Space) (d4 : Vaddr_Size) (d5 : Int) (d7 : Int) : Nat → (Int × (List Int)) → Option (((List Int)) ⊕ (List Int))
  | 0, _ => none
  | k9 + 1, x9 =>
    cond (decide (x9.1 < (w64 (d4.Cols - d7)))) (
     (
      (m_space_Space_At p1 (w64 (d5 + x9.1))).bind fun (d13 : Vapi_Cell) =>
      cond d13.Attr (
       some (true, x9.2)) (
       gd (x9.2.length + [w64 (d5 + x9.1)].length ≤ 68719476736) <|
       some (false, (x9.2 ++ [w64 (d5 + x9.1)])))).bind fun (d12 : Bool × (List Int)) =>
     cond d12.1 (
      esc (
       some d12.2)) (
      slices_AppendSeq_3_l9 p1 d4 d5 d7 k9 (w64 (x9.1 + 1), d12.2))) (
     some (.inl x9.2))

def m_slices_AppendSeq_3 (p0 : List Int) (p1 : Vspace_Space) (p2 : Int) : Option (Vspace_Space × Int × (List Int)) :=
  (
   (
    (m_space_Space_Size p1).bind fun (d4 : Vaddr_Size) =>
    (m_addr_Size_Wrap (⟨d4.Rows, d4.Cols⟩ : Vaddr_Size) p2).bind fun (d5 : Int) =>
    (m_addr_Size_Col (⟨d4.Rows, d4.Cols⟩ : Vaddr_Size) d5).bind fun (d7 : Int) =>
    jn (
     slices_AppendSeq_3_l9 p1 d4 d5 d7 fuel (0, p0)) fun (d8 : (List Int)) =>
    some d8).bind fun (d2 : (List Int)) =>
   some d2).bind fun (d1 : (List Int)) =>
  some (p1, p2, d1)

def m_slices_Collect_3 (p0 : Vspace_Space) (p1 : Int) : Option (Vspace_Space × Int × (List Int)) :=
  (m_slices_AppendSeq_3 ([] : List Int) p0 p1).bind fun (d1 : Vspace_Space × Int × (List Int)) =>
  some (d1.1, d1.2.1, d1.2.2)

def erase_Delete_l6 (d4 : Vspace_Space × Int × (List Int)) : Nat → (Int × Int × Bool × Int × Int × (List Vapi_Cell) × Int × Int) → Option (Int × Bool × Int × Int × (List Vapi_Cell) × Int × Int)
  | 0, _ => none
  | k6 + 1, x6 =>
    cond (decide (x6.1 < (d4.2.2.length : Int))) (
     gd ((0 : Int) ≤ x6.1 ∧ x6.1 < (d4.2.2.length : Int)) <|
     (
      cond (decide ((w64 (x6.1 + 1)) < (d4.2.2.length : Int))) (
       gd ((0 : Int) ≤ (w64 (x6.1 + 1)) ∧ (w64 (x6.1 + 1)) < (d4.2.2.length : Int)) <|
       (m_space_Space_At (⟨x6.2.1, x6.2.2.1, (⟨x6.2.2.2.1, x6.2.2.2.2.1⟩ : Vaddr_Size), x6.2.2.2.2.2.1, x6.2.2.2.2.2.2.1, x6.2.2.2.2.2.2.2⟩ : Vspace_Space) (rd d4.2.2 (w64 (x6.1 + 1)))).bind fun (d10 : Vapi_Cell) =>
       some d10.Char) (
       some 0)).bind fun (d9 : Int) =>
     (m_space_Space_Put (⟨x6.2.1, x6.2.2.1, (⟨x6.2.2.2.1, x6.2.2.2.2.1⟩ : Vaddr_Size), x6.2.2.2.2.2.1, x6.2.2.2.2.2.2.1, x6.2.2.2.2.2.2.2⟩ : Vspace_Space) (rd d4.2.2 x6.1) d9).bind fun (d11 : Vspace_Space) =>
     erase_Delete_l6 d4 k6 (w64 (x6.1 + 1), d11.model, d11.alternate, d11.size.Rows, d11.size.Cols, d11.cells, d11.cursor, d11.attrs)) (
     some (x6.2.1, x6.2.2.1, x6.2.2.2.1, x6.2.2.2.2.1, x6.2.2.2.2.2.1, x6.2.2.2.2.2.2.1, x6.2.2.2.2.2.2.2))

def m_erase_Delete (p0 : Vspace_Space) (p1 : Int) : Option (Vspace_Space × Bool) :=
  (m_field_Open p0 p1).bind fun (d1 : Bool) =>
  cond (!d1) (
   some (p0, false)) (
   (m_erase_Row p0 p1).bind fun (d3 : Unit) =>
   (m_slices_Collect_3 p0 p1).bind fun (d4 : Vspace_Space × Int × (List Int)) =>
   (
    erase_Delete_l6 d4 fuel (0, d4.1.model, d4.1.alternate, d4.1.size.Rows, d4.1.size.Cols, d4.1.cells, d4.1.cursor, d4.1.attrs)).bind fun (d5 : Int × Bool × Int × Int × (List Vapi_Cell) × Int × Int) =>
   (m_field_Modify (⟨d5.1, d5.2.1, (⟨d5.2.2.1, d5.2.2.2.1⟩ : Vaddr_Size), d5.2.2.2.2.1, d5.2.2.2.2.2.1, d5.2.2.2.2.2.2⟩ : Vspace_Space) p1).bind fun (d12 : Vspace_Space × Bool) =>
   some (d12.1, true))

def m_keys_Board_done (p0 : Vkeys_Board) (p1 : Vspace_Space) (p2 : Vpage_Page) (p3 : Bool) : Option (Vkeys_Board × Int) :=
  cond (!p3) (
   (m_keys_Board_refuse p0 p1 p2 2).bind fun (d2 : Vkeys_Board × Int) =>
   some ((⟨d2.1.lock, d2.1.inserts, d2.1.aid⟩ : Vkeys_Board), d2.2)) (
   some (p0, 0))

def erase_End_l5 (d3 : Vspace_Space × (List Int)) : Nat → (Int × Int × Bool × Int × Int × (List Vapi_Cell) × Int × Int) → Option (Int × Bool × Int × Int × (List Vapi_Cell) × Int × Int)
  | 0, _ => none
  | k5 + 1, x5 =>
    cond (decide (x5.1 < (d3.2.length : Int))) (
     gd ((0 : Int) ≤ x5.1 ∧ x5.1 < (d3.2.length : Int)) <|
     (m_space_Space_Put (⟨x5.2.1, x5.2.2.1, (⟨x5.2.2.2.1, x5.2.2.2.2.1⟩ : Vaddr_Size), x5.2.2.2.2.2.1, x5.2.2.2.2.2.2.1, x5.2.2.2.2.2.2.2⟩ : Vspace_Space) (rd d3.2 x5.1) 0).bind fun (d8 : Vspace_Space) =>
     erase_End_l5 d3 k5 (w64 (x5.1 + 1), d8.model, d8.alternate, d8.size.Rows, d8.size.Cols, d8.cells, d8.cursor, d8.attrs)) (
     some (x5.2.1, x5.2.2.1, x5.2.2.2.1, x5.2.2.2.2.1, x5.2.2.2.2.2.1, x5.2.2.2.2.2.2.1, x5.2.2.2.2.2.2.2))

def m_erase_End (p0 : Vspace_Space) (p1 : Int) : Option (Vspace_Space × Bool) :=
  (m_field_Open p0 p1).bind fun (d1 : Bool) =>
  cond (!d1) (
   some (p0, false)) (
   (m_erase_rest p0 p1).bind fun (d3 : Vspace_Space × (List Int)) =>
   (
    erase_End_l5 d3 fuel (0, d3.1.model, d3.1.alternate, d3.1.size.Rows, d3.1.size.Cols, d3.1.cells, d3.1.cursor, d3.1.attrs)).bind fun (d4 : Int × Bool × Int × Int × (List Vapi_Cell) × Int × Int) =>
   (m_field_Modify (⟨d4.1, d4.2.1, (⟨d4.2.2.1, d4.2.2.2.1⟩ : Vaddr_Size), d4.2.2.2.2.1, d4.2.2.2.2.2.1, d4.2.2.2.2.2.2⟩ : Vspace_Space) p1).bind fun (d9 : Vspace_Space × Bool) =>
   some ((⟨d9.1.model, d9.1.alternate, d9.1.size, d9.1.cells, d9.1.cursor, d9.1.attrs⟩ : Vspace_Space), true))

def erase_all_l4 (d2 : Int) : Nat → (Int × Int × Bool × Int × Int × (List Vapi_Cell) × Int × Int) → Option (Int × Bool × Int × Int × (List Vapi_Cell) × Int × Int)
  | 0, _ => none
  | k4 + 1, x4 =>
    cond (decide (x4.1 < d2)) (
     (m_space_Space_Put (⟨x4.2.1, x4.2.2.1, (⟨x4.2.2.2.1, x4.2.2.2.2.1⟩ : Vaddr_Size), x4.2.2.2.2.2.1, x4.2.2.2.2.2.2.1, x4.2.2.2.2.2.2.2⟩ : Vspace_Space) x4.1 0).bind fun (d7 : Vspace_Space) =>
     erase_all_l4 d2 k4 (w64 (x4.1 + 1), d7.model, d7.alternate, d7.size.Rows, d7.size.Cols, d7.cells, d7.cursor, d7.attrs)) (
     some (x4.2.1, x4.2.2.1, x4.2.2.2.1, x4.2.2.2.2.1, x4.2.2.2.2.2.1, x4.2.2.2.2.2.2.1, x4.2.2.2.2.2.2.2))

def m_erase_all (p0 : Vspace_Space) : Option Vspace_Space :=
  (m_space_Space_Size p0).bind fun (d1 : Vaddr_Size) =>
  (m_addr_Size_Cells (⟨d1.Rows, d1.Cols⟩ : Vaddr_Size)).bind fun (d2 : Int) =>
  (
   erase_all_l4 d2 fuel (0, p0.model, p0.alternate, p0.size.Rows, p0.size.Cols, p0.cells, p0.cursor, p0.attrs)).bind fun (d3 : Int × Bool × Int × Int × (List Vapi_Cell) × Int × Int) =>
  some (⟨d3.1, d3.2.1, (⟨d3.2.2.1, d3.2.2.2.1⟩ : Vaddr_Size), d3.2.2.2.2.1, d3.2.2.2.2.2.1, d3.2.2.2.2.2.2⟩ : Vspace_Space)

def m_field_Fields (p0 : Vspace_Space) : Option Unit :=
  some ()

def m_space_Space_Attrs (p0 : Vspace_Space) : Option Unit :=
  some ()

def m_space_Space_All (p0 : Vspace_Space) : Option Unit :=
  some ()

def erase_Unprotected_l42 (d36 : Vaddr_Size) : Nat → (Int × Int × Bool × Int × Int × (List Vapi_Cell) × Int × Int) → Option (Int × Bool × Int × Int × (List Vapi_Cell) × Int × Int)
  | 0, _ => none
  | k42 + 1, x42 =>
    (m_space_Space_At (⟨x42.2.1, x42.2.2.1, (⟨x42.2.2.2.1, x42.2.2.2.2.1⟩ : Vaddr_Size), x42.2.2.2.2.2.1, x42.2.2.2.2.2.2.1, x42.2.2.2.2.2.2.2⟩ : Vspace_Space) x42.1).bind fun (d43 : Vapi_Cell) =>
    cond (!d43.Attr) (
     (m_space_Space_Put (⟨x42.2.1, x42.2.2.1, (⟨x42.2.2.2.1, x42.2.2.2.2.1⟩ : Vaddr_Size), x42.2.2.2.2.2.1, x42.2.2.2.2.2.2.1, x42.2.2.2.2.2.2.2⟩ : Vspace_Space) x42.1 0).bind fun (d47 : Vspace_Space) =>
     (m_addr_Size_Wrap (⟨d36.Rows, d36.Cols⟩ : Vaddr_Size) (w64 (x42.1 + 1))).bind fun (d48 : Int) =>
     erase_Unprotected_l42 d36 k42 (d48, d47.model, d47.alternate, d47.size.Rows, d47.size.Cols, d47.cells, d47.cursor, d47.attrs)) (
     some (x42.2.1, x42.2.2.1, x42.2.2.2.1, x42.2.2.2.2.1, x42.2.2.2.2.2.1, x42.2.2.2.2.2.2.1, x42.2.2.2.2.2.2.2))

def erase_Unprotected_l20 (d18 : Int) : Nat → (Int × Int × Bool × Int × Int × (List Vapi_Cell) × Int × Int) → Option (Int × Bool × Int × Int × (List Vapi_Cell) × Int × Int)
  | 0, _ => none
  | k20 + 1, x20 =>
    cond (decide (x20.1 < d18)) (
     (m_space_Space_At (⟨x20.2.1, x20.2.2.1, (⟨x20.2.2.2.1, x20.2.2.2.2.1⟩ : Vaddr_Size), x20.2.2.2.2.2.1, x20.2.2.2.2.2.2.1, x20.2.2.2.2.2.2.2⟩ : Vspace_Space) x20.1).bind fun (d23 : Vapi_Cell) =>
     (
      cond d23.Attr (
       (m_space_Space_At (⟨x20.2.1, x20.2.2.1, (⟨x20.2.2.2.1, x20.2.2.2.2.1⟩ : Vaddr_Size), x20.2.2.2.2.2.1, x20.2.2.2.2.2.2.1, x20.2.2.2.2.2.2.2⟩ : Vspace_Space) x20.1).bind fun (d28 : Vapi_Cell) =>
       (m_attr_Of d28.FA).bind fun (d29 : Vattr_Field) =>
       (
        cond d29.Protected (
         some (x20.2.1, x20.2.2.1, x20.2.2.2.1, x20.2.2.2.2.1, x20.2.2.2.2.2.1, x20.2.2.2.2.2.2.1, x20.2.2.2.2.2.2.2)) (
         (m_field_Places (⟨x20.2.1, x20.2.2.1, (⟨x20.2.2.2.1, x20.2.2.2.2.1⟩ : Vaddr_Size), x20.2.2.2.2.2.1, x20.2.2.2.2.2.2.1, x20.2.2.2.2.2.2.2⟩ : Vspace_Space) x20.1).bind fun (d32 : Unit) =>
         (
          (
           (m_space_Space_Size (⟨x20.2.1, x20.2.2.1, (⟨x20.2.2.2.1, x20.2.2.2.2.1⟩ : Vaddr_Size), x20.2.2.2.2.2.1, x20.2.2.2.2.2.2.1, x20.2.2.2.2.2.2.2⟩ : Vspace_Space)).bind fun (d36 : Vaddr_Size) =>
           (m_addr_Size_Wrap (⟨d36.Rows, d36.Cols⟩ : Vaddr_Size) x20.1).bind fun (d37 : Int) =>
           (m_space_Space_At (⟨x20.2.1, x20.2.2.1, (⟨x20.2.2.2.1, x20.2.2.2.2.1⟩ : Vaddr_Size), x20.2.2.2.2.2.1, x20.2.2.2.2.2.2.1, x20.2.2.2.2.2.2.2⟩ : Vspace_Space) d37).bind fun (d38 : Vapi_Cell) =>
           cond (!d38.Attr) (
            some (x20.2.1, x20.2.2.1, x20.2.2.2.1, x20.2.2.2.2.1, x20.2.2.2.2.2.1, x20.2.2.2.2.2.2.1, x20.2.2.2.2.2.2.2)) (
            (m_addr_Size_Wrap (⟨d36.Rows, d36.Cols⟩ : Vaddr_Size) (w64 (d37 + 1))).bind fun (d40 : Int) =>
            (
             erase_Unprotected_l42 d36 fuel (d40, x20.2.1, x20.2.2.1, x20.2.2.2.1, x20.2.2.2.2.1, x20.2.2.2.2.2.1, x20.2.2.2.2.2.2.1, x20.2.2.2.2.2.2.2)).bind fun (d41 : Int × Bool × Int × Int × (List Vapi_Cell) × Int × Int) =>
            some (d41.1, d41.2.1, d41.2.2.1, d41.2.2.2.1, d41.2.2.2.2.1, d41.2.2.2.2.2.1, d41.2.2.2.2.2.2))).bind fun (d34 : Int × Bool × Int × Int × (List Vapi_Cell) × Int × Int) =>
          some (d34.1, d34.2.1, d34.2.2.1, d34.2.2.2.1, d34.2.2.2.2.1, d34.2.2.2.2.2.1, d34.2.2.2.2.2.2)).bind fun (d33 : Int × Bool × Int × Int × (List Vapi_Cell) × Int × Int) =>
         (m_space_Space_At (⟨d33.1, d33.2.1, (⟨d33.2.2.1, d33.2.2.2.1⟩ : Vaddr_Size), d33.2.2.2.2.1, d33.2.2.2.2.2.1, d33.2.2.2.2.2.2⟩ : Vspace_Space) x20.1).bind fun (d49 : Vapi_Cell) =>
         (m_space_Space_Set (⟨d33.1, d33.2.1, (⟨d33.2.2.1, d33.2.2.2.1⟩ : Vaddr_Size), d33.2.2.2.2.1, d33.2.2.2.2.2.1, d33.2.2.2.2.2.2⟩ : Vspace_Space) x20.1 (⟨d49.Char, d49.Attr, ibandn .u8 d49.FA 1, d49.High, d49.Color, d49.f_Set⟩ : Vapi_Cell)).bind fun (d50 : Vspace_Space) =>
         some (d50.model, d50.alternate, d50.size.Rows, d50.size.Cols, d50.cells, d50.cursor, d50.attrs))).bind fun (d30 : Int × Bool × Int × Int × (List Vapi_Cell) × Int × Int) =>
       some (d30.1, d30.2.1, d30.2.2.1, d30.2.2.2.1, d30.2.2.2.2.1, d30.2.2.2.2.2.1, d30.2.2.2.2.2.2)) (
       some (x20.2.1, x20.2.2.1, x20.2.2.2.1, x20.2.2.2.2.1, x20.2.2.2.2.2.1, x20.2.2.2.2.2.2.1, x20.2.2.2.2.2.2.2))).bind fun (d25 : Int × Bool × Int × Int × (List Vapi_Cell) × Int × Int) =>
     erase_Unprotected_l20 d18 k20 (w64 (x20.1 + 1), d25.1, d25.2.1, d25.2.2.1, d25.2.2.2.1, d25.2.2.2.2.1, d25.2.2.2.2.2.1, d25.2.2.2.2.2.2)) (
     some (x20.2.1, x20.2.2.1, x20.2.2.2.1, x20.2.2.2.2.1, x20.2.2.2.2.2.1, x20.2.2.2.2.2.2.1, x20.2.2.2.2.2.2.2))

def m_erase_Unprotected (p0 : Vspace_Space) : Option Vspace_Space :=
  (m_space_Space_Formatted p0).bind fun (d1 : Bool) =>
  cond (!d1) (
   (m_erase_all p0).bind fun (d3 : Vspace_Space) =>
   (m_space_Space_Place d3 0).bind fun (d4 : Vspace_Space) =>
   some d4) (
   (m_field_Fields p0).bind fun (d5 : Unit) =>
   (
    (
     (m_space_Space_Attrs p0).bind fun (d9 : Unit) =>
     (
      (
       (m_space_Space_All p0).bind fun (d13 : Unit) =>
       (
        (
         (m_space_Space_Size p0).bind fun (d17 : Vaddr_Size) =>
         (m_addr_Size_Cells (⟨d17.Rows, d17.Cols⟩ : Vaddr_Size)).bind fun (d18 : Int) =>
         (
          erase_Unprotected_l20 d18 fuel (0, p0.model, p0.alternate, p0.size.Rows, p0.size.Cols, p0.cells, p0.cursor, p0.attrs)).bind fun (d19 : Int × Bool × Int × Int × (List Vapi_Cell) × Int × Int) =>
         some (d19.1, d19.2.1, d19.2.2.1, d19.2.2.2.1, d19.2.2.2.2.1, d19.2.2.2.2.2.1, d19.2.2.2.2.2.2)).bind fun (d15 : Int × Bool × Int × Int × (List Vapi_Cell) × Int × Int) =>
        some (d15.1, d15.2.1, d15.2.2.1, d15.2.2.2.1, d15.2.2.2.2.1, d15.2.2.2.2.2.1, d15.2.2.2.2.2.2)).bind fun (d14 : Int × Bool × Int × Int × (List Vapi_Cell) × Int × Int) =>
       some (d14.1, d14.2.1, d14.2.2.1, d14.2.2.2.1, d14.2.2.2.2.1, d14.2.2.2.2.2.1, d14.2.2.2.2.2.2)).bind fun (d11 : Int × Bool × Int × Int × (List Vapi_Cell) × Int × Int) =>
      some (d11.1, d11.2.1, d11.2.2.1, d11.2.2.2.1, d11.2.2.2.2.1, d11.2.2.2.2.2.1, d11.2.2.2.2.2.2)).bind fun (d10 : Int × Bool × Int × Int × (List Vapi_Cell) × Int × Int) =>
     some (d10.1, d10.2.1, d10.2.2.1, d10.2.2.2.1, d10.2.2.2.2.1, d10.2.2.2.2.2.1, d10.2.2.2.2.2.2)).bind fun (d7 : Int × Bool × Int × Int × (List Vapi_Cell) × Int × Int) =>
    some (d7.1, d7.2.1, d7.2.2.1, d7.2.2.2.1, d7.2.2.2.2.1, d7.2.2.2.2.2.1, d7.2.2.2.2.2.2)).bind fun (d6 : Int × Bool × Int × Int × (List Vapi_Cell) × Int × Int) =>
   (m_field_Next (⟨d6.1, d6.2.1, (⟨d6.2.2.1, d6.2.2.2.1⟩ : Vaddr_Size), d6.2.2.2.2.1, d6.2.2.2.2.2.1, d6.2.2.2.2.2.2⟩ : Vspace_Space) (-1)).bind fun (d51 : Int) =>
   (m_space_Space_Place (⟨d6.1, d6.2.1, (⟨d6.2.2.1, d6.2.2.2.1⟩ : Vaddr_Size), d6.2.2.2.2.1, d6.2.2.2.2.2.1, d6.2.2.2.2.2.2⟩ : Vspace_Space) (imax d51 0)).bind fun (d52 : Vspace_Space) =>
   some d52)

def m_keys_Board_entered (p0 : Vkeys_Board) (p1 : Vspace_Space) (p2 : Vpage_Page) (p3 : Vkeys_Key) : Option (Vspace_Space × Vpage_Page × Vkeys_Board × Int) :=
  (m_space_Space_Cursor p1).bind fun (d1 : Int) =>
  jn (
   cond (p3.Kind == 1) (
    (m_keys_Board_char (⟨p0.lock, p0.inserts, p0.aid⟩ : Vkeys_Board) p1 p2 p3.Sign).bind fun (d4 : Vspace_Space × Vpage_Page × Vkeys_Board × Int) =>
    esc (
     some (d4.1, d4.2.1, d4.2.2.1, d4.2.2.2))) (
    cond (p3.Kind == 2) (
     (
      cond (decide (p3.N < 0)) (
       some true) (
       cond (decide (p3.N > 255)) (
        some true) (
        (m_class_Data (IntKind.wrap .u8 (p3.N))).bind fun (d6 : Bool) =>
        some (!d6)))).bind fun (d5 : Bool) =>
     cond d5 (
      esc (
       some (p1, p2, (⟨p0.lock, p0.inserts, p0.aid⟩ : Vkeys_Board), 1))) (
      (m_keys_Board_enter (⟨p0.lock, p0.inserts, p0.aid⟩ : Vkeys_Board) p1 p2 (IntKind.wrap .u8 (p3.N))).bind fun (d8 : Vspace_Space × Vpage_Page × Vkeys_Board × Int) =>
      esc (
       some ((⟨d8.1.model, d8.1.alternate, d8.1.size, d8.1.cells, d8.1.cursor, d8.1.attrs⟩ : Vspace_Space), d8.2.1, d8.2.2.1, d8.2.2.2)))) (
     cond (p3.Kind == 3) (
      (m_keys_Board_enter (⟨p0.lock, p0.inserts, p0.aid⟩ : Vkeys_Board) p1 p2 28).bind fun (d9 : Vspace_Space × Vpage_Page × Vkeys_Board × Int) =>
      esc (
       some (d9.1, d9.2.1, d9.2.2.1, d9.2.2.2))) (
      cond (p3.Kind == 4) (
       (m_keys_Board_enter (⟨p0.lock, p0.inserts, p0.aid⟩ : Vkeys_Board) p1 p2 30).bind fun (d10 : Vspace_Space × Vpage_Page × Vkeys_Board × Int) =>
       esc (
        some (d10.1, d10.2.1, d10.2.2.1, d10.2.2.2))) (
       cond (p3.Kind == 13) (
        (m_erase_Delete p1 d1).bind fun (d11 : Vspace_Space × Bool) =>
        (m_keys_Board_done p0 d11.1 p2 d11.2).bind fun (d12 : Vkeys_Board × Int) =>
        esc (
         some (d11.1, p2, d12.1, d12.2))) (
        cond (p3.Kind == 14) (
         (m_erase_End p1 d1).bind fun (d13 : Vspace_Space × Bool) =>
         (m_keys_Board_done (⟨p0.lock, p0.inserts, p0.aid⟩ : Vkeys_Board) d13.1 p2 d13.2).bind fun (d14 : Vkeys_Board × Int) =>
         esc (
          some (d13.1, p2, (⟨d14.1.lock, d14.1.inserts, d14.1.aid⟩ : Vkeys_Board), d14.2))) (
         cond (p3.Kind == 15) (
          (m_erase_Unprotected p1).bind fun (d15 : Vspace_Space) =>
          some (.inl (d15.model, d15.alternate, d15.size.Rows, d15.size.Cols, d15.cells, d15.cursor, d15.attrs, p0.inserts))) (
          cond (p3.Kind == 16) (
           some (.inl (p1.model, p1.alternate, p1.size.Rows, p1.size.Cols, p1.cells, p1.cursor, p1.attrs, (!p0.inserts)))) (
           some (.inl (p1.model, p1.alternate, p1.size.Rows, p1.size.Cols, p1.cells, p1.cursor, p1.attrs, p0.inserts))))))))))) fun (d3 : Int × Bool × Int × Int × (List Vapi_Cell) × Int × Int × Bool) =>
  some ((⟨d3.1, d3.2.1, (⟨d3.2.2.1, d3.2.2.2.1⟩ : Vaddr_Size), d3.2.2.2.2.1, d3.2.2.2.2.2.1, d3.2.2.2.2.2.2.1⟩ : Vspace_Space), p2, (⟨p0.lock, d3.2.2.2.2.2.2.2, p0.aid⟩ : Vkeys_Board), 0)

def m_keys_Board_Press (p0 : Vkeys_Board) (p1 : Vspace_Space) (p2 : Vpage_Page) (p3 : Vkeys_Key) : Option (Vspace_Space × Vpage_Page × Vkeys_Board × Bool × Int) :=
  (m_keys_AID p3).bind fun (d1 : Int × Bool) =>
  (
   cond (decide (p3.Kind < 1)) (
    some true) (
    some (decide (p3.Kind > 22)))).bind fun (d3 : Bool) =>
  cond d3 (
   some (p1, p2, (⟨p0.lock, p0.inserts, p0.aid⟩ : Vkeys_Board), false, 1)) (
   cond (p3.Kind == 17) (
    (m_keys_Board_reset p0 p1 p2).bind fun (d5 : Vkeys_Board) =>
    some (p1, p2, (⟨d5.lock, d5.inserts, d5.aid⟩ : Vkeys_Board), false, 0)) (
    cond (p0.lock != 0) (
     some (p1, p2, (⟨p0.lock, p0.inserts, p0.aid⟩ : Vkeys_Board), false, 8)) (
     cond (p3.Kind == 18) (
      (m_keys_Board_choose (⟨p0.lock, p0.inserts, p0.aid⟩ : Vkeys_Board) p1 p2).bind fun (d6 : Vspace_Space × Vpage_Page × Vkeys_Board × Bool × Int) =>
      some (d6.1, d6.2.1, d6.2.2.1, d6.2.2.2.1, d6.2.2.2.2)) (
      cond d1.2 (
       (
        cond (p3.Kind == 22) (
         (m_space_Space_Clear_2 p1 false).bind fun (d8 : Vspace_Space) =>
         some (d8.model, d8.alternate, d8.size.Rows, d8.size.Cols, d8.cells, d8.cursor, d8.attrs)) (
         some (p1.model, p1.alternate, p1.size.Rows, p1.size.Cols, p1.cells, p1.cursor, p1.attrs))).bind fun (d7 : Int × Bool × Int × Int × (List Vapi_Cell) × Int × Int) =>
       (m_keys_Board_send (⟨p0.lock, p0.inserts, p0.aid⟩ : Vkeys_Board) (⟨d7.1, d7.2.1, (⟨d7.2.2.1, d7.2.2.2.1⟩ : Vaddr_Size), d7.2.2.2.2.1, d7.2.2.2.2.2.1, d7.2.2.2.2.2.2⟩ : Vspace_Space) p2 d1.1).bind fun (d9 : Vkeys_Board) =>
       some ((⟨d7.1, d7.2.1, (⟨d7.2.2.1, d7.2.2.2.1⟩ : Vaddr_Size), d7.2.2.2.2.1, d7.2.2.2.2.2.1, d7.2.2.2.2.2.2⟩ : Vspace_Space), p2, (⟨d9.lock, d9.inserts, d9.aid⟩ : Vkeys_Board), true, 0)) (
       (
        cond (p3.Kind == 20) (
         some true) (
         some (p3.Kind == 21))).bind fun (d10 : Bool) =>
       cond d10 (
        some (p1, p2, (⟨p0.lock, p0.inserts, p0.aid⟩ : Vkeys_Board), false, 1)) (
        (m_keys_Board_move (⟨p0.lock, p0.inserts, p0.aid⟩ : Vkeys_Board) p1 p2 p3.Kind).bind fun (d11 : Vspace_Space × Vpage_Page × Vkeys_Board × Bool) =>
        cond d11.2.2.2 (
         some (d11.1, d11.2.1, d11.2.2.1, false, 0)) (
         (m_keys_Board_entered d11.2.2.1 d11.1 d11.2.1 p3).bind fun (d12 : Vspace_Space × Vpage_Page × Vkeys_Board × Int) =>
         some (d12.1, d12.2.1, d12.2.2.1, false, d12.2.2.2))))))))

def keys_Board_Type_l2 (p3 : ByteArray) : Nat → (Nat × Int × Int × Bool × Int × Int × Bool × Int × Int × (List Vapi_Cell) × Int × Int × Int) → Option ((Int × Int × Bool × Int × Int × (List Vapi_Cell) × Int × Int × Int × Int × Bool × Int) ⊕ (Vspace_Space × Vpage_Page × Vkeys_Board × Int × Int))
  | 0, _ => none
  | k2 + 1, x2 =>
    cond (decide (x2.1 < p3.size)) (
     (m_keys_Board_Press (⟨x2.2.2.1, x2.2.2.2.1, x2.2.2.2.2.1⟩ : Vkeys_Board) (⟨x2.2.2.2.2.2.1, x2.2.2.2.2.2.2.1, (⟨x2.2.2.2.2.2.2.2.1, x2.2.2.2.2.2.2.2.2.1⟩ : Vaddr_Size), x2.2.2.2.2.2.2.2.2.2.1, x2.2.2.2.2.2.2.2.2.2.2.1, x2.2.2.2.2.2.2.2.2.2.2.2.1⟩ : Vspace_Space) (⟨x2.2.2.2.2.2.2.2.2.2.2.2.2⟩ : Vpage_Page) (⟨1, rdR p3 x2.1, 0⟩ : Vkeys_Key)).bind fun (d3 : Vspace_Space × Vpage_Page × Vkeys_Board × Bool × Int) =>
     cond (d3.2.2.2.2 != 0) (
      esc (
       some (d3.1, d3.2.1, d3.2.2.1, x2.2.1, d3.2.2.2.2))) (
      keys_Board_Type_l2 p3 k2 ((x2.1 + rdW p3 x2.1), w64 (x2.2.1 + 1), d3.2.2.1.lock, d3.2.2.1.inserts, d3.2.2.1.aid, d3.1.model, d3.1.alternate, d3.1.size.Rows, d3.1.size.Cols, d3.1.cells, d3.1.cursor, d3.1.attrs, d3.2.1.number))) (
     some (.inl (x2.2.1, x2.2.2.2.2.2.1, x2.2.2.2.2.2.2.1, x2.2.2.2.2.2.2.2.1, x2.2.2.2.2.2.2.2.2.1, x2.2.2.2.2.2.2.2.2.2.1, x2.2.2.2.2.2.2.2.2.2.2.1, x2.2.2.2.2.2.2.2.2.2.2.2.1, x2.2.2.2.2.2.2.2.2.2.2.2.2, x2.2.2.1, x2.2.2.2.1, x2.2.2.2.2.1)))

def m_keys_Board_Type (p0 : Vkeys_Board) (p1 : Vspace_Space) (p2 : Vpage_Page) (p3 : ByteArray) : Option (Vspace_Space × Vpage_Page × Vkeys_Board × Int × Int) :=
  jn (
   keys_Board_Type_l2 p3 fuel (0, 0, p0.lock, p0.inserts, p0.aid, p1.model, p1.alternate, p1.size.Rows, p1.size.Cols, p1.cells, p1.cursor, p1.attrs, p2.number)) fun (d1 : Int × Int × Bool × Int × Int × (List Vapi_Cell) × Int × Int × Int × Int × Bool × Int) =>
  some ((⟨d1.2.1, d1.2.2.1, (⟨d1.2.2.2.1, d1.2.2.2.2.1⟩ : Vaddr_Size), d1.2.2.2.2.2.1, d1.2.2.2.2.2.2.1, d1.2.2.2.2.2.2.2.1⟩ : Vspace_Space), (⟨d1.2.2.2.2.2.2.2.2.1⟩ : Vpage_Page), (⟨d1.2.2.2.2.2.2.2.2.2.1, d1.2.2.2.2.2.2.2.2.2.2.1, d1.2.2.2.2.2.2.2.2.2.2.2⟩ : Vkeys_Board), d1.1, 0)

def m_keys_Board_AID (p0 : Vkeys_Board) (p1 : Vspace_Space) (p2 : Vpage_Page) : Option Int :=
  some p0.aid

def m_keys_Board_Lock (p0 : Vkeys_Board) (p1 : Vspace_Space) (p2 : Vpage_Page) : Option Int :=
  some p0.lock

def m_vitrinelaw18_awake : Option Bool :=
  (m_vitrinelaw18_lay 0 0 [(⟨3, 0, false, 0, (⟨0, false, 0, 0, 0, 0⟩ : Vapi_Cell), ([] : List Int)⟩ : Vvitrineref12_Act), (⟨1, 1, false, 0, (⟨0, false, 0, 0, 0, 0⟩ : Vapi_Cell), ([] : List Int)⟩ : Vvitrineref12_Act)]).bind fun (d2 : Vkeys_Board × Vspace_Space × Vpage_Page × Vvitrineref18_Board × Vvitrineref12_Space) =>
  (m_keys_Board_Type (⟨d2.1.lock, d2.1.inserts, d2.1.aid⟩ : Vkeys_Board) (⟨d2.2.1.model, d2.2.1.alternate, d2.2.1.size, d2.2.1.cells, d2.2.1.cursor, d2.2.1.attrs⟩ : Vspace_Space) (⟨d2.2.2.1.number⟩ : Vpage_Page) (ByteArray.mk (List.toArray [65, 98]))).bind fun (d3 : Vspace_Space × Vpage_Page × Vkeys_Board × Int × Int) =>
  (m_keys_Board_Press d3.2.2.1 d3.1 d3.2.1 (⟨19, 0, 0⟩ : Vkeys_Key)).bind fun (d4 : Vspace_Space × Vpage_Page × Vkeys_Board × Bool × Int) =>
  (
   cond (d3.2.2.2.1 == 2) (
    cond (d3.2.2.2.2 == 0) (
     (m_space_Space_At d4.1 1).bind fun (d6 : Vapi_Cell) =>
     cond (d6.Char == 193) (
      (m_space_Space_At d4.1 2).bind fun (d7 : Vapi_Cell) =>
      cond (d7.Char == 130) (
       (m_space_Space_At d4.1 0).bind fun (d8 : Vapi_Cell) =>
       cond (d8.FA == 1) (
        cond d4.2.2.2.1 (
         cond (d4.2.2.2.2 == 0) (
          (m_keys_Board_AID d4.2.2.1 d4.1 d4.2.1).bind fun (d9 : Int) =>
          cond (d9 == 125) (
           (m_keys_Board_Lock d4.2.2.1 d4.1 d4.2.1).bind fun (d10 : Int) =>
           some (d10 == 1)) (
           some false)) (
          some false)) (
         some false)) (
        some false)) (
       some false)) (
      some false)) (
     some false)) (
    some false)).bind fun (d5 : Bool) =>
  some d5

def m_vitrineref01_CutText (p0 : ByteArray) (p1 : Int) : Option ByteArray :=
  cond (decide ((p0.size : Int) > p1)) (
   gd ((0 : Int) ≤ 0 ∧ 0 ≤ p1 ∧ p1 ≤ (p0.size : Int)) <|
   some (ByteArray.extract p0 (Int.toNat 0) (Int.toNat p1))) (
   some p0)

def m_vitrineref01_others (p0 : Int) : Option (ByteArray × Bool) :=
  cond (p0 == 37) (
   some ((ByteArray.mk (List.toArray [])), true)) (
   cond (p0 == 273) (
    some ((ByteArray.mk (List.toArray [52, 51, 48, 48, 55, 98, 52, 97, 48, 48, 99, 52, 52, 102, 48, 48, 50, 49, 53, 57, 48, 48, 55, 101, 53, 97, 48, 48, 100, 99, 53, 102, 48, 48, 53, 101, 54, 51, 48, 48, 53, 98, 54, 97, 48, 48, 102, 54, 55, 99, 48, 48, 97, 55, 97, 49, 48, 48, 100, 102, 98, 48, 48, 48, 97, 50, 98, 53, 48, 48, 52, 48, 98, 97, 48, 48, 97, 99, 98, 98, 48, 48, 55, 99, 99, 48, 48, 48, 101, 52, 99, 99, 48, 48, 97, 54, 100, 48, 48, 48, 102, 99, 100, 99, 48, 48, 55, 100, 101, 48, 48, 48, 100, 54, 101, 99, 48, 48, 53, 99, 102, 99, 48, 48, 53, 100])), true)) (
    cond (p0 == 297) (
     some ((ByteArray.mk (List.toArray [52, 52, 48, 48, 52, 48, 52, 56, 48, 48, 53, 99, 52, 97, 48, 48, 98, 48, 52, 102, 48, 48, 50, 49, 53, 49, 48, 48, 55, 98, 53, 52, 48, 48, 55, 100, 53, 97, 48, 48, 97, 55, 53, 102, 48, 48, 53, 101, 54, 97, 48, 48, 102, 57, 55, 57, 48, 48, 98, 53, 55, 98, 48, 48, 97, 51, 55, 99, 48, 48, 101, 48, 57, 48, 48, 48, 53, 98, 97, 48, 48, 48, 54, 48, 97, 49, 48, 48, 97, 56, 98, 48, 48, 48, 97, 50, 98, 49, 48, 48, 50, 51, 98, 53, 48, 48, 53, 100, 98, 97, 48, 48, 97, 99, 98, 98, 48, 48, 55, 99, 98, 100, 48, 48, 55, 101, 99, 48, 48, 48, 101, 57, 100, 48, 48, 48, 101, 56, 100, 100, 48, 48, 97, 54, 101, 48, 48, 48, 101, 55])), true)) (
     cond (p0 == 500) (
      some ((ByteArray.mk (List.toArray [52, 97, 48, 48, 53, 98, 52, 102, 48, 48, 50, 49, 53, 97, 48, 48, 53, 100, 53, 102, 48, 48, 53, 101, 98, 48, 48, 48, 97, 50, 98, 97, 48, 48, 97, 99, 98, 98, 48, 48, 55, 99])), true)) (
      cond (p0 == 1047) (
       some ((ByteArray.mk (List.toArray [53, 102, 48, 48, 53, 101, 97, 100, 48, 48, 53, 98, 98, 48, 48, 48, 97, 99, 98, 97, 48, 48, 100, 100, 98, 98, 48, 48, 97, 56, 98, 100, 48, 48, 53, 100])), true)) (
       cond (p0 == 1140) (
        some ((ByteArray.mk (List.toArray [57, 102, 50, 48, 97, 99])), true)) (
        some ((ByteArray.mk (List.toArray [])), false)))))))

def vitrineref01_Num_l2 (p0 : ByteArray) : Nat → (Int × Int) → Option Int
  | 0, _ => none
  | k2 + 1, x2 =>
    cond (decide (x2.1 < (p0.size : Int))) (
     gd ((0 : Int) ≤ x2.1 ∧ x2.1 < (p0.size : Int)) <|
     gd ((0 : Int) ≤ x2.1 ∧ x2.1 < (p0.size : Int)) <|
     (
      cond (decide ((sbyte p0 x2.1) ≥ 97)) (
       gd ((0 : Int) ≤ x2.1 ∧ x2.1 < (p0.size : Int)) <|
       some (w64 ((w64 (IntKind.wrap .u8 ((sbyte p0 x2.1) - 97))) + 10))) (
       some (w64 (IntKind.wrap .u8 ((sbyte p0 x2.1) - 48))))).bind fun (d5 : Int) =>
     vitrineref01_Num_l2 p0 k2 (w64 (x2.1 + 1), w64 ((w64 (16 * x2.2)) + d5))) (
     some x2.2)

def m_vitrineref01_Num (p0 : ByteArray) : Option Int :=
  (
   vitrineref01_Num_l2 p0 fuel (0, 0)).bind fun (d1 : Int) =>
  some d1

def vitrineref01_Sign_l3 (p1 : Int) (d1 : ByteArray × Bool) : Nat → Int → Option ((Unit) ⊕ Int)
  | 0, _ => none
  | k3 + 1, x3 =>
    cond (decide (x3 < (d1.1.size : Int))) (
     gd ((0 : Int) ≤ x3 ∧ x3 ≤ (w64 (x3 + 2)) ∧ (w64 (x3 + 2)) ≤ (d1.1.size : Int)) <|
     (m_vitrineref01_Num (ByteArray.extract d1.1 (Int.toNat x3) (Int.toNat (w64 (x3 + 2))))).bind fun (d6 : Int) =>
     cond (d6 == (w64 (p1))) (
      gd ((0 : Int) ≤ (w64 (x3 + 2)) ∧ (w64 (x3 + 2)) ≤ (w64 (x3 + 6)) ∧ (w64 (x3 + 6)) ≤ (d1.1.size : Int)) <|
      (m_vitrineref01_Num (ByteArray.extract d1.1 (Int.toNat (w64 (x3 + 2))) (Int.toNat (w64 (x3 + 6))))).bind fun (d8 : Int) =>
      esc (
       some (IntKind.wrap .i32 (d8)))) (
      vitrineref01_Sign_l3 p1 d1 k3 (w64 (x3 + 6)))) (
     some (.inl ()))

def m_vitrineref01_Sign (p0 : Int) (p1 : Int) : Option Int :=
  (m_vitrineref01_others p0).bind fun (d1 : ByteArray × Bool) =>
  jn (
   vitrineref01_Sign_l3 p1 d1 fuel 0) fun (d2 : Unit) =>
  gd ((0 : Int) ≤ (w64 (4 * (w64 (p1)))) ∧ (w64 (4 * (w64 (p1)))) ≤ (w64 ((w64 (4 * (w64 (p1)))) + 4)) ∧ (w64 ((w64 (4 * (w64 (p1)))) + 4)) ≤ ((ByteArray.mk (List.toArray [48, 48, 48, 48, 48, 48, 48, 49, 48, 48, 48, 50, 48, 48, 48, 51, 48, 48, 57, 99, 48, 48, 48, 57, 48, 48, 56, 54, 48, 48, 55, 102, 48, 48, 57, 55, 48, 48, 56, 100, 48, 48, 56, 101, 48, 48, 48, 98, 48, 48, 48, 99, 48, 48, 48, 100, 48, 48, 48, 101, 48, 48, 48, 102, 48, 48, 49, 48, 48, 48, 49, 49, 48, 48, 49, 50, 48, 48, 49, 51, 48, 48, 57, 100, 48, 48, 56, 53, 48, 48, 48, 56, 48, 48, 56, 55, 48, 48, 49, 56, 48, 48, 49, 57, 48, 48, 57, 50, 48, 48, 56, 102, 48, 48, 49, 99, 48, 48, 49, 100, 48, 48, 49, 101, 48, 48, 49, 102, 48, 48, 56, 48, 48, 48, 56, 49, 48, 48, 56, 50, 48, 48, 56, 51, 48, 48, 56, 52, 48, 48, 48, 97, 48, 48, 49, 55, 48, 48, 49, 98, 48, 48, 56, 56, 48, 48, 56, 57, 48, 48, 56, 97, 48, 48, 56, 98, 48, 48, 56, 99, 48, 48, 48, 53, 48, 48, 48, 54, 48, 48, 48, 55, 48, 48, 57, 48, 48, 48, 57, 49, 48, 48, 49, 54, 48, 48, 57, 51, 48, 48, 57, 52, 48, 48, 57, 53, 48, 48, 57, 54, 48, 48, 48, 52, 48, 48, 57, 56, 48, 48, 57, 57, 48, 48, 57, 97, 48, 48, 57, 98, 48, 48, 49, 52, 48, 48, 49, 53, 48, 48, 57, 101, 48, 48, 49, 97, 48, 48, 50, 48, 48, 48, 97, 48, 48, 48, 101, 50, 48, 48, 101, 52, 48, 48, 101, 48, 48, 48, 101, 49, 48, 48, 101, 51, 48, 48, 101, 53, 48, 48, 101, 55, 48, 48, 102, 49, 48, 48, 97, 50, 48, 48, 50, 101, 48, 48, 51, 99, 48, 48, 50, 56, 48, 48, 50, 98, 48, 48, 55, 99, 48, 48, 50, 54, 48, 48, 101, 57, 48, 48, 101, 97, 48, 48, 101, 98, 48, 48, 101, 56, 48, 48, 101, 100, 48, 48, 101, 101, 48, 48, 101, 102, 48, 48, 101, 99, 48, 48, 100, 102, 48, 48, 50, 49, 48, 48, 50, 52, 48, 48, 50, 97, 48, 48, 50, 57, 48, 48, 51, 98, 48, 48, 97, 99, 48, 48, 50, 100, 48, 48, 50, 102, 48, 48, 99, 50, 48, 48, 99, 52, 48, 48, 99, 48, 48, 48, 99, 49, 48, 48, 99, 51, 48, 48, 99, 53, 48, 48, 99, 55, 48, 48, 100, 49, 48, 48, 97, 54, 48, 48, 50, 99, 48, 48, 50, 53, 48, 48, 53, 102, 48, 48, 51, 101, 48, 48, 51, 102, 48, 48, 102, 56, 48, 48, 99, 57, 48, 48, 99, 97, 48, 48, 99, 98, 48, 48, 99, 56, 48, 48, 99, 100, 48, 48, 99, 101, 48, 48, 99, 102, 48, 48, 99, 99, 48, 48, 54, 48, 48, 48, 51, 97, 48, 48, 50, 51, 48, 48, 52, 48, 48, 48, 50, 55, 48, 48, 51, 100, 48, 48, 50, 50, 48, 48, 100, 56, 48, 48, 54, 49, 48, 48, 54, 50, 48, 48, 54, 51, 48, 48, 54, 52, 48, 48, 54, 53, 48, 48, 54, 54, 48, 48, 54, 55, 48, 48, 54, 56, 48, 48, 54, 57, 48, 48, 97, 98, 48, 48, 98, 98, 48, 48, 102, 48, 48, 48, 102, 100, 48, 48, 102, 101, 48, 48, 98, 49, 48, 48, 98, 48, 48, 48, 54, 97, 48, 48, 54, 98, 48, 48, 54, 99, 48, 48, 54, 100, 48, 48, 54, 101, 48, 48, 54, 102, 48, 48, 55, 48, 48, 48, 55, 49, 48, 48, 55, 50, 48, 48, 97, 97, 48, 48, 98, 97, 48, 48, 101, 54, 48, 48, 98, 56, 48, 48, 99, 54, 48, 48, 97, 52, 48, 48, 98, 53, 48, 48, 55, 101, 48, 48, 55, 51, 48, 48, 55, 52, 48, 48, 55, 53, 48, 48, 55, 54, 48, 48, 55, 55, 48, 48, 55, 56, 48, 48, 55, 57, 48, 48, 55, 97, 48, 48, 97, 49, 48, 48, 98, 102, 48, 48, 100, 48, 48, 48, 100, 100, 48, 48, 100, 101, 48, 48, 97, 101, 48, 48, 53, 101, 48, 48, 97, 51, 48, 48, 97, 53, 48, 48, 98, 55, 48, 48, 97, 57, 48, 48, 97, 55, 48, 48, 98, 54, 48, 48, 98, 99, 48, 48, 98, 100, 48, 48, 98, 101, 48, 48, 53, 98, 48, 48, 53, 100, 48, 48, 97, 102, 48, 48, 97, 56, 48, 48, 98, 52, 48, 48, 100, 55, 48, 48, 55, 98, 48, 48, 52, 49, 48, 48, 52, 50, 48, 48, 52, 51, 48, 48, 52, 52, 48, 48, 52, 53, 48, 48, 52, 54, 48, 48, 52, 55, 48, 48, 52, 56, 48, 48, 52, 57, 48, 48, 97, 100, 48, 48, 102, 52, 48, 48, 102, 54, 48, 48, 102, 50, 48, 48, 102, 51, 48, 48, 102, 53, 48, 48, 55, 100, 48, 48, 52, 97, 48, 48, 52, 98, 48, 48, 52, 99, 48, 48, 52, 100, 48, 48, 52, 101, 48, 48, 52, 102, 48, 48, 53, 48, 48, 48, 53, 49, 48, 48, 53, 50, 48, 48, 98, 57, 48, 48, 102, 98, 48, 48, 102, 99, 48, 48, 102, 57, 48, 48, 102, 97, 48, 48, 102, 102, 48, 48, 53, 99, 48, 48, 102, 55, 48, 48, 53, 51, 48, 48, 53, 52, 48, 48, 53, 53, 48, 48, 53, 54, 48, 48, 53, 55, 48, 48, 53, 56, 48, 48, 53, 57, 48, 48, 53, 97, 48, 48, 98, 50, 48, 48, 100, 52, 48, 48, 100, 54, 48, 48, 100, 50, 48, 48, 100, 51, 48, 48, 100, 53, 48, 48, 51, 48, 48, 48, 51, 49, 48, 48, 51, 50, 48, 48, 51, 51, 48, 48, 51, 52, 48, 48, 51, 53, 48, 48, 51, 54, 48, 48, 51, 55, 48, 48, 51, 56, 48, 48, 51, 57, 48, 48, 98, 51, 48, 48, 100, 98, 48, 48, 100, 99, 48, 48, 100, 57, 48, 48, 100, 97, 48, 48, 57, 102])).size : Int)) <|
  (m_vitrineref01_Num (ByteArray.extract (ByteArray.mk (List.toArray [48, 48, 48, 48, 48, 48, 48, 49, 48, 48, 48, 50, 48, 48, 48, 51, 48, 48, 57, 99, 48, 48, 48, 57, 48, 48, 56, 54, 48, 48, 55, 102, 48, 48, 57, 55, 48, 48, 56, 100, 48, 48, 56, 101, 48, 48, 48, 98, 48, 48, 48, 99, 48, 48, 48, 100, 48, 48, 48, 101, 48, 48, 48, 102, 48, 48, 49, 48, 48, 48, 49, 49, 48, 48, 49, 50, 48, 48, 49, 51, 48, 48, 57, 100, 48, 48, 56, 53, 48, 48, 48, 56, 48, 48, 56, 55, 48, 48, 49, 56, 48, 48, 49, 57, 48, 48, 57, 50, 48, 48, 56, 102, 48, 48, 49, 99, 48, 48, 49, 100, 48, 48, 49, 101, 48, 48, 49, 102, 48, 48, 56, 48, 48, 48, 56, 49, 48, 48, 56, 50, 48, 48, 56, 51, 48, 48, 56, 52, 48, 48, 48, 97, 48, 48, 49, 55, 48, 48, 49, 98, 48, 48, 56, 56, 48, 48, 56, 57, 48, 48, 56, 97, 48, 48, 56, 98, 48, 48, 56, 99, 48, 48, 48, 53, 48, 48, 48, 54, 48, 48, 48, 55, 48, 48, 57, 48, 48, 48, 57, 49, 48, 48, 49, 54, 48, 48, 57, 51, 48, 48, 57, 52, 48, 48, 57, 53, 48, 48, 57, 54, 48, 48, 48, 52, 48, 48, 57, 56, 48, 48, 57, 57, 48, 48, 57, 97, 48, 48, 57, 98, 48, 48, 49, 52, 48, 48, 49, 53, 48, 48, 57, 101, 48, 48, 49, 97, 48, 48, 50, 48, 48, 48, 97, 48, 48, 48, 101, 50, 48, 48, 101, 52, 48, 48, 101, 48, 48, 48, 101, 49, 48, 48, 101, 51, 48, 48, 101, 53, 48, 48, 101, 55, 48, 48, 102, 49, 48, 48, 97, 50, 48, 48, 50, 101, 48, 48, 51, 99, 48, 48, 50, 56, 48, 48, 50, 98, 48, 48, 55, 99, 48, 48, 50, 54, 48, 48, 101, 57, 48, 48, 101, 97, 48, 48, 101, 98, 48, 48, 101, 56, 48, 48, 101, 100, 48, 48, 101, 101, 48, 48, 101, 102, 48, 48, 101, 99, 48, 48, 100, 102, 48, 48, 50, 49, 48, 48, 50, 52, 48, 48, 50, 97, 48, 48, 50, 57, 48, 48, 51, 98, 48, 48, 97, 99, 48, 48, 50, 100, 48, 48, 50, 102, 48, 48, 99, 50, 48, 48, 99, 52, 48, 48, 99, 48, 48, 48, 99, 49, 48, 48, 99, 51, 48, 48, 99, 53, 48, 48, 99, 55, 48, 48, 100, 49, 48, 48, 97, 54, 48, 48, 50, 99, 48, 48, 50, 53, 48, 48, 53, 102, 48, 48, 51, 101, 48, 48, 51, 102, 48, 48, 102, 56, 48, 48, 99, 57, 48, 48, 99, 97, 48, 48, 99, 98, 48, 48, 99, 56, 48, 48, 99, 100, 48, 48, 99, 101, 48, 48, 99, 102, 48, 48, 99, 99, 48, 48, 54, 48, 48, 48, 51, 97, 48, 48, 50, 51, 48, 48, 52, 48, 48, 48, 50, 55, 48, 48, 51, 100, 48, 48, 50, 50, 48, 48, 100, 56, 48, 48, 54, 49, 48, 48, 54, 50, 48, 48, 54, 51, 48, 48, 54, 52, 48, 48, 54, 53, 48, 48, 54, 54, 48, 48, 54, 55, 48, 48, 54, 56, 48, 48, 54, 57, 48, 48, 97, 98, 48, 48, 98, 98, 48, 48, 102, 48, 48, 48, 102, 100, 48, 48, 102, 101, 48, 48, 98, 49, 48, 48, 98, 48, 48, 48, 54, 97, 48, 48, 54, 98, 48, 48, 54, 99, 48, 48, 54, 100, 48, 48, 54, 101, 48, 48, 54, 102, 48, 48, 55, 48, 48, 48, 55, 49, 48, 48, 55, 50, 48, 48, 97, 97, 48, 48, 98, 97, 48, 48, 101, 54, 48, 48, 98, 56, 48, 48, 99, 54, 48, 48, 97, 52, 48, 48, 98, 53, 48, 48, 55, 101, 48, 48, 55, 51, 48, 48, 55, 52, 48, 48, 55, 53, 48, 48, 55, 54, 48, 48, 55, 55, 48, 48, 55, 56, 48, 48, 55, 57, 48, 48, 55, 97, 48, 48, 97, 49, 48, 48, 98, 102, 48, 48, 100, 48, 48, 48, 100, 100, 48, 48, 100, 101, 48, 48, 97, 101, 48, 48, 53, 101, 48, 48, 97, 51, 48, 48, 97, 53, 48, 48, 98, 55, 48, 48, 97, 57, 48, 48, 97, 55, 48, 48, 98, 54, 48, 48, 98, 99, 48, 48, 98, 100, 48, 48, 98, 101, 48, 48, 53, 98, 48, 48, 53, 100, 48, 48, 97, 102, 48, 48, 97, 56, 48, 48, 98, 52, 48, 48, 100, 55, 48, 48, 55, 98, 48, 48, 52, 49, 48, 48, 52, 50, 48, 48, 52, 51, 48, 48, 52, 52, 48, 48, 52, 53, 48, 48, 52, 54, 48, 48, 52, 55, 48, 48, 52, 56, 48, 48, 52, 57, 48, 48, 97, 100, 48, 48, 102, 52, 48, 48, 102, 54, 48, 48, 102, 50, 48, 48, 102, 51, 48, 48, 102, 53, 48, 48, 55, 100, 48, 48, 52, 97, 48, 48, 52, 98, 48, 48, 52, 99, 48, 48, 52, 100, 48, 48, 52, 101, 48, 48, 52, 102, 48, 48, 53, 48, 48, 48, 53, 49, 48, 48, 53, 50, 48, 48, 98, 57, 48, 48, 102, 98, 48, 48, 102, 99, 48, 48, 102, 57, 48, 48, 102, 97, 48, 48, 102, 102, 48, 48, 53, 99, 48, 48, 102, 55, 48, 48, 53, 51, 48, 48, 53, 52, 48, 48, 53, 53, 48, 48, 53, 54, 48, 48, 53, 55, 48, 48, 53, 56, 48, 48, 53, 57, 48, 48, 53, 97, 48, 48, 98, 50, 48, 48, 100, 52, 48, 48, 100, 54, 48, 48, 100, 50, 48, 48, 100, 51, 48, 48, 100, 53, 48, 48, 51, 48, 48, 48, 51, 49, 48, 48, 51, 50, 48, 48, 51, 51, 48, 48, 51, 52, 48, 48, 51, 53, 48, 48, 51, 54, 48, 48, 51, 55, 48, 48, 51, 56, 48, 48, 51, 57, 48, 48, 98, 51, 48, 48, 100, 98, 48, 48, 100, 99, 48, 48, 100, 57, 48, 48, 100, 97, 48, 48, 57, 102])) (Int.toNat (w64 (4 * (w64 (p1))))) (Int.toNat (w64 ((w64 (4 * (w64 (p1)))) + 4))))).bind fun (d9 : Int) =>
  some (IntKind.wrap .i32 (d9))

def vitrineref01_Code_l2 (p0 : Int) (p1 : Int) : Nat → Int → Option ((Unit) ⊕ Int)
  | 0, _ => none
  | k2 + 1, x2 =>
    cond (decide (x2 < 256)) (
     (m_vitrineref01_Sign p0 (IntKind.wrap .u8 (x2))).bind fun (d5 : Int) =>
     cond (d5 == p1) (
      esc (
       some x2)) (
      vitrineref01_Code_l2 p0 p1 k2 (w64 (x2 + 1)))) (
     some (.inl ()))

def m_vitrineref01_Code (p0 : Int) (p1 : Int) : Option Int :=
  jn (
   vitrineref01_Code_l2 p0 p1 fuel 0) fun (d1 : Unit) =>
  some (-1)

def vitrinelaw18_KeysType_l12 (d3 : Int) (d6 : Vkeys_Board × Vspace_Space × Vpage_Page × Vvitrineref18_Board × Vvitrineref12_Space) (d7 : ByteArray) : Nat → (Nat × Int × (List Int)) → Option (List Int)
  | 0, _ => none
  | k12 + 1, x12 =>
    cond (decide (x12.1 < d7.size)) (
     (m_vitrineref01_Code d6.2.2.2.1.Page (rdR d7 x12.1)).bind fun (d13 : Int) =>
     (
      cond (decide (d13 < 64)) (
       some (x12.2.1 == 0)) (
       cond (decide (d13 > 254)) (
        some (x12.2.1 == 0)) (
        some false))).bind fun (d14 : Bool) =>
     (
      cond d14 (
       some 12) (
       some x12.2.1)).bind fun (d15 : Int) =>
     (
      cond (d15 != 0) (
       some true) (
       some (decide ((x12.2.2.length : Int) ≥ d3)))).bind fun (d16 : Bool) =>
     cond d16 (
      some x12.2.2) (
      gd (x12.2.2.length + [IntKind.wrap .u8 (d13)].length ≤ 68719476736) <|
      vitrinelaw18_KeysType_l12 d3 d6 d7 k12 ((x12.1 + rdW d7 x12.1), d15, (x12.2.2 ++ [IntKind.wrap .u8 (d13)])))) (
     some x12.2.2)

def vitrinelaw18_KeysType_l21 (d3 : Int) (d10 : Vspace_Space × Vpage_Page × Vkeys_Board × Int × Int) (d11 : (List Int)) : Nat → Int → Option ((Unit) ⊕ Bool)
  | 0, _ => none
  | k21 + 1, x21 =>
    cond (decide (x21 < (imin d10.2.2.2.1 d3))) (
     (
      cond (decide (d10.2.2.2.1 ≤ d3)) (
       gd ((0 : Int) ≤ x21 ∧ x21 < (d11.length : Int)) <|
       (m_space_Space_At d10.1 (w64 (1 + x21))).bind fun (d25 : Vapi_Cell) =>
       some (d25.Char != (rd d11 x21))) (
       some false)).bind fun (d24 : Bool) =>
     cond d24 (
      esc (
       some false)) (
      (some (w64 (x21 + 1))).bind fun (d27 : Int) =>
      vitrinelaw18_KeysType_l21 d3 d10 d11 k21 d27)) (
     some (.inl ()))

def m_vitrinelaw18_KeysType (p0 : Int) (p1 : ByteArray) (p2 : Int) (p3 : Bool) : Option Bool :=
  (m_vitrinelaw18_awake).bind fun (d1 : Bool) =>
  cond (!d1) (
   some false) (
   (some (w64 (1 + (w64 (Int.tmod p2 20))))).bind fun (d3 : Int) =>
   (some (w64 (1 + d3))).bind fun (d5 : Int) =>
   (m_vitrinelaw18_lay 0 p0 [(⟨3, 0, false, 0, (⟨0, false, 0, 0, 0, 0⟩ : Vapi_Cell), ([] : List Int)⟩ : Vvitrineref12_Act), (⟨3, d5, false, 48, (⟨0, false, 0, 0, 0, 0⟩ : Vapi_Cell), ([] : List Int)⟩ : Vvitrineref12_Act), (⟨1, 1, false, 0, (⟨0, false, 0, 0, 0, 0⟩ : Vapi_Cell), ([] : List Int)⟩ : Vvitrineref12_Act)]).bind fun (d6 : Vkeys_Board × Vspace_Space × Vpage_Page × Vvitrineref18_Board × Vvitrineref12_Space) =>
   (m_vitrineref01_CutText p1 60).bind fun (d7 : ByteArray) =>
   (
    cond p3 (
     (m_keys_Board_Press (⟨d6.1.lock, d6.1.inserts, d6.1.aid⟩ : Vkeys_Board) (⟨d6.2.1.model, d6.2.1.alternate, d6.2.1.size, d6.2.1.cells, d6.2.1.cursor, d6.2.1.attrs⟩ : Vspace_Space) (⟨d6.2.2.1.number⟩ : Vpage_Page) (⟨16, 0, 0⟩ : Vkeys_Key)).bind fun (d9 : Vspace_Space × Vpage_Page × Vkeys_Board × Bool × Int) =>
     some (d9.1.model, d9.1.alternate, d9.1.size.Rows, d9.1.size.Cols, d9.1.cells, d9.1.cursor, d9.1.attrs, d9.2.2.1.lock, d9.2.2.1.inserts, d9.2.2.1.aid, d9.2.1.number)) (
     some (d6.2.1.model, d6.2.1.alternate, d6.2.1.size.Rows, d6.2.1.size.Cols, d6.2.1.cells, d6.2.1.cursor, d6.2.1.attrs, d6.1.lock, d6.1.inserts, d6.1.aid, d6.2.2.1.number))).bind fun (d8 : Int × Bool × Int × Int × (List Vapi_Cell) × Int × Int × Int × Bool × Int × Int) =>
   (m_keys_Board_Type (⟨d8.2.2.2.2.2.2.2.1, d8.2.2.2.2.2.2.2.2.1, d8.2.2.2.2.2.2.2.2.2.1⟩ : Vkeys_Board) (⟨d8.1, d8.2.1, (⟨d8.2.2.1, d8.2.2.2.1⟩ : Vaddr_Size), d8.2.2.2.2.1, d8.2.2.2.2.2.1, d8.2.2.2.2.2.2.1⟩ : Vspace_Space) (⟨d8.2.2.2.2.2.2.2.2.2.2⟩ : Vpage_Page) d7).bind fun (d10 : Vspace_Space × Vpage_Page × Vkeys_Board × Int × Int) =>
   (
    vitrinelaw18_KeysType_l12 d3 d6 d7 fuel (0, 0, ([] : List Int))).bind fun (d11 : (List Int)) =>
   (
    cond (d10.2.2.2.2 == 0) (
     cond (d10.2.2.2.1 != (d11.length : Int)) (
      some (decide (d10.2.2.2.1 < d3))) (
      some false)) (
     some false)).bind fun (d18 : Bool) =>
   cond d18 (
    some false) (
    jn (
     vitrinelaw18_KeysType_l21 d3 d10 d11 fuel 0) fun (d20 : Unit) =>
    (
     cond (decide (d10.2.2.2.1 ≤ d3)) (
      some true) (
      (m_space_Space_At d10.1 0).bind fun (d29 : Vapi_Cell) =>
      some (d29.FA == 1))).bind fun (d28 : Bool) =>
    some d28))

def m_vitrineref18_at (p0 : Int) : Option Int :=
  gd ((0 : Int) ≤ (w64 (2 * p0)) ∧ (w64 (2 * p0)) ≤ (w64 ((w64 (2 * p0)) + 2)) ∧ (w64 ((w64 (2 * p0)) + 2)) ≤ ((ByteArray.mk (List.toArray [102, 49, 102, 50, 102, 51, 102, 52, 102, 53, 102, 54, 102, 55, 102, 56, 102, 57, 55, 97, 55, 98, 55, 99, 99, 49, 99, 50, 99, 51, 99, 52, 99, 53, 99, 54, 99, 55, 99, 56, 99, 57, 52, 97, 52, 98, 52, 99, 54, 99, 54, 101, 54, 98])).size : Int)) <|
  (m_vitrineref01_Num (ByteArray.extract (ByteArray.mk (List.toArray [102, 49, 102, 50, 102, 51, 102, 52, 102, 53, 102, 54, 102, 55, 102, 56, 102, 57, 55, 97, 55, 98, 55, 99, 99, 49, 99, 50, 99, 51, 99, 52, 99, 53, 99, 54, 99, 55, 99, 56, 99, 57, 52, 97, 52, 98, 52, 99, 54, 99, 54, 101, 54, 98])) (Int.toNat (w64 (2 * p0))) (Int.toNat (w64 ((w64 (2 * p0)) + 2))))).bind fun (d1 : Int) =>
  some (IntKind.wrap .u8 (d1))

def m_vitrineref18_AID (p0 : Vvitrineref18_Key) : Option Int :=
  jn (
   cond (p0.Kind == 19) (
    esc (
     some 125)) (
    cond (p0.Kind == 22) (
     esc (
      some 109)) (
     cond (p0.Kind == 20) (
      (
       cond (decide (p0.N ≥ 1)) (
        some (decide (p0.N ≤ 24))) (
        some false)).bind fun (d3 : Bool) =>
      cond d3 (
       (m_vitrineref18_at (w64 (p0.N - 1))).bind fun (d4 : Int) =>
       esc (
        some d4)) (
       some (.inl ()))) (
      cond (p0.Kind == 21) (
       (
        cond (decide (p0.N ≥ 1)) (
         some (decide (p0.N ≤ 3))) (
         some false)).bind fun (d5 : Bool) =>
       cond d5 (
        (m_vitrineref18_at (w64 (23 + p0.N))).bind fun (d6 : Int) =>
        esc (
         some d6)) (
        some (.inl ()))) (
       some (.inl ())))))) fun (d2 : Unit) =>
  some 0

end Go.Vt
