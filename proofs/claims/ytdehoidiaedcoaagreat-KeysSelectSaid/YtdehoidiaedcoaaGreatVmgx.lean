/- Lemmas. No conditions. -/
import Derived.Test.YtdehoidiaedcoaaGreatVmfx
set_option linter.unusedVariables false
set_option linter.unusedSimpArgs false
set_option linter.unusedVariables false
set_option linter.unusedSimpArgs false
set_option maxRecDepth 100000
namespace Go.Vt
def fnA : List Int := [241, 242, 243, 244, 245, 246, 247, 248, 249, 122, 123, 124, 193, 194, 195, 196, 197, 198, 199, 200, 201, 74, 75, 76]
def paA : List Int := [108, 110, 107]
def cV (k : co) : Bool := k.Kind == 19 || k.Kind == 22 || (k.Kind == 20 && (decide (1 ≤ k.N) && decide (k.N ≤ 24))) || (k.Kind == 21 && (decide (1 ≤ k.N) && decide (k.N ≤ 3)))
def qV (k : co) : Int := if k.Kind = 19 then 125 else if k.Kind = 22 then 109 else if k.Kind = 20 then rd fnA (k.N - 1) else rd paA (k.N - 1)
theorem aid20 : ∀ i : Fin 24, ga ⟨20, 0, (i.val : Int) + 1⟩ = some (rd fnA (i.val : Int), true) ∧ cI ⟨20, 0, (i.val : Int) + 1⟩ = some (rd fnA (i.val : Int)) ∧ rd fnA (i.val : Int) ≠ 0 := by decide +kernel
theorem aid21 : ∀ i : Fin 3, ga ⟨21, 0, (i.val : Int) + 1⟩ = some (rd paA (i.val : Int), true) ∧ cI ⟨21, 0, (i.val : Int) + 1⟩ = some (rd paA (i.val : Int)) ∧ rd paA (i.val : Int) ≠ 0 := by decide +kernel
/-- both keys' AIDs -/
theorem rK (k : co) : ga k = some (if cV k then (qV k, true) else (0, false)) ∧ cI ⟨k.Kind, k.Sign, k.N⟩ = some (if cV k then qV k else 0) ∧ (cV k = true → qV k ≠ 0) := by
 obtain ⟨kind, sg, N⟩ := k
 by_cases h19 : kind = 19
 ·subst h19; exact ⟨rfl, rfl, fun _ => by simp [qV]⟩
 by_cases h22 : kind = 22
 ·subst h22; exact ⟨rfl, rfl, fun _ => by simp [qV]⟩
 by_cases h20 : kind = 20
 ·subst h20
  by_cases hN : 1 ≤ N ∧ N ≤ 24
  ·obtain ⟨g1, g2, g3⟩ := aid20 ⟨(N - 1).toNat, by omega⟩
   have e : (((N - 1).toNat : Nat) : Int) = N - 1 := by omega
   simp only [e, Int.sub_add_cancel] at g1 g2 g3
   have hs : cV ⟨20, sg, N⟩ = true := by unfold cV; simp [hN]
   have ha : qV ⟨20, sg, N⟩ = rd fnA (N - 1) := rfl
   rw [if_pos hs, if_pos hs, ha]; exact ⟨g1, g2, fun _ => g3⟩
  ·have hs : cV ⟨20, sg, N⟩ = false := by
    unfold cV; simp only [Int.reduceBEq, Bool.false_or, Bool.true_and, Bool.false_and, Bool.or_false]
    by_cases h1 : 1 ≤ N
    ·rw [decide_eq_true h1, decide_eq_false (fun h2 => hN ⟨h1, h2⟩)]; rfl
    ·rw [decide_eq_false h1]; rfl
   have hq : ((cond (decide (N ≥ 1)) (some (decide (N ≤ 24))) (some false)) : Option Bool) = some false := by
    by_cases h1 : N ≥ 1
    ·rw [decide_eq_true h1, decide_eq_false (fun h2 => hN ⟨h1, h2⟩)]; rfl
    ·rw [decide_eq_false h1]; rfl
   rw [hs]
   refine ⟨?_, ?_, fun e => by cases e⟩
   ·unfold ga; simp only [Int.reduceBEq, cond_true, cond_false, hq, Option.bind_some, Bool.false_eq_true, if_false]
   ·unfold cI; simp only [Int.reduceBEq, cond_true, cond_false, hq, Option.bind_some, Bool.false_eq_true, if_false, jn]
 by_cases h21 : kind = 21
 ·subst h21
  by_cases hN : 1 ≤ N ∧ N ≤ 3
  ·obtain ⟨g1, g2, g3⟩ := aid21 ⟨(N - 1).toNat, by omega⟩
   have e : (((N - 1).toNat : Nat) : Int) = N - 1 := by omega
   simp only [e, Int.sub_add_cancel] at g1 g2 g3
   have hs : cV ⟨21, sg, N⟩ = true := by unfold cV; simp [hN]
   have ha : qV ⟨21, sg, N⟩ = rd paA (N - 1) := rfl
   rw [if_pos hs, if_pos hs, ha]; exact ⟨g1, g2, fun _ => g3⟩
  ·have hs : cV ⟨21, sg, N⟩ = false := by
    unfold cV; simp only [Int.reduceBEq, Bool.false_or, Bool.true_and, Bool.false_and, Bool.or_false]
    by_cases h1 : 1 ≤ N
    ·rw [decide_eq_true h1, decide_eq_false (fun h2 => hN ⟨h1, h2⟩)]; rfl
    ·rw [decide_eq_false h1]; rfl
   have hq : ((cond (decide (N ≥ 1)) (some (decide (N ≤ 3))) (some false)) : Option Bool) = some false := by
    by_cases h1 : N ≥ 1
    ·rw [decide_eq_true h1, decide_eq_false (fun h2 => hN ⟨h1, h2⟩)]; rfl
    ·rw [decide_eq_false h1]; rfl
   rw [hs]
   refine ⟨?_, ?_, fun e => by cases e⟩
   ·unfold ga; simp only [Int.reduceBEq, cond_true, cond_false, hq, Option.bind_some, Bool.false_eq_true, if_false]
   ·unfold cI; simp only [Int.reduceBEq, cond_true, cond_false, hq, Option.bind_some, Bool.false_eq_true, if_false, jn]
 have hs : cV ⟨kind, sg, N⟩ = false := by unfold cV; simp [h19, h20, h21, h22]
 rw [hs]
 refine ⟨?_, ?_, fun e => by cases e⟩
 ·unfold ga; simp only [cQ h19, cQ h20, cQ h21, cQ h22, cond_false, Option.bind_some, Bool.false_eq_true, if_false]
 ·unfold cI; simp only [cQ h19, cQ h20, cQ h21, cQ h22, cond_false, Option.bind_some, Bool.false_eq_true, if_false, jn]
/-- where a key takes the cursor -/
def oH (x : aa) (kind : Int) : Int :=
 let k := x.Cursor.toNat; let rn := x.Size.Rows.toNat; let cn := x.Size.Cols.toNat
 if kind = 5 then ki x.L k else if kind = 6 then oS x.L k else if kind = 7 then iQ x.L (atI rn cn (k / cn + 1) 0) else if kind = 8 then iQ x.L 0
 else if kind = 9 then ((mvI rn cn k (rn - 1) 0 : Nat) : Int) else if kind = 10 then ((mvI rn cn k 1 0 : Nat) : Int) else if kind = 11 then ((mvI rn cn k 0 (x.L.length - 1) : Nat) : Int) else ((mvI rn cn k 0 1 : Nat) : Int)
def jy (n : Int) (B : ai) (x : aa) (k : co) : aa × ai × Int :=
 if k.Kind = 1 then (if cdI n k.Sign < 0 ∨ jB (cdI n k.Sign) = false then (x, B, 12) else gi n B x (cdI n k.Sign))
 else if k.Kind = 2 then (if k.N < 64 ∨ k.N > 254 then (x, B, 1) else gi n B x k.N)
 else if k.Kind = 3 then gi n B x 28
 else if k.Kind = 4 then gi n B x 30
 else if k.Kind = 13 then (if fj x.L x.Cursor.toNat then (wL x (delI x.L x.Size.Cols.toNat x.Cursor.toNat), B, 0) else (x, { B with lock := 2 }, 13))
 else if k.Kind = 14 then (if fj x.L x.Cursor.toNat then (wL x (endI x.L x.Cursor.toNat), B, 0) else (x, { B with lock := 2 }, 13))
 else if k.Kind = 15 then (rC (wL x (iI x.L)) (ki (iI x.L) (x.L.length - 1)), B, 0)
 else (x, { B with inserts := !B.inserts }, 0)
/-- a key pressed: the screen, the board, whether it was sent, an error -/
def gV (n : Int) (B : ai) (x : aa) (k : co) : aa × ai × Bool × Int :=
 if k.Kind < 1 ∨ k.Kind > 22 then (x, B, false, 1)
 else if k.Kind = 17 then (x, ⟨if B.lock = 1 then 1 else 0, false, B.aid⟩, false, 0)
 else if B.lock ≠ 0 then (x, B, false, 8)
 else if k.Kind = 18 then dW n B x
 else if cV k = true then (if k.Kind = 22 then clr x.Model false else x, ⟨1, false, qV k⟩, true, 0)
 else if k.Kind = 20 ∨ k.Kind = 21 then (x, B, false, 1)
 else if 5 ≤ k.Kind ∧ k.Kind ≤ 12 then (rC x (oH x k.Kind), B, false, 0)
 else ((jy n B x k).1, (jy n B x k).2.1, false, (jy n B x k).2.2)
theorem pmovek {m n : Int} {N : Nat} {x : aa} (h : RS m N x) (B : ai) (kind : Int) : eF B (prog x) ⟨n⟩ kind = some (if 5 ≤ kind ∧ kind ≤ 12 then (prog (rC x (oH x kind)), ⟨n⟩, B, true) else (prog x, ⟨n⟩, B, false)) := by
 obtain ⟨hk, hkN⟩ := h.n
 have hl := h.len
 have hle := h.dim.dim.le
 have hS := h.lk.ss
 obtain ⟨rn, cn, r1, r2, r3, b1, b2, b3, b4⟩ := h.dim.dim.cn
 have e1 : x.Size.Rows.toNat = rn := by rw [r1]; rfl
 have e2 : x.Size.Cols.toNat = cn := by rw [r2]; rfl
 have hcur : (prog x).cursor = x.Cursor := rfl
 have z0 : (0 : Int) % (rn : Int) = ((0 : Nat) : Int) := Int.zero_emod _
 have z0' : (0 : Int) % (N : Int) = ((0 : Nat) : Int) := Int.zero_emod _
 have z1 : (1 : Int) % (rn : Int) = ((1 : Nat) : Int) := aQ (k := 1) (by omega)
 have z1' : (1 : Int) % (N : Int) = ((1 : Nat) : Int) := aQ (k := 1) (by omega)
 have zm : (-1 : Int) % (rn : Int) = ((rn - 1 : Nat) : Int) := by rw [show (-1 : Int) = ((rn - 1 : Nat) : Int) - rn by omega, Int.sub_emod_right, aQ (by omega)]
 have zm' : (-1 : Int) % (N : Int) = ((N - 1 : Nat) : Int) := by rw [show (-1 : Int) = ((N - 1 : Nat) : Int) - N by omega, Int.sub_emod_right, aQ (by omega)]
 by_cases hr : 5 ≤ kind ∧ kind ≤ 12
 ·rw [if_pos hr]; unfold eF oH; simp only [e1, e2, hl]
  generalize hkk : x.Cursor.toNat = k at hk hkN
  have hc : kind = 5 ∨ kind = 6 ∨ kind = 7 ∨ kind = 8 ∨ kind = 9 ∨ kind = 10 ∨ kind = 11 ∨ kind = 12 := by omega
  have hck : (prog x).cursor = (k : Int) := by rw [hcur, hk]
  have t5 := ptab hS hck hkN
  have t6 := pbtab hS hck hkN
  have t7_ := pline hS r1 r2 r3 hck hkN
  have t8 := phome hS r1 r2 r3
  have t9 := np hS r1 r2 r3 hck hkN zm z0'
  have t10 := np hS r1 r2 r3 hck hkN z1 z0'
  have t11 := np hS r1 r2 r3 hck hkN z0 zm'
  have t12 := np hS r1 r2 r3 hck hkN z0 z1'
  rcases hc with rfl | rfl | rfl | rfl | rfl | rfl | rfl | rfl
  ·simp only [Int.reduceLT, Int.reduceGT, Int.reduceLE, Int.reduceGE, Int.reduceBEq, Int.reduceBNe, Int.reduceEq, Int.reduceNe, decide_true, decide_false, cond_true, cond_false, Option.bind_some, gt_iff_lt, ge_iff_le, t5]; rfl
  ·simp only [Int.reduceLT, Int.reduceGT, Int.reduceLE, Int.reduceGE, Int.reduceBEq, Int.reduceBNe, Int.reduceEq, Int.reduceNe, decide_true, decide_false, cond_true, cond_false, Option.bind_some, gt_iff_lt, ge_iff_le, t6]; rfl
  ·simp only [Int.reduceLT, Int.reduceGT, Int.reduceLE, Int.reduceGE, Int.reduceBEq, Int.reduceBNe, Int.reduceEq, Int.reduceNe, decide_true, decide_false, cond_true, cond_false, Option.bind_some, gt_iff_lt, ge_iff_le, t7_]; rfl
  ·simp only [Int.reduceLT, Int.reduceGT, Int.reduceLE, Int.reduceGE, Int.reduceBEq, Int.reduceBNe, Int.reduceEq, Int.reduceNe, decide_true, decide_false, cond_true, cond_false, Option.bind_some, gt_iff_lt, ge_iff_le, t8]; rfl
  ·simp only [Int.reduceLT, Int.reduceGT, Int.reduceLE, Int.reduceGE, Int.reduceBEq, Int.reduceBNe, Int.reduceEq, Int.reduceNe, decide_true, decide_false, cond_true, cond_false, Option.bind_some, gt_iff_lt, ge_iff_le, t9]; rfl
  ·simp only [Int.reduceLT, Int.reduceGT, Int.reduceLE, Int.reduceGE, Int.reduceBEq, Int.reduceBNe, Int.reduceEq, Int.reduceNe, decide_true, decide_false, cond_true, cond_false, Option.bind_some, gt_iff_lt, ge_iff_le, t10]; rfl
  ·simp only [Int.reduceLT, Int.reduceGT, Int.reduceLE, Int.reduceGE, Int.reduceBEq, Int.reduceBNe, Int.reduceEq, Int.reduceNe, decide_true, decide_false, cond_true, cond_false, Option.bind_some, gt_iff_lt, ge_iff_le, t11]; rfl
  ·simp only [Int.reduceLT, Int.reduceGT, Int.reduceLE, Int.reduceGE, Int.reduceBEq, Int.reduceBNe, Int.reduceEq, Int.reduceNe, decide_true, decide_false, cond_true, cond_false, Option.bind_some, gt_iff_lt, ge_iff_le, t12]; rfl
 ·rw [if_neg hr]; unfold eF
  simp only [cQ (show kind ≠ 5 by omega), cQ (show kind ≠ 6 by omega), cQ (show kind ≠ 7 by omega), cQ (show kind ≠ 8 by omega), cQ (show kind ≠ 9 by omega), cQ (show kind ≠ 10 by omega), cQ (show kind ≠ 11 by omega), cQ (show kind ≠ 12 by omega), cond_false]
  rfl
end Go.Vt
set_option linter.unusedVariables false
set_option linter.unusedSimpArgs false
set_option maxRecDepth 100000
namespace Go.Vt
theorem edge1 (K : Int) : ((cond (decide (K < 1)) (some true) (some (decide (K > 22)))) : Option Bool) = some (decide (K < 1 ∨ K > 22)) := by
 by_cases h : K < 1
 ·rw [decide_eq_true h, decide_eq_true (show K < 1 ∨ K > 22 from .inl h)]; rfl
 ·rw [decide_eq_false h]
  by_cases h2 : K > 22
  ·rw [decide_eq_true h2, decide_eq_true (show K < 1 ∨ K > 22 from .inr h2)]; rfl
  ·rw [decide_eq_false h2, decide_eq_false (show ¬ (K < 1 ∨ K > 22) by omega)]; rfl
theorem sE (N : Int) : ((cond (decide (N < 64)) (some true) (some (decide (N > 254)))) : Option Bool) = some (decide (N < 64 ∨ N > 254)) := by
 by_cases h : N < 64
 ·rw [decide_eq_true h, decide_eq_true (show N < 64 ∨ N > 254 from .inl h)]; rfl
 ·rw [decide_eq_false h]
  by_cases h2 : N > 254
  ·rw [decide_eq_true h2, decide_eq_true (show N < 64 ∨ N > 254 from .inr h2)]; rfl
  ·rw [decide_eq_false h2, decide_eq_false (show ¬ (N < 64 ∨ N > 254) by omega)]; rfl
theorem dataN {c : Int} : jB c = !decide (c < 64 ∨ c > 254) := by
 unfold jB
 by_cases h1 : c < 64
 ·rw [decide_eq_false (show ¬ (c ≥ 64) by omega), decide_eq_true (show c < 64 ∨ c > 254 from .inl h1)]; rfl
 ·rw [decide_eq_true (show c ≥ 64 by omega)]
  by_cases h2 : c > 254
  ·rw [decide_eq_false (show ¬ (c < 255) by omega), decide_eq_true (show c < 64 ∨ c > 254 from .inr h2)]; rfl
  ·rw [decide_eq_true (show c < 255 by omega), decide_eq_false (show ¬ (c < 64 ∨ c > 254) by omega)]; rfl
theorem edge3 (N : Int) : ((cond (decide (N < 0)) (some true) (cond (decide (N > 255)) (some true) ((fB (IntKind.wrap .u8 N)).bind fun (d6 : Bool) => some (!d6)))) : Option Bool) = some (decide (N < 64 ∨ N > 254)) := by
 by_cases h : N < 0
 ·rw [decide_eq_true h, decide_eq_true (show N < 64 ∨ N > 254 by omega)]; rfl
 ·rw [decide_eq_false h]
  by_cases h2 : N > 255
  ·rw [decide_eq_true h2, decide_eq_true (show N < 64 ∨ N > 254 by omega)]; rfl
  ·rw [decide_eq_false h2, mG ⟨by omega, by omega⟩, pdata, dataN]; simp
theorem cdI_data (n z : Int) : decide (cdI n z < 0 ∨ jB (cdI n z) = false) = decide (cdI n z < 64 ∨ cdI n z > 254) := by
 rw [dataN]
 by_cases h : cdI n z < 64 ∨ cdI n z > 254
 ·rw [decide_eq_true h]; simp
 ·have := not_or.1 h
  rw [decide_eq_false h]; simp; omega
theorem pchar {m n : Int} {N : Nat} {x : aa} (h : RS m N x) (hn : n ∈ pgs) (B : ai) (z : Int) : fw B (prog x) ⟨n⟩ z = some (if cdI n z < 0 ∨ jB (cdI n z) = false then (prog x, ⟨n⟩, B, 12) else (prog (gi n B x (cdI n z)).1, ⟨n⟩, (gi n B x (cdI n z)).2.1, (gi n B x (cdI n z)).2.2)) := by
 unfold fw; rw [pcode hn]
 by_cases h0 : cdI n z < 0
 ·rw [if_pos h0, if_pos (.inl h0)]; rfl
 ·rw [if_neg h0]; simp only [Option.bind_some, Bool.not_true, cond_false, pdata]
  cases hd : jB (cdI n z) with
  | false => rw [if_pos (.inr rfl)]; rfl
  | true =>
   rw [if_neg (by rintro (e | e); exact h0 e; cases e)]
   simp only [Bool.not_true, cond_false]
   rw [pH h hn (lX (by omega))]; rfl
theorem pentered {m n : Int} {N : Nat} {x : aa} (h : RS m N x) (hn : n ∈ pgs) (B : ai) (k : co) (hk : (1 ≤ k.Kind ∧ k.Kind ≤ 4) ∨ (13 ≤ k.Kind ∧ k.Kind ≤ 16)) : ey B (prog x) ⟨n⟩ k = some (prog (jy n B x k).1, ⟨n⟩, (jy n B x k).2.1, (jy n B x k).2.2) := by
 obtain ⟨K, S, Nn⟩ := k; obtain ⟨hc, hcN⟩ := h.n
 have hl := h.len
 have hle := h.dim.dim.le
 have hS := h.lk.ss
 have hcur : (prog x).cursor = x.Cursor := rfl
 have hcell : (prog x).cells = x.L := rfl
 obtain ⟨rn, cn, r1, r2, r3, b1, b2, b3, b4⟩ := h.dim.dim.cn
 have e2 : x.Size.Cols.toNat = cn := by rw [r2]; rfl
 have hi : I64 x.Cursor := by have := h.cur; constructor <;> omega
 have hm' : x.Cursor % (N : Int) = ((x.Cursor.toNat : Nat) : Int) := by
  have := h.cur
  rw [Int.emod_eq_of_lt this.1 (by omega)]; exact hc
 have hBe : (⟨B.lock, B.inserts, B.aid⟩ : ai) = B := rfl
 have hK : K = 1 ∨ K = 2 ∨ K = 3 ∨ K = 4 ∨ K = 13 ∨ K = 14 ∨ K = 15 ∨ K = 16 := by simp only at hk; omega
 unfold ey ba jy; rcases hK with rfl | rfl | rfl | rfl | rfl | rfl | rfl | rfl
 ·simp only [Int.reduceLT, Int.reduceGT, Int.reduceLE, Int.reduceGE, Int.reduceBEq, Int.reduceBNe, Int.reduceEq, Int.reduceNe, decide_true, decide_false, cond_true, cond_false, Option.bind_some, gt_iff_lt, ge_iff_le, pchar h hn, if_true]
  by_cases hq : cdI n S < 0 ∨ jB (cdI n S) = false
  ·rw [if_pos hq, if_pos hq]; rfl
  ·rw [if_neg hq, if_neg hq]; rfl
 ·simp only [Int.reduceLT, Int.reduceGT, Int.reduceLE, Int.reduceGE, Int.reduceBEq, Int.reduceBNe, Int.reduceEq, Int.reduceNe, decide_true, decide_false, cond_true, cond_false, Option.bind_some, gt_iff_lt, ge_iff_le, edge3, if_false, if_true]
  by_cases hq : Nn < 64 ∨ Nn > 254
  ·rw [decide_eq_true hq, if_pos hq]; rfl
  ·have hb : By Nn := ⟨by omega, by omega⟩
   rw [decide_eq_false hq, if_neg hq]; simp only [cond_false, mG hb]; rw [pH h hn hb]; rfl
 ·simp only [Int.reduceLT, Int.reduceGT, Int.reduceLE, Int.reduceGE, Int.reduceBEq, Int.reduceBNe, Int.reduceEq, Int.reduceNe, decide_true, decide_false, cond_true, cond_false, Option.bind_some, gt_iff_lt, ge_iff_le, if_false, if_true]
  rw [pH h hn ⟨by decide, by decide⟩]; rfl
 ·simp only [Int.reduceLT, Int.reduceGT, Int.reduceLE, Int.reduceGE, Int.reduceBEq, Int.reduceBNe, Int.reduceEq, Int.reduceNe, decide_true, decide_false, cond_true, cond_false, Option.bind_some, gt_iff_lt, ge_iff_le, if_false, if_true]
  rw [pH h hn ⟨by decide, by decide⟩]; rfl
 ·simp only [Int.reduceLT, Int.reduceGT, Int.reduceLE, Int.reduceGE, Int.reduceBEq, Int.reduceBNe, Int.reduceEq, Int.reduceNe, decide_true, decide_false, cond_true, cond_false, Option.bind_some, gt_iff_lt, ge_iff_le, if_false, if_true]; rw [show (prog x).cursor = x.Cursor from rfl, pdel hS (cn := cn) r2 hm' hcN hi]; rw [show (prog x).cells = x.L from rfl, e2]
  cases fj x.L x.Cursor.toNat <;> rfl
 ·simp only [Int.reduceLT, Int.reduceGT, Int.reduceLE, Int.reduceGE, Int.reduceBEq, Int.reduceBNe, Int.reduceEq, Int.reduceNe, decide_true, decide_false, cond_true, cond_false, Option.bind_some, gt_iff_lt, ge_iff_le, if_false, if_true]; rw [show (prog x).cursor = x.Cursor from rfl, pend hS hm' hcN]; rw [show (prog x).cells = x.L from rfl]
  cases fj x.L x.Cursor.toNat <;> rfl
 ·simp only [Int.reduceLT, Int.reduceGT, Int.reduceLE, Int.reduceGE, Int.reduceBEq, Int.reduceBNe, Int.reduceEq, Int.reduceNe, decide_true, decide_false, cond_true, cond_false, Option.bind_some, gt_iff_lt, ge_iff_le, if_false, if_true]; rw [pera hS, show (prog x).cells = x.L from rfl, hl]; rfl
 ·simp only [Int.reduceLT, Int.reduceGT, Int.reduceLE, Int.reduceGE, Int.reduceBEq, Int.reduceBNe, Int.reduceEq, Int.reduceNe, decide_true, decide_false, cond_true, cond_false, Option.bind_some, gt_iff_lt, ge_iff_le, if_false]; rfl
theorem ppress {m n : Int} {N : Nat} {x : aa} (hm : lU m) (h : RS m N x) (hn : n ∈ pgs) (B : ai) (k : co) : bU B (prog x) ⟨n⟩ k = some (prog (gV n B x k).1, ⟨n⟩, (gV n B x k).2.1, (gV n B x k).2.2.1, (gV n B x k).2.2.2) := by
 unfold bU gV; rw [(rK k).1, edge1]; simp only [Option.bind_some]
 by_cases hr : k.Kind < 1 ∨ k.Kind > 22
 ·rw [decide_eq_true hr, if_pos hr]; rfl
 rw [decide_eq_false hr, if_neg hr]; simp only [cond_false]
 by_cases h17 : k.Kind = 17
 ·rw [jV h17, if_pos h17]; unfold f8; simp only [cond_true]
  by_cases hl : B.lock = 1
  ·rw [if_pos hl, ly hl]; simp only [cond_false, Option.bind_some]; rw [hl]
  ·rw [if_neg hl, lw hl]; rfl
 rw [cQ h17, if_neg h17]; simp only [cond_false]
 by_cases hl : B.lock = 0
 ·rw [ly hl, if_neg (show ¬ (B.lock ≠ 0) from fun e => e hl)]; simp only [cond_false]
  by_cases h18 : k.Kind = 18
  ·rw [jV h18, if_pos h18]; simp only [cond_true, pchoose h hn, Option.bind_some]
  rw [cQ h18, if_neg h18]; simp only [cond_false]
  cases hs : cV k with
  | true =>
   simp only [cond_true, if_true]
   by_cases h22 : k.Kind = 22
   ·rw [jV h22, if_pos h22]; simp only [cond_true, (oJ hm (s := prog x) h.model false).1, Option.bind_some, h.model]
    rfl
   ·rw [cQ h22, if_neg h22]
    rfl
  | false =>
   simp only [cond_false, Bool.false_eq_true, if_false]
   have hq : ((cond (k.Kind == 20) (some true) (some (k.Kind == 21))) : Option Bool) = some (decide (k.Kind = 20 ∨ k.Kind = 21)) := by
    by_cases h20 : k.Kind = 20
    ·rw [jV h20, decide_eq_true (.inl h20)]; rfl
    ·rw [cQ h20]
     by_cases h21 : k.Kind = 21
     ·rw [jV h21, decide_eq_true (.inr h21)]; rfl
     ·rw [cQ h21, decide_eq_false (by rintro (e | e); exact h20 e; exact h21 e)]; rfl
   rw [hq]; simp only [Option.bind_some]
   by_cases h2 : k.Kind = 20 ∨ k.Kind = 21
   ·rw [decide_eq_true h2, if_pos h2]; rfl
   ·rw [decide_eq_false h2, if_neg h2]; simp only [cond_false, pmovek h]
    by_cases h5 : 5 ≤ k.Kind ∧ k.Kind ≤ 12
    ·rw [if_pos h5, if_pos h5]; rfl
    ·rw [if_neg h5, if_neg h5]; simp only [Option.bind_some, cond_false]
     have h19 : k.Kind ≠ 19 := by
      intro e; unfold cV at hs; rw [e] at hs
      simp at hs
     have h22 : k.Kind ≠ 22 := by
      intro e; unfold cV at hs; rw [e] at hs
      simp at hs
     rw [pentered h hn B k (by omega)]
     rfl
 ·rw [lw hl, if_pos hl]; rfl
theorem rpress {m n : Int} {N : Nat} {x : aa} (hm : lU m) (h : RS m N x) (hn : n ∈ pgs) (B : ai) (k : co) : dF ⟨n, B.lock, B.inserts, B.aid⟩ x ⟨k.Kind, k.Sign, k.N⟩ = some ((gV n B x k).1, ⟨n, (gV n B x k).2.1.lock, (gV n B x k).2.1.inserts, (gV n B x k).2.1.aid⟩, (gV n B x k).2.2.1, (gV n B x k).2.2.2) := by
 have haid := (rK k).2.1
 have haid2 := (rK k).2.2
 obtain ⟨K, S, Nn⟩ := k; obtain ⟨hc, hcN⟩ := h.n
 have hl := h.len
 have hle := h.dim.dim.le
 obtain ⟨rn, cn, r1, r2, r3, b1, b2, b3, b4⟩ := h.dim.dim.cn
 have e1 : x.Size.Rows.toNat = rn := by rw [r1]; rfl
 have e2 : x.Size.Cols.toNat = cn := by rw [r2]; rfl
 have hm' : x.Cursor % (N : Int) = ((x.Cursor.toNat : Nat) : Int) := by
  have := h.cur
  rw [Int.emod_eq_of_lt this.1 (by omega)]; exact hc
 have hx : (⟨x.Model, x.Alt, x.Size, x.L, x.Cursor⟩ : aa) = x := rfl
 have z0 : (0 : Int) % (rn : Int) = ((0 : Nat) : Int) := Int.zero_emod _
 have z0' : (0 : Int) % (N : Int) = ((0 : Nat) : Int) := Int.zero_emod _
 have z1 : (1 : Int) % (rn : Int) = ((1 : Nat) : Int) := aQ (k := 1) (by omega)
 have z1' : (1 : Int) % (N : Int) = ((1 : Nat) : Int) := aQ (k := 1) (by omega)
 have zm : (-1 : Int) % (rn : Int) = ((rn - 1 : Nat) : Int) := by rw [show (-1 : Int) = ((rn - 1 : Nat) : Int) - rn by omega, Int.sub_emod_right, aQ (by omega)]
 have zm' : (-1 : Int) % (N : Int) = ((N - 1 : Nat) : Int) := by rw [show (-1 : Int) = ((N - 1 : Nat) : Int) - N by omega, Int.sub_emod_right, aQ (by omega)]
 have t5 := rdo0 h r1 r2 r3 hc hcN
 have t6 := rdo1 h r1 r2 r3 hc hcN
 have t7_ := rdo2 h r1 r2 r3 hc hcN
 have t8 := rdo3 h r1 r2 r3 hc hcN
 have t9 := rdo4 h r1 r2 r3 hc hcN zm z0'
 have t10 := rdo4 h r1 r2 r3 hc hcN z1 z0'
 have t11 := rdo4 h r1 r2 r3 hc hcN z0 zm'
 have t12 := rdo4 h r1 r2 r3 hc hcN z0 z1'
 have hBe : (⟨B.lock, B.inserts, B.aid⟩ : ai) = B := rfl
 unfold dF gV; rw [edge1]; simp only [Option.bind_some]
 by_cases hr : K < 1 ∨ K > 22
 ·rw [decide_eq_true hr, if_pos hr]; rfl
 rw [decide_eq_false hr, if_neg hr]; simp only [cond_false]
 by_cases h17 : K = 17
 ·subst h17; simp only [Int.reduceLT, Int.reduceGT, Int.reduceLE, Int.reduceGE, Int.reduceBEq, Int.reduceBNe, Int.reduceEq, Int.reduceNe, decide_true, decide_false, cond_true, cond_false, Option.bind_some, gt_iff_lt, ge_iff_le, if_true]
  by_cases hl : B.lock = 1
  ·rw [if_pos hl, ly hl]; simp only [cond_false, Option.bind_some]; rw [hl]
  ·rw [if_neg hl, lw hl]; rfl
 rw [cQ h17, if_neg h17]; simp only [cond_false]
 by_cases hl0 : B.lock = 0
 case neg => rw [lw hl0, if_pos hl0]; rfl
 rw [ly hl0, if_neg (show ¬ (B.lock ≠ 0) from fun e => e hl0)]; simp only [cond_false, hx]
 have hK : K = 1 ∨ K = 2 ∨ K = 3 ∨ K = 4 ∨ K = 5 ∨ K = 6 ∨ K = 7 ∨ K = 8 ∨ K = 9 ∨ K = 10 ∨ K = 11 ∨ K = 12 ∨ K = 13 ∨ K = 14 ∨ K = 15 ∨ K = 16 ∨ K = 18 ∨ K = 19 ∨ K = 20 ∨ K = 21 ∨ K = 22 := by omega
 rcases hK with rfl | rfl | rfl | rfl | rfl | rfl | rfl | rfl | rfl | rfl | rfl | rfl | rfl | rfl | rfl | rfl | rfl | rfl | rfl | rfl | rfl
 ·have hsb : cV ⟨1, S, Nn⟩ = false := rfl
  simp only [Int.reduceLT, Int.reduceGT, Int.reduceLE, Int.reduceGE, Int.reduceBEq, Int.reduceBNe, Int.reduceEq, Int.reduceNe, decide_true, decide_false, cond_true, cond_false, Option.bind_some, gt_iff_lt, ge_iff_le, hsb, if_false, if_true, Bool.false_eq_true, false_or, or_false, false_and, and_false, qj hn, sE, jy]
  have hd := cdI_data n S
  by_cases hq : cdI n S < 0 ∨ jB (cdI n S) = false
  ·rw [decide_eq_true hq] at hd; rw [← hd, if_pos hq]; rfl
  ·rw [decide_eq_false hq] at hd
   have hb : By (cdI n S) := lX (by have := not_or.1 hq; omega)
   rw [← hd, if_neg hq]; simp only [cond_false, mG hb]; rw [pB h hn hb]; rfl
 ·have hsb : cV ⟨2, S, Nn⟩ = false := rfl
  simp only [Int.reduceLT, Int.reduceGT, Int.reduceLE, Int.reduceGE, Int.reduceBEq, Int.reduceBNe, Int.reduceEq, Int.reduceNe, decide_true, decide_false, cond_true, cond_false, Option.bind_some, gt_iff_lt, ge_iff_le, hsb, if_false, if_true, Bool.false_eq_true, false_or, or_false, false_and, and_false, sE, jy]
  by_cases hq : Nn < 64 ∨ Nn > 254
  ·rw [decide_eq_true hq, if_pos hq]; rfl
  ·have hb : By Nn := ⟨by omega, by omega⟩
   rw [decide_eq_false hq, if_neg hq]; simp only [cond_false, mG hb]; rw [pB h hn hb]; rfl
 ·have hsb : cV ⟨3, S, Nn⟩ = false := rfl
  simp only [Int.reduceLT, Int.reduceGT, Int.reduceLE, Int.reduceGE, Int.reduceBEq, Int.reduceBNe, Int.reduceEq, Int.reduceNe, decide_true, decide_false, cond_true, cond_false, Option.bind_some, gt_iff_lt, ge_iff_le, hsb, if_false, if_true, Bool.false_eq_true, false_or, or_false, false_and, and_false, sE, jy]
  rw [pB h hn ⟨by decide, by decide⟩]; rfl
 ·have hsb : cV ⟨4, S, Nn⟩ = false := rfl
  simp only [Int.reduceLT, Int.reduceGT, Int.reduceLE, Int.reduceGE, Int.reduceBEq, Int.reduceBNe, Int.reduceEq, Int.reduceNe, decide_true, decide_false, cond_true, cond_false, Option.bind_some, gt_iff_lt, ge_iff_le, hsb, if_false, if_true, Bool.false_eq_true, false_or, or_false, false_and, and_false, sE, jy]
  rw [pB h hn ⟨by decide, by decide⟩]; rfl
 ·have hsb : cV ⟨5, S, Nn⟩ = false := rfl
  simp only [Int.reduceLT, Int.reduceGT, Int.reduceLE, Int.reduceGE, Int.reduceBEq, Int.reduceBNe, Int.reduceEq, Int.reduceNe, decide_true, decide_false, cond_true, cond_false, Option.bind_some, gt_iff_lt, ge_iff_le, hsb, if_false, if_true, Bool.false_eq_true, false_or, or_false, false_and, and_false, and_self, true_and, oH, e1, e2, hl, show IntKind.wrap .u8 (w64 (5 - 5)) = 0 from by decide, t5, jn, Bool.not_true]
 ·have hsb : cV ⟨6, S, Nn⟩ = false := rfl
  simp only [Int.reduceLT, Int.reduceGT, Int.reduceLE, Int.reduceGE, Int.reduceBEq, Int.reduceBNe, Int.reduceEq, Int.reduceNe, decide_true, decide_false, cond_true, cond_false, Option.bind_some, gt_iff_lt, ge_iff_le, hsb, if_false, if_true, Bool.false_eq_true, false_or, or_false, false_and, and_false, and_self, true_and, oH, e1, e2, hl, show IntKind.wrap .u8 (w64 (6 - 5)) = 1 from by decide, t6, jn, Bool.not_true]
 ·have hsb : cV ⟨7, S, Nn⟩ = false := rfl
  simp only [Int.reduceLT, Int.reduceGT, Int.reduceLE, Int.reduceGE, Int.reduceBEq, Int.reduceBNe, Int.reduceEq, Int.reduceNe, decide_true, decide_false, cond_true, cond_false, Option.bind_some, gt_iff_lt, ge_iff_le, hsb, if_false, if_true, Bool.false_eq_true, false_or, or_false, false_and, and_false, and_self, true_and, oH, e1, e2, hl, show IntKind.wrap .u8 (w64 (7 - 5)) = 2 from by decide, t7_, jn, Bool.not_true]
 ·have hsb : cV ⟨8, S, Nn⟩ = false := rfl
  simp only [Int.reduceLT, Int.reduceGT, Int.reduceLE, Int.reduceGE, Int.reduceBEq, Int.reduceBNe, Int.reduceEq, Int.reduceNe, decide_true, decide_false, cond_true, cond_false, Option.bind_some, gt_iff_lt, ge_iff_le, hsb, if_false, if_true, Bool.false_eq_true, false_or, or_false, false_and, and_false, and_self, true_and, oH, e1, e2, hl, show IntKind.wrap .u8 (w64 (8 - 5)) = 3 from by decide, t8, jn, Bool.not_true]
 ·have hsb : cV ⟨9, S, Nn⟩ = false := rfl
  simp only [Int.reduceLT, Int.reduceGT, Int.reduceLE, Int.reduceGE, Int.reduceBEq, Int.reduceBNe, Int.reduceEq, Int.reduceNe, decide_true, decide_false, cond_true, cond_false, Option.bind_some, gt_iff_lt, ge_iff_le, hsb, if_false, if_true, Bool.false_eq_true, false_or, or_false, false_and, and_false, and_self, true_and, oH, e1, e2, hl, t9, jn, Bool.not_true]
 ·have hsb : cV ⟨10, S, Nn⟩ = false := rfl
  simp only [Int.reduceLT, Int.reduceGT, Int.reduceLE, Int.reduceGE, Int.reduceBEq, Int.reduceBNe, Int.reduceEq, Int.reduceNe, decide_true, decide_false, cond_true, cond_false, Option.bind_some, gt_iff_lt, ge_iff_le, hsb, if_false, if_true, Bool.false_eq_true, false_or, or_false, false_and, and_false, and_self, true_and, oH, e1, e2, hl, t10, jn, Bool.not_true]
 ·have hsb : cV ⟨11, S, Nn⟩ = false := rfl
  simp only [Int.reduceLT, Int.reduceGT, Int.reduceLE, Int.reduceGE, Int.reduceBEq, Int.reduceBNe, Int.reduceEq, Int.reduceNe, decide_true, decide_false, cond_true, cond_false, Option.bind_some, gt_iff_lt, ge_iff_le, hsb, if_false, if_true, Bool.false_eq_true, false_or, or_false, false_and, and_false, and_self, true_and, oH, e1, e2, hl, t11, jn, Bool.not_true]
 ·have hsb : cV ⟨12, S, Nn⟩ = false := rfl
  simp only [Int.reduceLT, Int.reduceGT, Int.reduceLE, Int.reduceGE, Int.reduceBEq, Int.reduceBNe, Int.reduceEq, Int.reduceNe, decide_true, decide_false, cond_true, cond_false, Option.bind_some, gt_iff_lt, ge_iff_le, hsb, if_false, if_true, Bool.false_eq_true, false_or, or_false, false_and, and_false, and_self, true_and, oH, e1, e2, hl, t12, jn, Bool.not_true]
 ·have hsb : cV ⟨13, S, Nn⟩ = false := rfl
  simp only [Int.reduceLT, Int.reduceGT, Int.reduceLE, Int.reduceGE, Int.reduceBEq, Int.reduceBNe, Int.reduceEq, Int.reduceNe, decide_true, decide_false, cond_true, cond_false, Option.bind_some, gt_iff_lt, ge_iff_le, hsb, if_false, if_true, Bool.false_eq_true, false_or, or_false, false_and, and_false, and_self, true_and, jy, e2, rdel h r2 hm' hcN]
  cases fj x.L x.Cursor.toNat <;> rfl
 ·have hsb : cV ⟨14, S, Nn⟩ = false := rfl
  simp only [Int.reduceLT, Int.reduceGT, Int.reduceLE, Int.reduceGE, Int.reduceBEq, Int.reduceBNe, Int.reduceEq, Int.reduceNe, decide_true, decide_false, cond_true, cond_false, Option.bind_some, gt_iff_lt, ge_iff_le, hsb, if_false, if_true, Bool.false_eq_true, false_or, or_false, false_and, and_false, and_self, true_and, jy, e2, rend h hm' hcN]
  cases fj x.L x.Cursor.toNat <;> rfl
 ·have hsb : cV ⟨15, S, Nn⟩ = false := rfl
  simp only [Int.reduceLT, Int.reduceGT, Int.reduceLE, Int.reduceGE, Int.reduceBEq, Int.reduceBNe, Int.reduceEq, Int.reduceNe, decide_true, decide_false, cond_true, cond_false, Option.bind_some, gt_iff_lt, ge_iff_le, hsb, if_false, if_true, Bool.false_eq_true, false_or, or_false, false_and, and_false, and_self, true_and, jy, rera h, hl]
  rfl
 ·have hsb : cV ⟨16, S, Nn⟩ = false := rfl
  simp only [Int.reduceLT, Int.reduceGT, Int.reduceLE, Int.reduceGE, Int.reduceBEq, Int.reduceBNe, Int.reduceEq, Int.reduceNe, decide_true, decide_false, cond_true, cond_false, Option.bind_some, gt_iff_lt, ge_iff_le, hsb, if_false, if_true, Bool.false_eq_true, false_or, or_false, false_and, and_false, and_self, true_and, jy]
  rfl
 ·simp only [Int.reduceLT, Int.reduceGT, Int.reduceLE, Int.reduceGE, Int.reduceBEq, Int.reduceBNe, Int.reduceEq, Int.reduceNe, decide_true, decide_false, cond_true, cond_false, Option.bind_some, gt_iff_lt, ge_iff_le, if_true, rchoose h hn]
  rfl
 ·have hsb : cV ⟨19, S, Nn⟩ = true := rfl
  rw [if_pos hsb] at haid; simp only [Int.reduceLT, Int.reduceGT, Int.reduceLE, Int.reduceGE, Int.reduceBEq, Int.reduceBNe, Int.reduceEq, Int.reduceNe, decide_true, decide_false, cond_true, cond_false, Option.bind_some, gt_iff_lt, ge_iff_le, hsb, if_false, if_true, haid]
  rfl
 ·simp only [Int.reduceLT, Int.reduceGT, Int.reduceLE, Int.reduceGE, Int.reduceBEq, Int.reduceBNe, Int.reduceEq, Int.reduceNe, decide_true, decide_false, cond_true, cond_false, Option.bind_some, gt_iff_lt, ge_iff_le, if_false, haid]
  cases hsb : cV ⟨20, S, Nn⟩ with
  | true =>
   simp only [if_true, if_neg (show ¬ ((20 : Int) = 22) by decide), cQ (haid2 hsb), cond_false, ci, Option.bind_some]
   try rfl
  | false =>
   simp only [Bool.false_eq_true, if_false]
   rfl
 ·simp only [Int.reduceLT, Int.reduceGT, Int.reduceLE, Int.reduceGE, Int.reduceBEq, Int.reduceBNe, Int.reduceEq, Int.reduceNe, decide_true, decide_false, cond_true, cond_false, Option.bind_some, gt_iff_lt, ge_iff_le, if_false, haid]
  cases hsb : cV ⟨21, S, Nn⟩ with
  | true =>
   simp only [if_true, if_neg (show ¬ ((20 : Int) = 22) by decide), cQ (haid2 hsb), cond_false, ci, Option.bind_some]
   try rfl
  | false =>
   simp only [Bool.false_eq_true, if_false]
   rfl
 ·have hsb : cV ⟨22, S, Nn⟩ = true := rfl
  rw [if_pos hsb] at haid; simp only [Int.reduceLT, Int.reduceGT, Int.reduceLE, Int.reduceGE, Int.reduceBEq, Int.reduceBNe, Int.reduceEq, Int.reduceNe, decide_true, decide_false, cond_true, cond_false, Option.bind_some, gt_iff_lt, ge_iff_le, hsb, if_false, if_true, haid, (nl hm h.model false).1, h.model]
  rfl
end Go.Vt
set_option linter.unusedVariables false
set_option linter.unusedSimpArgs false
set_option maxRecDepth 100000
namespace Go.Vt
theorem sa {L : List ad} {k q : Nat} (hk : k < L.length) (hq : q < L.length) : rd (c0 L k) (q : Int) = if stI L k = (q : Int) then mdf (rd L (q : Int)) else rd L (q : Int) := by
 unfold c0
 by_cases hs : stI L k < 0
 ·rw [if_pos hs, if_neg (by omega)]
 ·have hf : Fmt L := by
   by_cases hf : Fmt L
   ·exact hf
   ·rw [gU hf hk] at hs; exact absurd (by omega) hs
  obtain ⟨b, h1, h2, h3⟩ := iv hf hk; rw [if_neg hs, h1, Int.toNat_natCast, ij h2 hq]
  by_cases e : b = q
  ·subst e; rw [if_pos rfl, if_pos rfl]
  ·rw [if_neg e, if_neg (by omega)]
/-- the field of place q isn't protected -/
def Unp (L : List ad) (q : Nat) : Prop := stI L q < 0 ∨ (fld (faI L q)).Protected = false
def NumOk (n : Int) (L : List ad) (q : Nat) (c : Int) : Prop := stI L q < 0 ∨ (fld (faI L q)).Numeric = false ∨ nO n c = true
def DispOk (L : List ad) (q : Nat) : Prop := ¬ (stI L q < 0) ∧ ((fld (faI L q)).Display = 1 ∨ (fld (faI L q)).Display = 2)
def ChOk (n : Int) (L : List ad) (K : Int) (q : Nat) (c : Int) : Prop :=
 c = 0 ∨ (∃ p, p < L.length ∧ bc L p = false ∧ stI L p = stI L q ∧ c = (rd L (p : Int)).Char) ∨ NumOk n L q c ∨ (K = 18 ∧ DispOk L q)
def Chg (n : Int) (L L' : List ad) (k : Nat) (K : Int) (q : Nat) : Prop :=
 rd L' (q : Int) = rd L (q : Int) ∨
 (bc L q = true ∧ stI L k = (q : Int) ∧ rd L' (q : Int) = mdf (rd L (q : Int))) ∨
 (bc L q = true ∧ K = 15 ∧ (fld (rd L (q : Int)).FA).Protected = false ∧ rd L' (q : Int) = jA (rd L (q : Int))) ∨
 (bc L q = false ∧ (rd L' (q : Int)).Attr = false ∧ Unp L q ∧ ChOk n L K q (rd L' (q : Int)).Char)
theorem Chg.rfl {n : Int} {L : List ad} {k : Nat} {K : Int} {q : Nat} : Chg n L L k K q := .inl (Eq.refl _)
theorem Unp.st {L : List ad} {k q : Nat} (h : Unp L k) (e : stI L q = stI L k) : Unp L q := by
 unfold Unp faI at *; rw [e]; exact h
theorem mR {L : List ad} {p q : Nat} {z : Int} (hp : p < L.length) (hq : q < L.length) : rd (cq L p z) (q : Int) = if p = q ∧ bc L p = false then chr (rd L (q : Int)) z else rd L (q : Int) := by
 unfold cq
 cases h : bc L p with
 | true => rw [if_pos rfl, if_neg (by simp)]
 | false =>
  rw [if_neg (by simp), ij hp hq]
  by_cases e : p = q
  ·subst e; rw [if_pos rfl, if_pos ⟨rfl, rfl⟩]
  ·rw [if_neg e, if_neg (fun g => e g.1)]
end Go.Vt
set_option linter.unusedVariables false
set_option linter.unusedSimpArgs false
set_option maxRecDepth 100000
namespace Go.Vt
theorem s8 (c : ad) : ((c.Char == c.Char) && ((c.Attr == c.Attr) && ((c.FA == c.FA) && ((c.High == c.High) && ((c.Color == c.Color) && ((c.f_Set == c.f_Set) && true)))))) = true := by
 simp only [beq_self_eq_true, Bool.and_self]
theorem same18 {m n : Int} {N : Nat} {x : aa} (h : RS m N x) (B : ai) (p : aB) : dT B (prog x) p ⟨n, B.lock, B.inserts, B.aid⟩ x = some true := by
 have hl := h.len
 have hle := h.dim.dim.le
 have hS := h.lk.ss
 have key : c9 (prog x) x bv 0 = some (.inl ()) := by
  refine cw (fun i => (i : Int)) N (by omega) (fun k i hi => ?_) (fun k => ?_)
  ·rw [c9.eq_2]
   have d1 : decide ((i : Int) < (x.L.length : Int)) = true := decide_eq_true (by omega)
   simp only [d1, cond_true]
   rw [aV (by omega), g8 hS, aQ hi, gB (by omega)]
   have hc : (prog x).cells = x.L := rfl
   simp only [Option.bind_some, hc, s8, Bool.not_true, cond_false]
  ·rw [c9.eq_2]
   have d1 : decide ((N : Int) < (x.L.length : Int)) = false := decide_eq_false (by omega)
   simp only [d1, cond_false]
 unfold dT ba eE fx fy fO; rw [key]
 have h1 : (prog x).cursor = x.Cursor := rfl
 have h2 : (prog x).alternate = x.Alt := rfl
 simp only [jn, Option.bind_some, h1, h2, beq_self_eq_true, cond_true]
def keyP (k : cp) : co := ⟨k.Kind, k.Sign, k.N⟩
def stepK (n : Int) (s : ai × aa) (k : cp) : ai × aa :=
 if k.Kind = -1 then (⟨0, s.1.inserts, 96⟩, s.2) else if k.Kind = -2 then ({ s.1 with lock := 1 }, s.2) else ((gV n s.1 s.2 (keyP k)).2.1, (gV n s.1 s.2 (keyP k)).1)
def foldK (n : Int) (s : ai × aa) (l : List cp) (i : Nat) : ai × aa := (l.take i).foldl (stepK n) s
abbrev T21 := Int × Int × Bool × Int × Int × Bool × Int × Int × (List ad) × Int × Int × Int × Bool × Int × Int × Bool × Int × Int × (List ad) × Int × Int
def tK (n : Int) (B : ai) (x : aa) : T21 := (n, B.lock, B.inserts, B.aid, (prog x).model, (prog x).alternate, (prog x).size.Rows, (prog x).size.Cols, (prog x).cells, (prog x).cursor, (prog x).attrs, B.lock, B.inserts, B.aid, x.Model, x.Alt, x.Size.Rows, x.Size.Cols, x.L, x.Cursor, n)
end Go.Vt
set_option linter.unusedVariables false
set_option linter.unusedSimpArgs false
set_option maxRecDepth 100000
namespace Go.Vt
abbrev T11 := Int × Bool × Int × Int × (List ad) × Int × Int × Int × Bool × Int × Int
def tL (n : Int) (B : ai) (x : aa) : T11 := ((prog x).model, (prog x).alternate, (prog x).size.Rows, (prog x).size.Cols, (prog x).cells, (prog x).cursor, (prog x).attrs, B.lock, B.inserts, B.aid, n)
end Go.Vt
set_option linter.unusedVariables false
set_option linter.unusedSimpArgs false
set_option maxRecDepth 100000
namespace Go.Vt
def zc0 : ad := ⟨0, false, 0, 0, 0, 0⟩
def atc (f : Int) : ad := ⟨0, true, bJ .u8 f 61, 0, 0, 0⟩
theorem do_sf {m : Int} {N : Nat} {x : aa} (h : RS m N x) {q : Nat} (hq : q < N) {f : Int} (hf : By f) : bS x ⟨3, (q : Int), false, f, zc0, []⟩ = some (wL x (x.L.set q (atc f))) ∧ RS m N (wL x (x.L.set q (atc f))) := by
 have z : By 0 := ⟨by decide, by decide⟩
 have hs := kW h (q : Int) (c := ⟨0, true, f, 0, 0, 0⟩) ⟨z, hf, z, z, z⟩
 rw [aQ hq, Int.toNat_natCast] at hs
 have he : Vt.fit ⟨0, true, f, 0, 0, 0⟩ = atc f := rfl
 rw [he] at hs; refine ⟨?_, hs.2⟩
 have hs1 := hs.1
 unfold bS
 have t : Int.tmod 3 6 = 3 := by decide
 have hs2 : bx ⟨x.Model, x.Alt, x.Size, x.L, x.Cursor⟩ (q : Int) ⟨0, true, f, 0, 0, 0⟩ = _ := hs1
 simp only [t, Int.reduceBEq, cond_true, cond_false, hs2, Option.bind_some]
 rfl
theorem do_cur {m : Int} {N : Nat} {x : aa} (h : RS m N x) {q : Nat} (hq : q < N) : bS x ⟨1, (q : Int), false, 0, zc0, []⟩ = some (rC x (q : Int)) ∧ RS m N (rC x (q : Int)) := by
 refine ⟨?_, h.c (by omega) (by omega)⟩
 unfold bS
 have t : Int.tmod 1 6 = 1 := by decide
 have hw : aT ⟨x.Model, x.Alt, x.Size, x.L, x.Cursor⟩ (q : Int) = some ((q : Int) % N) := fL h (q : Int)
 simp only [t, Int.reduceBEq, cond_true, cond_false, hw, aQ hq, Option.bind_some]
 rfl
def twoL (N : Nat) (f0 f1 : Int) (b : Nat) : List ad := ((List.replicate N zc).set 0 (atc f0)).set b (atc f1)
theorem twoL_rd {N : Nat} {f0 f1 : Int} {b q : Nat} (hb : b < N) (hq : q < N) : rd (twoL N f0 f1 b) (q : Int) = if b = q then atc f1 else if 0 = q then atc f0 else zc := by
 unfold twoL
 rw [ij (by simp; omega) (by simp; omega), ij (by simp; omega) (by simp; omega)]
 split
 ·rfl
 split
 ·rfl
 ·rw [rdn (by simp; omega)]; simp
theorem nof_le {m : Int} (hm : lU m) (a : Bool) : 1920 ≤ nOf m a ∧ nOf m a ≤ 3564 := by
 rcases hm with rfl | rfl | rfl | rfl <;> cases a <;> decide
theorem lay_two {p q : Int} (hp : By p) (hq : By q) {f0 f1 : Int} (hf0 : By f0) (hf1 : By f1) {b c : Nat} (hb : b < 1920) (hc : c < 1920) :
  ∃ m N x, lU m ∧ RS m N x ∧ 1920 ≤ N ∧ x.L = twoL N f0 f1 b ∧ x.Cursor = (c : Int) ∧ de p q [⟨3, 0, false, f0, zc0, []⟩, ⟨3, (b : Int), false, f1, zc0, []⟩, ⟨1, (c : Int), false, 0, zc0, []⟩] = some (⟨0, false, 96⟩, prog x, ⟨pgN q⟩, ⟨pgN q, 0, false, 96⟩, x) := by
 have z : By 0 := ⟨by decide, by decide⟩
 have z3 : By 3 := ⟨by decide, by decide⟩
 have z1 : By 1 := ⟨by decide, by decide⟩
 have hcb : CB zc0 := ⟨z, z, z, z, z⟩
 have ha : ∀ a ∈ ([⟨3, 0, false, f0, zc0, []⟩, ⟨3, (b : Int), false, f1, zc0, []⟩, ⟨1, (c : Int), false, 0, zc0, []⟩] : List aI), AOk a := by
  intro a h; simp only [List.mem_cons, List.not_mem_nil, or_false] at h; rcases h with rfl | rfl | rfl
  ·exact ⟨z3, hf0, hcb, (fun n hn => nomatch hn), by simp⟩
  ·exact ⟨z3, hf1, hcb, (fun n hn => nomatch hn), by simp⟩
  ·exact ⟨z1, z, hcb, (fun n hn => nomatch hn), by simp⟩
 obtain ⟨N, x, hx, hr, hlay⟩ := jh hp hq ha (by simp)
 obtain ⟨_, hm⟩ := sb hp; refine ⟨2 + p % 4, N, x, hm, hr, ?_, ?_, ?_, hlay⟩
 all_goals
  generalize 2 + p % 4 = m at hm hx hr
  have h0 := qZ hm false
  have hn := (nof_le hm false).1
  obtain ⟨g1, r1⟩ := do_sf h0 (q := 0) (by omega) hf0
  obtain ⟨g2, r2⟩ := do_sf r1 (q := b) (by omega) hf1
  obtain ⟨g3, r3⟩ := do_cur r2 (q := c) (by omega)
  simp only [List.take_succ_cons, List.take_nil, kG] at hx
  have g1' : bS (clr m false) ⟨3, 0, false, f0, zc0, []⟩ = _ := g1
  rw [g1'] at hx; simp only [Option.bind_some] at hx; rw [g2] at hx; simp only [Option.bind_some] at hx; rw [g3] at hx; simp only [Option.bind_some] at hx; obtain rfl := Option.some.inj hx
  have hN : N = nOf m false := hr.nof
 ·omega
 ·rw [hN]; rfl
 ·rfl
theorem stI_two {L : List ad} {N b : Nat} (hl : L.length = N) (hb0 : 0 < b) (hb : b < N) (hA : ∀ q, q < N → bc L q = decide (q = 0 ∨ q = b)) : (∀ q, q < b → stI L q = 0) ∧ ∀ q, b ≤ q → q < N → stI L q = (b : Int) := by
 have h0 : bc L 0 = true := by rw [hA 0 (by omega)]; simp
 have hbt : bc L b = true := by rw [hA b hb]; simp
 have hf : Fmt L := ⟨0, by omega, h0⟩
 constructor
 ·intro q hq
  have := mM (L := L) (N := L.length) (iP hf) (a := 0) (by omega) h0 q (fun t h1 h2 => by
   rw [Nat.zero_add, Nat.mod_eq_of_lt (by omega), hA t (by omega)]; simp; omega)
  rw [Nat.zero_add, Nat.mod_eq_of_lt (by omega)] at this
  exact this
 ·intro q h1 h2
  have := mM (L := L) (N := L.length) (iP hf) (a := b) (by omega) hbt (q - b) (fun t h3 h4 => by
   rw [Nat.mod_eq_of_lt (by omega), hA (b + t) (by omega)]; simp; omega)
  rw [show b + (q - b) = q by omega, Nat.mod_eq_of_lt (by omega)] at this
  exact this
theorem fldBits : ∀ f : Fin 256, (fld (iH .u8 (f.val : Int) 1)).Protected = (fld (f.val : Int)).Protected ∧ (fld (iH .u8 (f.val : Int) 1)).Numeric = (fld (f.val : Int)).Numeric ∧ (fld (iH .u8 (f.val : Int) 1)).Display = (fld (f.val : Int)).Display ∧
  (fld (ge .u8 (f.val : Int) 1)).Protected = (fld (f.val : Int)).Protected ∧ (fld (ge .u8 (f.val : Int) 1)).Numeric = (fld (f.val : Int)).Numeric ∧ (fld (ge .u8 (f.val : Int) 1)).Display = (fld (f.val : Int)).Display := by decide +kernel
/-- two attributes mean the same but for the mark -/
def FEq (f g : Int) : Prop := (fld f).Protected = (fld g).Protected ∧ (fld f).Numeric = (fld g).Numeric ∧ (fld f).Display = (fld g).Display
theorem feq_mdf {f : Int} (h : By f) : FEq (iH .u8 f 1) f ∧ FEq (ge .u8 f 1) f := by
 have := fldBits ⟨f.toNat, by have := h.1; have := h.2; omega⟩
 have e : ((f.toNat : Nat) : Int) = f := by have := h.1; omega
 simp only [e] at this; exact ⟨⟨this.1, this.2.1, this.2.2.1⟩, this.2.2.2⟩
theorem Chg.isA {n : Int} {L L' : List ad} {k : Nat} {K : Int} {q : Nat} (h : Chg n L L' k K q) : bc L' q = bc L q := by
 unfold bc; rcases h with g | ⟨_, _, g⟩ | ⟨_, _, _, g⟩ | ⟨g1, g2, _⟩
 ·rw [g]
 ·rw [g]; rfl
 ·rw [g]; rfl
 ·rw [g2]; exact g1.symm
end Go.Vt
set_option linter.unusedVariables false
set_option linter.unusedSimpArgs false
set_option maxRecDepth 100000
namespace Go.Vt
theorem bits_ok : ∀ (d : Fin 4) (b : Bool), ∃ f, dR ⟨b, false, w64 (d.val : Int), false⟩ = some (f, 0) ∧ 0 ≤ f ∧ f < 256 := by
 intro d b; refine ⟨((dR ⟨b, false, w64 (d.val : Int), false⟩).getD (0, 0)).1, ?_⟩
 revert d b; decide +kernel
theorem sgI0 {n : Int} (h : n ∈ pgs) : sgI n 0 = 0 := by
 unfold sgI; rw [(iu h).1]; simp only [pgs, List.mem_cons, List.not_mem_nil, or_false] at h; rcases h with rfl | rfl | rfl | rfl | rfl | rfl <;> decide +kernel
/-- the sign of a sign's code -/
theorem sg_cd {n z : Int} (h : 0 ≤ cdI n z) : sgI n (cdI n z) = z := by
 have hle : cdN n z ≤ 256 := jt _ _
 unfold cdI at h ⊢
 by_cases hj : cdN n z < 256
 ·rw [if_pos hj]
  have hb : (!(sgI n (cdN n z : Int) == z)) = false := gT (p := fun i : Nat => !(sgI n (i : Int) == z)) hj
  simpa using hb
 ·rw [if_neg hj] at h; omega
theorem cd_ne {n z : Int} (hn : n ∈ pgs) (h : 0 ≤ cdI n z) (hz : z ≠ 0) : cdI n z ≠ 0 := fun e => by
 have := sg_cd h
 rw [e, sgI0 hn] at this; exact hz this.symm
theorem des63 {n : Int} (hn : n ∈ pgs) : kJ n (cdI n 63) = 1 := by
 have := s9 hn
 unfold kJ
 rw [if_neg (cd_ne hn this (by decide)), sg_cd this, if_pos rfl]
theorem des62 {n : Int} (hn : n ∈ pgs) : kJ n (cdI n 62) = 2 := by
 have := ta hn
 unfold kJ
 rw [if_neg (cd_ne hn this (by decide)), sg_cd this, if_neg (by decide), if_pos rfl]
theorem bit1 : ∀ f : Fin 256, bJ .u8 (iH .u8 (f.val : Int) 1) 1 = 1 := by decide +kernel
theorem nP (p0 p1 p2 : Int) (p3 : Bool) (h0 : By p0) (h1 : By p1) : dq p0 p1 p2 p3 = some true := by
 have hd4 : Int.tmod p1 4 = ((p1 % 4).toNat : Int) := by
  rw [Int.tmod_eq_emod_of_nonneg h1.1]
  have := Int.emod_nonneg p1 (show (4 : Int) ≠ 0 by omega); omega
 have hlt4 : (p1 % 4).toNat < 4 := by have := Int.emod_lt_of_pos p1 (show (0 : Int) < 4 by omega); omega
 obtain ⟨f, hbits, hf0, hf1⟩ := bits_ok ⟨(p1 % 4).toNat, hlt4⟩ p3; simp only at hbits
 obtain ⟨m, N, x, hm, hr, hN, hL, hcur, hlay⟩ := lay_two (p := 0) (q := p0) ⟨by decide, by decide⟩ h0 (f0 := f) (f1 := 0) ⟨hf0, by omega⟩ ⟨by decide, by decide⟩ (b := 9) (c := 4) (by omega) (by omega)
 have hn := rZ p0
 generalize pgN p0 = n at hlay hn
 unfold dq; rw [awake18, hd4, hbits]; simp only [Option.bind_some, Bool.not_true, cond_false]
 have hlay' : de 0 p0 [(⟨3, 0, false, f, (⟨0, false, 0, 0, 0, 0⟩ : ad), ([] : List Int)⟩ : aI), (⟨3, 9, false, 0, (⟨0, false, 0, 0, 0, 0⟩ : ad), ([] : List Int)⟩ : aI), (⟨1, 4, false, 0, (⟨0, false, 0, 0, 0, 0⟩ : ad), ([] : List Int)⟩ : aI)] = _ := hlay
 rw [hlay']; simp only [Option.bind_some, qj hn]
 have hl := hr.len
 have hle := hr.dim.dim.le
 have hS := hr.lk.ss
 have e1 : (1 : Int) % (N : Int) = ((1 : Nat) : Int) := aQ (k := 1) (by omega)
 -- the screen with its designator
 have hx1 : ∃ y, RS m N y ∧ (y = x ∨ (0 ≤ cdI n p2 ∧ y = wL x (cq x.L 1 (cdI n p2)))) ∧ (0 ≤ cdI n p2 → y = wL x (cq x.L 1 (cdI n p2))) ∧
   ((cond (decide (cdI n p2 ≥ 0)) ((bi ⟨(prog x).model, (prog x).alternate, (prog x).size, (prog x).cells, (prog x).cursor, (prog x).attrs⟩ 1 (IntKind.wrap .u8 (cdI n p2))).bind fun (d8 : ab) =>
  (bf x 1 (IntKind.wrap .u8 (cdI n p2))).bind fun (d9 : aa) =>
  some (d8.model, d8.alternate, d8.size.Rows, d8.size.Cols, d8.cells, d8.cursor, d8.attrs, d9.Model, d9.Alt, d9.Size.Rows, d9.Size.Cols, d9.L, d9.Cursor)) (
  some ((prog x).model, (prog x).alternate, (prog x).size.Rows, (prog x).size.Cols, (prog x).cells, (prog x).cursor, (prog x).attrs, x.Model, x.Alt, x.Size.Rows, x.Size.Cols, x.L, x.Cursor)) : Option (Int × Bool × Int × Int × (List ad) × Int × Int × Int × Bool × Int × Int × (List ad) × Int)) =
   some ((prog y).model, (prog y).alternate, (prog y).size.Rows, (prog y).size.Cols, (prog y).cells, (prog y).cursor, (prog y).attrs, y.Model, y.Alt, y.Size.Rows, y.Size.Cols, y.L, y.Cursor)) := by
  by_cases hc : 0 ≤ cdI n p2
  ·have hb := lX hc
   refine ⟨wL x (cq x.L 1 (cdI n p2)), hr.w (by rw [fN]; exact hl) (lE hr.ok (by omega) hb), .inr ⟨hc, rfl⟩, fun _ => rfl, ?_⟩
   rw [decide_eq_true (show cdI n p2 ≥ 0 from hc), mG hb]
   have q1 : bi ⟨(prog x).model, (prog x).alternate, (prog x).size, (prog x).cells, (prog x).cursor, (prog x).attrs⟩ 1 (cdI n p2) = _ := sQ hS e1 (by omega) (cdI n p2)
   simp only [cond_true, q1, sP hr e1 (by omega) hb, Option.bind_some]
   rfl
  ·refine ⟨x, hr, .inl rfl, fun e => absurd e hc, ?_⟩; rw [decide_eq_false (show ¬ (cdI n p2 ≥ 0) from hc)]
   rfl
 obtain ⟨y, hy, hy1, hy2, he⟩ := hx1; change ((cond (decide (cdI n p2 ≥ 0)) ((bi ⟨(prog x).model, (prog x).alternate, (prog x).size, (prog x).cells, (prog x).cursor, (prog x).attrs⟩ 1 (IntKind.wrap .u8 (cdI n p2))).bind _) _).bind _) = _; rw [he]
 have kp := ppress hm hy hn ⟨0, false, 96⟩ ⟨18, 0, 0⟩
 have kr := rpress hm hy hn ⟨0, false, 96⟩ ⟨18, 0, 0⟩
 have kp' : bU ⟨0, false, 96⟩ ⟨(prog y).model, (prog y).alternate, ⟨(prog y).size.Rows, (prog y).size.Cols⟩, (prog y).cells, (prog y).cursor, (prog y).attrs⟩ ⟨n⟩ ⟨18, 0, 0⟩ = _ := kp
 have kr' : dF ⟨n, 0, false, 96⟩ ⟨y.Model, y.Alt, ⟨y.Size.Rows, y.Size.Cols⟩, y.L, y.Cursor⟩ ⟨18, 0, 0⟩ = _ := kr
 simp only [Option.bind_some, kp', kr']
 have hch : gV n ⟨0, false, 96⟩ y ⟨18, 0, 0⟩ = dW n ⟨0, false, 96⟩ y := rfl
 rw [hch]
 have hrs := s7 hy hn ⟨0, false, 96⟩
 generalize hw : dW n ⟨0, false, 96⟩ y = w at hrs ⊢
 obtain ⟨z, B1, sent, er⟩ := w; simp only at hrs ⊢
 have hsame : dT B1 ⟨(prog z).model, (prog z).alternate, (prog z).size, (prog z).cells, (prog z).cursor, (prog z).attrs⟩ ⟨n⟩ ⟨n, B1.lock, B1.inserts, B1.aid⟩ z = some true := same18 hrs B1 ⟨n⟩
 simp only [hsame, beq_self_eq_true, bne_self_eq_false, Bool.not_true, cond_false, Option.bind_some]
 by_cases her : er = 0
 case neg => rw [lw her]; rfl
 rw [ly her]; simp only [cond_false]
 cases sent with
 | true => rfl
 | false =>
  simp only [cond_false, Option.bind_some]
  by_cases h63 : p2 = 63
  case neg => rw [lw h63]; rfl
  subst h63; rw [ly rfl]; simp only [cond_false]; obtain rfl := hy2 (s9 hn); subst her
  have b63 := lX (s9 hn)
  have b62 := lX (ta hn)
  -- the field
  have hA : ∀ q, q < N → bc x.L q = decide (q = 0 ∨ q = 9) := fun q hq => by
   rw [hL]; unfold bc
   rw [twoL_rd (by omega) hq]
   by_cases e : 9 = q
   ·subst e; rfl
   ·rw [if_neg e]
    by_cases e0 : 0 = q
    ·subst e0; rfl
    ·rw [if_neg e0, decide_eq_false (by omega)]; try rfl
  have hA1 : bc x.L 1 = false := by rw [hA 1 (by omega)]; rfl
  have hpA : ∀ (L : List ad) (c : Int), L.length = N → (∀ q, q < N → bc L q = decide (q = 0 ∨ q = 9)) → (∀ q, q < N → bc (cq L 1 c) q = decide (q = 0 ∨ q = 9)) := fun L c g1 g2 q hq => by
   rw [mS (by omega) (by omega)]; exact g2 q hq
  have hstp : ∀ L : List ad, L.length = N → (∀ q, q < N → bc L q = decide (q = 0 ∨ q = 9)) → stI L 4 = ((0 : Nat) : Int) := fun L g1 g2 => (stI_two g1 (by omega) (by omega) g2).1 4 (by omega)
  have hatN : ∀ L : List ad, L.length = N → (∀ q, q < N → bc L q = decide (q = 0 ∨ q = 9)) → atN L 4 = 1 := fun L g1 g2 => by
   unfold atN; rw [hstp L g1 g2, g1, Int.toNat_natCast, Nat.mod_eq_of_lt (by omega)]
  have hc4 : x.Cursor.toNat = 4 := by rw [hcur]; rfl
  have g1 : (cq x.L 1 (cdI n 63)).length = N := by rw [fN]; exact hl
  have g2 := hpA x.L (cdI n 63) hl hA
  have ch1 : rd (cq x.L 1 (cdI n 63)) ((1 : Nat) : Int) = chr (rd x.L ((1 : Nat) : Int)) (cdI n 63) := by rw [mR (by omega) (by omega), if_pos ⟨rfl, hA1⟩]
  have w1 : dW n ⟨0, false, 96⟩ (wL x (cq x.L 1 (cdI n 63))) = (z, B1, false, 0) := hw
  unfold dW at w1
  have hwc : (wL x (cq x.L 1 (cdI n 63))).Cursor.toNat = 4 := hc4
  have hwl : (wL x (cq x.L 1 (cdI n 63))).L = cq x.L 1 (cdI n 63) := rfl
  simp only [hwc, hwl, hatN _ g1 g2, ch1] at w1
  have hd1 : kJ n (chr (rd x.L ((1 : Nat) : Int)) (cdI n 63)).Char = 1 := des63 hn
  rw [hd1] at w1
  by_cases hno : stI (cq x.L 1 (cdI n 63)) 4 < 0 ∨ bc (cq x.L 1 (cdI n 63)) 4 = true ∨ ¬ ((fld (faI (cq x.L 1 (cdI n 63)) 4)).Display = 1 ∨ (fld (faI (cq x.L 1 (cdI n 63)) 4)).Display = 2)
  ·rw [if_pos hno] at w1
   have := congrArg (fun t => t.2.2.2) w1
   simp at this
  rw [if_neg hno] at w1
  have hdisp : (fld (faI (cq x.L 1 (cdI n 63)) 4)).Display = 1 ∨ (fld (faI (cq x.L 1 (cdI n 63)) 4)).Display = 2 := Classical.byContradiction fun e => hno (.inr (.inr e))
  by_cases hp : (1 : Int) = 0 ∨ ((1 : Int) < 3 ∧ (fld (faI (cq x.L 1 (cdI n 63)) 4)).Protected = true)
  ·rw [if_pos hp] at w1
   have := congrArg (fun t => t.2.2.2) w1
   simp at this
  rw [if_neg hp, if_pos rfl] at w1
  have hpr : (fld (faI (cq x.L 1 (cdI n 63)) 4)).Protected = false := by
   cases g : (fld (faI (cq x.L 1 (cdI n 63)) 4)).Protected with
   | false => rfl
   | true => exact absurd (.inr ⟨by decide, g⟩) hp
  -- the screen behind the first
  generalize hLL : cq (cq x.L 1 (cdI n 63)) 1 (cdI n 62) = L2 at w1
  have l2 : L2.length = N := by rw [← hLL, fN]; exact g1
  have a2 : ∀ q, q < N → bc L2 q = decide (q = 0 ∨ q = 9) := by rw [← hLL]; exact hpA _ _ g1 g2
  have s2 := hstp L2 l2 a2
  have fa2 : (rd L2 ((0 : Nat) : Int)).FA = faI (cq x.L 1 (cdI n 63)) 4 := by
   rw [← hLL, mR (by omega) (by omega), if_neg (by rintro ⟨e, _⟩; omega)]
   unfold faI; rw [hstp _ g1 g2]
  have c21 : (rd L2 ((1 : Nat) : Int)).Char = cdI n 62 := by
   rw [← hLL, mR (by omega) (by omega), if_pos ⟨rfl, by rw [g2 1 (by omega)]; rfl⟩]; rfl
  have l3 : (c0 L2 4).length = N := by rw [iW]; exact l2
  have a3 : ∀ q, q < N → bc (c0 L2 4) q = decide (q = 0 ∨ q = 9) := fun q hq => by rw [qr (by omega) (by omega)]; exact a2 q hq
  have s3 := hstp _ l3 a3
  have r30 : rd (c0 L2 4) ((0 : Nat) : Int) = mdf (rd L2 ((0 : Nat) : Int)) := by rw [sa (by omega) (by omega), if_pos s2]
  have r31 : rd (c0 L2 4) ((1 : Nat) : Int) = rd L2 ((1 : Nat) : Int) := by rw [sa (by omega) (by omega), if_neg (by rw [s2]; omega)]
  have hz : z = wL (wL x (cq x.L 1 (cdI n 63))) (c0 L2 4) := (congrArg (fun t => t.1) w1).symm
  have hB : B1 = ⟨0, false, 96⟩ := (congrArg (fun t => t.2.1) w1).symm
  subst hB
  have hzL : z.L = c0 L2 4 := by rw [hz]; rfl
  have hzc : z.Cursor.toNat = 4 := by rw [hz]; exact hc4
  have hbyf : By (rd L2 ((0 : Nat) : Int)).FA := by
   rw [fa2]; unfold faI; rw [hstp _ g1 g2]; exact (hy.ok _ (fG (l := cq x.L 1 (cdI n 63)) (by omega))).fa
  have hfeq := (feq_mdf hbyf).1
  have fa3 : faI (c0 L2 4) 4 = iH .u8 (rd L2 ((0 : Nat) : Int)).FA 1 := by unfold faI; rw [s3, r30]; rfl
  -- the second
  have kp2 := ppress hm hrs hn ⟨0, false, 96⟩ ⟨18, 0, 0⟩
  have hch2 : gV n ⟨0, false, 96⟩ z ⟨18, 0, 0⟩ = dW n ⟨0, false, 96⟩ z := rfl
  have w2 : dW n ⟨0, false, 96⟩ z = (wL z (cq (c0 L2 4) 1 (cdI n 63)), ⟨0, false, 96⟩, false, 0) := by
   unfold dW; simp only [hzL, hzc, hatN _ l3 a3, r31, c21, des62 hn]
   rw [if_neg, if_neg, if_neg (by decide), if_pos trivial]
   ·rintro (e | ⟨_, e⟩)
    ·omega
    ·rw [fa3, hfeq.1, fa2, hpr] at e; cases e
   ·rintro (e | e | e)
    ·rw [s3] at e; omega
    ·rw [a3 4 (by omega)] at e; simp at e
    ·apply e; rw [fa3, hfeq.2.2, fa2]; exact hdisp
  rw [hch2, w2] at kp2
  have kp2' : bU ⟨0, false, 96⟩ ⟨(prog z).model, (prog z).alternate, (prog z).size, (prog z).cells, (prog z).cursor, (prog z).attrs⟩ ⟨n⟩ ⟨18, 0, 0⟩ = _ := kp2
  have hR4 : RS m N (wL z (cq (c0 L2 4) 1 (cdI n 63))) := hrs.w (by rw [fN]; exact l3) (lE (by rw [← hzL]; exact hrs.ok) (by omega) b63)
  have hS4 := hR4.lk.ss
  have at1 : aK ⟨(prog (wL z (cq (c0 L2 4) 1 (cdI n 63)))).model, (prog (wL z (cq (c0 L2 4) 1 (cdI n 63)))).alternate, (prog (wL z (cq (c0 L2 4) 1 (cdI n 63)))).size, (prog (wL z (cq (c0 L2 4) 1 (cdI n 63)))).cells, (prog (wL z (cq (c0 L2 4) 1 (cdI n 63)))).cursor, (prog (wL z (cq (c0 L2 4) 1 (cdI n 63)))).attrs⟩ 1 = some (rd (cq (c0 L2 4) 1 (cdI n 63)) ((1 : Nat) : Int)) := by
   have := g8 hS4 1
   rw [e1] at this; exact this
  have at0 : aK ⟨(prog (wL z (cq (c0 L2 4) 1 (cdI n 63)))).model, (prog (wL z (cq (c0 L2 4) 1 (cdI n 63)))).alternate, (prog (wL z (cq (c0 L2 4) 1 (cdI n 63)))).size, (prog (wL z (cq (c0 L2 4) 1 (cdI n 63)))).cells, (prog (wL z (cq (c0 L2 4) 1 (cdI n 63)))).cursor, (prog (wL z (cq (c0 L2 4) 1 (cdI n 63)))).attrs⟩ 0 = some (rd (cq (c0 L2 4) 1 (cdI n 63)) ((0 : Nat) : Int)) := by
   have := g8 hS4 0
   rw [show (0 : Int) % (N : Int) = ((0 : Nat) : Int) from Int.zero_emod _] at this; exact this
  have v1 : (rd (cq (c0 L2 4) 1 (cdI n 63)) ((1 : Nat) : Int)).Char = cdI n 63 := by rw [mR (by omega) (by omega), if_pos ⟨rfl, by rw [a3 1 (by omega)]; rfl⟩]; rfl
  have v0 : (rd (cq (c0 L2 4) 1 (cdI n 63)) ((0 : Nat) : Int)).FA = iH .u8 (rd L2 ((0 : Nat) : Int)).FA 1 := by rw [mR (by omega) (by omega), if_neg (by rintro ⟨e, _⟩; omega), r30]; rfl
  have hw64 : w64 (cdI n 63) = cdI n 63 := by
   have h9 := cdI_lt n 63
   exact cZ (by omega) (by omega)
  have hone : bJ .u8 (iH .u8 (rd L2 ((0 : Nat) : Int)).FA 1) 1 = 1 := by
   have := bit1 ⟨(rd L2 ((0 : Nat) : Int)).FA.toNat, by have := hbyf.1; have := hbyf.2; omega⟩
   have e : (((rd L2 ((0 : Nat) : Int)).FA.toNat : Nat) : Int) = (rd L2 ((0 : Nat) : Int)).FA := by have := hbyf.1; omega
   simp only [e] at this; exact this
  simp only [kp2', Option.bind_some, qj hn, at1, at0, v1, v0, hw64, hone, beq_self_eq_true, cond_true]
end Go.Vt
