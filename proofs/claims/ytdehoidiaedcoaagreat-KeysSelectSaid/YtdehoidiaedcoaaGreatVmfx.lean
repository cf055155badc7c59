/- Lemmas. No conditions. -/
import Derived.Test.YtdehoidiaedcoaaGreatVmex
set_option linter.unusedVariables false
set_option linter.unusedSimpArgs false
set_option linter.unusedVariables false
set_option linter.unusedSimpArgs false
namespace Go.Vt
structure Dim (r c : Int) (N : Nat) : Prop where
 d : (r = 24 ∧ c = 80 ∧ N = 1920) ∨ (r = 32 ∧ c = 80 ∧ N = 2560) ∨ (r = 43 ∧ c = 80 ∧ N = 3440) ∨ (r = 27 ∧ c = 132 ∧ N = 3564)
theorem Dim.le {r c : Int} {N : Nat} (h : Dim r c N) : 1920 ≤ N ∧ N ≤ 3564 := by rcases h.d with ⟨_, _, h⟩ | ⟨_, _, h⟩ | ⟨_, _, h⟩ | ⟨_, _, h⟩ <;> omega
/-- a whole number as Go has it -/
def I64 (n : Int) : Prop := -9223372036854775808 ≤ n ∧ n < 9223372036854775808
theorem kS {r c : Int} {N : Nat} (h : Dim r c N) : cY ⟨r, c⟩ = some true := by
 rcases h.d with ⟨rfl, rfl, rfl⟩ | ⟨rfl, rfl, rfl⟩ | ⟨rfl, rfl, rfl⟩ | ⟨rfl, rfl, rfl⟩ <;> decide +kernel
theorem m8 {r c : Int} {N : Nat} (h : Dim r c N) : b5 ⟨r, c⟩ = some (N : Int) := by
 rcases h.d with ⟨rfl, rfl, rfl⟩ | ⟨rfl, rfl, rfl⟩ | ⟨rfl, rfl, rfl⟩ | ⟨rfl, rfl, rfl⟩ <;> decide +kernel
theorem nZ {n : Int} {N : Nat} (hN : 0 < N) : (0 ≤ n.tmod N ∧ n.tmod N = n % N) ∨ (n.tmod N < 0 ∧ n.tmod N + N = n % N) := by
 have hN' : (0 : Int) < N := by omega
 have h3 := Int.emod_nonneg n (show (N : Int) ≠ 0 by omega)
 have h4 := Int.emod_lt_of_pos n hN'
 by_cases h : 0 ≤ n
 ·left
  have h1 := Int.tmod_eq_emod_of_nonneg (b := (N : Int)) h
  exact ⟨by rw [h1]; exact h3, h1⟩
 ·have h1 : n.tmod N = -((-n) % N) := by
   rw [← Int.tmod_eq_emod_of_nonneg (show 0 ≤ -n by omega), Int.neg_tmod]; omega
  have h5 := Int.emod_nonneg (-n) (show (N : Int) ≠ 0 by omega)
  have h6 := Int.emod_lt_of_pos (-n) hN'
  have h7 : n = N * (n / N) + n % N := (Int.mul_ediv_add_emod n N).symm
  have h8 : -n = N * (-n / N) + (-n) % N := (Int.mul_ediv_add_emod (-n) N).symm
  have h9 : (N : Int) * (n / N + -n / N) + (n % N + (-n) % N) = 0 := by rw [Int.mul_add]; omega
  generalize hq : n / (N : Int) + -n / (N : Int) = q at h9
  by_cases hz : (-n) % (N : Int) = 0
  ·left
   have : q = 0 := by
    rcases Int.lt_trichotomy q 0 with hq0 | hq0 | hq0
    ·have : (N : Int) * q ≤ N * (-1) := Int.mul_le_mul_of_nonneg_left (by omega) (by omega)
     omega
    ·exact hq0
    ·have : (N : Int) * 1 ≤ N * q := Int.mul_le_mul_of_nonneg_left (by omega) (by omega)
     omega
   subst this; rw [Int.mul_zero] at h9
   exact ⟨by omega, by omega⟩
  ·right
   have : q = -1 := by
    rcases Int.lt_trichotomy q (-1) with hq0 | hq0 | hq0
    ·have : (N : Int) * q ≤ N * (-2) := Int.mul_le_mul_of_nonneg_left (by omega) (by omega)
     omega
    ·exact hq0
    ·have : (N : Int) * 0 ≤ N * q := Int.mul_le_mul_of_nonneg_left (by omega) (by omega)
     omega
   subst this
   exact ⟨by omega, by omega⟩
theorem nU {n : Int} {N : Nat} (hN : 0 < N) (h2 : N ≤ 1000000) : fD n N = some (n % N) := by
 unfold fD
 rw [aV (by omega)]
 have h4 := Int.emod_lt_of_pos n (show (0 : Int) < N by omega)
 have h5 := Int.emod_nonneg n (show (N : Int) ≠ 0 by omega)
 rcases nZ (n := n) hN with ⟨h, h3⟩ | ⟨h, h3⟩
 ·have d1 : decide (n.tmod N < 0) = false := decide_eq_false (by omega)
  simp only [d1, cond_false, Option.bind_some]; rw [h3]
 ·have d1 : decide (n.tmod N < 0) = true := decide_eq_true h
  simp only [d1, cond_true, Option.bind_some]
  rw [h3, cZ (by omega) (by omega)]
theorem mF {r c : Int} {N : Nat} (h : Dim r c N) (n : Int) : aN ⟨r, c⟩ n = some (n % N) := by
 have := h.le
 unfold aN; simp only [kS h, m8 h, Option.bind_some, Bool.not_true, cond_false]
 rw [nU (by omega) (by omega)]; rfl
/-! ### the document's -/
theorem o4 {r c : Int} {N : Nat} (h : Dim r c N) : dI ⟨r, c⟩ = some true := by
 rcases h.d with ⟨rfl, rfl, rfl⟩ | ⟨rfl, rfl, rfl⟩ | ⟨rfl, rfl, rfl⟩ | ⟨rfl, rfl, rfl⟩ <;> decide +kernel
theorem lD {r c : Int} {N : Nat} (h : Dim r c N) : db ⟨r, c⟩ = some (N : Int) := by
 rcases h.d with ⟨rfl, rfl, rfl⟩ | ⟨rfl, rfl, rfl⟩ | ⟨rfl, rfl, rfl⟩ | ⟨rfl, rfl, rfl⟩ <;> decide +kernel
theorem lc {n : Int} {N : Nat} (hN : 0 < N) (h2 : N ≤ 1000000) : bs n N = some (n % N) := by
 unfold bs
 have d1 : decide ((N : Int) < 1) = false := decide_eq_false (by omega)
 have h4 := Int.emod_lt_of_pos n (show (0 : Int) < N by omega)
 have h5 := Int.emod_nonneg n (show (N : Int) ≠ 0 by omega)
 simp only [d1, cond_false]
 rw [aV (by omega), aV (by omega)]
 rcases nZ (n := n) hN with ⟨h, h3⟩ | ⟨h, h3⟩
 ·rw [cZ (by omega) (by omega), h3, Int.tmod_eq_emod_of_nonneg (by omega), Int.add_emod_right, Int.emod_emod]
 ·rw [cZ (by omega) (by omega), h3, Int.tmod_eq_emod_of_nonneg (by omega), Int.emod_emod]
theorem qf {r c : Int} {N : Nat} (h : Dim r c N) (n : Int) : dz ⟨r, c⟩ n = some (n % N) := by
 have := h.le
 unfold dz; simp only [lD h, Option.bind_some]
 rw [lc (by omega) (by omega)]; rfl
/-! ### cells -/
abbrev zc : ad := ⟨0, false, 0, 0, 0, 0⟩
/-- a cell as it may stand -/
structure COk (c : ad) : Prop where
 char : By c.Char
 fa : By c.FA
 high : By c.High
 color : By c.Color
 set : By c.f_Set
 attr : c.Attr = true → c.Char = 0 ∧ bJ .u8 c.FA 61 = c.FA
 plain : c.Attr = false → c.FA = 0
def fit (c : ad) : ad := if c.Attr then { c with Char := 0, FA := bJ .u8 c.FA 61 } else { c with FA := 0 }
theorem COk.fit {c : ad} (h : COk c) : fit c = c := by
 unfold Vt.fit
 cases ha : c.Attr with
 | true => obtain ⟨h1, h2⟩ := h.attr ha; simp only [if_true]; rw [h2, ← h1]; cases c; simp_all
 | false => have h1 := h.plain ha; simp only [Bool.false_eq_true, if_false]; rw [← h1]; cases c; simp_all
instance (n : Int) : Decidable (By n) := by unfold By; infer_instance
theorem band61 : ∀ f : Fin 256, By (bJ .u8 (f.val : Int) 61) ∧ bJ .u8 (bJ .u8 (f.val : Int) 61) 61 = bJ .u8 (f.val : Int) 61 ∧ f6 (f.val : Int) = some (bJ .u8 (f.val : Int) 61) := by decide +kernel
/-- what is told of a cell: bytes -/
structure CB (c : ad) : Prop where
 char : By c.Char
 fa : By c.FA
 high : By c.High
 color : By c.Color
 set : By c.f_Set
theorem COk.cb {c : ad} (h : COk c) : CB c := ⟨h.char, h.fa, h.high, h.color, h.set⟩
theorem by0 : By 0 := ⟨by omega, by omega⟩
theorem fit_ok {c : ad} (h : CB c) : COk (Vt.fit c) := by
 unfold Vt.fit; obtain ⟨f, hf⟩ := h.fa.fin; obtain ⟨b1, b2, _⟩ := band61 f; rw [hf] at b1 b2
 cases ha : c.Attr with
 | true => simp only [if_true]; exact ⟨by0, b1, h.high, h.color, h.set, fun _ => ⟨rfl, b2⟩, (fun e => by cases e)⟩
 | false => simp only [Bool.false_eq_true, if_false]; exact ⟨h.char, by0, h.high, h.color, h.set, (fun e => by cases e), fun _ => rfl⟩
theorem rM : COk zc := ⟨by0, by0, by0, by0, by0, (fun h => by cases h), fun _ => rfl⟩
theorem rfit_ok {c : ad} (h : CB c) : e7 c = some (Vt.fit c) := by
 obtain ⟨f, hf⟩ := h.fa.fin; obtain ⟨_, _, b3⟩ := band61 f; rw [hf] at b3; unfold e7 Vt.fit
 cases ha : c.Attr with
 | true => simp only [cond_true, b3, Option.bind_some, if_true]
 | false => simp only [cond_false, Option.bind_some, Bool.false_eq_true, if_false]
/-! ### the document's space -/
/-- model, and which size -/
def l5 (m : Int) (alt : Bool) (r c : Int) (N : Nat) : Prop := if alt then (m = 2 ∧ r = 24 ∧ c = 80 ∧ N = 1920) ∨ (m = 3 ∧ r = 32 ∧ c = 80 ∧ N = 2560) ∨ (m = 4 ∧ r = 43 ∧ c = 80 ∧ N = 3440) ∨ (m = 5 ∧ r = 27 ∧ c = 132 ∧ N = 3564) else r = 24 ∧ c = 80 ∧ N = 1920
theorem l5.dim {m : Int} {alt : Bool} {r c : Int} {N : Nat} (h : l5 m alt r c N) : Dim r c N := by
 unfold l5 at h
 cases alt with
 | true =>
  simp only [if_true] at h; rcases h with ⟨_, h⟩ | ⟨_, h⟩ | ⟨_, h⟩ | ⟨_, h⟩
  ·exact ⟨.inl h⟩
  ·exact ⟨.inr (.inl h)⟩
  ·exact ⟨.inr (.inr (.inl h))⟩
  ·exact ⟨.inr (.inr (.inr h))⟩
 | false => simp only [Bool.false_eq_true, if_false] at h; exact ⟨.inl h⟩
structure RS (m : Int) (N : Nat) (x : aa) : Prop where
 model : x.Model = m
 dim : l5 m x.Alt x.Size.Rows x.Size.Cols N
 len : x.L.length = N
 ok : ∀ c ∈ x.L, COk c
 cur : 0 ≤ x.Cursor ∧ x.Cursor < N
theorem fL {m : Int} {N : Nat} {x : aa} (h : RS m N x) (n : Int) : aT x n = some (n % N) := by
 unfold aT; rw [show x.Size = ⟨x.Size.Rows, x.Size.Cols⟩ from rfl, qf h.dim.dim]; rfl
theorem jx (n : Int) {N : Nat} (h : 0 < N) : ∃ k : Nat, n % N = (k : Int) ∧ k < N := by
 have h4 := Int.emod_lt_of_pos n (show (0 : Int) < N by omega)
 have h5 := Int.emod_nonneg n (show (N : Int) ≠ 0 by omega)
 exact ⟨(n % N).toNat, by omega, by omega⟩
theorem rs_at {m : Int} {N : Nat} {x : aa} (h : RS m N x) (n : Int) : fp x n = some (rd x.L (n % N)) := by
 have hd := h.dim.dim.le
 obtain ⟨k, hk, hlt⟩ := jx n (N := N) (by omega)
 unfold fp
 have hl := h.len
 simp only [fL h, Option.bind_some]
 rw [aV (by omega)]
theorem fG {τ : Type} [Inhabited τ] {l : List τ} {n : Int} (h : 0 ≤ n ∧ n < l.length) : rd l n ∈ l := List.mem_of_getElem? (nD h)
theorem kW {m : Int} {N : Nat} {x : aa} (h : RS m N x) (n : Int) {c : ad} (hc : CB c) :
  bx x n c = some ⟨x.Model, x.Alt, x.Size, x.L.set (n % N).toNat (Vt.fit c), x.Cursor⟩ ∧ RS m N ⟨x.Model, x.Alt, x.Size, x.L.set (n % N).toNat (Vt.fit c), x.Cursor⟩ := by
 have hd := h.dim.dim.le
 obtain ⟨k, hk, hlt⟩ := jx n (N := N) (by omega)
 have hl := h.len
 refine ⟨?_, h.model, h.dim, by simp [hl], fun d hd' => ?_, h.cur⟩
 ·unfold bx; simp only [fL h, rfit_ok hc, Option.bind_some]
  rw [aV (by omega)]
 ·rcases List.mem_or_eq_of_mem_set hd' with h1 | h1
  ·exact h.ok d h1
  ·rw [h1]; exact fit_ok hc
theorem rs_put {m : Int} {N : Nat} {x : aa} (h : RS m N x) (n : Int) {c : Int} (hc : By c) : ∃ x', bf x n c = some x' ∧ RS m N x' ∧ x'.Alt = x.Alt := by
 have hd := h.dim.dim.le
 obtain ⟨k, hk, hlt⟩ := jx n (N := N) (by omega)
 have hl := h.len
 have hm := h.ok _ (fG (l := x.L) (n := n % N) (by omega))
 unfold bf; simp only [rs_at h, Option.bind_some]
 cases ha : (rd x.L (n % N)).Attr with
 | true => simp only [Bool.not_true, cond_false]; exact ⟨_, rfl, h, rfl⟩
 | false =>
  simp only [Bool.not_false, cond_true]; obtain ⟨h1, h2⟩ := kW h n (c := ⟨c, false, (rd x.L (n % N)).FA, (rd x.L (n % N)).High, (rd x.L (n % N)).Color, (rd x.L (n % N)).f_Set⟩) ⟨hc, hm.fa, hm.high, hm.color, hm.set⟩
  have h1' : bx ⟨x.Model, x.Alt, x.Size, x.L, x.Cursor⟩ n _ = _ := h1
  rw [h1']; exact ⟨_, rfl, h2, rfl⟩
def lU (m : Int) : Prop := m = 2 ∨ m = 3 ∨ m = 4 ∨ m = 5
def nOf (m : Int) (alt : Bool) : Nat := if alt then (if m = 2 then 1920 else if m = 3 then 2560 else if m = 4 then 3440 else 3564) else 1920
def rOf (m : Int) (alt : Bool) : Int := if alt then (if m = 2 then 24 else if m = 3 then 32 else if m = 4 then 43 else 27) else 24
def cOf (m : Int) (alt : Bool) : Int := if alt then (if m = 5 then 132 else 80) else 80
theorem oE {m : Int} (h : lU m) (alt : Bool) : l5 m alt (rOf m alt) (cOf m alt) (nOf m alt) := by
 unfold l5 rOf cOf nOf; rcases h with rfl | rfl | rfl | rfl <;> cases alt <;> simp
theorem l5.n {m : Int} {alt : Bool} {r c : Int} {N : Nat} (h : l5 m alt r c N) : r = rOf m alt ∧ c = cOf m alt ∧ N = nOf m alt := by
 unfold l5 at h; unfold rOf cOf nOf
 cases alt with
 | true => simp only [if_true] at h; rcases h with ⟨rfl, rfl, rfl, rfl⟩ | ⟨rfl, rfl, rfl, rfl⟩ | ⟨rfl, rfl, rfl, rfl⟩ | ⟨rfl, rfl, rfl, rfl⟩ <;> simp
 | false => simpa using h
def clr (m : Int) (alt : Bool) : aa := ⟨m, alt, ⟨rOf m alt, cOf m alt⟩, List.replicate (nOf m alt) zc, 0⟩
theorem qZ {m : Int} (h : lU m) (alt : Bool) : RS m (nOf m alt) (clr m alt) := by
 have hd := oE h alt
 have := hd.dim.le
 exact ⟨rfl, hd, by simp [clr], fun c hc => by rw [(List.mem_replicate.1 hc).2]; exact rM, by simp only [clr]; omega⟩
theorem nk {m : Int} (h : lU m) : cB m = some (⟨rOf m true, cOf m true⟩, true) := by
 rcases h with rfl | rfl | rfl | rfl <;> decide +kernel
theorem nl {x : aa} {m : Int} (h : lU m) (hx : x.Model = m) (alt : Bool) : dk x alt = some (clr m alt) ∧ ew x alt = some (clr m alt) := by
 have h2 := nk (m := 2) (.inl rfl)
 have hm := nk h
 have hd := oE h alt
 have hle := hd.dim.le
 unfold dk ew; simp only [h2, hm, hx, Option.bind_some]
 cases alt with
 | true =>
  simp only [cond_true, Option.bind_some, lD hd.dim]
  rw [aV (show (0 : Int) ≤ (nOf m true : Int) ∧ (nOf m true : Int) ≤ 68719476736 by omega)]
  exact ⟨rfl, rfl⟩
 | false =>
  have hd' : Dim (rOf 2 true) (cOf 2 true) (nOf m false) := ⟨.inl ⟨rfl, rfl, rfl⟩⟩
  simp only [cond_false, Option.bind_some, lD hd']
  rw [aV (show (0 : Int) ≤ (nOf m false : Int) ∧ (nOf m false : Int) ≤ 68719476736 by omega)]
  exact ⟨rfl, rfl⟩
theorem rnew_ok {m : Int} (h : lU m) : e5 m = some (.inr (clr m false)) := by
 unfold e5; simp only [nk h, Option.bind_some, Bool.not_true, cond_false]; rw [(nl h (x := ⟨m, false, ⟨0, 0⟩, [], 0⟩) rfl false).2]; rfl
end Go.Vt
set_option linter.unusedVariables false
set_option linter.unusedSimpArgs false
namespace Go.Vt
structure AOk (a : aI) : Prop where
 do_ : By a.Do
 code : By a.Code
 c : CB a.C
 text : Bs a.Text
 len : a.Text.length ≤ 9223372036854775807
abbrev T6 := Int × Bool × Int × Int × List ad × Int
abbrev of6 (y : T6) : aa := ⟨y.1, y.2.1, ⟨y.2.2.1, y.2.2.2.1⟩, y.2.2.2.2.1, y.2.2.2.2.2⟩
theorem do_loop {m : Int} {N : Nat} {a : aI} (ha : AOk a) {y : T6} (h : RS m N (of6 y)) : ∃ r : T6, c6 a bv (0, y) = some r ∧ RS m N (of6 r) := by
 refine ir (L := c6 a) (n := a.Text.length) (fun _ y => RS m N (of6 y)) (fun r => RS m N (of6 r)) (by have := ha.len; omega) ?_ ?_ h
 ·intro k i y hi hy
  have hle := hy.dim.dim.le
  rw [c6.eq_2]
  have hlen := ha.len
  have d1 : decide ((i : Int) < (a.Text.length : Int)) = true := decide_eq_true (by omega)
  simp only [d1, cond_true]
  rw [aV (by omega)]
  by_cases h2 : i < 200
  ·have d2 : decide ((i : Int) < 200) = true := decide_eq_true (by omega)
   have hB : By (rd a.Text (i : Int)) := ha.text _ (fG (by omega))
   obtain ⟨j, hj, hjl⟩ := jx a.N (N := N) (by omega)
   obtain ⟨x', h3, h4, _⟩ := rs_put hy (w64 (a.N % N + i)) hB
   simp only [d2, cond_true, fL hy, Option.bind_some, h3, gB (show i < 9223372036854775807 by omega)]
   exact ⟨_, rfl, h4⟩
  ·have d2 : decide ((i : Int) < 200) = false := decide_eq_false (by omega)
   simp only [d2, cond_false, Option.bind_some, gB (show i < 9223372036854775807 by omega)]
   exact ⟨_, rfl, hy⟩
 ·intro k y hy; rw [c6.eq_2]
  have d1 : decide ((a.Text.length : Int) < (a.Text.length : Int)) = false := decide_eq_false (by omega)
  simp only [d1, cond_false]; exact ⟨_, rfl, hy⟩
theorem RS.nof {m : Int} {N : Nat} {x : aa} (h : RS m N x) : N = nOf m x.Alt := h.dim.n.2.2
theorem tmod6 {n : Int} (h : By n) : 0 ≤ n.tmod 6 ∧ n.tmod 6 < 6 := by
 have := h.1
 rw [Int.tmod_eq_emod_of_nonneg this]; omega
theorem rs_do {m : Int} {N : Nat} (hm : lU m) {x : aa} (h : RS m N x) {a : aI} (ha : AOk a) : ∃ N' x', bS x a = some x' ∧ RS m N' x' := by
 have hle := h.dim.dim.le
 unfold bS
 have h6 := tmod6 ha.do_
 generalize hz : a.Do.tmod 6 = z at h6 ⊢
 have hx : (⟨x.Model, x.Alt, x.Size, x.L, x.Cursor⟩ : aa) = x := rfl
 obtain ⟨j, hj, hjl⟩ := jx a.N (N := N) (by omega)
 have cases6 : z = 0 ∨ z = 1 ∨ z = 2 ∨ z = 3 ∨ z = 4 ∨ z = 5 := by omega
 rcases cases6 with rfl | rfl | rfl | rfl | rfl | rfl
 ·have e0 : ((0 : Int) == 0) = true := rfl
  simp only [e0, cond_true, (nl hm h.model a.On).1, Option.bind_some]; exact ⟨_, _, rfl, qZ hm a.On⟩
 ·have e0 : ((1 : Int) == 0) = false := rfl
  have e1 : ((1 : Int) == 1) = true := rfl
  simp only [e0, e1, cond_true, cond_false, hx, fL h, Option.bind_some]
  exact ⟨_, _, rfl, ⟨h.model, h.dim, h.len, h.ok, by simp only; omega⟩⟩
 ·obtain ⟨x', h1, h2, _⟩ := rs_put h a.N ha.code
  have e0 : ((2 : Int) == 0) = false := rfl
  have e1 : ((2 : Int) == 1) = false := rfl
  have e2 : ((2 : Int) == 2) = true := rfl
  simp only [e0, e1, e2, cond_true, cond_false, hx, h1, Option.bind_some]; exact ⟨_, _, rfl, h2⟩
 ·obtain ⟨h1, h2⟩ := kW h a.N (c := ⟨0, true, a.Code, 0, 0, 0⟩) ⟨by0, ha.code, by0, by0, by0⟩
  have e0 : ((3 : Int) == 0) = false := rfl
  have e1 : ((3 : Int) == 1) = false := rfl
  have e2 : ((3 : Int) == 2) = false := rfl
  have e3 : ((3 : Int) == 3) = true := rfl
  simp only [e0, e1, e2, e3, cond_true, cond_false, hx, h1, Option.bind_some]; exact ⟨_, _, rfl, h2⟩
 ·obtain ⟨h1, h2⟩ := kW h a.N ha.c
  have e0 : ((4 : Int) == 0) = false := rfl
  have e1 : ((4 : Int) == 1) = false := rfl
  have e2 : ((4 : Int) == 2) = false := rfl
  have e3 : ((4 : Int) == 3) = false := rfl
  have e4 : ((4 : Int) == 4) = true := rfl
  simp only [e0, e1, e2, e3, e4, cond_true, cond_false, hx, h1, Option.bind_some]; exact ⟨_, _, rfl, h2⟩
 ·obtain ⟨r, h1, h2⟩ := do_loop ha (y := (x.Model, x.Alt, x.Size.Rows, x.Size.Cols, x.L, x.Cursor)) h
  have e0 : ((5 : Int) == 0) = false := rfl
  have e1 : ((5 : Int) == 1) = false := rfl
  have e2 : ((5 : Int) == 2) = false := rfl
  have e3 : ((5 : Int) == 3) = false := rfl
  have e4 : ((5 : Int) == 4) = false := rfl
  simp only [e0, e1, e2, e3, e4, cond_true, cond_false, h1, Option.bind_some]; exact ⟨_, _, rfl, h2⟩
/-! ### the program's space -/
def cnt (l : List ad) : Int := ((l.filter (·.Attr)).length : Int)
theorem cnt_le (l : List ad) : 0 ≤ cnt l ∧ cnt l ≤ l.length := by
 have := List.length_filter_le (fun c : ad => c.Attr) l
 unfold cnt; omega
theorem cnt_app (a b : List ad) : cnt (a ++ b) = cnt a + cnt b := by unfold cnt; simp [List.filter_append]
def c1 (c : ad) : Int := if c.Attr then 1 else 0
theorem oI (c : ad) (l : List ad) : cnt (c :: l) = c1 c + cnt l := by
 unfold cnt c1; cases h : c.Attr <;> simp [List.filter_cons, h]; omega
theorem pW : ∀ (l : List ad) (n : Nat) (c : ad) (h : n < l.length), cnt (l.set n c) = cnt l + (c1 c - c1 l[n])
 | [], n, c, h => by simp at h
 | x :: l, 0, c, h => by simp only [List.set_cons_zero, oI, List.getElem_cons_zero]; omega
 | x :: l, n + 1, c, h => by
  simp only [List.set_cons_succ, oI, List.getElem_cons_succ]
  rw [pW l n c (by simpa using h)]; omega
/-- the program's space of model m -/
structure SS (m : Int) (N : Nat) (s : ab) : Prop where
 model : s.model = m
 dim : l5 m s.alternate s.size.Rows s.size.Cols N
 len : s.cells.length = N
 ok : ∀ c ∈ s.cells, COk c
 cur : 0 ≤ s.cursor ∧ s.cursor < N
 attrs : s.attrs = cnt s.cells
theorem mN {m : Int} {N : Nat} {s : ab} (h : SS m N s) (n : Int) : aN s.size n = some (n % N) := by
 rw [show s.size = ⟨s.size.Rows, s.size.Cols⟩ from rfl, mF h.dim.dim]
theorem g8 {m : Int} {N : Nat} {s : ab} (h : SS m N s) (n : Int) : aK s n = some (rd s.cells (n % N)) := by
 have hd := h.dim.dim.le
 obtain ⟨k, hk, hlt⟩ := jx n (N := N) (by omega)
 unfold aK
 have hl := h.len
 simp only [mN h, Option.bind_some]
 rw [aV (by omega)]
theorem count_ok (c : ad) : gp c = some (c1 c) := by
 unfold gp c1; cases c.Attr <;> rfl
theorem px {m : Int} {N : Nat} {s : ab} (h : SS m N s) (n : Int) {c : ad} (hc : CB c) :
  bZ s n c = some ⟨s.model, s.alternate, s.size, s.cells.set (n % N).toNat (Vt.fit c), s.cursor, cnt (s.cells.set (n % N).toNat (Vt.fit c))⟩ ∧ SS m N ⟨s.model, s.alternate, s.size, s.cells.set (n % N).toNat (Vt.fit c), s.cursor, cnt (s.cells.set (n % N).toNat (Vt.fit c))⟩ := by
 have hd := h.dim.dim.le
 obtain ⟨k, hk, hlt⟩ := jx n (N := N) (by omega)
 have hl := h.len
 refine ⟨?_, h.model, h.dim, by simp [hl], fun d hd' => ?_, h.cur, rfl⟩
 ·unfold bZ
  have hkl : k < s.cells.length := by omega
  have hcs := pW s.cells k (Vt.fit c) hkl
  have hle := cnt_le s.cells
  have b1 : ∀ d : ad, 0 ≤ c1 d ∧ c1 d ≤ 1 := fun d => by unfold c1; split <;> omega
  have b2 := b1 (Vt.fit c)
  have b3 := b1 s.cells[k]
  have hf : ((cond c.Attr (some (0, bJ .u8 c.FA 61)) (some (c.Char, 0))).bind fun (d1 : Int × Int) => some ({ c with Char := d1.1, FA := d1.2 } : ad)) = some (Vt.fit c) := by
   unfold Vt.fit; cases h : c.Attr <;> simp [h]
  obtain ⟨d1, h1, h2⟩ := ah hf; simp only [h1, mN h, Option.bind_some, Option.some.inj h2, count_ok]
  rw [aV (by omega), aV (by omega), hk, rdn hkl, h.attrs, Int.toNat_natCast, hcs, cZ (x := c1 (Vt.fit c) - c1 s.cells[k]) (by omega) (by omega), cZ (by omega) (by omega)]
 ·rcases List.mem_or_eq_of_mem_set hd' with h1 | h1
  ·exact h.ok d h1
  ·rw [h1]; exact fit_ok hc
theorem od {m : Int} (h : lU m) : gR m = some (⟨rOf m true, cOf m true⟩, 0) := by
 rcases h with rfl | rfl | rfl | rfl <;> decide +kernel
def sclr (m : Int) (alt : Bool) : ab := ⟨m, alt, ⟨rOf m alt, cOf m alt⟩, List.replicate (nOf m alt) zc, 0, 0⟩
theorem cnt_rep (n : Nat) : cnt (List.replicate n zc) = 0 := by
 unfold cnt; simp [List.filter_replicate]
theorem oJ {s : ab} {m : Int} (h : lU m) (hs : s.model = m) (alt : Bool) : cW s alt = some (sclr m alt) ∧ eM s alt = some (sclr m alt) := by
 have h2 := od (m := 2) (.inl rfl)
 have hm := od h
 have hd := oE h alt
 have hle := hd.dim.le
 unfold cW eM; simp only [h2, hm, hs, Option.bind_some]
 cases alt with
 | true =>
  simp only [cond_true, Option.bind_some, hm, m8 hd.dim]
  rw [aV (show (0 : Int) ≤ (nOf m true : Int) ∧ (nOf m true : Int) ≤ 68719476736 by omega)]
  exact ⟨rfl, rfl⟩
 | false =>
  have hd' : Dim (rOf 2 true) (cOf 2 true) (nOf m false) := ⟨.inl ⟨rfl, rfl, rfl⟩⟩
  simp only [cond_false, Option.bind_some, h2, m8 hd']
  rw [aV (show (0 : Int) ≤ (nOf m false : Int) ∧ (nOf m false : Int) ≤ 68719476736 by omega)]
  exact ⟨rfl, rfl⟩
theorem new_ok {m : Int} (h : lU m) : iY m = some (.inr (sclr m false, 0)) := by
 unfold iY; simp only [od h, Option.bind_some]
 have d0 : ((0 : Int) != 0) = false := rfl
 simp only [d0, cond_false, (oJ h (s := ⟨m, false, ⟨0, 0⟩, [], 0, 0⟩) rfl false).2, Option.bind_some]
theorem qd {m : Int} {N : Nat} {s : ab} (h : SS m N s) (n : Int) : bA s n = some { s with cursor := n % N } := by
 unfold bA; simp only [mN h, Option.bind_some]
/-- the program's space is the document's -/
structure Lk (m : Int) (N : Nat) (s : ab) (x : aa) : Prop where
 rs : RS m N x
 ss : SS m N s
 alt : s.alternate = x.Alt
 cells : s.cells = x.L
 cur : s.cursor = x.Cursor
 sz : s.size = ⟨x.Size.Rows, x.Size.Cols⟩
theorem sb {p : Int} (h : By p) : w64 (2 + w64 (p.tmod 4)) = 2 + p % 4 ∧ lU (2 + p % 4) := by
 have h0 := h.1
 rw [Int.tmod_eq_emod_of_nonneg h0]
 have h1 := Int.emod_nonneg p (show (4 : Int) ≠ 0 by omega)
 have h2 := Int.emod_lt_of_pos p (show (0 : Int) < 4 by omega)
 rw [cZ (x := p % 4) (by omega) (by omega), cZ (by omega) (by omega)]
 exact ⟨rfl, by unfold lU; omega⟩
end Go.Vt
set_option linter.unusedVariables false
set_option linter.unusedSimpArgs false
namespace Go.Vt
def kG : aa → List aI → Option aa
 | x, [] => some x
 | x, a :: r => (bS x a).bind fun y => kG y r
theorem pr : ∀ (l r : List aI) (x : aa), kG x (l ++ r) = (kG x l).bind fun y => kG y r
 | [], r, x => rfl
 | a :: l, r, x => by
  simp only [List.cons_append, kG]
  cases bS x a with
  | none => rfl
  | some y => simp only [Option.bind_some]; exact pr l r y
/-- the program's space, of the document's -/
def prog (x : aa) : ab := ⟨x.Model, x.Alt, ⟨x.Size.Rows, x.Size.Cols⟩, x.L, x.Cursor, cnt x.L⟩
theorem RS.lk {m : Int} {N : Nat} {x : aa} (h : RS m N x) : Lk m N (prog x) x := ⟨h, ⟨h.model, h.dim, h.len, h.ok, h.cur, rfl⟩, rfl, rfl, rfl, rfl⟩
abbrev T7 := Int × Bool × Int × Int × List ad × Int × Int
theorem min30_lt {i : Nat} (h : i < 30) : min i 30 = i ∧ min (i + 1) 30 = i + 1 := by omega
theorem min30_ge {i : Nat} (h : ¬ i < 30) : min i 30 = 30 ∧ min (i + 1) 30 = 30 := by omega
end Go.Vt
set_option linter.unusedVariables false
set_option linter.unusedSimpArgs false
namespace Go.Vt
theorem mI {m : Int} (hm : lU m) {acts : List aI} (ha : ∀ a ∈ acts, AOk a) (hl : acts.length ≤ 9223372036854775807) (t : Int × T7) :
  ∃ r, cy acts bv (0, m, false, rOf m false, cOf m false, List.replicate (nOf m false) zc, 0, t) = some r ∧ ∃ N x, kG (clr m false) (acts.take 30) = some x ∧ RS m N x ∧ r = (x.Model, x.Alt, x.Size.Rows, x.Size.Cols, x.L, x.Cursor, t) := by
 have h0 := qZ hm false
 refine ir (L := cy acts) (n := acts.length) (fun i y => ∃ N x, kG (clr m false) (acts.take (min i 30)) = some x ∧ RS m N x ∧ y = (x.Model, x.Alt, x.Size.Rows, x.Size.Cols, x.L, x.Cursor, t))
  (fun r => ∃ N x, kG (clr m false) (acts.take 30) = some x ∧ RS m N x ∧ r = (x.Model, x.Alt, x.Size.Rows, x.Size.Cols, x.L, x.Cursor, t)) (by omega) ?_ ?_ ⟨_, _, rfl, h0, rfl⟩
 ·rintro k i y hi ⟨N, x, hx, hr, rfl⟩; rw [cy.eq_2]
  have d1 : decide ((i : Int) < (acts.length : Int)) = true := decide_eq_true (by omega)
  simp only [d1, cond_true]
  rw [aV (by omega), gB (by omega)]
  by_cases h2 : i < 30
  ·have d2 : decide ((i : Int) < 30) = true := decide_eq_true (by omega)
   have hA : AOk acts[i] := ha _ (List.getElem_mem hi)
   obtain ⟨N', x', h3, h4⟩ := rs_do hm hr hA
   have hxe : (⟨x.Model, x.Alt, ⟨x.Size.Rows, x.Size.Cols⟩, x.L, x.Cursor⟩ : aa) = x := rfl
   have hce : ({ acts[i] with C := acts[i].C } : aI) = acts[i] := rfl
   simp only [d2, cond_true, rdn hi, hxe, hce, h3, Option.bind_some]; refine ⟨_, rfl, N', x', ?_, h4, rfl⟩; obtain ⟨e1, e2⟩ := min30_lt h2; rw [e1] at hx; rw [e2, List.take_succ_eq_append_getElem hi, pr, hx]; simp only [Option.bind_some, kG, h3]
  ·have d2 : decide ((i : Int) < 30) = false := decide_eq_false (by omega)
   simp only [d2, cond_false, Option.bind_some]; obtain ⟨e1, e2⟩ := min30_ge h2; rw [e1] at hx
   exact ⟨_, rfl, N, x, by rw [e2]; exact hx, hr, rfl⟩
 ·rintro k y ⟨N, x, hx, hr, rfl⟩; rw [cy.eq_2]
  have d1 : decide ((acts.length : Int) < (acts.length : Int)) = false := decide_eq_false (by omega)
  simp only [d1, cond_false]; refine ⟨_, rfl, N, x, ?_, hr, rfl⟩
  by_cases h : acts.length ≤ 30
  ·rw [Nat.min_eq_left h] at hx; rw [← hx, List.take_of_length_le h, List.take_of_length_le (Nat.le_refl _)]
  ·rw [Nat.min_eq_right (by omega)] at hx; exact hx
theorem l6 {m : Int} {N : Nat} {x : aa} (hr : RS m N x) (d : Int × Bool × Int × Int × List ad × Int × Int × T7) (hd : d.2.2.2.2.1 = x.L) :
  cx d bv (0, m, x.Alt, x.Size.Rows, x.Size.Cols, List.replicate N zc, 0, 0) = some (m, x.Alt, x.Size.Rows, x.Size.Cols, x.L, 0, cnt x.L) := by
 have hle := hr.dim.dim.le
 have hlen := hr.len
 have key := ir (L := cx d) (n := N) (s := (m, x.Alt, x.Size.Rows, x.Size.Cols, List.replicate N zc, 0, 0))
  (fun i y => ∃ s : ab, SS m N s ∧ y = (s.model, s.alternate, s.size.Rows, s.size.Cols, s.cells, s.cursor, s.attrs) ∧ s.alternate = x.Alt ∧ s.size = ⟨x.Size.Rows, x.Size.Cols⟩ ∧ s.cursor = 0 ∧ s.cells = x.L.take i ++ List.replicate (N - i) zc)
  (fun r => r = (m, x.Alt, x.Size.Rows, x.Size.Cols, x.L, 0, cnt x.L)) (by omega) ?_ ?_ ?_
 ·obtain ⟨r, h1, h2⟩ := key; rw [h1, h2]
 ·rintro k i y hi ⟨s, hs, rfl, e1, e2, e3, e4⟩; rw [cx.eq_2]
  have hi' : i < x.L.length := by omega
  have d1 : decide ((i : Int) < (d.2.2.2.2.1.length : Int)) = true := decide_eq_true (by rw [hd]; omega)
  have hok : COk x.L[i] := hr.ok _ (List.getElem_mem hi')
  have hset : s.cells.set i x.L[i] = x.L.take (i + 1) ++ List.replicate (N - (i + 1)) zc := by
   rw [e4, List.set_append_right _ _ (by simp; omega)]
   have h5 : i - (x.L.take i).length = 0 := by simp; omega
   rw [h5, show N - i = (N - (i + 1)) + 1 by omega, List.replicate_succ, List.set_cons_zero, List.take_succ_eq_append_getElem hi']
   simp only [List.append_assoc, List.cons_append, List.nil_append]
  simp only [d1, cond_true]
  rw [aV (by rw [hd]; omega), hd, rdn hi', gB (by omega)]
  generalize hb : (!((x.L[i].Char == 0) && ((x.L[i].Attr == false) && ((x.L[i].FA == 0) && ((x.L[i].High == 0) && ((x.L[i].Color == 0) && ((x.L[i].f_Set == 0) && true))))))) = b
  have hse : (⟨s.model, s.alternate, ⟨s.size.Rows, s.size.Cols⟩, s.cells, s.cursor, s.attrs⟩ : ab) = s := rfl
  cases b with
  | true =>
   obtain ⟨h3, h4⟩ := px hs (i : Int) hok.cb
   have h6 : ((i : Int) % (N : Int)).toNat = i := by rw [Int.emod_eq_of_lt (by omega) (by omega)]; rfl
   rw [h6, hok.fit] at h3 h4; simp only [cond_true, hse, h3, Option.bind_some]; exact ⟨_, rfl, _, h4, rfl, e1, e2, e3, hset⟩
  | false =>
   simp only [cond_false, hse, Option.bind_some]; refine ⟨_, rfl, s, hs, rfl, e1, e2, e3, ?_⟩
   have hz : x.L[i] = zc := by
    simp only [Bool.not_eq_false', Bool.and_eq_true, beq_iff_eq, Bool.and_true] at hb; obtain ⟨g1, g2, g3, g4, g5, g6⟩ := hb
    generalize x.L[i] = c at *
    cases c; simp_all
   rw [← hset, hz, e4, List.set_append_right _ _ (by simp; omega)]
   have h5 : i - (x.L.take i).length = 0 := by simp; omega
   rw [h5, show N - i = (N - (i + 1)) + 1 by omega, List.replicate_succ, List.set_cons_zero]
 ·rintro k y ⟨s, hs, rfl, e1, e2, e3, e4⟩; rw [cx.eq_2]
  have d1 : decide ((N : Int) < (d.2.2.2.2.1.length : Int)) = false := decide_eq_false (by rw [hd]; omega)
  simp only [d1, cond_false]; refine ⟨_, rfl, ?_⟩
  have h5 : s.cells = x.L := by rw [e4, Nat.sub_self, List.take_of_length_le (by omega)]; simp
  rw [hs.attrs, h5, hs.model, e1, e2, e3]
 ·have hn := hr.nof
  refine ⟨⟨m, x.Alt, ⟨x.Size.Rows, x.Size.Cols⟩, List.replicate N zc, 0, 0⟩, ⟨rfl, hr.dim, by simp, (fun c hc => by rw [(List.mem_replicate.1 hc).2]; exact rM), (by simp only; omega), (cnt_rep _).symm⟩, rfl, rfl, rfl, rfl, by simp⟩
def pgs : List Int := [37, 273, 297, 500, 1047, 1140]
def pgN (q : Int) : Int := rd pgs (q % 6)
theorem rZ (q : Int) : pgN q ∈ pgs := by
 unfold pgN
 exact fG ⟨Int.emod_nonneg _ (by omega), by have := Int.emod_lt_of_pos q (show (0 : Int) < 6 by omega); simp [pgs]; omega⟩
theorem pnew_ok {n : Int} (h : n ∈ pgs) : ks n = some (.inr (⟨n⟩, 0)) := by
 simp only [pgs, List.mem_cons, List.not_mem_nil, or_false] at h; rcases h with rfl | rfl | rfl | rfl | rfl | rfl <;> rfl
theorem jh {p q : Int} (hp : By p) (hq : By q) {acts : List aI} (ha : ∀ a ∈ acts, AOk a) (hl : acts.length ≤ 9223372036854775807) :
  ∃ N x, kG (clr (2 + p % 4) false) (acts.take 30) = some x ∧ RS (2 + p % 4) N x ∧ de p q acts = some (⟨0, false, 96⟩, prog x, ⟨pgN q⟩, ⟨pgN q, 0, false, 96⟩, x) := by
 obtain ⟨hmod, hm⟩ := sb hp
 generalize 2 + p % 4 = m at hmod hm ⊢
 have h0 := hq.1
 have e6 : q.tmod 6 = q % 6 := Int.tmod_eq_emod_of_nonneg h0
 have b6 : 0 ≤ q % 6 ∧ q % 6 < 6 := ⟨Int.emod_nonneg _ (by omega), Int.emod_lt_of_pos q (by omega)⟩
 have hpg := rZ q
 have epg : rd pgs (q % 6) = pgN q := rfl
 unfold de fq; simp only [Option.bind_some, e6]
 rw [aV (by simp only [List.length_cons, List.length_nil]; omega)]
 rw [show ([37, 273, 297, 500, 1047, 1140] : List Int) = pgs from rfl, epg]; simp only [hmod, new_ok hm, rnew_ok hm, pnew_ok hpg, Option.bind_some]; obtain ⟨r, h1, N, x, hx, hr, rfl⟩ := mI hm ha hl (pgN q, m, false, rOf m false, cOf m false, List.replicate (nOf m false) zc, 0, 0); refine ⟨N, x, hx, hr, ?_⟩
 have hN := hr.nof
 have hsz := hr.dim.n
 simp only [clr, sclr, h1, Option.bind_some]
 have clear : ((cond x.Alt ((cW ⟨m, false, ⟨rOf m false, cOf m false⟩, List.replicate (nOf m false) zc, 0, 0⟩ true).bind fun (d12 : ab) => some (d12.model, d12.alternate, d12.size.Rows, d12.size.Cols, d12.cells, d12.cursor, d12.attrs))
   (some (m, false, rOf m false, cOf m false, List.replicate (nOf m false) zc, (0 : Int), (0 : Int))) : Option T7)) = some (m, x.Alt, x.Size.Rows, x.Size.Cols, List.replicate N zc, 0, 0) := by
  rw [hsz.1, hsz.2.1, hsz.2.2]
  cases x.Alt with
  | true => simp only [cond_true, (oJ hm (s := ⟨m, false, ⟨rOf m false, cOf m false⟩, List.replicate (nOf m false) zc, 0, 0⟩) rfl true).1, Option.bind_some, sclr]
  | false => rfl
 rw [clear]; simp only [Option.bind_some]; rw [l6 hr _ rfl]; simp only [Option.bind_some]
 have hS : SS m N ⟨m, x.Alt, ⟨x.Size.Rows, x.Size.Cols⟩, x.L, 0, cnt x.L⟩ := ⟨rfl, hr.dim, hr.len, hr.ok, (by have := hr.dim.dim.le; simp only; omega), rfl⟩
 rw [qd hS]
 have hc := hr.cur
 have he : x.Cursor % (N : Int) = x.Cursor := Int.emod_eq_of_lt hc.1 hc.2
 simp only [Option.bind_some, he, ku, f4]; unfold prog; rw [hr.model]
 have : x = ⟨m, x.Alt, ⟨x.Size.Rows, x.Size.Cols⟩, x.L, x.Cursor⟩ := by rw [← hr.model]
 rw [← this]
end Go.Vt
set_option linter.unusedVariables false
set_option linter.unusedSimpArgs false
set_option maxRecDepth 100000
namespace Go.Vt
def ax : List aI := [⟨3, 0, false, 0, ⟨0, false, 0, 0, 0, 0⟩, []⟩, ⟨1, 1, false, 0, ⟨0, false, 0, 0, 0, 0⟩, []⟩]
def X0 : aa := ⟨2, false, ⟨24, 80⟩, (List.replicate 1920 zc).set 0 ⟨0, true, 0, 0, 0, 0⟩, 1⟩
theorem ax_ok : ∀ a ∈ ax, AOk a := by
 intro a ha; simp only [ax, List.mem_cons, List.not_mem_nil, or_false] at ha; rcases ha with rfl | rfl
 ·exact ⟨⟨by decide, by decide⟩, ⟨by decide, by decide⟩, rM.cb, (fun x hx => by cases hx), by decide⟩
 ·exact ⟨⟨by decide, by decide⟩, ⟨by decide, by decide⟩, rM.cb, (fun x hx => by cases hx), by decide⟩
theorem ax_do : kG (clr 2 false) ax = some X0 := by decide +kernel
def S2 : ab := ⟨2, false, ⟨24, 80⟩, (((List.replicate 1920 zc).set 0 ⟨0, true, 1, 0, 0, 0⟩).set 1 ⟨193, false, 0, 0, 0, 0⟩).set 2 ⟨130, false, 0, 0, 0, 0⟩, 3, 1⟩
theorem pX0 : prog X0 = ⟨2, false, ⟨24, 80⟩, (List.replicate 1920 zc).set 0 ⟨0, true, 0, 0, 0, 0⟩, 1, 1⟩ := by decide +kernel
theorem ax_type : gx ⟨0, false, 96⟩ ⟨2, false, ⟨24, 80⟩, (List.replicate 1920 zc).set 0 ⟨0, true, 0, 0, 0, 0⟩, 1, 1⟩ ⟨37⟩ (ByteArray.mk (List.toArray [65, 98])) = some (S2, ⟨37⟩, ⟨0, false, 96⟩, 2, 0) := by decide +kernel
theorem ax_press : bU ⟨0, false, 96⟩ S2 ⟨37⟩ ⟨19, 0, 0⟩ = some (S2, ⟨37⟩, ⟨1, false, 125⟩, true, 0) := by decide +kernel
theorem ax_at : aK S2 1 = some ⟨193, false, 0, 0, 0, 0⟩ ∧ aK S2 2 = some ⟨130, false, 0, 0, 0, 0⟩ ∧ aK S2 0 = some ⟨0, true, 1, 0, 0, 0⟩ := by decide +kernel
theorem awake18 : ex = some true := by
 obtain ⟨N, x, hx, _, h⟩ := jh (p := 0) (q := 0) ⟨by decide, by decide⟩ ⟨by decide, by decide⟩ ax_ok (by decide)
 have hx' : x = X0 := by
  have : (2 : Int) + 0 % 4 = 2 := by decide
  rw [this, show ax.take 30 = ax from rfl, ax_do] at hx; exact (Option.some.inj hx).symm
 subst hx'
 have hp : pgN 0 = 37 := rfl
 rw [hp, pX0] at h; unfold ex; unfold ax at h; simp only [h, Option.bind_some, ax_type, ax_press, ax_at.1, ax_at.2.1, ax_at.2.2]
 decide +kernel
end Go.Vt
set_option linter.unusedVariables false
set_option linter.unusedSimpArgs false
set_option maxRecDepth 100000
namespace Go.Vt
/-! ### the places of attributes -/
def bc (L : List ad) (i : Nat) : Bool := (rd L (i : Int)).Attr
def bV (L : List ad) (n : Nat) : List Nat := (List.range n).filter (bc L)
theorem jW (L : List ad) (n : Nat) : bV L (n + 1) = bV L n ++ (if bc L n then [n] else []) := by
 unfold bV; rw [List.range_succ, List.filter_append]
 cases h : bc L n <;> simp [List.filter_cons, h]
theorem jF (L : List ad) (n : Nat) : (bV L n).length ≤ n := by
 unfold bV; have := List.length_filter_le (bc L) (List.range n); simpa using this
theorem oV {m : Int} {N : Nat} {x : aa} (h : RS m N x) : cA x = some ((bV x.L N).map (fun i : Nat => (i : Int))) := by
 have hle := h.dim.dim.le
 have hl := h.len
 have key := ir (L := cT x) (n := N) (s := ([] : List Int)) (fun i y => y = (bV x.L i).map (fun i : Nat => (i : Int))) (fun r => r = (bV x.L N).map (fun i : Nat => (i : Int))) (by omega) ?_ ?_ rfl
 ·obtain ⟨r, h1, h2⟩ := key; unfold cA; rw [h1, h2]; rfl
 ·rintro k i y hi rfl
  have d1 : decide ((i : Int) < (x.L.length : Int)) = true := decide_eq_true (by omega)
  have hlen := jF x.L i
  rw [cT.eq_2]; simp only [d1, cond_true]
  rw [aV (by omega), gB (by omega), jW]
  have hA : (rd x.L (i : Int)).Attr = bc x.L i := rfl
  rw [hA]
  cases bc x.L i with
  | true => simp only [cond_true]; rw [aV (by simp; omega)]; exact ⟨_, rfl, by simp⟩
  | false => simp only [cond_false, Option.bind_some]; exact ⟨_, rfl, by simp⟩
 ·rintro k y rfl
  have d1 : decide ((N : Int) < (x.L.length : Int)) = false := decide_eq_false (by omega)
  rw [cT.eq_2]; simp only [d1, cond_false]; exact ⟨_, rfl, rfl⟩
theorem fI {L : List ad} {n a : Nat} : a ∈ bV L n ↔ a < n ∧ bc L a = true := by unfold bV; simp
theorem nu : ∀ (L : List ad), cnt L = ((bV L L.length).length : Int) := by
 intro L
 have key : ∀ n, n ≤ L.length → cnt (L.take n) = ((bV L n).length : Int) := by
  intro n
  induction n with
  | zero => intro _; simp [cnt, bV]
  | succ n ih =>
   intro h
   have hlt : n < L.length := by omega
   rw [List.take_succ_eq_append_getElem hlt, cnt_app, ih (by omega), jW]
   have hA : bc L n = L[n].Attr := by unfold bc; rw [rdn hlt]
   rw [hA, oI]
   have h0 : cnt [] = 0 := rfl
   unfold c1
   cases L[n].Attr <;> simp [h0]
 have := key L.length (Nat.le_refl _)
 rwa [List.take_of_length_le (Nat.le_refl _)] at this
/-! ### the place of a place's attribute -/
def stF (L : List ad) (l0 : Int) : Nat → Int
 | 0 => if bc L 0 then 0 else l0
 | n + 1 => if bc L (n + 1) then ((n + 1 : Nat) : Int) else stF L l0 n
theorem iw {L : List ad} {l0 : Int} {n : Nat} (h : bc L n = true) : stF L l0 n = (n : Int) := by
 cases n with
 | zero => simp [stF, h]
 | succ n => simp [stF, h]
theorem kU {L : List ad} (l0 : Int) : ∀ n, (∃ a, a < n + 1 ∧ bc L a = true) → (bV L (n + 1)).getLast? = some (stF L l0 n).toNat ∧ 0 ≤ stF L l0 n
 | 0, ⟨a, h1, h2⟩ => by
  have : a = 0 := by omega
  subst this; rw [jW, h2]
  simp [stF, h2]
 | n + 1, ⟨a, h1, h2⟩ => by
  rw [jW]
  cases hA : bc L (n + 1) with
  | true => simp [stF, hA]; omega
  | false =>
   have : a < n + 1 := by
    rcases Nat.lt_or_ge a (n + 1) with h | h
    ·exact h
    ·have : a = n + 1 := by omega
     subst this; rw [hA] at h2; cases h2
   obtain ⟨g1, g2⟩ := kU l0 n ⟨a, this, h2⟩; simp only [Bool.false_eq_true, if_false, List.append_nil, stF, hA]; exact ⟨g1, g2⟩
def en (L : List ad) (l0 : Int) (N : Nat) : List Int := (List.range N).map (stF L l0)
theorem sM {m : Int} {N : Nat} {x : aa} (h : RS m N x) : ∃ l0, ce x = some (en x.L l0 N) ∧ ((∃ a, a < N ∧ bc x.L a = true) → l0 = stF x.L l0 (N - 1)) ∧ ((∀ a, a < N → bc x.L a = false) → l0 = -1) := by
 have hle := h.dim.dim.le
 have hl := h.len
 have hal := jF x.L N
 -- the last one's place
 obtain ⟨l0, hl0, hcyc, hno⟩ : ∃ l0, ((cond (decide ((((bV x.L N).map (fun i : Nat => (i : Int))).length : Int) > 0)) (gd ((0 : Int) ≤ (w64 ((((bV x.L N).map (fun i : Nat => (i : Int))).length : Int) - 1)) ∧ (w64 ((((bV x.L N).map (fun i : Nat => (i : Int))).length : Int) - 1)) < (((bV x.L N).map (fun i : Nat => (i : Int))).length : Int)) <| some (rd ((bV x.L N).map (fun i : Nat => (i : Int))) (w64 ((((bV x.L N).map (fun i : Nat => (i : Int))).length : Int) - 1)))) (some (-1))) : Option Int) = some l0 ∧ ((∃ a, a < N ∧ bc x.L a = true) → l0 = stF x.L l0 (N - 1)) ∧ ((∀ a, a < N → bc x.L a = false) → l0 = -1) := by
  by_cases hz : (bV x.L N).length = 0
  ·have d1 : decide ((((bV x.L N).map (fun i : Nat => (i : Int))).length : Int) > 0) = false := decide_eq_false (by simp only [List.length_map]; omega)
   rw [d1]; refine ⟨-1, rfl, fun ⟨a, h1, h2⟩ => ?_, fun _ => rfl⟩
   have := fI.2 ⟨h1, h2⟩
   rw [List.length_eq_zero_iff.1 hz] at this; cases this
  ·have d1 : decide ((((bV x.L N).map (fun i : Nat => (i : Int))).length : Int) > 0) = true := decide_eq_true (by simp only [List.length_map]; omega)
   rw [d1]
   have hw : w64 ((((bV x.L N).map (fun i : Nat => (i : Int))).length : Int) - 1) = (((bV x.L N).length - 1 : Nat) : Int) := by
    rw [List.length_map, cZ (by omega) (by omega)]; omega
   simp only [cond_true]
   rw [hw, aV (by rw [List.length_map]; omega), rdn (by rw [List.length_map]; omega)]
   have hlast : (bV x.L N).getLast? = some ((bV x.L N)[(bV x.L N).length - 1]'(by omega)) := by
    rw [List.getLast?_eq_getElem?]; simp [show (bV x.L N).length - 1 < (bV x.L N).length by omega]
   refine ⟨_, rfl, fun ⟨a, h1, h2⟩ => ?_, fun hn => ?_⟩
   ·obtain ⟨g1, g2⟩ := kU (L := x.L) ((bV x.L N)[(bV x.L N).length - 1]'(by omega) : Int) (N - 1) ⟨a, by omega, h2⟩
    rw [show N - 1 + 1 = N by omega, hlast] at g1
    have g3 := Option.some.inj g1
    simp only [List.getElem_map]
    omega
   ·have hm := List.getElem_mem (l := bV x.L N) (n := (bV x.L N).length - 1) (by omega)
    obtain ⟨h1, h2⟩ := fI.1 hm; rw [hn _ h1] at h2; cases h2
 refine ⟨l0, ?_, hcyc, hno⟩; unfold ce; simp only [oV h, Option.bind_some]
 rw [aV (by omega)]
 simp only [hl0, Option.bind_some]
 have key := ir (L := cE x) (n := N) (s := (l0, List.replicate (Int.toNat (x.L.length : Int)) 0)) (fun i y => y.1 = (if i = 0 then l0 else stF x.L l0 (i - 1)) ∧ y.2 = en x.L l0 i ++ List.replicate (N - i) 0)
  (fun r => r = en x.L l0 N) (by omega) ?_ ?_ ⟨rfl, by simp [en, hl]⟩
 ·obtain ⟨r, h1, h2⟩ := key; rw [h1, h2]; rfl
 ·rintro k i ⟨u, y⟩ hi ⟨hu, hy⟩; simp only at hu hy; subst hy
  have d1 : decide ((i : Int) < (x.L.length : Int)) = true := decide_eq_true (by omega)
  have hA : (rd x.L (i : Int)).Attr = bc x.L i := rfl
  have hslen : (en x.L l0 i).length = i := by simp [en]
  rw [cE.eq_2]; simp only [d1, cond_true]
  rw [aV (by omega), gB (by omega), hA]
  have hv : (cond (bc x.L i) (some (i : Int)) (some u) : Option Int) = some (stF x.L l0 i) := by
   cases hA2 : bc x.L i with
   | true => rw [iw hA2]; rfl
   | false =>
    rw [hu]
    cases i with
    | zero => simp [stF, hA2]
    | succ i => simp [stF, hA2]
  rw [hv]; simp only [Option.bind_some]
  rw [aV (by simp [hslen]; omega)]
  refine ⟨_, rfl, by simp, ?_⟩
  simp only
  rw [Int.toNat_natCast, List.set_append_right _ _ (by omega), hslen, Nat.sub_self, show N - i = (N - (i + 1)) + 1 by omega, List.replicate_succ, List.set_cons_zero]
  have : en x.L l0 (i + 1) = en x.L l0 i ++ [stF x.L l0 i] := by unfold en; rw [List.range_succ, List.map_append]; rfl
  rw [this]; simp only [List.append_assoc, List.cons_append, List.nil_append]
 ·rintro k ⟨u, y⟩ ⟨hu, hy⟩; simp only at hu hy; subst hy
  have d1 : decide ((N : Int) < (x.L.length : Int)) = false := decide_eq_false (by omega)
  rw [cE.eq_2]; simp only [d1, cond_false]
  exact ⟨_, rfl, by simp⟩
/-- round: a place without an attribute has the one of the place ahead -/
theorem n4 {L : List ad} {l0 : Int} {N n : Nat} (hc : l0 = stF L l0 (N - 1)) (hn : n < N) (h : bc L ((n + 1) % N) = false) : stF L l0 ((n + 1) % N) = stF L l0 n := by
 by_cases h1 : n + 1 < N
 ·rw [Nat.mod_eq_of_lt h1] at h ⊢; simp [stF, h]
 ·have : n + 1 = N := by omega
  rw [this, Nat.mod_self] at h ⊢
  have e : n = N - 1 := by omega
  rw [e, ← hc]; simp [stF, h]
theorem stF_A {L : List ad} {l0 : Int} {N : Nat} (hc : l0 = stF L l0 (N - 1)) (hn : ∃ b, b < N ∧ bc L b = true) : ∃ b : Nat, l0 = (b : Int) ∧ b < N ∧ bc L b = true := by
 obtain ⟨a, h1, h2⟩ := hn
 obtain ⟨g1, g2⟩ := kU (L := L) l0 (N - 1) ⟨a, by omega, h2⟩
 rw [← hc] at g1 g2
 have hm := List.mem_of_getLast? g1
 rw [show N - 1 + 1 = N by omega] at hm
 obtain ⟨h3, h4⟩ := fI.1 hm
 exact ⟨l0.toNat, by omega, h3, h4⟩
theorem l7 {L : List ad} {l0 : Int} {N : Nat} (hc : l0 = stF L l0 (N - 1)) (hn : ∃ b, b < N ∧ bc L b = true) : ∀ n, n < N → ∃ b : Nat, stF L l0 n = (b : Int) ∧ b < N ∧ bc L b = true
 | 0, h => by
  cases hA : bc L 0 with
  | true => exact ⟨0, iw hA, h, hA⟩
  | false =>
   obtain ⟨b, h1, h2⟩ := stF_A hc hn
   exact ⟨b, by simp [stF, hA, h1], h2⟩
 | n + 1, h => by
  cases hA : bc L (n + 1) with
  | true => exact ⟨n + 1, iw hA, h, hA⟩
  | false =>
   obtain ⟨b, h1, h2⟩ := l7 hc hn n (by omega)
   exact ⟨b, by simp [stF, hA, h1], h2⟩
/-- without attributes between, a place's attribute is the one that lies behind it -/
theorem mM {L : List ad} {l0 : Int} {N a : Nat} (hc : l0 = stF L l0 (N - 1)) (ha : a < N) (hat : bc L a = true) : ∀ i, (∀ t, 1 ≤ t → t ≤ i → bc L ((a + t) % N) = false) → stF L l0 ((a + i) % N) = (a : Int)
 | 0, _ => by rw [Nat.add_zero, Nat.mod_eq_of_lt ha]; exact iw hat
 | i + 1, h => by
  have ih := mM hc ha hat i fun t h1 h2 => h t h1 (by omega)
  have e2 : (a + (i + 1)) % N = ((a + i) % N + 1) % N := by simp only [Nat.mod_add_mod]; rfl
  have hna := h (i + 1) (by omega) (by omega)
  rw [e2] at hna ⊢
  rw [n4 hc (Nat.mod_lt _ (by omega)) hna]; exact ih
/-- behind another attribute it isn't -/
theorem n5 {L : List ad} {l0 : Int} {N a j : Nat} (hc : l0 = stF L l0 (N - 1)) (ha : a < N) (hj : 1 ≤ j) (hat : bc L ((a + j) % N) = true) : ∀ d, j + d < N → stF L l0 ((a + (j + d)) % N) ≠ (a : Int)
 | 0, h => by
  rw [Nat.add_zero, iw hat]; intro e
  have e : (a + j) % N = a := by omega
  by_cases h3 : a + j < N
  ·rw [Nat.mod_eq_of_lt h3] at e; omega
  ·rw [Nat.mod_eq_sub_mod (by omega), Nat.mod_eq_of_lt (by omega)] at e; omega
 | d + 1, h => by
  have ih := n5 hc ha hj hat d (by omega)
  have e2 : (a + (j + (d + 1))) % N = ((a + (j + d)) % N + 1) % N := by simp only [Nat.mod_add_mod]; rfl
  cases hA : bc L ((a + (j + (d + 1))) % N) with
  | true =>
   rw [iw hA]; intro e
   have e : (a + (j + (d + 1))) % N = a := by omega
   by_cases h3 : a + (j + (d + 1)) < N
   ·rw [Nat.mod_eq_of_lt h3] at e; omega
   ·rw [Nat.mod_eq_sub_mod (by omega), Nat.mod_eq_of_lt (by omega)] at e; omega
  | false =>
   rw [e2] at hA ⊢
   rw [n4 hc (Nat.mod_lt _ (by omega)) hA]; exact ih
end Go.Vt
set_option linter.unusedVariables false
set_option linter.unusedSimpArgs false
set_option maxRecDepth 100000
namespace Go.Vt
theorem se (s : ab) : (⟨s.model, s.alternate, ⟨s.size.Rows, s.size.Cols⟩, s.cells, s.cursor, s.attrs⟩ : ab) = s := rfl
theorem mL {m : Int} {N : Nat} {s : ab} (h : SS m N s) : b5 ⟨s.size.Rows, s.size.Cols⟩ = some (N : Int) := m8 h.dim.dim
theorem f3 {m : Int} {N : Nat} {s : ab} (h : SS m N s) (n : Int) : aN ⟨s.size.Rows, s.size.Cols⟩ n = some (n % N) := mF h.dim.dim n
theorem aQ {N k : Nat} (h : k < N) : (k : Int) % (N : Int) = (k : Int) := Int.emod_eq_of_lt (by omega) (by omega)
def Fmt (L : List ad) : Prop := ∃ a, a < L.length ∧ bc L a = true
def fJ (L : List ad) : Int := match (bV L L.length).getLast? with
 | some a => (a : Int)
 | none => -1
/-- where the field of a place begins; -1: there is none -/
def stI (L : List ad) (n : Nat) : Int := stF L (fJ L) n
theorem lastA_of {L : List ad} {l0 : Int} (h : Fmt L) (hc : l0 = stF L l0 (L.length - 1)) : fJ L = l0 := by
 obtain ⟨a, h1, h2⟩ := h
 obtain ⟨g1, g2⟩ := kU (L := L) l0 (L.length - 1) ⟨a, by omega, h2⟩
 rw [show L.length - 1 + 1 = L.length by omega, ← hc] at g1
 rw [← hc] at g2; unfold fJ; rw [g1]; simp only; omega
theorem iP {L : List ad} (h : Fmt L) : fJ L = stF L (fJ L) (L.length - 1) := by
 have h' := h
 obtain ⟨a, h1, h2⟩ := h
 obtain ⟨g1, g2⟩ := kU (L := L) (fJ L) (L.length - 1) ⟨a, by omega, h2⟩
 rw [show L.length - 1 + 1 = L.length by omega] at g1
 generalize hk : stF L (fJ L) (L.length - 1) = z at g1 g2 ⊢
 unfold fJ; rw [g1]; simp only; omega
theorem stF_no {L : List ad} : ∀ n, (∀ a, a < n + 1 → bc L a = false) → stF L (-1) n = -1
 | 0, h => by simp [stF, h 0 (by omega)]
 | n + 1, h => by simp [stF, h (n + 1) (by omega), stF_no n fun a ha => h a (by omega)]
theorem kZ {L : List ad} (h : ¬ Fmt L) {a : Nat} (ha : a < L.length) : bc L a = false := by
 cases e : bc L a with
 | false => rfl
 | true => exact absurd ⟨a, ha, e⟩ h
theorem qv {L : List ad} (h : ¬ Fmt L) : fJ L = -1 := by
 unfold fJ
 cases e : (bV L L.length).getLast? with
 | none => rfl
 | some a =>
  obtain ⟨h1, h2⟩ := fI.1 (List.mem_of_getLast? e); rw [kZ h h1] at h2; cases h2
theorem gU {L : List ad} (h : ¬ Fmt L) {n : Nat} (hn : n < L.length) : stI L n = -1 := by
 unfold stI; rw [qv h]; exact stF_no n fun a ha => kZ h (by omega)
theorem iv {L : List ad} (h : Fmt L) {n : Nat} (hn : n < L.length) : ∃ b : Nat, stI L n = (b : Int) ∧ b < L.length ∧ bc L b = true := l7 (iP h) h n hn
theorem p9 {L : List ad} {n : Nat} (h : bc L n = true) : stI L n = (n : Int) := iw h
theorem kw {L : List ad} : Fmt L ↔ cnt L > 0 := by
 rw [nu]
 constructor
 ·rintro ⟨a, h1, h2⟩
  have := List.length_pos_of_mem (fI.2 ⟨h1, h2⟩)
  omega
 ·intro h
  cases hl : bV L L.length with
  | nil => rw [hl] at h; simp at h
  | cons a r => exact ⟨a, fI.1 (by rw [hl]; simp)⟩
/-! ### the start -/
theorem pA {m : Int} {N : Nat} {x : aa} (h : RS m N x) : ce x = some (en x.L (fJ x.L) N) := by
 obtain ⟨l0, h1, h2, h3⟩ := sM h
 have hl := h.len
 rw [h1]
 by_cases hf : Fmt x.L
 ·have h4 := hf
  obtain ⟨a, ha, hat⟩ := h4
  rw [lastA_of hf (by rw [hl]; exact h2 ⟨a, by omega, hat⟩)]
 ·rw [qv hf, h3 fun a ha => kZ hf (by omega)]
theorem kj {L : List ad} {l0 : Int} {N k : Nat} (hk : k < N) : rd (en L l0 N) (k : Int) = stF L l0 k := by
 unfold en
 rw [rdn (by simpa using hk)]; simp
theorem n7 {m : Int} {N : Nat} {x : aa} (h : RS m N x) {n : Int} {k : Nat} (hk : n % N = (k : Int)) (hkN : k < N) : bY x n = some (stI x.L k) := by
 unfold bY; simp only [pA h, fL h, Option.bind_some, hk]
 rw [aV (by simp [en]; omega), kj hkN]; rfl
theorem qq {N a d : Nat} (hN : 0 < N) (hd : 1 ≤ d) (hdN : d < N) (ha : a < N) : ((((a + d) % N : Nat) : Int) - 1) % (N : Int) = (((a + (d - 1)) % N : Nat) : Int) := by
 by_cases h : a + d < N
 ·rw [Nat.mod_eq_of_lt h, Nat.mod_eq_of_lt (by omega), Int.emod_eq_of_lt (by omega) (by omega)]; omega
 ·have h1 : (a + d) % N = a + d - N := by rw [Nat.mod_eq_sub_mod (by omega), Nat.mod_eq_of_lt (by omega)]
  rw [h1]
  by_cases h2 : a + d = N
  ·have h3 : (((a + d - N : Nat) : Int) - 1) = ((N - 1 : Nat) : Int) - N := by omega
   rw [h3, Int.sub_emod_right, Int.emod_eq_of_lt (by omega) (by omega), Nat.mod_eq_of_lt (by omega)]; omega
  ·have h3 : (a + (d - 1)) % N = a + d - 1 - N := by rw [Nat.mod_eq_sub_mod (by omega), Nat.mod_eq_of_lt (by omega)]; omega
   rw [h3, Int.emod_eq_of_lt (by omega) (by omega)]; omega
theorem n0 {m : Int} {N : Nat} {s : ab} (h : SS m N s) {a : Nat} (ha : a < N) (hat : bc s.cells a = true) : ∀ (d k : Nat), d < N → d < k → fY s s.size k (((a + d) % N : Nat) : Int) = some (stI s.cells ((a + d) % N))
 | d, 0, _, hk => by omega
 | d, k + 1, hd, hk => by
  have hle := h.dim.dim.le
  have hl := h.len
  have hp : (a + d) % N < N := Nat.mod_lt _ (by omega)
  rw [fY.eq_2]; simp only [g8 h, aQ hp, Option.bind_some]
  have hA : (rd s.cells (((a + d) % N : Nat) : Int)).Attr = bc s.cells ((a + d) % N) := rfl
  rw [hA]
  cases e : bc s.cells ((a + d) % N) with
  | true => simp only [Bool.not_true, cond_false]; rw [p9 e]
  | false =>
   have hd0 : 1 ≤ d := by
    rcases Nat.eq_zero_or_pos d with h0 | h0
    ·subst h0; rw [Nat.add_zero, Nat.mod_eq_of_lt ha, hat] at e; cases e
    ·exact h0
   have hw : w64 ((((a + d) % N : Nat) : Int) - 1) = (((a + d) % N : Nat) : Int) - 1 := cZ (by omega) (by omega)
   simp only [Bool.not_false, cond_true, hw, f3 h, Option.bind_some, qq (by omega) hd0 hd ha]
   have ih := n0 h ha hat (d - 1) k (by omega) (by omega)
   have e2 : ((a + (d - 1)) % N + 1) % N = (a + d) % N := by rw [Nat.mod_add_mod]; congr 1; omega
   have hf : Fmt s.cells := ⟨a, by omega, hat⟩
   have := n4 (L := s.cells) (N := N) (n := (a + (d - 1)) % N) (by rw [← hl]; exact iP hf) (Nat.mod_lt _ (by omega)) (by rw [e2]; exact e)
   rw [e2] at this; rw [ih]; exact congrArg some this.symm
theorem pE {m : Int} {N : Nat} {s : ab} (h : SS m N s) {n : Int} {k : Nat} (hk : n % N = (k : Int)) (hkN : k < N) : eU s n = some (stI s.cells k) := by
 have hl := h.len
 have hle := h.dim.dim.le
 unfold eU bX aO; simp only [Option.bind_some]
 by_cases hf : Fmt s.cells
 ·have hc := kw.1 hf
  rw [h.attrs, decide_eq_true hc]
  have h4 := hf
  obtain ⟨a, ha, hat⟩ := h4
  have hsz : s.size = ⟨s.size.Rows, s.size.Cols⟩ := rfl
  have e1 : aN s.size n = some (k : Int) := by rw [hsz, f3 h, hk]
  simp only [Bool.not_true, cond_false, e1, Option.bind_some]
  obtain ⟨d, hd, hdN⟩ : ∃ d, (a + d) % N = k ∧ d < N := by
   by_cases hak : a ≤ k
   ·exact ⟨k - a, by rw [show a + (k - a) = k by omega, Nat.mod_eq_of_lt hkN], by omega⟩
   ·exact ⟨k + N - a, by rw [show a + (k + N - a) = k + N by omega, Nat.add_mod_right, Nat.mod_eq_of_lt hkN], by omega⟩
  have := n0 h (by omega) hat d bv hdN (by unfold bv; omega)
  rw [hd] at this; rw [this]; rfl
 ·have hc : ¬ cnt s.cells > 0 := fun e => hf (kw.2 e)
  rw [h.attrs, decide_eq_false hc, gU hf (by omega)]; rfl
/-! ### what a field is -/
def fld (f : Int) : bO := ⟨((bJ .u8 f 32) != 0), ((bJ .u8 f 16) != 0), qx .i64 (w64 (bJ .u8 f 12)) 2, ((bJ .u8 f 1) != 0)⟩
theorem pof (f : Int) : gQ f = some (fld f) := rfl
theorem rof_all : ∀ f : Fin 256, eD (f.val : Int) = some ⟨(fld (f.val : Int)).Protected, (fld (f.val : Int)).Numeric, (fld (f.val : Int)).Display, (fld (f.val : Int)).Modified⟩ := by decide +kernel
theorem rof {f : Int} (h : By f) : eD f = some ⟨(fld f).Protected, (fld f).Numeric, (fld f).Display, (fld f).Modified⟩ := by
 obtain ⟨g, rfl⟩ := h.fin; exact rof_all g
/-- the attribute of the field of a place -/
def faI (L : List ad) (k : Nat) : Int := (rd L (stI L k)).FA
/-- may one write there? -/
def fj (L : List ad) (k : Nat) : Bool := !bc L k && (decide (stI L k < 0) || !(fld (faI L k)).Protected)
theorem pfof {m : Int} {N : Nat} {s : ab} (h : SS m N s) {n : Int} {k : Nat} (hk : n % N = (k : Int)) (hkN : k < N) : il s n = some (if stI s.cells k < 0 then (⟨false, false, 0, false⟩, false) else (fld (faI s.cells k), true)) := by
 have hl := h.len
 unfold il; simp only [pE h hk hkN, Option.bind_some]
 by_cases hf : Fmt s.cells
 ·obtain ⟨b, h1, h2, _⟩ := iv hf (n := k) (by omega)
  rw [h1, cQ (by omega), if_neg (by omega)]
  simp only [cond_false, g8 h, aQ (show b < N by omega), Option.bind_some, pof]
  unfold faI; rw [h1]
 ·rw [gU hf (by omega)]; rfl
theorem qm {m : Int} {N : Nat} {s : ab} (h : SS m N s) {n : Int} {k : Nat} (hk : n % N = (k : Int)) (hkN : k < N) : eS s n = some (fj s.cells k) := by
 unfold eS fj; simp only [pfof h hk hkN, g8 h, hk, Option.bind_some]
 have hA : (rd s.cells (k : Int)).Attr = bc s.cells k := rfl
 rw [hA]
 by_cases hs : stI s.cells k < 0
 ·rw [if_pos hs, decide_eq_true hs]
  cases bc s.cells k <;> rfl
 ·rw [if_neg hs, decide_eq_false hs]
  cases bc s.cells k <;> rfl
theorem rs_fa {m : Int} {N : Nat} {x : aa} (h : RS m N x) {b : Nat} (hb : b < N) : By (rd x.L (b : Int)).FA := by
 have hl := h.len
 exact (h.ok _ (fG (by omega))).fa
theorem mc {m : Int} {N : Nat} {x : aa} (h : RS m N x) {b : Nat} (hb : b < N) : bj x (b : Int) = some ⟨(fld (rd x.L (b : Int)).FA).Protected, (fld (rd x.L (b : Int)).FA).Numeric, (fld (rd x.L (b : Int)).FA).Display, (fld (rd x.L (b : Int)).FA).Modified⟩ := by
 have hl := h.len
 unfold bj
 rw [aV (by omega)]
 simp only [rof (rs_fa h hb), Option.bind_some]
theorem qh {m : Int} {N : Nat} {x : aa} (h : RS m N x) {n : Int} {k : Nat} (hk : n % N = (k : Int)) (hkN : k < N) : ck x n = some (fj x.L k) := by
 have hl := h.len
 unfold ck fj; simp only [fL h, hk, Option.bind_some, n7 h (aQ hkN) hkN]
 rw [aV (by omega)]
 have hA : (rd x.L (k : Int)).Attr = bc x.L k := rfl
 rw [hA]
 by_cases hf : Fmt x.L
 ·obtain ⟨b, h1, h2, _⟩ := iv hf (n := k) (by omega)
  unfold faI
  rw [h1, decide_eq_false (show ¬ ((b : Int) < 0) by omega)]
  simp only [cond_false, mc h (show b < N by omega), Option.bind_some]
  cases bc x.L k <;> rfl
 ·rw [gU hf (by omega)]
  cases bc x.L k <;> rfl
/-! ### that it is modified -/
theorem bor1 : ∀ f : Fin 256, By (iH .u8 (f.val : Int) 1) ∧ (bJ .u8 (f.val : Int) 61 = (f.val : Int) → bJ .u8 (iH .u8 (f.val : Int) 1) 61 = iH .u8 (f.val : Int) 1) := by decide +kernel
def mdf (c : ad) : ad := { c with FA := iH .u8 c.FA 1 }
theorem rj {c : ad} (h : COk c) (ha : c.Attr = true) : COk (mdf c) := by
 obtain ⟨f, hf⟩ := h.fa.fin; obtain ⟨b1, b2⟩ := bor1 f; rw [hf] at b1 b2
 exact ⟨h.char, b1, h.high, h.color, h.set, fun _ => ⟨(h.attr ha).1, b2 (h.attr ha).2⟩, fun e => by have e : c.Attr = false := e; rw [ha] at e; cases e⟩
/-- the cells, the field of a place modified -/
def c0 (L : List ad) (k : Nat) : List ad := if stI L k < 0 then L else L.set (stI L k).toNat (mdf (rd L (stI L k)))
theorem iW (L : List ad) (k : Nat) : (c0 L k).length = L.length := by unfold c0; split <;> simp
/-- other cells, where they may stand -/
def wL (x : aa) (L : List ad) : aa := ⟨x.Model, x.Alt, x.Size, L, x.Cursor⟩
def wS (s : ab) (L : List ad) : ab := ⟨s.model, s.alternate, s.size, L, s.cursor, cnt L⟩
theorem wS_self {m : Int} {N : Nat} {s : ab} (h : SS m N s) : wS s s.cells = s := by unfold wS; rw [← h.attrs]
theorem RS.w {m : Int} {N : Nat} {x : aa} (h : RS m N x) {L : List ad} (hl : L.length = N) (ho : ∀ c ∈ L, COk c) : RS m N (wL x L) := ⟨h.model, h.dim, hl, ho, h.cur⟩
theorem SS.w {m : Int} {N : Nat} {s : ab} (h : SS m N s) {L : List ad} (hl : L.length = N) (ho : ∀ c ∈ L, COk c) : SS m N (wS s L) := ⟨h.model, h.dim, hl, ho, h.cur, rfl⟩
theorem ko {L : List ad} (ho : ∀ c ∈ L, COk c) {k : Nat} (hk : k < L.length) : ∀ c ∈ c0 L k, COk c := by
 intro c hc; unfold c0 at hc
 split at hc
 ·exact ho c hc
 ·rename_i hs
  rcases List.mem_or_eq_of_mem_set hc with h1 | rfl
  ·exact ho c h1
  ·have hf : Fmt L := by
    by_cases hf : Fmt L
    ·exact hf
    ·rw [gU hf hk] at hs; exact absurd (by omega) hs
   obtain ⟨b, h1, h2, h3⟩ := iv hf hk; rw [h1]
   exact rj (ho _ (fG (by omega))) h3
theorem sR {m : Int} {N : Nat} {s : ab} (h : SS m N s) {n : Int} {k : Nat} (hk : n % N = (k : Int)) (hkN : k < N) : bF s n = some (wS s (c0 s.cells k), decide (0 ≤ stI s.cells k)) := by
 have hl := h.len
 unfold bF c0; simp only [pE h hk hkN, Option.bind_some]
 by_cases hf : Fmt s.cells
 ·obtain ⟨b, h1, h2, h3⟩ := iv hf (n := k) (by omega)
  have hb : b < N := by omega
  have hok := h.ok _ (fG (l := s.cells) (n := (b : Int)) (by omega))
  rw [h1, cQ (by omega), if_neg (by omega), decide_eq_true (show (0 : Int) ≤ (b : Int) by omega)]
  simp only [cond_false, g8 h, aQ hb, Option.bind_some]
  have hmk := rj hok h3
  have hset := (px h (b : Int) hmk.cb).1
  rw [aQ hb, hmk.fit] at hset
  have e : (⟨(rd s.cells (b : Int)).Char, (rd s.cells (b : Int)).Attr, iH .u8 (rd s.cells (b : Int)).FA 1, (rd s.cells (b : Int)).High, (rd s.cells (b : Int)).Color, (rd s.cells (b : Int)).f_Set⟩ : ad) = mdf (rd s.cells (b : Int)) := rfl
  rw [e, hset]; rfl
 ·rw [gU hf (by omega)]
  simp only [Int.reduceBEq, cond_true, if_pos (show (-1 : Int) < 0 by omega), wS_self h]
  rfl
theorem rmod {m : Int} {N : Nat} {x : aa} (h : RS m N x) {n : Int} {k : Nat} (hk : n % N = (k : Int)) (hkN : k < N) : bB x n = some (wL x (c0 x.L k), decide (0 ≤ stI x.L k)) := by
 have hl := h.len
 unfold bB c0; simp only [n7 h hk hkN, Option.bind_some]
 by_cases hf : Fmt x.L
 ·obtain ⟨b, h1, h2, h3⟩ := iv hf (n := k) (by omega)
  have hb : b < N := by omega
  have hok := h.ok _ (fG (l := x.L) (n := (b : Int)) (by omega))
  rw [h1, decide_eq_false (show ¬ ((b : Int) < 0) by omega), if_neg (by omega), decide_eq_true (show (0 : Int) ≤ (b : Int) by omega)]
  simp only [cond_false]
  rw [aV (by omega)]
  have hmk := rj hok h3
  have hset := (kW h (b : Int) hmk.cb).1
  rw [aQ hb, hmk.fit] at hset
  have e : ({ (rd x.L (b : Int)) with FA := iH .u8 ((rd x.L (b : Int)).FA) 1 } : ad) = mdf (rd x.L (b : Int)) := rfl
  rw [e, hset]; rfl
 ·rw [gU hf (by omega)]; rfl
end Go.Vt
set_option linter.unusedVariables false
set_option linter.unusedSimpArgs false
set_option maxRecDepth 100000
namespace Go.Vt
/-! ### loops -/
theorem cw {σ ρ : Type} {F : Nat → σ → Option ρ} {out : ρ} (st : Nat → σ) (j : Nat) (hj : j < 1000000) (step : ∀ k i, i < j → F (k + 1) (st i) = F k (st (i + 1))) (fin : ∀ k, F (k + 1) (st j) = some out) : F bv (st 0) = some out := by
 have key : ∀ n i k, i + n = j → n < k → F k (st i) = some out := by
  intro n
  induction n with
  | zero =>
   intro i k h hk
   obtain ⟨k, rfl⟩ : ∃ q, k = q + 1 := ⟨k - 1, by omega⟩
   have : i = j := by omega
   subst this; exact fin k
  | succ n ih =>
   intro i k h hk
   obtain ⟨k, rfl⟩ : ∃ q, k = q + 1 := ⟨k - 1, by omega⟩
   rw [step k i (by omega)]
   exact ih (i + 1) k (by omega) (by omega)
 exact key j 0 bv (by omega) (by unfold bv; omega)
def tlF (p : Nat → Bool) : Nat → Nat → Nat
 | 0, i => i
 | n + 1, i => if p i then tlF p n (i + 1) else i
/-- how many from the first on are so, of n -/
def tl (p : Nat → Bool) (n : Nat) : Nat := tlF p n 0
theorem mJ (p : Nat → Bool) : ∀ n i, i ≤ tlF p n i ∧ tlF p n i ≤ i + n ∧ (∀ q, i ≤ q → q < tlF p n i → p q = true) ∧ (tlF p n i < i + n → p (tlF p n i) = false)
 | 0, i => ⟨Nat.le_refl _, Nat.le_refl _, fun q h1 h2 => by simp only [tlF] at h2; omega, fun h => by simp only [tlF] at h; omega⟩
 | n + 1, i => by
  simp only [tlF]
  by_cases h : p i = true
  ·obtain ⟨g1, g2, g3, g4⟩ := mJ p n (i + 1); rw [if_pos h]
   refine ⟨by omega, by omega, fun q h1 h2 => ?_, fun h2 => g4 (by omega)⟩
   by_cases hq : q = i
   ·rw [hq]; exact h
   ·exact g3 q (by omega) h2
  ·rw [if_neg h]
   exact ⟨Nat.le_refl _, by omega, fun q h1 h2 => by omega, fun _ => by simpa using h⟩
theorem jt (p : Nat → Bool) (n : Nat) : tl p n ≤ n := by have := (mJ p n 0).2.1; unfold tl; omega
theorem js {p : Nat → Bool} {n i : Nat} (h : i < tl p n) : p i = true := (mJ p n 0).2.2.1 i (by omega) h
theorem gT {p : Nat → Bool} {n : Nat} (h : tl p n < n) : p (tl p n) = false := (mJ p n 0).2.2.2 (by unfold tl at h; omega)
theorem tl_eq {p : Nat → Bool} {n j : Nat} (h1 : j ≤ n) (h2 : ∀ i, i < j → p i = true) (h3 : j < n → p j = false) : tl p n = j := by
 have g1 := jt p n
 rcases Nat.lt_trichotomy (tl p n) j with h | h | h
 ·have := gT (p := p) (n := n) (by omega); rw [h2 _ h] at this; cases this
 ·exact h
 ·have := h3 (by omega); rw [js h] at this; cases this
abbrev ef (f : Nat → Nat) (j : Nat) : List Int := (List.range j).map fun i => ((f i : Nat) : Int)
theorem gS (f : Nat → Nat) (j : Nat) : ef f (j + 1) = ef f j ++ [((f j : Nat) : Int)] := by unfold ef; rw [List.range_succ, List.map_append]; rfl
theorem bC (f : Nat → Nat) (j : Nat) : (ef f j).length = j := by simp [ef]
theorem iA {f : Nat → Nat} {j i : Nat} (h : i < j) : rd (ef f j) (i : Int) = ((f i : Nat) : Int) := by
 rw [rdn (by rw [bC]; exact h)]; simp [ef]
theorem iU {n : Nat} (h : n < 1000000) : w64 ((n : Int) + 1) = ((n + 1 : Nat) : Int) := gB (by omega)
theorem mod1 {N p : Nat} (hN : 1 < N) (hp : p < N) : ((p : Int) + 1) % (N : Int) = (((p + 1) % N : Nat) : Int) := by
 rw [show ((p : Int) + 1) = ((p + 1 : Nat) : Int) by omega]; exact (Int.natCast_emod _ _).symm
theorem modm1 {N p : Nat} (hN : 1 < N) (hp : p < N) : ((p : Int) - 1) % (N : Int) = (((p + (N - 1)) % N : Nat) : Int) := by
 have := qq (N := N) (a := p) (d := N) 
 by_cases h : p = 0
 ·subst h
  rw [show (((0 : Nat) : Int) - 1) = ((N - 1 : Nat) : Int) - N by omega, Int.sub_emod_right, aQ (by omega), Nat.mod_eq_of_lt (by omega)]; omega
 ·rw [show ((p : Int) - 1) = ((p - 1 : Nat) : Int) by omega, aQ (by omega), show p + (N - 1) = (p - 1) + N by omega, Nat.add_mod_right, Nat.mod_eq_of_lt (by omega)]
/-! ### the places of a field -/
/-- how many places the field of an attribute has -/
def eR (L : List ad) (a : Nat) : Nat := tl (fun i => !bc L ((a + 1 + i) % L.length)) (L.length - 1)
def gW (L : List ad) (a : Nat) : List Int := ef (fun i => (a + 1 + i) % L.length) (eR L a)
theorem lB {L : List ad} {a : Nat} (hL : 0 < L.length) : eR L a < L.length := by have := jt (fun i => !bc L ((a + 1 + i) % L.length)) (L.length - 1); unfold eR; omega
theorem nT {L : List ad} {a i : Nat} (h : i < eR L a) : bc L ((a + 1 + i) % L.length) = false := by have := js h; simpa using this
/-- behind the last one stands an attribute -/
theorem mO {L : List ad} {a : Nat} (hL : 0 < L.length) (ha : a < L.length) (hat : bc L a = true) : bc L ((a + 1 + eR L a) % L.length) = true := by
 by_cases h : eR L a < L.length - 1
 ·have h2 : (!bc L ((a + 1 + eR L a) % L.length)) = false := gT h
  simpa using h2
 ·have h1 := jt (fun i => !bc L ((a + 1 + i) % L.length)) (L.length - 1)
  have : eR L a = L.length - 1 := by unfold eR at h ⊢; omega
  rw [this, show a + 1 + (L.length - 1) = a + L.length by omega, Nat.add_mod_right, Nat.mod_eq_of_lt ha]; exact hat
theorem stI_run {L : List ad} {a i : Nat} (ha : a < L.length) (hat : bc L a = true) (hi : i ≤ eR L a) : stI L ((a + i) % L.length) = (a : Int) := by
 refine mM (iP ⟨a, ha, hat⟩) ha hat i fun t h1 h2 => ?_
 have := nT (L := L) (a := a) (i := t - 1) (by omega)
 rwa [show a + 1 + (t - 1) = a + t by omega] at this
/-- the program's -/
theorem pplaces {m : Int} {N : Nat} {s : ab} (h : SS m N s) {a : Nat} (ha : a < N) (hat : bc s.cells a = true) : fe s (a : Int) = some (s, (a : Int), gW s.cells a) := by
 have hl := h.len
 have hle := h.dim.dim.le
 have hA : (rd s.cells (a : Int)).Attr = true := hat
 have hw1 : w64 ((a : Int) + 1) = ((a + 1 : Nat) : Int) := iU (by omega)
 have loop : cH s ⟨s.size.Rows, s.size.Cols⟩ bv ((((a + 1) % N : Nat) : Int), []) = some (gW s.cells a) := by
  have hr := lB (L := s.cells) (a := a) (by omega)
  refine cw (fun i => ((((a + 1 + i) % N : Nat) : Int), ef (fun i => (a + 1 + i) % N) i)) (eR s.cells a) (by omega) (fun k i hi => ?_) (fun k => ?_)
  ·have hp : (a + 1 + i) % N < N := Nat.mod_lt _ (by omega)
   have hn := nT hi
   rw [hl] at hn
   have hn' : (rd s.cells (((a + 1 + i) % N : Nat) : Int)).Attr = false := hn
   rw [cH.eq_2]; simp only [g8 h, aQ hp, Option.bind_some, hn', Bool.not_false, cond_true]
   rw [aV (by rw [bC]; simp only [List.length_cons, List.length_nil]; omega), iU (by omega)]
   simp only [f3 h, Option.bind_some]
   rw [show (((((a + 1 + i) % N + 1 : Nat) : Int)) % (N : Int)) = (((a + 1 + (i + 1)) % N : Nat) : Int) by
    rw [← Int.natCast_emod, Nat.mod_add_mod]; rfl, gS]
  ·have hp : (a + 1 + eR s.cells a) % N < N := Nat.mod_lt _ (by omega)
   have he := mO (L := s.cells) (a := a) (by omega) (by omega) hat
   rw [hl] at he
   have he' : (rd s.cells (((a + 1 + eR s.cells a) % N : Nat) : Int)).Attr = true := he
   rw [cH.eq_2]; simp only [g8 h, aQ hp, Option.bind_some, he', Bool.not_true, cond_false]; unfold gW; rw [hl]
 unfold fe fu aO; simp only [Option.bind_some, f3 h, aQ ha, g8 h, hA, Bool.not_true, cond_false, hw1]; rw [show ((((a + 1 : Nat) : Int)) % (N : Int)) = (((a + 1) % N : Nat) : Int) from (Int.natCast_emod _ _).symm]
 have hsz : s.size = ⟨s.size.Rows, s.size.Cols⟩ := rfl
 rw [hsz, loop]
 rfl
theorem rT {N : Nat} (h1 : 0 < N) (h2 : N ≤ 1000000) (n : Nat) : bs (n : Int) (N : Int) = some ((n % N : Nat) : Int) := by
 rw [lc h1 h2, Int.natCast_emod]
/-- the document's -/
theorem rS {m : Int} {N : Nat} {x : aa} (h : RS m N x) {a : Nat} (ha : a < N) (hat : bc x.L a = true) : dD x (a : Int) = some (gW x.L a) := by
 have hl := h.len
 have hle := h.dim.dim.le
 have hA : (rd x.L (a : Int)).Attr = true := hat
 unfold dD; simp only [fL h, aQ ha, Option.bind_some]
 rw [aV (by omega)]
 simp only [hA, Bool.not_true, cond_false, pA h, Option.bind_some]
 have loop : cF x (a : Int) (en x.L (fJ x.L) N) bv (1, []) = some (gW x.L a) := by
  have hr := lB (L := x.L) (a := a) (by omega)
  have e1 : (1 : Int) = ((1 + 0 : Nat) : Int) := rfl
  rw [e1]
  refine cw (fun i => (((1 + i : Nat) : Int), ef (fun i => (a + 1 + i) % N) i)) (eR x.L a) (by omega) (fun k i hi => ?_) (fun k => ?_)
  ·have hp : (a + 1 + i) % N < N := Nat.mod_lt _ (by omega)
   have hs := stI_run (L := x.L) (a := a) (i := i + 1) (by omega) hat (by omega)
   rw [hl, show a + (i + 1) = a + 1 + i by omega] at hs
   have hs' : stF x.L (fJ x.L) ((a + 1 + i) % N) = (a : Int) := hs
   have d1 : decide (((1 + i : Nat) : Int) < (N : Int)) = true := decide_eq_true (by omega)
   have w1 : w64 ((a : Int) + ((1 + i : Nat) : Int)) = ((a + 1 + i : Nat) : Int) := by rw [cZ (by omega) (by omega)]; omega
   rw [cF.eq_2]
   simp only [d1, cond_true, w1, hl, rT (show 0 < N by omega) (by omega), Option.bind_some]
   rw [aV (by rw [show (en x.L (fJ x.L) N).length = N by simp [en]]; omega), kj hp, hs', ly rfl]
   simp only [cond_false]
   rw [aV (by rw [bC]; simp only [List.length_cons, List.length_nil]; omega), iU (by omega), gS]
   rfl
  ·rw [cF.eq_2]
   by_cases hj : 1 + eR x.L a < N
   ·have hp : (a + 1 + eR x.L a) % N < N := Nat.mod_lt _ (by omega)
    have he := mO (L := x.L) (a := a) (by omega) (by omega) hat
    rw [hl] at he
    have hne : (a + 1 + eR x.L a) % N ≠ a := by
     intro e
     by_cases h3 : a + 1 + eR x.L a < N
     ·rw [Nat.mod_eq_of_lt h3] at e; omega
     ·rw [Nat.mod_eq_sub_mod (by omega), Nat.mod_eq_of_lt (by omega)] at e; omega
    have d1 : decide (((1 + eR x.L a : Nat) : Int) < (N : Int)) = true := decide_eq_true (by omega)
    have w1 : w64 ((a : Int) + ((1 + eR x.L a : Nat) : Int)) = ((a + 1 + eR x.L a : Nat) : Int) := by rw [cZ (by omega) (by omega)]; omega
    simp only [d1, cond_true, w1, hl, rT (show 0 < N by omega) (by omega), Option.bind_some]
    rw [aV (by rw [show (en x.L (fJ x.L) N).length = N by simp [en]]; omega), kj hp, iw he, lw (by omega)]
    simp only [cond_true]; unfold gW; rw [hl]
   ·have d1 : decide (((1 + eR x.L a : Nat) : Int) < (N : Int)) = false := decide_eq_false (by omega)
    simp only [hl, d1, cond_false]; unfold gW; rw [hl]
 rw [loop]; rfl
end Go.Vt
set_option linter.unusedVariables false
set_option linter.unusedSimpArgs false
set_option maxRecDepth 100000
namespace Go.Vt
/-- is it the first place of an unprotected field? -/
def frB (L : List ad) (p : Nat) : Bool := bc L ((p + (L.length - 1)) % L.length) && (!bc L p && !(fld (rd L (((p + (L.length - 1)) % L.length : Nat) : Int)).FA).Protected)
def nQ (L : List ad) (k : Nat) : Nat := tl (fun i => !frB L ((k + 1 + i) % L.length)) L.length
def oi (L : List ad) (k : Nat) : Nat := tl (fun i => !frB L ((k + (L.length - 1 - i)) % L.length)) L.length
def k8 (L : List ad) (k : Nat) : Int := if nQ L k < L.length then (((k + 1 + nQ L k) % L.length : Nat) : Int) else -1
def mT (L : List ad) (k : Nat) : Int := if oi L k < L.length then (((k + (L.length - 1 - oi L k)) % L.length : Nat) : Int) else -1
theorem pfirst {m : Int} {N : Nat} {s : ab} (h : SS m N s) {p : Nat} (hp : p < N) : ia s (p : Int) = some (frB s.cells p) := by
 have hl := h.len
 have hle := h.dim.dim.le
 have hw : w64 ((p : Int) - 1) = (p : Int) - 1 := cZ (by omega) (by omega)
 unfold ia frB
 simp only [hw, g8 h, modm1 (show 1 < N by omega) hp, aQ hp, Option.bind_some, hl, pof]
 have hA : (rd s.cells (((p + (N - 1)) % N : Nat) : Int)).Attr = bc s.cells ((p + (N - 1)) % N) := rfl
 have hB : (rd s.cells (p : Int)).Attr = bc s.cells p := rfl
 rw [hA, hB]
 cases bc s.cells ((p + (N - 1)) % N) <;> cases bc s.cells p <;> rfl
theorem pp {m : Int} {N : Nat} {s : ab} (h : SS m N s) (z : Int) (f : Nat → Nat) (hf : ∀ i, f i < N) (hz : ∀ i, i < N → aN ⟨s.size.Rows, s.size.Cols⟩ (w64 ((f i : Int) + z)) = some ((f (i + 1) : Nat) : Int)) :
  gN s (f 0 : Int) z = some (if tl (fun i => !frB s.cells (f (i + 1))) N < N then ((f (tl (fun i => !frB s.cells (f (i + 1))) N + 1) : Nat) : Int) else -1) := by
 have hl := h.len
 have hle := h.dim.dim.le
 generalize hj : tl (fun i => !frB s.cells (f (i + 1))) N = j
 have hjl : j ≤ N := by rw [← hj]; exact jt _ _
 unfold gN aO; simp only [Option.bind_some, mL h]
 have loop : fH s z ⟨s.size.Rows, s.size.Cols⟩ (N : Int) bv (0, (f 0 : Int)) = some (if j < N then .inr ((f (j + 1) : Nat) : Int) else .inl ()) := by
  refine cw (fun i => ((i : Int), ((f i : Nat) : Int))) j (by omega) (fun k i hi => ?_) (fun k => ?_)
  ·have d1 : decide ((i : Int) < (N : Int)) = true := decide_eq_true (by omega)
   have hp := js (p := fun i => !frB s.cells (f (i + 1))) (n := N) (i := i) (by omega)
   have hp' : frB s.cells (f (i + 1)) = false := by simpa using hp
   rw [fH.eq_2]
   simp only [d1, cond_true, hz i (by omega), Option.bind_some, pfirst h (hf _), hp', cond_false, iU (show i < 1000000 by omega)]
  ·rw [fH.eq_2]
   by_cases hjN : j < N
   ·have d1 : decide ((j : Int) < (N : Int)) = true := decide_eq_true (by omega)
    have hp := gT (p := fun i => !frB s.cells (f (i + 1))) (n := N) (by omega)
    rw [hj] at hp
    have hp' : frB s.cells (f (j + 1)) = true := by simpa using hp
    simp only [d1, cond_true, hz j hjN, Option.bind_some, pfirst h (hf _), hp', if_pos hjN]
    rfl
   ·have d1 : decide ((j : Int) < (N : Int)) = false := decide_eq_false (by omega)
    simp only [d1, cond_false, if_neg hjN]
 rw [loop]
 by_cases hjN : j < N
 ·rw [if_pos hjN, if_pos hjN]; rfl
 ·rw [if_neg hjN, if_neg hjN]; rfl
theorem pnext {m : Int} {N : Nat} {s : ab} (h : SS m N s) {n : Int} {k : Nat} (hk : n % N = (k : Int)) (hkN : k < N) : fA s n = some (k8 s.cells k) := by
 have hl := h.len
 have hle := h.dim.dim.le
 unfold fA aO; simp only [Option.bind_some, f3 h, hk]
 have key := pp h 1 (fun i => (k + i) % N) (fun i => Nat.mod_lt _ (by omega)) (fun i hi => by
  have hp : (k + i) % N < N := Nat.mod_lt _ (by omega)
  rw [cZ (by omega) (by omega), f3 h, mod1 (by omega) hp, Nat.mod_add_mod]; rfl)
 simp only [Nat.add_zero, Nat.mod_eq_of_lt hkN] at key
 have e : ∀ i, k + (i + 1) = k + 1 + i := fun i => by omega
 have hfun : (fun i => !frB s.cells ((k + (i + 1)) % N)) = fun i => !frB s.cells ((k + 1 + i) % N) := funext fun i => by rw [e]
 rw [hfun, e (tl (fun i => !frB s.cells ((k + 1 + i) % N)) N)] at key; rw [key]; unfold k8 nQ; rw [hl]
 rfl
theorem pprev {m : Int} {N : Nat} {s : ab} (h : SS m N s) {n : Int} {k : Nat} (hk : n % N = (k : Int)) (hkN : k < N) : iy s n = some (mT s.cells k) := by
 have hl := h.len
 have hle := h.dim.dim.le
 unfold iy aO; simp only [Option.bind_some, f3 h, hk]
 have key := pp h (-1) (fun i => (k + (N - i)) % N) (fun i => Nat.mod_lt _ (by omega)) (fun i hi => by
  have hp : (k + (N - i)) % N < N := Nat.mod_lt _ (by omega)
  rw [cZ (by omega) (by omega), f3 h, show ((((k + (N - i)) % N : Nat) : Int) + -1) = (((k + (N - i)) % N : Nat) : Int) - 1 by omega, modm1 (by omega) hp, Nat.mod_add_mod]
  by_cases h0 : i + 1 ≤ N
  ·rw [show k + (N - i) + (N - 1) = k + (N - (i + 1)) + N by omega, Nat.add_mod_right]
  ·omega)
 simp only [Nat.sub_zero, Nat.add_mod_right, Nat.mod_eq_of_lt hkN] at key
 have e : ∀ i, N - (i + 1) = N - 1 - i := fun i => by omega
 have hfun : (fun i => !frB s.cells ((k + (N - (i + 1))) % N)) = fun i => !frB s.cells ((k + (N - 1 - i)) % N) := funext fun i => by rw [e]
 rw [hfun, e (tl (fun i => !frB s.cells ((k + (N - 1 - i)) % N)) N)] at key; rw [key]; unfold mT oi; rw [hl]
 rfl
/-! ### the document's -/
/-- attributes of unprotected fields that have places -/
def frA (L : List ad) (a : Nat) : Bool := !bc L ((a + 1) % L.length) && !(fld (rd L (a : Int)).FA).Protected
def gy (L : List ad) : List Int := ((bV L L.length).filter (frA L)).map fun a => (((a + 1) % L.length : Nat) : Int)
theorem runI_pos {L : List ad} {a : Nat} (hL : 1 < L.length) : (0 < eR L a) = (bc L ((a + 1) % L.length) = false) := by
 apply propext
 constructor
 ·intro h; exact nT (i := 0) h
 ·intro h; rcases Nat.eq_zero_or_pos (eR L a) with h0 | h0
  ·have : eR L a < L.length - 1 := by omega
   have h2 := gT this
   change tl _ _ = 0 at h0; rw [h0] at h2; simp only [Nat.add_zero] at h2; rw [h] at h2; cases h2
  ·exact h0
theorem rfirsts {m : Int} {N : Nat} {x : aa} (h : RS m N x) : ec x = some (gy x.L) := by
 have hl := h.len
 have hle := h.dim.dim.le
 have hal := jF x.L N
 unfold ec; simp only [oV h, Option.bind_some]
 generalize hA : bV x.L N = A at hal
 have hmem : ∀ i (hi : i < A.length), A[i] < N ∧ bc x.L A[i] = true := fun i hi => fI.1 (by rw [hA]; exact List.getElem_mem hi)
 have loop : cG x (A.map fun i : Nat => (i : Int)) bv (0, []) = some (gy x.L) := by
  refine cw (fun i => ((i : Int), ((A.take i).filter (frA x.L)).map fun a => (((a + 1) % N : Nat) : Int))) A.length (by omega) (fun k i hi => ?_) (fun k => ?_)
  ·obtain ⟨ha, hat⟩ := hmem i hi
   have d1 : decide ((i : Int) < ((A.map fun i : Nat => (i : Int)).length : Int)) = true := decide_eq_true (by rw [List.length_map]; omega)
   have hrd : rd (A.map fun i : Nat => (i : Int)) (i : Int) = (A[i] : Int) := by rw [rdn (by rw [List.length_map]; exact hi)]; simp
   have hfl : (((A.take i).filter (frA x.L)).map fun a => (((a + 1) % N : Nat) : Int)).length ≤ 3564 := by
    rw [List.length_map]
    have := List.length_filter_le (frA x.L) (A.take i)
    have h2 : (A.take i).length ≤ A.length := by rw [List.length_take]; omega
    omega
   rw [cG.eq_2]; simp only [d1, cond_true]
   rw [aV (by rw [List.length_map]; omega), hrd]
   simp only [rS h ha hat, Option.bind_some, mc h ha]; rw [List.take_succ_eq_append_getElem hi, List.filter_append, List.map_append]
   have hrun := runI_pos (L := x.L) (a := A[i]) (by omega)
   have hplen : (gW x.L A[i]).length = eR x.L A[i] := by unfold gW; rw [bC]
   have wz := iU (show i < 1000000 by omega)
   cases hfr : bc x.L ((A[i] + 1) % x.L.length) with
   | true =>
    have h0 : ¬ 0 < eR x.L A[i] := by rw [hrun, hfr]; simp
    have d2 : decide (((gW x.L A[i]).length : Int) > 0) = false := decide_eq_false (by omega)
    have hfa : frA x.L A[i] = false := by unfold frA; rw [hfr]; rfl
    simp only [d2, cond_false, Option.bind_some, wz, List.filter_cons, hfa, List.filter_nil, Bool.false_eq_true, if_false, List.map_nil, List.append_nil]
   | false =>
    have h0 : 0 < eR x.L A[i] := by rw [hrun, hfr]
    have d2 : decide (((gW x.L A[i]).length : Int) > 0) = true := decide_eq_true (by omega)
    have hfa : frA x.L A[i] = !(fld (rd x.L (A[i] : Int)).FA).Protected := by unfold frA; rw [hfr]; rfl
    simp only [d2, cond_true, Option.bind_some, wz, List.filter_cons, hfa, List.filter_nil]
    cases hp : (fld (rd x.L (A[i] : Int)).FA).Protected with
    | true => simp only [Bool.not_true, cond_false, Option.bind_some, Bool.false_eq_true, if_false, List.map_nil, List.append_nil]
    | false =>
     simp only [Bool.not_false, cond_true, if_true, List.map_cons, List.map_nil]
     have hr0 : rd (gW x.L A[i]) (0 : Int) = (((A[i] + 1) % N : Nat) : Int) := by
      unfold gW
      have := iA (f := fun q => (A[i] + 1 + q) % x.L.length) h0
      rw [hl] at this
      simpa [hl] using this
     rw [aV (by omega), aV (by simp only [List.length_cons, List.length_nil]; omega), hr0]
     rfl
  ·have d1 : decide ((A.length : Int) < ((A.map fun i : Nat => (i : Int)).length : Int)) = false := decide_eq_false (by rw [List.length_map]; omega)
   rw [cG.eq_2]; simp only [d1, cond_false]; unfold gy; rw [hl, hA, List.take_of_length_le (Nat.le_refl _)]
 rw [loop]; rfl
theorem io {L : List ad} (hL : 1 < L.length) {z : Int} : z ∈ gy L ↔ ∃ p : Nat, z = (p : Int) ∧ p < L.length ∧ frB L p = true := by
 unfold gy; simp only [List.mem_map, List.mem_filter]
 constructor
 ·rintro ⟨a, ⟨h1, h2⟩, rfl⟩; obtain ⟨h3, h4⟩ := fI.1 h1
  refine ⟨_, rfl, Nat.mod_lt _ (by omega), ?_⟩
  have e : ((a + 1) % L.length + (L.length - 1)) % L.length = a := by
   rw [Nat.mod_add_mod, show a + 1 + (L.length - 1) = a + L.length by omega, Nat.add_mod_right, Nat.mod_eq_of_lt h3]
  unfold frB; rw [e, h4]; unfold frA at h2
  simpa using h2
 ·rintro ⟨p, rfl, hp, hf⟩; unfold frB at hf; simp only [Bool.and_eq_true] at hf; obtain ⟨g1, g2, g3⟩ := hf
  refine ⟨(p + (L.length - 1)) % L.length, ⟨fI.2 ⟨Nat.mod_lt _ (by omega), g1⟩, ?_⟩, ?_⟩
  ·unfold frA
   rw [Nat.mod_add_mod, show p + (L.length - 1) + 1 = p + L.length by omega, Nat.add_mod_right, Nat.mod_eq_of_lt hp]
   simp only [Bool.and_eq_true]; exact ⟨g2, g3⟩
  ·rw [Nat.mod_add_mod, show p + (L.length - 1) + 1 = p + L.length by omega, Nat.add_mod_right, Nat.mod_eq_of_lt hp]
/-- how far it is from a place to the next, 1 at least -/
def gF (N k p : Nat) (iJ : Bool) : Nat := let d := if iJ then (k + (N - p)) % N else (p + (N - k)) % N; if d = 0 then N else d
theorem n8 {m : Int} {N : Nat} {x : aa} (h : RS m N x) {n : Int} {k : Nat} (hk : n % N = (k : Int)) (hkN : k < N) (iJ : Bool) :
  ∃ r, cl x n iJ = some r ∧ ((r = -1 ∧ gy x.L = []) ∨ ∃ p : Nat, r = (p : Int) ∧ (p : Int) ∈ gy x.L ∧ ∀ q : Nat, (q : Int) ∈ gy x.L → gF N k p iJ ≤ gF N k q iJ) := by
 have hl := h.len
 have hle := h.dim.dim.le
 unfold cl; simp only [rfirsts h, Option.bind_some]
 have hFN : ∀ z ∈ gy x.L, ∃ p : Nat, z = (p : Int) ∧ p < N := fun z hz => by
  obtain ⟨p, h1, h2, _⟩ := (io (by omega)).1 hz; exact ⟨p, h1, by omega⟩
 have hFl : (gy x.L).length ≤ 3564 := by
  unfold gy; rw [List.length_map]
  have := List.length_filter_le (frA x.L) (bV x.L x.L.length)
  have := jF x.L x.L.length
  omega
 generalize gy x.L = F at hFN hFl
 have key := ir (L := c5 x n iJ F) (n := F.length) (s := ((0 : Int), (-1 : Int)))
  (fun i y => (i = 0 ∧ y.2 = -1) ∨ ∃ p : Nat, y.2 = (p : Int) ∧ y.1 = (gF N k p iJ : Int) ∧ (p : Int) ∈ F.take i ∧ ∀ q : Nat, (q : Int) ∈ F.take i → gF N k p iJ ≤ gF N k q iJ)
  (fun r => (r = -1 ∧ F = []) ∨ ∃ p : Nat, r = (p : Int) ∧ (p : Int) ∈ F ∧ ∀ q : Nat, (q : Int) ∈ F → gF N k p iJ ≤ gF N k q iJ) (by omega) ?_ ?_ (.inl ⟨rfl, rfl⟩)
 ·obtain ⟨r, h1, h2⟩ := key; rw [h1]; exact ⟨r, rfl, h2⟩
 ·rintro kk i ⟨far, best⟩ hi hI; obtain ⟨q, hq, hqN⟩ := hFN _ (List.getElem_mem hi)
  have d1 : decide ((i : Int) < (F.length : Int)) = true := decide_eq_true (by omega)
  rw [c5.eq_2]; simp only [d1, cond_true]
  rw [aV (by omega), rdn hi, hq]
  have m1 : bs (w64 ((q : Int) - (k : Int))) (N : Int) = some ((((q + (N - k)) % N : Nat)) : Int) := by
   rw [cZ (by omega) (by omega), lc (by omega) (by omega), show ((q : Int) - (k : Int)) = ((q + (N - k) : Nat) : Int) - N by omega, Int.sub_emod_right, Int.natCast_emod]
  have m2 : bs (w64 ((k : Int) - (q : Int))) (N : Int) = some ((((k + (N - q)) % N : Nat)) : Int) := by
   rw [cZ (by omega) (by omega), lc (by omega) (by omega), show ((k : Int) - (q : Int)) = ((k + (N - q) : Nat) : Int) - N by omega, Int.sub_emod_right, Int.natCast_emod]
  simp only [fL h, hk, hl, m1, m2, Option.bind_some]
  have e1 : (cond iJ (some ((((k + (N - q)) % N : Nat)) : Int)) (some ((((q + (N - k)) % N : Nat)) : Int)) : Option Int) = some (((if iJ then (k + (N - q)) % N else (q + (N - k)) % N : Nat)) : Int) := by cases iJ <;> rfl
  rw [e1]; simp only [Option.bind_some]
  have e2 : (cond ((((if iJ then (k + (N - q)) % N else (q + (N - k)) % N : Nat)) : Int) == 0) (some (N : Int)) (some (((if iJ then (k + (N - q)) % N else (q + (N - k)) % N : Nat)) : Int)) : Option Int) = some (gF N k q iJ : Int) := by
   unfold gF
   generalize (if iJ then (k + (N - q)) % N else (q + (N - k)) % N) = d
   by_cases hd : d = 0
   ·subst hd; rfl
   ·rw [cQ (by omega)]; simp [hd]
  rw [e2]
  simp only [Option.bind_some, iU (show i < 1000000 by omega)]
  have htk : F.take (i + 1) = F.take i ++ [(q : Int)] := by rw [List.take_succ_eq_append_getElem hi, hq]
  rcases hI with ⟨h0, hb⟩ | ⟨p, hb, hf, hp, hmin⟩
  ·simp only at hb; subst h0 hb; simp only [show decide ((-1 : Int) < 0) = true from rfl, cond_true, Option.bind_some]
   refine ⟨_, rfl, .inr ⟨q, rfl, rfl, by rw [htk]; simp, fun r hr => ?_⟩⟩
   rw [htk] at hr
   have h9 : (r : Int) = (q : Int) := by simpa using hr
   have : r = q := by omega
   subst this; exact Nat.le_refl _
  ·simp only at hb hf; subst hb hf
   simp only [show decide ((p : Int) < 0) = false from decide_eq_false (by omega), cond_false, Option.bind_some]
   by_cases hlt : gF N k q iJ < gF N k p iJ
   ·rw [decide_eq_true (show ((gF N k q iJ : Nat) : Int) < ((gF N k p iJ : Nat) : Int) by omega)]
    simp only [cond_true, Option.bind_some]
    refine ⟨_, rfl, .inr ⟨q, rfl, rfl, by rw [htk]; simp, fun r hr => ?_⟩⟩
    rw [htk] at hr; rcases List.mem_append.1 hr with h1 | h1
    ·have := hmin r h1; omega
    ·have h9 : (r : Int) = (q : Int) := by simpa using h1
     have : r = q := by omega
     subst this; exact Nat.le_refl _
   ·rw [decide_eq_false (show ¬ ((gF N k q iJ : Nat) : Int) < ((gF N k p iJ : Nat) : Int) by omega)]
    simp only [cond_false, Option.bind_some]
    refine ⟨_, rfl, .inr ⟨p, rfl, rfl, by rw [htk]; exact List.mem_append_left _ hp, fun r hr => ?_⟩⟩
    rw [htk] at hr; rcases List.mem_append.1 hr with h1 | h1
    ·exact hmin r h1
    ·have h9 : (r : Int) = (q : Int) := by simpa using h1
     have : r = q := by omega
     subst this; omega
 ·rintro kk ⟨far, best⟩ hI
  have d1 : decide ((F.length : Int) < (F.length : Int)) = false := decide_eq_false (by omega)
  rw [c5.eq_2]; simp only [d1, cond_false]; refine ⟨_, rfl, ?_⟩; rcases hI with ⟨h0, hb⟩ | ⟨p, hb, hf, hp, hmin⟩
  ·exact .inl ⟨hb, List.length_eq_zero_iff.1 h0⟩
  ·rw [List.take_of_length_le (Nat.le_refl _)] at hp hmin; exact .inr ⟨p, hb, hp, hmin⟩
theorem dist_f {N k i : Nat} (hk : k < N) (hi : i < N) : gF N k ((k + 1 + i) % N) false = i + 1 := by
 unfold gF; simp only [Bool.false_eq_true, if_false, Nat.mod_add_mod]
 rw [show k + 1 + i + (N - k) = (i + 1) + N by omega, Nat.add_mod_right]
 by_cases h : i + 1 = N
 ·rw [h, Nat.mod_self]; simp
 ·rw [Nat.mod_eq_of_lt (by omega)]; simp
theorem at_f {N k p : Nat} (hk : k < N) (hp : p < N) : 1 ≤ gF N k p false ∧ gF N k p false ≤ N ∧ p = (k + 1 + (gF N k p false - 1)) % N := by
 unfold gF; simp only [Bool.false_eq_true, if_false]
 by_cases h : k ≤ p
 ·rw [show p + (N - k) = (p - k) + N by omega, Nat.add_mod_right, Nat.mod_eq_of_lt (by omega)]
  by_cases h2 : p - k = 0
  ·rw [if_pos h2]; refine ⟨by omega, Nat.le_refl _, ?_⟩
   rw [show k + 1 + (N - 1) = p + N by omega, Nat.add_mod_right, Nat.mod_eq_of_lt hp]
  ·rw [if_neg h2]; refine ⟨by omega, by omega, ?_⟩
   rw [show k + 1 + (p - k - 1) = p by omega, Nat.mod_eq_of_lt hp]
 ·rw [Nat.mod_eq_of_lt (by omega), if_neg (by omega)]
  refine ⟨by omega, by omega, ?_⟩
  rw [show k + 1 + (p + (N - k) - 1) = p + N by omega, Nat.add_mod_right, Nat.mod_eq_of_lt hp]
theorem dist_b {N k i : Nat} (hk : k < N) (hi : i < N) : gF N k ((k + (N - 1 - i)) % N) true = i + 1 := by
 unfold gF; simp only [if_true]
 by_cases h : k + (N - 1 - i) < N
 ·rw [Nat.mod_eq_of_lt h, show k + (N - (k + (N - 1 - i))) = i + 1 by omega]
  by_cases h2 : i + 1 = N
  ·rw [h2, Nat.mod_self]; simp
  ·rw [Nat.mod_eq_of_lt (by omega)]; simp
 ·have e : (k + (N - 1 - i)) % N = k - 1 - i := by rw [Nat.mod_eq_sub_mod (by omega), Nat.mod_eq_of_lt (by omega)]; omega
  rw [e, show k + (N - (k - 1 - i)) = (i + 1) + N by omega, Nat.add_mod_right]
  by_cases h2 : i + 1 = N
  ·rw [h2, Nat.mod_self]; simp
  ·rw [Nat.mod_eq_of_lt (by omega)]; simp
theorem at_b {N k p : Nat} (hk : k < N) (hp : p < N) : 1 ≤ gF N k p true ∧ gF N k p true ≤ N ∧ p = (k + (N - 1 - (gF N k p true - 1))) % N := by
 unfold gF; simp only [if_true]
 by_cases h : p ≤ k
 ·rw [show k + (N - p) = (k - p) + N by omega, Nat.add_mod_right, Nat.mod_eq_of_lt (by omega)]
  by_cases h2 : k - p = 0
  ·rw [if_pos h2]; refine ⟨by omega, Nat.le_refl _, ?_⟩
   rw [show k + (N - 1 - (N - 1)) = p by omega, Nat.mod_eq_of_lt hp]
  ·rw [if_neg h2]; refine ⟨by omega, by omega, ?_⟩
   rw [show k + (N - 1 - (k - p - 1)) = p + N by omega, Nat.add_mod_right, Nat.mod_eq_of_lt hp]
 ·rw [Nat.mod_eq_of_lt (by omega), if_neg (by omega)]
  refine ⟨by omega, by omega, ?_⟩
  rw [show k + (N - 1 - (k + (N - p) - 1)) = p by omega, Nat.mod_eq_of_lt hp]
theorem rnext {m : Int} {N : Nat} {x : aa} (h : RS m N x) {n : Int} {k : Nat} (hk : n % N = (k : Int)) (hkN : k < N) : cl x n false = some (k8 x.L k) := by
 have hl := h.len
 have hle := h.dim.dim.le
 obtain ⟨r, h1, h2⟩ := n8 h hk hkN false; rw [h1]
 congr 1
 unfold k8
 have hjl : nQ x.L k ≤ x.L.length := jt _ _
 by_cases hj : nQ x.L k < x.L.length
 ·rw [if_pos hj]
  have he : (!frB x.L ((k + 1 + nQ x.L k) % x.L.length)) = false := gT (p := fun i => !frB x.L ((k + 1 + i) % x.L.length)) hj
  have hmem : (((k + 1 + nQ x.L k) % x.L.length : Nat) : Int) ∈ gy x.L := (io (by omega)).2 ⟨_, rfl, Nat.mod_lt _ (by omega), by simpa using he⟩
  rcases h2 with ⟨_, h3⟩ | ⟨p, rfl, hp, hmin⟩
  ·rw [h3] at hmem; cases hmem
  ·have g1 := hmin _ hmem
   rw [hl, dist_f hkN (by omega)] at g1
   obtain ⟨p', hp', hpN, hpf⟩ := (io (by omega)).1 hp
   have : p' = p := by omega
   subst this
   obtain ⟨a1, a2, a3⟩ := at_f hkN (show p' < N by omega)
   rcases Nat.lt_or_ge (gF N k p' false - 1) (nQ x.L k) with g2 | g2
   ·have g3 : (!frB x.L ((k + 1 + (gF N k p' false - 1)) % x.L.length)) = true := js (p := fun i => !frB x.L ((k + 1 + i) % x.L.length)) g2
    rw [hl, ← a3, hpf] at g3; cases g3
   ·rw [hl, show nQ x.L k = gF N k p' false - 1 by omega, ← a3]
 ·rw [if_neg hj]; rcases h2 with ⟨h3, _⟩ | ⟨p, rfl, hp, hmin⟩
  ·exact h3
  ·exfalso
   obtain ⟨p', hp', hpN, hpf⟩ := (io (by omega)).1 hp
   have : p' = p := by omega
   subst this
   obtain ⟨a1, a2, a3⟩ := at_f hkN (show p' < N by omega)
   have g3 : (!frB x.L ((k + 1 + (gF N k p' false - 1)) % x.L.length)) = true := js (p := fun i => !frB x.L ((k + 1 + i) % x.L.length)) (n := x.L.length) (by unfold nQ at hj; omega)
   rw [hl, ← a3, hpf] at g3; cases g3
theorem rprev {m : Int} {N : Nat} {x : aa} (h : RS m N x) {n : Int} {k : Nat} (hk : n % N = (k : Int)) (hkN : k < N) : cl x n true = some (mT x.L k) := by
 have hl := h.len
 have hle := h.dim.dim.le
 obtain ⟨r, h1, h2⟩ := n8 h hk hkN true; rw [h1]
 congr 1
 unfold mT
 have hjl : oi x.L k ≤ x.L.length := jt _ _
 by_cases hj : oi x.L k < x.L.length
 ·rw [if_pos hj]
  have he : (!frB x.L ((k + (x.L.length - 1 - oi x.L k)) % x.L.length)) = false := gT (p := fun i => !frB x.L ((k + (x.L.length - 1 - i)) % x.L.length)) hj
  have hmem : (((k + (x.L.length - 1 - oi x.L k)) % x.L.length : Nat) : Int) ∈ gy x.L := (io (by omega)).2 ⟨_, rfl, Nat.mod_lt _ (by omega), by simpa using he⟩
  rcases h2 with ⟨_, h3⟩ | ⟨p, rfl, hp, hmin⟩
  ·rw [h3] at hmem; cases hmem
  ·have g1 := hmin _ hmem
   rw [hl, dist_b hkN (by omega)] at g1
   obtain ⟨p', hp', hpN, hpf⟩ := (io (by omega)).1 hp
   have : p' = p := by omega
   subst this
   obtain ⟨a1, a2, a3⟩ := at_b hkN (show p' < N by omega)
   rcases Nat.lt_or_ge (gF N k p' true - 1) (oi x.L k) with g2 | g2
   ·have g3 : (!frB x.L ((k + (x.L.length - 1 - (gF N k p' true - 1))) % x.L.length)) = true := js (p := fun i => !frB x.L ((k + (x.L.length - 1 - i)) % x.L.length)) g2
    rw [hl, ← a3, hpf] at g3; cases g3
   ·rw [hl, show oi x.L k = gF N k p' true - 1 by omega, ← a3]
 ·rw [if_neg hj]; rcases h2 with ⟨h3, _⟩ | ⟨p, rfl, hp, hmin⟩
  ·exact h3
  ·exfalso
   obtain ⟨p', hp', hpN, hpf⟩ := (io (by omega)).1 hp
   have : p' = p := by omega
   subst this
   obtain ⟨a1, a2, a3⟩ := at_b hkN (show p' < N by omega)
   have g3 : (!frB x.L ((k + (x.L.length - 1 - (gF N k p' true - 1))) % x.L.length)) = true := js (p := fun i => !frB x.L ((k + (x.L.length - 1 - i)) % x.L.length)) (n := x.L.length) (by unfold oi at hj; omega)
   rw [hl, ← a3, hpf] at g3; cases g3
end Go.Vt
set_option linter.unusedVariables false
set_option linter.unusedSimpArgs false
set_option maxRecDepth 100000
namespace Go.Vt
/-! ### characters at places -/
def chr (c : ad) (z : Int) : ad := { c with Char := z }
def cq (L : List ad) (p : Nat) (z : Int) : List ad := if bc L p then L else L.set p (chr (rd L (p : Int)) z)
def dX (L : List ad) (f : Nat → Nat) (c : Nat → Int) : Nat → List ad
 | 0 => L
 | i + 1 => cq (dX L f c i) (f i) (c i)
theorem rB {c : ad} (h : COk c) (ha : c.Attr = false) {z : Int} (hz : By z) : COk (chr c z) := ⟨hz, h.fa, h.high, h.color, h.set, (fun e => by have e : c.Attr = true := e; rw [ha] at e; cases e), fun _ => h.plain ha⟩
theorem fN (L : List ad) (p : Nat) (z : Int) : (cq L p z).length = L.length := by unfold cq; split <;> simp
theorem dL (L : List ad) (f : Nat → Nat) (c : Nat → Int) : ∀ j, (dX L f c j).length = L.length
 | 0 => rfl
 | j + 1 => by rw [dX, fN, dL L f c j]
theorem ij {L : List ad} {p q : Nat} {c : ad} (hp : p < L.length) (hq : q < L.length) : rd (L.set p c) (q : Int) = if p = q then c else rd L (q : Int) := by
 rw [rdn (by simpa using hq), rdn hq, List.getElem_set]
theorem mS {L : List ad} {p : Nat} {z : Int} (hp : p < L.length) {q : Nat} (hq : q < L.length) : bc (cq L p z) q = bc L q := by
 unfold cq
 cases h : bc L p with
 | true => rfl
 | false =>
  simp only [Bool.false_eq_true, if_false]; unfold bc; rw [ij hp hq]
  by_cases e : p = q
  ·subst e; rw [if_pos rfl]; rfl
  ·rw [if_neg e]
theorem lE {L : List ad} (ho : ∀ c ∈ L, COk c) {p : Nat} (hp : p < L.length) {z : Int} (hz : By z) : ∀ c ∈ cq L p z, COk c := by
 intro c hc; unfold cq at hc
 split at hc
 ·exact ho c hc
 ·rename_i hA
  rcases List.mem_or_eq_of_mem_set hc with h1 | rfl
  ·exact ho c h1
  ·exact rB (ho _ (fG (by omega))) (by simpa [bc] using hA) hz
theorem cnt_isA {L M : List ad} (hl : M.length = L.length) (h : ∀ q, q < L.length → bc M q = bc L q) : cnt M = cnt L := by
 rw [nu, nu, hl]; unfold bV
 congr 2
 exact List.filter_congr fun q hq => h q (List.mem_range.1 hq)
theorem sQ {m : Int} {N : Nat} {s : ab} (h : SS m N s) {n : Int} {p : Nat} (hp : n % N = (p : Int)) (hpN : p < N) (z : Int) : bi s n z = some (wS s (cq s.cells p z)) := by
 have hl := h.len
 unfold bi; simp only [mN h, hp, Option.bind_some]
 rw [aV (by omega)]
 have hA : (rd s.cells (p : Int)).Attr = bc s.cells p := rfl
 have hc : cnt (cq s.cells p z) = cnt s.cells := cnt_isA (fN _ _ _) fun q hq => mS (by omega) hq
 unfold wS; rw [hc, ← h.attrs]; unfold cq
 cases ha : bc s.cells p with
 | true => rw [hA, ha]; rfl
 | false =>
  have ha' : (rd s.cells (p : Int)).Attr = false := ha
  have e : (⟨z, false, (rd s.cells (p : Int)).FA, (rd s.cells (p : Int)).High, (rd s.cells (p : Int)).Color, (rd s.cells (p : Int)).f_Set⟩ : ad) = chr (rd s.cells (p : Int)) z := by unfold chr; rw [← ha']
  simp only [ha', Bool.not_false, cond_true, e, Bool.false_eq_true, if_false, Int.toNat_natCast]
theorem sP {m : Int} {N : Nat} {x : aa} (h : RS m N x) {n : Int} {p : Nat} (hp : n % N = (p : Int)) (hpN : p < N) {z : Int} (hz : By z) : bf x n z = some (wL x (cq x.L p z)) := by
 have hl := h.len
 have hm := h.ok _ (fG (l := x.L) (n := (p : Int)) (by omega))
 unfold bf; simp only [rs_at h, hp, Option.bind_some]
 have hA : (rd x.L (p : Int)).Attr = bc x.L p := rfl
 unfold cq
 cases ha : bc x.L p with
 | true => rw [hA, ha]; rfl
 | false =>
  have ha' : (rd x.L (p : Int)).Attr = false := ha
  have hk := rB hm ha' hz
  have hset := (kW h n hk.cb).1
  rw [hp, hk.fit] at hset
  have e : (⟨z, false, (rd x.L (p : Int)).FA, (rd x.L (p : Int)).High, (rd x.L (p : Int)).Color, (rd x.L (p : Int)).f_Set⟩ : ad) = chr (rd x.L (p : Int)) z := by unfold chr; rw [← ha']
  have ha2 : (rd x.L (p : Int)).Attr = false := ha'
  have hx : (⟨x.Model, x.Alt, x.Size, x.L, x.Cursor⟩ : aa) = x := rfl
  simp only [ha', Bool.not_false, cond_true, e, hx, hset, Bool.false_eq_true, if_false]
  rfl
section
variable {L : List ad} {f : Nat → Nat} {c : Nat → Int}
theorem oa (hf : ∀ i, f i < L.length) : ∀ j {q : Nat}, q < L.length → bc (dX L f c j) q = bc L q
 | 0, q, _ => rfl
 | j + 1, q, hq => by rw [dX, mS (by rw [dL]; exact hf j) (by rw [dL]; exact hq), oa hf j hq]
theorem nV (ho : ∀ c ∈ L, COk c) (hf : ∀ i, f i < L.length) : ∀ j, (∀ i, i < j → By (c i)) → ∀ d ∈ dX L f c j, COk d
 | 0, _ => ho
 | j + 1, hc => lE (nV ho hf j fun i hi => hc i (by omega)) (by rw [dL]; exact hf j) (hc j (by omega))
theorem iO (hf : ∀ i, f i < L.length) : ∀ j {q : Nat}, q < L.length → (∀ i, i < j → f i ≠ q) → rd (dX L f c j) (q : Int) = rd L (q : Int)
 | 0, q, _, _ => rfl
 | j + 1, q, hq, hn => by
  have ih := iO hf j hq fun i hi => hn i (by omega)
  rw [dX]; unfold cq
  split
  ·exact ih
  ·rw [ij (by rw [dL]; exact hf j) (by rw [dL]; exact hq), if_neg (hn j (by omega)), ih]
theorem pD (hf : ∀ i, f i < L.length) : ∀ j {q : Nat}, q < j → (∀ i i', i < j → i' < j → f i = f i' → i = i') → bc L (f q) = false → rd (dX L f c j) ((f q : Nat) : Int) = chr (rd L ((f q : Nat) : Int)) (c q)
 | 0, q, h, _, _ => by omega
 | j + 1, q, hq, hi, hA => by
  rw [dX]
  by_cases e : q = j
  ·subst e; unfold cq; rw [oa hf q (hf q), hA]; simp only [Bool.false_eq_true, if_false]
   rw [ij (by rw [dL]; exact hf q) (by rw [dL]; exact hf q), if_pos rfl, iO hf q (hf q) fun i h1 h2 => by have := hi i q (by omega) (by omega) h2; omega]
  ·have ih := pD hf j (q := q) (by omega) (fun i i' h1 h2 => hi i i' (by omega) (by omega)) hA
   unfold cq
   split
   ·exact ih
   ·rw [ij (by rw [dL]; exact hf j) (by rw [dL]; exact hf q), if_neg (fun h2 => e (hi j q (by omega) (by omega) h2).symm), ih]
theorem me {c' : Nat → Int} : ∀ j, (∀ i, i < j → c i = c' i) → dX L f c j = dX L f c' j
 | 0, _ => rfl
 | j + 1, h => by rw [dX, dX, me j fun i hi => h i (by omega), h j (by omega)]
end
theorem ky {A B : List ad} (hl : A.length = B.length) (h : ∀ q : Nat, q < B.length → rd A (q : Int) = rd B (q : Int)) : A = B := by
 refine List.ext_getElem hl fun q h1 h2 => ?_
 have := h q h2
 rwa [rdn h1, rdn h2] at this
/-- what depends on where attributes stand alone -/
theorem oW {L M : List ad} {n : Nat} (h : ∀ q, q < n → bc M q = bc L q) : bV M n = bV L n := by
 unfold bV; exact List.filter_congr fun q hq => h q (List.mem_range.1 hq)
theorem rP {L M : List ad} {l0 : Int} : ∀ n, (∀ q, q < n + 1 → bc M q = bc L q) → stF M l0 n = stF L l0 n
 | 0, h => by simp [stF, h 0 (by omega)]
 | n + 1, h => by simp [stF, h (n + 1) (by omega), rP n fun q hq => h q (by omega)]
theorem stI_isA {L M : List ad} (hl : M.length = L.length) (h : ∀ q, q < L.length → bc M q = bc L q) {k : Nat} (hk : k < L.length) : stI M k = stI L k := by
 unfold stI fJ; rw [hl, oW h]
 exact rP k fun q hq => h q (by omega)
/-! ### the places to the field's end -/
instance (L : List ad) : Decidable (Fmt L) := decidable_of_iff (cnt L > 0) kw.symm
/-- how many places there are from one on -/
def rl (L : List ad) (k : Nat) (round : Bool) : Nat := if Fmt L then tl (fun i => !bc L ((k + i) % L.length)) L.length else if round then L.length else L.length - k
abbrev pl (L : List ad) (k : Nat) : Nat → Nat := fun i => (k + i) % L.length
def dA (L : List ad) (k : Nat) (round : Bool) : List Int := ef (pl L k) (rl L k round)
theorem o6 (L : List ad) (k : Nat) (round : Bool) : rl L k round ≤ L.length := by
 unfold rl; split
 ·exact jt _ _
 ·split <;> omega
theorem j4 {L : List ad} {k : Nat} (hL : 0 < L.length) (i : Nat) : pl L k i < L.length := Nat.mod_lt _ hL
theorem nn {L : List ad} {k i i' : Nat} (hi : i < L.length) (hi' : i' < L.length) (h : pl L k i = pl L k i') : i = i' := by
 simp only [pl] at h
 have h1 := Nat.div_add_mod (k + i) L.length
 have h2 := Nat.div_add_mod (k + i') L.length
 rw [h] at h1; rcases Nat.lt_trichotomy ((k + i) / L.length) ((k + i') / L.length) with e | e | e
 ·have := Nat.mul_le_mul_left L.length (show (k + i) / L.length + 1 ≤ (k + i') / L.length from e)
  rw [Nat.mul_add, Nat.mul_one] at this; omega
 ·rw [e] at h1; omega
 ·have := Nat.mul_le_mul_left L.length (show (k + i') / L.length + 1 ≤ (k + i) / L.length from e)
  rw [Nat.mul_add, Nat.mul_one] at this; omega
theorem rl_no {L : List ad} {k i : Nat} {round : Bool} (hL : 0 < L.length) (h : i < rl L k round) : bc L (pl L k i) = false := by
 unfold rl at h
 by_cases hf : Fmt L
 ·rw [if_pos hf] at h
  have := js h; simpa using this
 ·exact kZ hf (Nat.mod_lt _ hL)
/-- of a place in a field: how far behind its attribute -/
theorem in_run {L : List ad} (hf : Fmt L) {k : Nat} (hk : k < L.length) (hA : bc L k = false) : ∃ a t : Nat, stI L k = (a : Int) ∧ a < L.length ∧ bc L a = true ∧ t < eR L a ∧ (a + 1 + t) % L.length = k := by
 obtain ⟨a, h1, h2, h3⟩ := iv hf hk
 obtain ⟨d, hd, hdN⟩ : ∃ d, (a + d) % L.length = k ∧ d < L.length := by
  by_cases hak : a ≤ k
  ·exact ⟨k - a, by rw [show a + (k - a) = k by omega, Nat.mod_eq_of_lt hk], by omega⟩
  ·exact ⟨k + L.length - a, by rw [show a + (k + L.length - a) = k + L.length by omega, Nat.add_mod_right, Nat.mod_eq_of_lt hk], by omega⟩
 have hd0 : d ≠ 0 := by
  rintro rfl; rw [Nat.add_zero, Nat.mod_eq_of_lt h2] at hd; rw [hd, hA] at h3; cases h3
 refine ⟨a, d - 1, h1, h2, h3, ?_, by rw [show a + 1 + (d - 1) = a + d by omega]; exact hd⟩
 rcases Nat.lt_or_ge (d - 1) (eR L a) with h | h
 ·exact h
 ·exfalso
  have he := mO (L := L) (a := a) (by omega) h2 h3
  have hp := n5 (L := L) (l0 := fJ L) (N := L.length) (a := a) (j := 1 + eR L a) (iP hf) h2 (by omega) (by rw [show a + (1 + eR L a) = a + 1 + eR L a by omega]; exact he) (d - 1 - eR L a) (by omega)
  rw [show a + (1 + eR L a + (d - 1 - eR L a)) = a + d by omega, hd] at hp
  exact hp h1
theorem rl_run {L : List ad} (hf : Fmt L) {a t : Nat} (h2 : a < L.length) (h3 : bc L a = true) (ht : t < eR L a) {round : Bool} : rl L ((a + 1 + t) % L.length) round = eR L a - t := by
 have hrl := lB (L := L) (a := a) (by omega)
 unfold rl; rw [if_pos hf]
 refine tl_eq (by omega) (fun i hi => ?_) (fun _ => ?_)
 ·rw [Nat.mod_add_mod, show a + 1 + t + i = a + 1 + (t + i) by omega, nT (by omega)]; rfl
 ·rw [Nat.mod_add_mod, show a + 1 + t + (eR L a - t) = a + 1 + eR L a by omega, mO (by omega) h2 h3]; rfl
theorem pg {f g : Nat → Nat} {n t : Nat} (h : ∀ i, f (t + i) = g i) : (ef f n).drop t = ef g (n - t) := by
 refine List.ext_getElem (by simp [ef]) fun i h1 h2 => ?_
 simp only [ef, List.getElem_drop, List.getElem_map, List.getElem_range, h]
theorem ql {L : List ad} (hf : Fmt L) {a t k : Nat} (h2 : a < L.length) (h3 : bc L a = true) (ht : t < eR L a) (hk : (a + 1 + t) % L.length = k) (round : Bool) : (gW L a).drop t = dA L k round := by
 unfold gW dA; rw [← hk, rl_run hf h2 h3 ht]
 exact pg fun i => by simp only [pl]; rw [Nat.mod_add_mod, show a + 1 + (t + i) = a + 1 + t + i by omega]
theorem pindex {L : List ad} {a t k : Nat} (hL : L.length ≤ 100000) (h2 : a < L.length) (ht : t < eR L a) (hk : (a + 1 + t) % L.length = k) : gC (gW L a) (k : Int) = some (t : Int) := by
 have hrl := lB (L := L) (a := a) (by omega)
 unfold gC
 have hlen : (gW L a).length = eR L a := by unfold gW; exact bC _ _
 have hrd : ∀ i, i < eR L a → rd (gW L a) (i : Int) = (((a + 1 + i) % L.length : Nat) : Int) := fun i hi => by unfold gW; exact iA hi
 have loop : eH (gW L a) (k : Int) bv 0 = some (.inr (t : Int)) := by
  refine cw (fun i => (i : Int)) t (by omega) (fun q i hi => ?_) (fun q => ?_)
  ·have d1 : decide ((i : Int) < ((gW L a).length : Int)) = true := decide_eq_true (by omega)
   rw [eH.eq_2]; simp only [d1, cond_true]
   have hne : (a + 1 + i) % L.length ≠ k := fun e => by
    have := nn (L := L) (k := a + 1) (i := i) (i' := t) (by omega) (by omega) (by simp only [pl]; rw [e, hk]); omega
   rw [aV (by omega), hrd i (by omega), cQ (by omega), iU (by omega)]
   simp only [cond_false]
  ·have d1 : decide ((t : Int) < ((gW L a).length : Int)) = true := decide_eq_true (by omega)
   rw [eH.eq_2]; simp only [d1, cond_true]
   rw [aV (by omega), hrd t ht, hk, jV rfl]
   rfl
 rw [loop]; rfl
/-- unformatted: a run of places -/
theorem pspan {m : Int} {N : Nat} {s : ab} (h : SS m N s) {k : Nat} (hk : k < N) (to : Int) {j : Nat} (hj : ei ⟨s.size.Rows, s.size.Cols⟩ (k : Int) to = some (j : Int)) (hjN : j ≤ N) :
  eV ⟨s.size.Rows, s.size.Cols⟩ (k : Int) to = some (⟨s.size.Rows, s.size.Cols⟩, (k : Int), to, ef (pl s.cells k) j) := by
 have hl := h.len
 have hle := h.dim.dim.le
 unfold eV f7; simp only [hj, Option.bind_some]
 have loop : dw ⟨s.size.Rows, s.size.Cols⟩ (k : Int) (j : Int) bv (0, []) = some (ef (pl s.cells k) j) := by
  refine cw (fun i => ((i : Int), ef (pl s.cells k) i)) j (by omega) (fun q i hi => ?_) (fun q => ?_)
  ·have d1 : decide ((i : Int) < (j : Int)) = true := decide_eq_true (by omega)
   rw [dw.eq_2]; simp only [d1, cond_true, f3 h, aQ hk, Option.bind_some]
   rw [cZ (x := (k : Int) + (i : Int)) (by omega) (by omega), show ((k : Int) + (i : Int)) % (N : Int) = (((k + i) % N : Nat) : Int) by rw [Int.natCast_emod]; rfl]
   rw [aV (by rw [bC]; simp only [List.length_cons, List.length_nil]; omega), iU (by omega), gS]
   simp only [pl, hl]
  ·have d1 : decide ((j : Int) < (j : Int)) = false := decide_eq_false (by omega)
   rw [dw.eq_2]; simp only [d1, cond_false]
 rw [loop]; rfl
theorem plen {m : Int} {N : Nat} {s : ab} (h : SS m N s) {k : Nat} (hk : k < N) {to : Int} {b : Nat} (hb : to % N = (b : Int)) (hbN : b < N) : ei ⟨s.size.Rows, s.size.Cols⟩ (k : Int) to = some (((if b ≤ k then N - (k - b) else b - k : Nat)) : Int) := by
 have hle := h.dim.dim.le
 unfold ei; simp only [f3 h, aQ hk, hb, Option.bind_some, mL h]
 rw [cZ (by omega) (by omega)]
 by_cases hbk : b ≤ k
 ·rw [if_pos hbk]
  by_cases h0 : b = k
  ·subst h0
   rw [show ((b : Int) - (b : Int)) = ((0 : Nat) : Int) by omega, aQ (by omega)]
   simp
  ·rw [show ((b : Int) - (k : Int)) = ((N - (k - b) : Nat) : Int) - N by omega, Int.sub_emod_right, aQ (by omega), decide_eq_true (by omega)]; rfl
 ·rw [if_neg hbk, show ((b : Int) - (k : Int)) = ((b - k : Nat) : Int) by omega, aQ (by omega), decide_eq_true (by omega)]; rfl
/-- the program's places to the field's end -/
theorem prest {m : Int} {N : Nat} {s : ab} (h : SS m N s) {n : Int} {k : Nat} (hk : n % N = (k : Int)) (hkN : k < N) (hA : bc s.cells k = false) : gO s n = some (s, dA s.cells k false) := by
 have hl := h.len
 have hle := h.dim.dim.le
 unfold gO aO eW fP; simp only [Option.bind_some, f3 h, hk, pE h (aQ hkN) hkN]
 by_cases hf : Fmt s.cells
 ·obtain ⟨a, t, h1, h2, h3, h4, h5⟩ := in_run hf (show k < s.cells.length by omega) hA
  have hrl := lB (L := s.cells) (a := a) (by omega)
  have hlen : (gW s.cells a).length = eR s.cells a := by unfold gW; exact bC _ _
  rw [h1, decide_eq_false (show ¬ ((a : Int) < 0) by omega)]
  simp only [cond_false, pplaces h (show a < N by omega) h3, Option.bind_some, pindex (by omega) h2 h4 h5]
  rw [aV (by omega), Int.toNat_natCast, ql hf h2 h3 h4 h5 false]
 ·rw [gU hf (by omega)]
  simp only [show decide ((-1 : Int) < 0) = true from rfl, cond_true]
  have hp := plen h hkN (to := 0) (b := 0) rfl (by omega)
  rw [if_pos (by omega), Nat.sub_zero] at hp
  rw [pspan h hkN 0 hp (by omega)]
  simp only [Option.bind_some]; unfold dA rl; rw [if_neg hf, hl]
  rfl
theorem pround {m : Int} {N : Nat} {s : ab} (h : SS m N s) {n : Int} {k : Nat} (hk : n = (k : Int)) (hkN : k < N) (hA : bc s.cells k = false) : ib s n = some (s, dA s.cells k true) := by
 have hl := h.len
 have hle := h.dim.dim.le
 subst hk; unfold ib bX eW aO; simp only [Option.bind_some, h.attrs]
 by_cases hf : Fmt s.cells
 ·rw [decide_eq_true (kw.1 hf)]; simp only [cond_true, prest h (aQ hkN) hkN hA, Option.bind_some]; unfold dA rl; rw [if_pos hf, if_pos hf]
 ·rw [decide_eq_false fun e => hf (kw.2 e)]; simp only [cond_false]
  have hp := plen h hkN (to := (k : Int)) (aQ hkN) hkN
  rw [if_pos (Nat.le_refl _), Nat.sub_self, Nat.sub_zero] at hp; rw [pspan h hkN _ hp (Nat.le_refl _)]; simp only [Option.bind_some]; unfold dA rl; rw [if_neg hf, hl]
  rfl
/-- the document's -/
theorem rrest {m : Int} {N : Nat} {x : aa} (h : RS m N x) {n : Int} {k : Nat} (hk : n % N = (k : Int)) (hkN : k < N) (hA : bc x.L k = false) (round : Bool) : dQ x n round = some (dA x.L k round) := by
 have hl := h.len
 have hle := h.dim.dim.le
 unfold dQ; simp only [Option.bind_some, fL h, hk, n7 h (aQ hkN) hkN]
 by_cases hf : Fmt x.L
 ·obtain ⟨a, t, h1, h2, h3, h4, h5⟩ := in_run hf (show k < x.L.length by omega) hA
  have hrl := lB (L := x.L) (a := a) (by omega)
  have hlen : (gW x.L a).length = eR x.L a := by unfold gW; exact bC _ _
  have hrd : ∀ i, i < eR x.L a → rd (gW x.L a) (i : Int) = (((a + 1 + i) % x.L.length : Nat) : Int) := fun i hi => by unfold gW; exact iA hi
  rw [h1, decide_eq_false (show ¬ ((a : Int) < 0) by omega)]
  simp only [cond_false, rS h (show a < N by omega) h3, Option.bind_some]
  have loop : cS (k : Int) (gW x.L a) bv (((0 : Nat) : Int), decide (t < 0), ef (fun q => (a + 1 + t + q) % x.L.length) (0 - t)) = some (dA x.L k round) := by
   rw [← ql hf h2 h3 h4 h5 round]
   refine cw (fun i => ((i : Int), decide (t < i), ef (fun q => (a + 1 + t + q) % x.L.length) (i - t))) (eR x.L a) (by omega) (fun q i hi => ?_) (fun q => ?_)
   ·have d1 : decide ((i : Int) < ((gW x.L a).length : Int)) = true := decide_eq_true (by omega)
    rw [cS.eq_2]; simp only [d1, cond_true]
    rw [aV (by omega), hrd i hi, iU (by omega)]
    have hin : (cond (decide (t < i)) (some true) (some ((((a + 1 + i) % x.L.length : Nat) : Int) == (k : Int))) : Option Bool) = some (decide (t < i + 1)) := by
     by_cases h6 : t < i
     ·rw [decide_eq_true h6, decide_eq_true (by omega)]; rfl
     ·rw [decide_eq_false h6]
      by_cases h7 : t = i
      ·subst h7; rw [h5, jV rfl, decide_eq_true (by omega)]; rfl
      ·have hne : (a + 1 + i) % x.L.length ≠ k := fun e => by
        have := nn (L := x.L) (k := a + 1) (i := i) (i' := t) (by omega) (by omega) (by simp only [pl]; rw [e, h5]); omega
       rw [cQ (by omega), decide_eq_false (by omega)]; rfl
    rw [hin]; simp only [Option.bind_some]
    by_cases h6 : t < i + 1
    ·rw [decide_eq_true h6]; simp only [cond_true]
     rw [aV (by rw [bC]; simp only [List.length_cons, List.length_nil]; omega), show i + 1 - t = (i - t) + 1 by omega, gS, show a + 1 + t + (i - t) = a + 1 + i by omega]
     rfl
    ·rw [decide_eq_false h6]; simp only [cond_false, Option.bind_some]
     rw [show i + 1 - t = i - t by omega]
   ·have d1 : decide (((eR x.L a : Nat) : Int) < ((gW x.L a).length : Int)) = false := decide_eq_false (by omega)
    rw [cS.eq_2]; simp only [d1, cond_false]; unfold gW
    rw [pg (g := fun q => (a + 1 + t + q) % x.L.length) fun i => by rw [show a + 1 + (t + i) = a + 1 + t + i by omega]]
  have e0 : ((0 : Int), false, ([] : List Int)) = (((0 : Nat) : Int), decide (t < 0), ef (fun q => (a + 1 + t + q) % x.L.length) (0 - t)) := by
   rw [decide_eq_false (by omega), Nat.zero_sub]; rfl
  rw [e0, loop]; rfl
 ·rw [gU hf (by omega)]
  simp only [show decide ((-1 : Int) < 0) = true from rfl, cond_true]
  have hlen : rl x.L k round = if round then N else N - k := by unfold rl; rw [if_neg hf, hl]
  have loop : c4 x round (k : Int) bv (0, []) = some (dA x.L k round) := by
   unfold dA
   refine cw (fun i => ((i : Int), ef (pl x.L k) (min i (rl x.L k round)))) N (by omega) (fun q i hi => ?_) (fun q => ?_)
   ·have d1 : decide ((i : Int) < (x.L.length : Int)) = true := decide_eq_true (by omega)
    have w1 : w64 ((k : Int) + (i : Int)) = ((k + i : Nat) : Int) := by rw [cZ (by omega) (by omega)]; omega
    rw [c4.eq_2]
    simp only [d1, cond_true, w1, iU (show i < 1000000 by omega)]
    have hin : (cond round (some true) (some (decide (((k + i : Nat) : Int) < (x.L.length : Int)))) : Option Bool) = some (decide (i < rl x.L k round)) := by
     rw [hlen]
     cases round with
     | true => simp only [cond_true, if_true]; rw [decide_eq_true hi]
     | false =>
      simp only [cond_false, Bool.false_eq_true, if_false]
      congr 1
      by_cases h6 : i < N - k
      ·rw [decide_eq_true (by omega), decide_eq_true h6]
      ·rw [decide_eq_false (by omega), decide_eq_false h6]
    rw [hin]; simp only [Option.bind_some]
    by_cases h6 : i < rl x.L k round
    ·rw [decide_eq_true h6]; simp only [cond_true, fL h, Option.bind_some]
     rw [aV (by rw [bC]; simp only [List.length_cons, List.length_nil]; omega), Nat.min_eq_left (by omega), Nat.min_eq_left (show i + 1 ≤ _ by omega), gS]
     simp only [pl, hl, Option.bind_some]; rw [Int.natCast_emod]
    ·rw [decide_eq_false h6]; simp only [cond_false, Option.bind_some]
     rw [Nat.min_eq_right (by omega), Nat.min_eq_right (show _ ≤ i + 1 by omega)]
   ·have d1 : decide ((N : Int) < (x.L.length : Int)) = false := decide_eq_false (by omega)
    rw [c4.eq_2]; simp only [d1, cond_false]
    have := o6 x.L k round
    rw [Nat.min_eq_right (by omega)]
  rw [loop]; rfl
end Go.Vt
set_option linter.unusedVariables false
set_option linter.unusedSimpArgs false
set_option maxRecDepth 100000
namespace Go.Vt
abbrev t7' (s : ab) : T7 := (s.model, s.alternate, s.size.Rows, s.size.Cols, s.cells, s.cursor, s.attrs)
theorem Dim.cn {r c : Int} {N : Nat} (h : Dim r c N) : ∃ rn cn : Nat, r = (rn : Int) ∧ c = (cn : Int) ∧ N = rn * cn ∧ 80 ≤ cn ∧ cn ≤ 132 ∧ 24 ≤ rn ∧ rn ≤ 43 := by
 rcases h.d with ⟨h1, h2, h3⟩ | ⟨h1, h2, h3⟩ | ⟨h1, h2, h3⟩ | ⟨h1, h2, h3⟩
 ·exact ⟨24, 80, by omega, by omega, by omega, by omega, by omega, by omega, by omega⟩
 ·exact ⟨32, 80, by omega, by omega, by omega, by omega, by omega, by omega, by omega⟩
 ·exact ⟨43, 80, by omega, by omega, by omega, by omega, by omega, by omega, by omega⟩
 ·exact ⟨27, 132, by omega, by omega, by omega, by omega, by omega, by omega, by omega⟩
theorem kl {m : Int} {N : Nat} {s : ab} (h : SS m N s) {f : Nat → Nat} {c : Nat → Int} {j : Nat} (hf : ∀ i, f i < N) (hc : ∀ i, i < j → By (c i)) : SS m N (wS s (dX s.cells f c j)) :=
 h.w (by rw [dL]; exact h.len) (nV h.ok (fun i => by rw [h.len]; exact hf i) j hc)
theorem mP {m : Int} {N : Nat} {x : aa} (h : RS m N x) {f : Nat → Nat} {c : Nat → Int} {j : Nat} (hf : ∀ i, f i < N) (hc : ∀ i, i < j → By (c i)) : RS m N (wL x (dX x.L f c j)) :=
 h.w (by rw [dL]; exact h.len) (nV h.ok (fun i => by rw [h.len]; exact hf i) j hc)
/-! ### codes of places; characters moved -/
def gG (L : List ad) (f : Nat → Nat) (j : Nat) : List Int := (List.range j).map fun i => (rd L ((f i : Nat) : Int)).Char
theorem iR (L : List ad) (f : Nat → Nat) (j : Nat) : (gG L f j).length = j := by simp [gG]
theorem qK {L : List ad} {f : Nat → Nat} {j i : Nat} (h : i < j) : rd (gG L f j) (i : Int) = (rd L ((f i : Nat) : Int)).Char := by
 rw [rdn (by rw [iR]; exact h)]; simp [gG]
theorem rcodes {m : Int} {N : Nat} {x : aa} (h : RS m N x) {f : Nat → Nat} (hf : ∀ i, f i < N) {j : Nat} (hj : j ≤ N) : dH x (ef f j) = some (gG x.L f j) := by
 have hl := h.len
 have hle := h.dim.dim.le
 unfold dH
 have loop : cR x (ef f j) bv (0, []) = some (gG x.L f j) := by
  refine cw (fun i => ((i : Int), gG x.L f i)) j (by omega) (fun k i hi => ?_) (fun k => ?_)
  ·have d1 : decide ((i : Int) < ((ef f j).length : Int)) = true := decide_eq_true (by rw [bC]; omega)
   have hfi := hf i
   rw [cR.eq_2]; simp only [d1, cond_true]
   rw [aV (by rw [bC]; omega), iA hi, aV (by omega), aV (by rw [iR]; simp only [List.length_cons, List.length_nil]; omega), iU (by omega)]
   have : gG x.L f (i + 1) = gG x.L f i ++ [(rd x.L ((f i : Nat) : Int)).Char] := by unfold gG; rw [List.range_succ, List.map_append]; rfl
   rw [this]
  ·have d1 : decide ((j : Int) < ((ef f j).length : Int)) = false := decide_eq_false (by rw [bC]; omega)
   rw [cR.eq_2]; simp only [d1, cond_false]
 rw [loop]; rfl
theorem rmove {m : Int} {N : Nat} {x : aa} (h : RS m N x) {f : Nat → Nat} (hf : ∀ i, f i < N) {j : Nat} (hj : j ≤ N) {cs : List Int} (hcs : j ≤ cs.length) (hb : ∀ i : Nat, i < j → By (rd cs (i : Int))) :
  eK x (ef f j) cs = some (wL x (dX x.L f (fun i => rd cs (i : Int)) j)) ∧ dZ x (ef f j) cs = some (wL x (dX x.L f (fun i => rd cs (i : Int)) j)) := by
 have hl := h.len
 have hle := h.dim.dim.le
 have st : ∀ i, i < j → bf (wL x (dX x.L f (fun i => rd cs (i : Int)) i)) (rd (ef f j) (i : Int)) (rd cs (i : Int)) = some (wL x (dX x.L f (fun i => rd cs (i : Int)) (i + 1))) := fun i hi => by
  have hR := mP h (c := fun i => rd cs (i : Int)) (j := i) hf (fun q hq => hb q (by omega))
  rw [iA hi, sP hR (aQ (hf i)) (hf i) (hb i hi)]; rfl
 constructor
 ·unfold eK
  have loop : c3 (ef f j) cs bv (0, x.Model, x.Alt, x.Size.Rows, x.Size.Cols, x.L, x.Cursor) = some (x.Model, x.Alt, x.Size.Rows, x.Size.Cols, dX x.L f (fun i => rd cs (i : Int)) j, x.Cursor) := by
   refine cw (fun i => ((i : Int), x.Model, x.Alt, x.Size.Rows, x.Size.Cols, dX x.L f (fun i => rd cs (i : Int)) i, x.Cursor)) j (by omega) (fun k i hi => ?_) (fun k => ?_)
   ·have d1 : decide ((i : Int) < ((ef f j).length : Int)) = true := decide_eq_true (by rw [bC]; omega)
    rw [c3.eq_2]; simp only [d1, cond_true]
    rw [aV (by rw [bC]; omega), aV (by omega), iU (by omega)]
    have := st i hi
    unfold wL at this; rw [show x.Size = ⟨x.Size.Rows, x.Size.Cols⟩ from rfl] at this; rw [this]; rfl
   ·have d1 : decide ((j : Int) < ((ef f j).length : Int)) = false := decide_eq_false (by rw [bC]; omega)
    rw [c3.eq_2]; simp only [d1, cond_false]
  rw [loop]; rfl
 ·unfold dZ
  have loop : cC (ef f j) cs bv (0, x.Model, x.Alt, x.Size.Rows, x.Size.Cols, x.L, x.Cursor) = some (x.Model, x.Alt, x.Size.Rows, x.Size.Cols, dX x.L f (fun i => rd cs (i : Int)) j, x.Cursor) := by
   refine cw (fun i => ((i : Int), x.Model, x.Alt, x.Size.Rows, x.Size.Cols, dX x.L f (fun i => rd cs (i : Int)) i, x.Cursor)) j (by omega) (fun k i hi => ?_) (fun k => ?_)
   ·have d1 : decide ((i : Int) < ((ef f j).length : Int)) = true := decide_eq_true (by rw [bC]; omega)
    rw [cC.eq_2]; simp only [d1, cond_true]
    rw [aV (by rw [bC]; omega), aV (by omega), iU (by omega)]
    have := st i hi
    unfold wL at this; rw [show x.Size = ⟨x.Size.Rows, x.Size.Cols⟩ from rfl] at this; rw [this]; rfl
   ·have d1 : decide ((j : Int) < ((ef f j).length : Int)) = false := decide_eq_false (by rw [bC]; omega)
    rw [cC.eq_2]; simp only [d1, cond_false]
  rw [loop]; rfl
/-! ### an erase to the end -/
def endI (L : List ad) (k : Nat) : List ad := c0 (dX L (pl L k) (fun _ => 0) (rl L k false)) k
theorem jM {L : List ad} {k : Nat} (h : fj L k = true) : bc L k = false := by
 unfold fj at h
 cases e : bc L k with
 | false => rfl
 | true => rw [e] at h; simp at h
theorem pend {m : Int} {N : Nat} {s : ab} (h : SS m N s) {n : Int} {k : Nat} (hk : n % N = (k : Int)) (hkN : k < N) : ja s n = some (if fj s.cells k then (wS s (endI s.cells k), true) else (s, false)) := by
 have hl := h.len
 have hle := h.dim.dim.le
 have hrl := o6 s.cells k false
 unfold ja; simp only [qm h hk hkN, Option.bind_some]
 cases ho : fj s.cells k with
 | false => rfl
 | true =>
  simp only [Bool.not_true, cond_false, prest h hk hkN (jM ho), Option.bind_some, if_true]
  have hf : ∀ i, pl s.cells k i < N := fun i => by rw [← hl]; exact j4 (by omega) i
  have loop : gh (s, dA s.cells k false) bv (0, s.model, s.alternate, s.size.Rows, s.size.Cols, s.cells, s.cursor, s.attrs) = some (t7' (wS s (dX s.cells (pl s.cells k) (fun _ => 0) (rl s.cells k false)))) := by
   have e0 : ((0 : Int), s.model, s.alternate, s.size.Rows, s.size.Cols, s.cells, s.cursor, s.attrs) = (((0 : Nat) : Int), t7' (wS s (dX s.cells (pl s.cells k) (fun _ => 0) 0))) := by
    unfold t7' wS; rw [h.attrs]; rfl
   rw [e0]
   refine cw (fun i => ((i : Int), t7' (wS s (dX s.cells (pl s.cells k) (fun _ => 0) i)))) (rl s.cells k false) (by omega) (fun q i hi => ?_) (fun q => ?_)
   ·have d1 : decide ((i : Int) < ((dA s.cells k false).length : Int)) = true := decide_eq_true (by unfold dA; rw [bC]; omega)
    have hS := kl h (f := pl s.cells k) (c := fun _ => 0) (j := i) hf (fun _ _ => by0)
    have hp := sQ hS (n := ((pl s.cells k i : Nat) : Int)) (aQ (hf i)) (hf i) 0
    rw [gh.eq_2]; simp only [d1, cond_true]
    rw [aV (by unfold dA; rw [bC]; omega), iU (by omega)]
    have hrd : rd (dA s.cells k false) (i : Int) = ((pl s.cells k i : Nat) : Int) := by unfold dA; exact iA hi
    rw [hrd]; change ((bi (wS s (dX s.cells (pl s.cells k) (fun _ => 0) i)) _ 0).bind _) = _; rw [hp]; rfl
   ·have d1 : decide (((rl s.cells k false : Nat) : Int) < ((dA s.cells k false).length : Int)) = false := decide_eq_false (by unfold dA; rw [bC]; omega)
    rw [gh.eq_2]; simp only [d1, cond_false]
  rw [loop]
  have hS := kl h (f := pl s.cells k) (c := fun _ => 0) (j := rl s.cells k false) hf (fun _ _ => by0)
  have hm := sR hS hk hkN
  simp only [Option.bind_some]; change ((bF (wS s (dX s.cells (pl s.cells k) (fun _ => 0) (rl s.cells k false))) n).bind _) = _; rw [hm]; rfl
theorem rend {m : Int} {N : Nat} {x : aa} (h : RS m N x) {n : Int} {k : Nat} (hk : n % N = (k : Int)) (hkN : k < N) : eZ x n = some (if fj x.L k then (wL x (endI x.L k), true) else (x, false)) := by
 have hl := h.len
 have hle := h.dim.dim.le
 have hrl := o6 x.L k false
 unfold eZ; simp only [qh h hk hkN, Option.bind_some]
 cases ho : fj x.L k with
 | false => rfl
 | true =>
  simp only [Bool.not_true, cond_false, rrest h hk hkN (jM ho) false, Option.bind_some, if_true]
  have hf : ∀ i, pl x.L k i < N := fun i => by rw [← hl]; exact j4 (by omega) i
  have loop : dt (dA x.L k false) bv (0, x.Model, x.Alt, x.Size.Rows, x.Size.Cols, x.L, x.Cursor) = some (x.Model, x.Alt, x.Size.Rows, x.Size.Cols, dX x.L (pl x.L k) (fun _ => 0) (rl x.L k false), x.Cursor) := by
   refine cw (fun i => ((i : Int), x.Model, x.Alt, x.Size.Rows, x.Size.Cols, dX x.L (pl x.L k) (fun _ => 0) i, x.Cursor)) (rl x.L k false) (by omega) (fun q i hi => ?_) (fun q => ?_)
   ·have d1 : decide ((i : Int) < ((dA x.L k false).length : Int)) = true := decide_eq_true (by unfold dA; rw [bC]; omega)
    have hR := mP h (f := pl x.L k) (c := fun _ => 0) (j := i) hf (fun _ _ => by0)
    have hp := sP hR (n := ((pl x.L k i : Nat) : Int)) (aQ (hf i)) (hf i) by0
    rw [dt.eq_2]; simp only [d1, cond_true]
    rw [aV (by unfold dA; rw [bC]; omega), iU (by omega)]
    have hrd : rd (dA x.L k false) (i : Int) = ((pl x.L k i : Nat) : Int) := by unfold dA; exact iA hi
    rw [hrd]; change ((bf (wL x (dX x.L (pl x.L k) (fun _ => 0) i)) _ 0).bind _) = _; rw [hp]; rfl
   ·have d1 : decide (((rl x.L k false : Nat) : Int) < ((dA x.L k false).length : Int)) = false := decide_eq_false (by unfold dA; rw [bC]; omega)
    rw [dt.eq_2]; simp only [d1, cond_false]
  rw [loop]
  have hR := mP h (f := pl x.L k) (c := fun _ => 0) (j := rl x.L k false) hf (fun _ _ => by0)
  have hm := rmod hR hk hkN
  simp only [Option.bind_some]; change ((bB (wL x (dX x.L (pl x.L k) (fun _ => 0) (rl x.L k false))) n).bind _) = _; rw [hm]; rfl
end Go.Vt
set_option linter.unusedVariables false
set_option linter.unusedSimpArgs false
set_option maxRecDepth 100000
namespace Go.Vt
/-! ### a row's places, up to the field's end -/
def rw' (L : List ad) (cn k : Nat) : Nat := tl (fun i => !bc L (pl L k i)) (cn - k % cn)
theorem row_in {N rn cn k i : Nat} (hN : N = rn * cn) (hc : 0 < cn) (hk : k < N) (hi : i < cn - k % cn) : k + i < N := by
 have h1 := Nat.div_add_mod k cn
 have h2 : k / cn < rn := by rw [Nat.div_lt_iff_lt_mul hc]; omega
 have h3 := Nat.mul_le_mul_left cn (show k / cn + 1 ≤ rn from h2)
 rw [Nat.mul_add, Nat.mul_one, Nat.mul_comm cn rn] at h3
 omega
theorem rw_le {L : List ad} {cn k : Nat} : rw' L cn k ≤ cn - k % cn := jt _ _
theorem rw_no {L : List ad} {cn k i : Nat} (h : i < rw' L cn k) : bc L (pl L k i) = false := by have := js h; simpa using this
theorem re {L : List ad} {k i : Nat} (h : k + i < L.length) : pl L k i = k + i := Nat.mod_eq_of_lt h
theorem kT (a b : Nat) : Int.tmod (a : Int) (b : Int) = ((a % b : Nat) : Int) := by
 rw [Int.tmod_eq_emod_of_nonneg (by omega)]; exact (Int.natCast_emod a b).symm
theorem pcol {r c : Int} {N cn : Nat} (h : Dim r c N) (hc : c = (cn : Int)) {n : Int} {k : Nat} (hk : n % N = (k : Int)) : fm ⟨r, c⟩ n = some ((k % cn : Nat) : Int) := by
 obtain ⟨rn, cn', h1, h2, h3, h4, h5, _⟩ := h.cn; unfold fm; simp only [kS h, mF h, hk, Option.bind_some, Bool.not_true, cond_false]; subst hc
 rw [aV (by omega), kT]
theorem prow {m : Int} {N : Nat} {s : ab} (h : SS m N s) {cn : Nat} (hc : s.size.Cols = (cn : Int)) {n : Int} {k : Nat} (hk : n % N = (k : Int)) (hkN : k < N) (hn : I64 n) : fb s n = some (s, n, ef (pl s.cells k) (rw' s.cells cn k)) := by
 have hl := h.len
 have hle := h.dim.dim.le
 obtain ⟨rn, cn', h1, h2, h3, h4, h5, _⟩ := h.dim.dim.cn
 have hcc : cn' = cn := by omega
 subst hcc
 have hrle := rw_le (L := s.cells) (cn := cn') (k := k)
 have hmod := Nat.mod_lt k (show 0 < cn' by omega)
 unfold fb ft aO; simp only [Option.bind_some, f3 h, hk, pcol h.dim.dim hc (aQ hkN)]
 have hin : ∀ i, i < cn' - k % cn' → k + i < N := fun i hi => row_in h3 (by omega) hkN hi
 have hpl : ∀ i, i < cn' - k % cn' → pl s.cells k i = k + i := fun i hi => re (by rw [hl]; exact hin i hi)
 have hw : w64 (s.size.Cols - ((k % cn' : Nat) : Int)) = ((cn' - k % cn' : Nat) : Int) := by rw [hc, cZ (by omega) (by omega)]; omega
 have loop : cU s ⟨s.size.Rows, s.size.Cols⟩ (k : Int) ((k % cn' : Nat) : Int) bv (0, []) = some (if rw' s.cells cn' k < cn' - k % cn' then .inr (ef (pl s.cells k) (rw' s.cells cn' k)) else .inl (ef (pl s.cells k) (rw' s.cells cn' k))) := by
  refine cw (fun i => ((i : Int), ef (pl s.cells k) i)) (rw' s.cells cn' k) (by omega) (fun q i hi => ?_) (fun q => ?_)
  ·have hki := hin i (by omega)
   have d1 : decide ((i : Int) < ((cn' - k % cn' : Nat) : Int)) = true := decide_eq_true (by omega)
   have w1 : w64 ((k : Int) + (i : Int)) = ((k + i : Nat) : Int) := by rw [cZ (by omega) (by omega)]; omega
   have hA := rw_no hi
   rw [hpl i (by omega)] at hA
   have hA' : (rd s.cells ((k + i : Nat) : Int)).Attr = false := hA
   rw [cU.eq_2]; simp only [hw, d1, cond_true, w1, g8 h, aQ hki, Option.bind_some, hA', cond_false]
   rw [aV (by rw [bC]; simp only [List.length_cons, List.length_nil]; omega)]
   simp only [Option.bind_some, cond_false]
   rw [iU (by omega), gS, hpl i (by omega)]
  ·rw [cU.eq_2]
   by_cases hj : rw' s.cells cn' k < cn' - k % cn'
   ·have hki := hin _ hj
    have d1 : decide (((rw' s.cells cn' k : Nat) : Int) < ((cn' - k % cn' : Nat) : Int)) = true := decide_eq_true (by omega)
    have w1 : w64 ((k : Int) + ((rw' s.cells cn' k : Nat) : Int)) = ((k + rw' s.cells cn' k : Nat) : Int) := by rw [cZ (by omega) (by omega)]; omega
    have hA : (!bc s.cells (pl s.cells k (rw' s.cells cn' k))) = false := gT (p := fun i => !bc s.cells (pl s.cells k i)) hj
    rw [hpl _ hj] at hA
    have hA' : (rd s.cells ((k + rw' s.cells cn' k : Nat) : Int)).Attr = true := by simpa [bc] using hA
    simp only [hw, d1, cond_true, w1, g8 h, aQ hki, Option.bind_some, hA', if_pos hj]
    rfl
   ·have d1 : decide (((rw' s.cells cn' k : Nat) : Int) < ((cn' - k % cn' : Nat) : Int)) = false := decide_eq_false (by omega)
    simp only [hw, d1, cond_false, if_neg hj]
 have hsz : s.size = ⟨s.size.Rows, s.size.Cols⟩ := rfl
 rw [hsz, loop]
 by_cases hj : rw' s.cells cn' k < cn' - k % cn'
 ·rw [if_pos hj]; rfl
 ·rw [if_neg hj]; rfl
theorem rrow {m : Int} {N : Nat} {x : aa} (h : RS m N x) {cn : Nat} (hc : x.Size.Cols = (cn : Int)) {n : Int} {k : Nat} (hk : n % N = (k : Int)) (hkN : k < N) (hA0 : bc x.L k = false) : eY x n = some (ef (pl x.L k) (rw' x.L cn k)) := by
 have hl := h.len
 have hle := h.dim.dim.le
 obtain ⟨rn, cn', h1, h2, h3, h4, h5, _⟩ := h.dim.dim.cn
 have hcc : cn' = cn := by omega
 subst hcc
 have hrle := rw_le (L := x.L) (cn := cn') (k := k)
 have hmod := Nat.mod_lt k (show 0 < cn' by omega)
 have hin : ∀ i, i < cn' - k % cn' → k + i < N := fun i hi => row_in h3 (by omega) hkN hi
 have hpl : ∀ i, i < cn' - k % cn' → pl x.L k i = k + i := fun i hi => re (by rw [hl]; exact hin i hi)
 have hpos : 0 < rw' x.L cn' k := by
  rcases Nat.eq_zero_or_pos (rw' x.L cn' k) with h0 | h0
  ·have : rw' x.L cn' k < cn' - k % cn' := by omega
   have hA : (!bc x.L (pl x.L k (rw' x.L cn' k))) = false := gT (p := fun i => !bc x.L (pl x.L k i)) this
   rw [h0, hpl 0 (by omega), Nat.add_zero, hA0] at hA; cases hA
  ·exact h0
 have hadd : ∀ i, i < cn' - k % cn' → (k + i) % cn' = k % cn' + i := fun i hi => by
  have e1 := Nat.div_add_mod k cn'
  rw [show k + i = (k % cn' + i) + cn' * (k / cn') by omega, Nat.add_mul_mod_self_left, Nat.mod_eq_of_lt (by omega)]
 have hw : w64 (x.Size.Cols - 1) = ((cn' - 1 : Nat) : Int) := by rw [hc, cZ (by omega) (by omega)]; omega
 unfold eY; simp only [fL h, hk, Option.bind_some]
 have stepA : ∀ i, i < rw' x.L cn' k → (cond (decide (((k + i : Nat) : Int) < (x.L.length : Int))) (gd ((0 : Int) ≤ ((k + i : Nat) : Int) ∧ ((k + i : Nat) : Int) < (x.L.length : Int)) <| some (!((rd x.L ((k + i : Nat) : Int)).Attr))) (some false) : Option Bool) = some true := fun i hi => by
  have hki := hin i (by omega)
  have hA := rw_no hi
  rw [hpl i (by omega)] at hA
  have hA' : (rd x.L ((k + i : Nat) : Int)).Attr = false := hA
  rw [decide_eq_true (by omega), aV (by omega), hA']; rfl
 have loop : cf x bv (((k + 0 : Nat) : Int), ef (pl x.L k) 0) = some (ef (pl x.L k) (rw' x.L cn' k)) := by
  by_cases hfull : rw' x.L cn' k = cn' - k % cn'
  ·refine cw (fun i => (((k + i : Nat) : Int), ef (pl x.L k) i)) (rw' x.L cn' k - 1) (by omega) (fun q i hi => ?_) (fun q => ?_)
   ·rw [cf.eq_2]
    simp only [stepA i (by omega), Option.bind_some, cond_true]
    rw [aV (by rw [bC]; simp only [List.length_cons, List.length_nil]; omega), aV (by omega), hw, hc, kT, hadd i (by omega), cQ (by omega), iU (by have := hin i (by omega); omega), gS, hpl i (by omega)]
    rfl
   ·have hj : rw' x.L cn' k - 1 < rw' x.L cn' k := by omega
    rw [cf.eq_2]; simp only [stepA _ hj, Option.bind_some, cond_true]
    rw [aV (by rw [bC]; simp only [List.length_cons, List.length_nil]; omega), aV (by omega), hw, hc, kT, hadd _ (by omega), jV (by omega)]
    simp only [cond_true]
    rw [show rw' x.L cn' k = (rw' x.L cn' k - 1) + 1 by omega, gS, Nat.add_sub_cancel, hpl (rw' x.L cn' k - 1) (by omega)]
  ·refine cw (fun i => (((k + i : Nat) : Int), ef (pl x.L k) i)) (rw' x.L cn' k) (by omega) (fun q i hi => ?_) (fun q => ?_)
   ·rw [cf.eq_2]; simp only [stepA i hi, Option.bind_some, cond_true]
    rw [aV (by rw [bC]; simp only [List.length_cons, List.length_nil]; omega), aV (by omega), hw, hc, kT, hadd i (by omega), cQ (by omega), iU (by have := hin i (by omega); omega), gS, hpl i (by omega)]
    rfl
   ·have hj : rw' x.L cn' k < cn' - k % cn' := by omega
    have hki := hin _ hj
    have hA : (!bc x.L (pl x.L k (rw' x.L cn' k))) = false := gT (p := fun i => !bc x.L (pl x.L k i)) hj
    rw [hpl _ hj] at hA
    have hA' : (rd x.L ((k + rw' x.L cn' k : Nat) : Int)).Attr = true := by simpa [bc] using hA
    have d1 : decide (((k + rw' x.L cn' k : Nat) : Int) < (x.L.length : Int)) = true := decide_eq_true (by omega)
    rw [cf.eq_2]; simp only [d1, cond_true, hA']
    rw [aV (by omega)]
    rfl
 rw [Nat.add_zero] at loop
 have e0 : ef (pl x.L k) 0 = ([] : List Int) := rfl
 rw [e0] at loop; rw [loop]; rfl
/-! ### a deletion -/
def jI (L : List ad) (k R : Nat) (i : Nat) : Int := if i + 1 < R then (rd L ((pl L k (i + 1) : Nat) : Int)).Char else 0
def delI (L : List ad) (cn k : Nat) : List ad := c0 (dX L (pl L k) (jI L k (rw' L cn k)) (rw' L cn k)) k
theorem sH {L : List ad} (ho : ∀ c ∈ L, COk c) {q : Nat} (hq : q < L.length) : By (rd L (q : Int)).Char := (ho _ (fG (by omega))).char
theorem sG {L : List ad} (ho : ∀ c ∈ L, COk c) (hL : 0 < L.length) {k R i : Nat} : By (jI L k R i) := by
 unfold jI; split
 ·exact sH ho (j4 hL _)
 ·exact by0
theorem rw_lt {m : Int} {N : Nat} {L : List ad} {cn k : Nat} (h : cn ≤ 132) (hN : 1920 ≤ N) (hl : L.length = N) : rw' L cn k < L.length := by have := rw_le (L := L) (cn := cn) (k := k); omega
theorem pdel {m : Int} {N : Nat} {s : ab} (h : SS m N s) {cn : Nat} (hc : s.size.Cols = (cn : Int)) {n : Int} {k : Nat} (hk : n % N = (k : Int)) (hkN : k < N) (hn : I64 n) : gE s n = some (if fj s.cells k then (wS s (delI s.cells cn k), true) else (s, false)) := by
 have hl := h.len
 have hle := h.dim.dim.le
 obtain ⟨rn, cn', h1, h2, h3, h4, h5, _⟩ := h.dim.dim.cn
 have hcc : cn' = cn := by omega
 subst hcc
 have hR : rw' s.cells cn' k < s.cells.length := rw_lt (m := m) h5 hle.1 hl
 unfold gE jN; simp only [qm h hk hkN, Option.bind_some]
 cases ho : fj s.cells k with
 | false => rfl
 | true =>
  simp only [Bool.not_true, cond_false, prow h hc hk hkN hn, Option.bind_some, if_true]
  have hf : ∀ i, pl s.cells k i < N := fun i => by rw [← hl]; exact j4 (by omega) i
  have hdc : ∀ i, By (jI s.cells k (rw' s.cells cn' k) i) := fun i => sG h.ok (by omega)
  unfold delI
  generalize hRR : rw' s.cells cn' k = R at hR hdc
  have loop : eJ (s, n, ef (pl s.cells k) R) bv (0, s.model, s.alternate, s.size.Rows, s.size.Cols, s.cells, s.cursor, s.attrs) = some (t7' (wS s (dX s.cells (pl s.cells k) (jI s.cells k R) R))) := by
   have e0 : ((0 : Int), s.model, s.alternate, s.size.Rows, s.size.Cols, s.cells, s.cursor, s.attrs) = (((0 : Nat) : Int), t7' (wS s (dX s.cells (pl s.cells k) (jI s.cells k R) 0))) := by
    unfold t7' wS; rw [h.attrs]; rfl
   rw [e0]
   refine cw (fun i => ((i : Int), t7' (wS s (dX s.cells (pl s.cells k) (jI s.cells k R) i)))) R (by omega) (fun q i hi => ?_) (fun q => ?_)
   ·have d1 : decide ((i : Int) < ((ef (pl s.cells k) R).length : Int)) = true := decide_eq_true (by rw [bC]; omega)
    have hS := kl h (f := pl s.cells k) (c := jI s.cells k R) (j := i) hf (fun q _ => hdc q)
    have hp := sQ hS (n := ((pl s.cells k i : Nat) : Int)) (aQ (hf i)) (hf i) (jI s.cells k R i)
    rw [eJ.eq_2]; simp only [d1, cond_true]
    rw [aV (by rw [bC]; omega), iU (by omega)]
    have hcv : (cond (decide (((i + 1 : Nat) : Int) < ((ef (pl s.cells k) R).length : Int))) (gd ((0 : Int) ≤ ((i + 1 : Nat) : Int) ∧ ((i + 1 : Nat) : Int) < ((ef (pl s.cells k) R).length : Int)) <| (aK (wS s (dX s.cells (pl s.cells k) (jI s.cells k R) i)) (rd (ef (pl s.cells k) R) ((i + 1 : Nat) : Int))).bind fun (d10 : ad) => some d10.Char) (some 0) : Option Int) = some (jI s.cells k R i) := by
     by_cases h6 : i + 1 < R
     ·have hdv : jI s.cells k R i = (rd s.cells ((pl s.cells k (i + 1) : Nat) : Int)).Char := if_pos h6
      rw [decide_eq_true (by rw [bC]; omega), aV (by rw [bC]; omega), iA h6, hdv]
      simp only [cond_true, g8 hS, aQ (hf (i + 1)), Option.bind_some]
      congr 1
      have := iO (L := s.cells) (f := pl s.cells k) (c := jI s.cells k R) (fun i => by rw [hl]; exact hf i) i (q := pl s.cells k (i + 1)) (by rw [hl]; exact hf _) (fun r hr e => by
       have := nn (L := s.cells) (k := k) (i := r) (i' := i + 1) (by omega) (by omega) e; omega)
      exact congrArg ad.Char this
     ·have hdv : jI s.cells k R i = 0 := if_neg h6
      rw [decide_eq_false (by rw [bC]; omega), hdv]; rfl
    change ((cond _ (gd _ <| (aK (wS s (dX s.cells (pl s.cells k) (jI s.cells k R) i)) _).bind _) _).bind _) = _; rw [hcv]; simp only [Option.bind_some]; rw [iA hi]; change ((bi (wS s (dX s.cells (pl s.cells k) (jI s.cells k R) i)) _ _).bind _) = _; rw [hp]; rfl
   ·have d1 : decide (((R : Nat) : Int) < ((ef (pl s.cells k) R).length : Int)) = false := decide_eq_false (by rw [bC]; omega)
    rw [eJ.eq_2]; simp only [d1, cond_false]
  rw [loop]
  have hS := kl h (f := pl s.cells k) (c := jI s.cells k R) (j := R) hf (fun q _ => hdc q)
  have hm := sR hS hk hkN
  simp only [Option.bind_some]; change ((bF (wS s (dX s.cells (pl s.cells k) (jI s.cells k R) R)) n).bind _) = _; rw [hm]; rfl
theorem rdel {m : Int} {N : Nat} {x : aa} (h : RS m N x) {cn : Nat} (hc : x.Size.Cols = (cn : Int)) {n : Int} {k : Nat} (hk : n % N = (k : Int)) (hkN : k < N) : eb x n = some (if fj x.L k then (wL x (delI x.L cn k), true) else (x, false)) := by
 have hl := h.len
 have hle := h.dim.dim.le
 obtain ⟨rn, cn', h1, h2, h3, h4, h5, _⟩ := h.dim.dim.cn
 have hcc : cn' = cn := by omega
 subst hcc
 have hR : rw' x.L cn' k < x.L.length := rw_lt (m := m) h5 hle.1 hl
 unfold eb; simp only [qh h hk hkN, Option.bind_some]
 cases ho : fj x.L k with
 | false => rfl
 | true =>
  have hA0 := jM ho
  have hf : ∀ i, pl x.L k i < N := fun i => by rw [← hl]; exact j4 (by omega) i
  have hpos : 0 < rw' x.L cn' k := by
   rcases Nat.eq_zero_or_pos (rw' x.L cn' k) with h0 | h0
   ·have hmod := Nat.mod_lt k (show 0 < cn' by omega)
    have : rw' x.L cn' k < cn' - k % cn' := by omega
    have hA : (!bc x.L (pl x.L k (rw' x.L cn' k))) = false := gT (p := fun i => !bc x.L (pl x.L k i)) this
    rw [h0, re (by omega), Nat.add_zero, hA0] at hA; cases hA
   ·exact h0
  have hdc : ∀ i, By (jI x.L k (rw' x.L cn' k) i) := fun i => sG h.ok (by omega)
  simp only [Bool.not_true, cond_false, rrow h hc hk hkN hA0, Option.bind_some, if_true]; unfold delI
  generalize hRR : rw' x.L cn' k = R at hR hdc hpos
  rw [rcodes h hf (by omega)]
  simp only [Option.bind_some]
  have hcl := iR x.L (pl x.L k) R
  rw [aV (by omega), aV (by rw [List.length_drop, hcl]; simp only [List.length_cons, List.length_nil]; omega)]
  have hrd : ∀ i, i < R → rd ((gG x.L (pl x.L k) R).drop 1 ++ [0]) (i : Int) = jI x.L k R i := fun i hi => by
   unfold jI
   rw [rdn (by rw [List.length_append, List.length_drop, hcl]; simp only [List.length_cons, List.length_nil]; omega)]
   by_cases h6 : i + 1 < R
   ·rw [if_pos h6, List.getElem_append_left (by rw [List.length_drop, hcl]; omega), List.getElem_drop]
    simp only [gG, List.getElem_map, List.getElem_range]
    rw [show 1 + i = i + 1 by omega]
   ·rw [if_neg h6, List.getElem_append_right (by rw [List.length_drop, hcl]; omega)]
    simp
  have hmv := (rmove h hf (j := R) (by omega) (cs := (gG x.L (pl x.L k) R).drop 1 ++ [0]) (by rw [List.length_append, List.length_drop, hcl]; simp only [List.length_cons, List.length_nil]; omega) (fun i hi => by rw [hrd i hi]; exact hdc i)).2
  rw [hmv, me R hrd]
  have hS := mP h (f := pl x.L k) (c := jI x.L k R) (j := R) hf (fun q _ => hdc q)
  have hm := rmod hS hk hkN
  simp only [Option.bind_some, hm]
  rfl
end Go.Vt
set_option linter.unusedVariables false
set_option linter.unusedSimpArgs false
set_option maxRecDepth 100000
namespace Go.Vt
/-- how many places ahead of the first that is null -/
def ie (L : List ad) (k : Nat) : Nat := tl (fun i => !((rd L ((pl L k i : Nat) : Int)).Char == 0)) (rl L k true)
def mi (L : List ad) (k : Nat) (z : Int) (i : Nat) : Int := if i = 0 then z else (rd L ((pl L k (i - 1) : Nat) : Int)).Char
def lL (L : List ad) (k : Nat) (z : Int) : List ad := c0 (dX L (pl L k) (mi L k z) (ie L k + 1)) k
theorem pN {L : List ad} (ho : ∀ c ∈ L, COk c) (hL : 0 < L.length) {k : Nat} {z : Int} (hz : By z) (i : Nat) : By (mi L k z i) := by
 unfold mi; split
 ·exact hz
 ·exact sH ho (j4 hL _)
/-- the other way about: from the last on -/
def kv (L : List ad) (k e : Nat) : Nat → Nat := fun i => pl L k (e - i)
def jY (L : List ad) (k e : Nat) (z : Int) : Nat → Int := fun i => mi L k z (e - i)
theorem ins_same {L : List ad} {k e : Nat} {z : Int} (hL : 0 < L.length) (he : e < L.length) (hno : ∀ i, i ≤ e → bc L (pl L k i) = false) : dX L (kv L k e) (jY L k e z) (e + 1) = dX L (pl L k) (mi L k z) (e + 1) := by
 refine ky (by rw [dL, dL]) fun q hq => ?_
 rw [dL] at hq
 have hf1 : ∀ i, kv L k e i < L.length := fun i => j4 hL _
 have hf2 : ∀ i, pl L k i < L.length := fun i => j4 hL _
 by_cases h : ∃ i, i < e + 1 ∧ pl L k i = q
 ·obtain ⟨i, hi, rfl⟩ := h
  rw [pD hf2 (e + 1) hi (fun a b ha hb hab => nn (by omega) (by omega) hab) (hno i (by omega))]
  have g := pD (c := jY L k e z) hf1 (e + 1) (q := e - i) (by omega) (fun a b ha hb hab => by have := nn (L := L) (k := k) (i := e - a) (i' := e - b) (by omega) (by omega) hab; omega) (by unfold kv; exact hno _ (by omega))
  have e1 : kv L k e (e - i) = pl L k i := by unfold kv; rw [show e - (e - i) = i by omega]
  have e2 : jY L k e z (e - i) = mi L k z i := by unfold jY; rw [show e - (e - i) = i by omega]
  rw [e1, e2] at g; exact g
 ·rw [iO hf1 (e + 1) hq fun i hi hx => h ⟨e - i, by omega, hx⟩, iO hf2 (e + 1) hq fun i hi hx => h ⟨i, hi, hx⟩]
theorem pindexf {m : Int} {N : Nat} {s : ab} (h : SS m N s) {k : Nat} (hkN : k < N) : e9 (dA s.cells k true) s = some (if ie s.cells k < rl s.cells k true then (ie s.cells k : Int) else -1) := by
 have hl := h.len
 have hle := h.dim.dim.le
 have hrl := o6 s.cells k true
 have hej : ie s.cells k ≤ rl s.cells k true := jt _ _
 have hf : ∀ i, pl s.cells k i < N := fun i => by rw [← hl]; exact j4 (by omega) i
 have hlen : (dA s.cells k true).length = rl s.cells k true := by unfold dA; exact bC _ _
 have hrd : ∀ i, i < rl s.cells k true → rd (dA s.cells k true) (i : Int) = ((pl s.cells k i : Nat) : Int) := fun i hi => by unfold dA; exact iA hi
 unfold e9
 have hat : ∀ i, i < rl s.cells k true → fQ (rd (dA s.cells k true) (i : Int)) s = some ((rd s.cells ((pl s.cells k i : Nat) : Int)).Char == 0) := fun i hi => by
  unfold fQ; simp only [hrd i hi, g8 h, aQ (hf i), Option.bind_some]
 have loop : dv (dA s.cells k true) s bv 0 = some (if ie s.cells k < rl s.cells k true then .inr (ie s.cells k : Int) else .inl ()) := by
  refine cw (fun i => (i : Int)) (ie s.cells k) (by omega) (fun q i hi => ?_) (fun q => ?_)
  ·have d1 : decide ((i : Int) < ((dA s.cells k true).length : Int)) = true := decide_eq_true (by omega)
   have hb : (!((rd s.cells ((pl s.cells k i : Nat) : Int)).Char == 0)) = true := js (p := fun i => !((rd s.cells ((pl s.cells k i : Nat) : Int)).Char == 0)) hi
   have hb' : ((rd s.cells ((pl s.cells k i : Nat) : Int)).Char == 0) = false := by simpa using hb
   rw [dv.eq_2]; simp only [d1, cond_true]
   rw [aV (by omega), hat i (by omega), hb', iU (by omega)]
   rfl
  ·rw [dv.eq_2]
   by_cases hj : ie s.cells k < rl s.cells k true
   ·have d1 : decide ((ie s.cells k : Int) < ((dA s.cells k true).length : Int)) = true := decide_eq_true (by omega)
    have hb : (!((rd s.cells ((pl s.cells k (ie s.cells k) : Nat) : Int)).Char == 0)) = false := gT (p := fun i => !((rd s.cells ((pl s.cells k i : Nat) : Int)).Char == 0)) hj
    have hb' : ((rd s.cells ((pl s.cells k (ie s.cells k) : Nat) : Int)).Char == 0) = true := by simpa using hb
    simp only [d1, cond_true]
    rw [aV (by omega), hat _ hj, hb', if_pos hj]
    rfl
   ·have d1 : decide ((ie s.cells k : Int) < ((dA s.cells k true).length : Int)) = false := decide_eq_false (by omega)
    simp only [d1, cond_false, if_neg hj]
 rw [loop]
 by_cases hj : ie s.cells k < rl s.cells k true
 ·rw [if_pos hj, if_pos hj]; rfl
 ·rw [if_neg hj, if_neg hj]; rfl
theorem pins {m : Int} {N : Nat} {s : ab} (h : SS m N s) {n : Int} {k : Nat} (hk : n = (k : Int)) (hkN : k < N) {z : Int} (hz : By z) : gD s n z = some (if fj s.cells k = true ∧ ie s.cells k < rl s.cells k true then (wS s (lL s.cells k z), true) else (s, false)) := by
 have hl := h.len
 have hle := h.dim.dim.le
 have hrl := o6 s.cells k true
 have hk' : n % N = (k : Int) := by rw [hk]; exact aQ hkN
 unfold gD; simp only [qm h hk' hkN, Option.bind_some]
 cases ho : fj s.cells k with
 | false => rw [if_neg (by rintro ⟨h, _⟩; cases h)]; rfl
 | true =>
  simp only [Bool.not_true, cond_false, pround h hk hkN (jM ho), Option.bind_some, pindexf h hkN]
  by_cases hj : ie s.cells k < rl s.cells k true
  ·rw [if_pos hj, if_pos ⟨trivial, hj⟩, decide_eq_false (show ¬ ((ie s.cells k : Int) < 0) by omega)]
   simp only [cond_false]
   have hf : ∀ i, pl s.cells k i < N := fun i => by rw [← hl]; exact j4 (by omega) i
   have hno : ∀ i, i ≤ ie s.cells k → bc s.cells (pl s.cells k i) = false := fun i hi => rl_no (by omega) (show i < rl s.cells k true by omega)
   have hic : ∀ i, By (mi s.cells k z i) := pN h.ok (by omega) hz
   have hlen : (dA s.cells k true).length = rl s.cells k true := by unfold dA; exact bC _ _
   have hrd : ∀ i, i < rl s.cells k true → rd (dA s.cells k true) (i : Int) = ((pl s.cells k i : Nat) : Int) := fun i hi => by unfold dA; exact iA hi
   unfold lL
   generalize hee : ie s.cells k = e at hj hno
   have hfF : ∀ i, kv s.cells k e i < N := fun i => hf _
   have hicD : ∀ i, By (jY s.cells k e z i) := fun i => hic _
   have loop : eI (s, dA s.cells k true) bv ((e : Int), s.model, s.alternate, s.size.Rows, s.size.Cols, s.cells, s.cursor, s.attrs) = some (t7' (wS s (dX s.cells (kv s.cells k e) (jY s.cells k e z) e))) := by
    have e0 : ((e : Int), s.model, s.alternate, s.size.Rows, s.size.Cols, s.cells, s.cursor, s.attrs) = (((e - 0 : Nat) : Int), t7' (wS s (dX s.cells (kv s.cells k e) (jY s.cells k e z) 0))) := by
     unfold t7' wS; rw [h.attrs]; rfl
    rw [e0]
    refine cw (fun i => (((e - i : Nat) : Int), t7' (wS s (dX s.cells (kv s.cells k e) (jY s.cells k e z) i)))) e (by omega) (fun q i hi => ?_) (fun q => ?_)
    ·have d1 : decide (((e - i : Nat) : Int) > 0) = true := decide_eq_true (by omega)
     have w1 : w64 (((e - i : Nat) : Int) - 1) = ((e - (i + 1) : Nat) : Int) := by rw [cZ (by omega) (by omega)]; omega
     have hS := kl h (f := kv s.cells k e) (c := jY s.cells k e z) (j := i) hfF (fun q _ => hicD q)
     rw [eI.eq_2]; simp only [d1, cond_true, w1]
     rw [aV (by omega), aV (by omega), hrd _ (by omega), hrd _ (by omega)]
     change ((aK (wS s (dX s.cells (kv s.cells k e) (jY s.cells k e z) i)) _).bind _) = _; simp only [g8 hS, aQ (hf _), Option.bind_some]
     have hoth := iO (L := s.cells) (f := kv s.cells k e) (c := jY s.cells k e z) (fun i => by rw [hl]; exact hfF i) i (q := pl s.cells k (e - (i + 1))) (by rw [hl]; exact hf _) (fun r hr hx => by
      have := nn (L := s.cells) (k := k) (i := e - r) (i' := e - (i + 1)) (by omega) (by omega) hx; omega)
     have hch : (rd (wS s (dX s.cells (kv s.cells k e) (jY s.cells k e z) i)).cells ((pl s.cells k (e - (i + 1)) : Nat) : Int)).Char = jY s.cells k e z i := by
      have h9 : jY s.cells k e z i = (rd s.cells ((pl s.cells k (e - i - 1) : Nat) : Int)).Char := if_neg (by omega)
      rw [h9, show e - i - 1 = e - (i + 1) by omega]
      exact congrArg ad.Char hoth
     rw [hch]
     have hp := sQ hS (n := ((pl s.cells k (e - i) : Nat) : Int)) (aQ (hf _)) (hf _) (jY s.cells k e z i)
     change ((bi (wS s (dX s.cells (kv s.cells k e) (jY s.cells k e z) i)) _ _).bind _) = _; rw [hp]; rfl
    ·have d1 : decide (((e - e : Nat) : Int) > 0) = false := decide_eq_false (by omega)
     rw [eI.eq_2]; simp only [d1, cond_false]
   rw [loop]; simp only [Option.bind_some]
   rw [aV (by omega)]
   have hS := kl h (f := kv s.cells k e) (c := jY s.cells k e z) (j := e) hfF (fun q _ => hicD q)
   have h0 : rd (dA s.cells k true) (0 : Int) = ((pl s.cells k 0 : Nat) : Int) := hrd 0 (by omega)
   rw [h0]
   have hp := sQ hS (n := ((pl s.cells k 0 : Nat) : Int)) (aQ (hf _)) (hf _) z
   change ((bi (wS s (dX s.cells (kv s.cells k e) (jY s.cells k e z) e)) _ _).bind _) = _; rw [hp]
   have hlast : cq (wS s (dX s.cells (kv s.cells k e) (jY s.cells k e z) e)).cells (pl s.cells k 0) z = dX s.cells (pl s.cells k) (mi s.cells k z) (e + 1) := by
    rw [← ins_same (by omega) (by omega) hno]
    have e1 : kv s.cells k e e = pl s.cells k 0 := by unfold kv; rw [Nat.sub_self]
    have e2 : jY s.cells k e z e = z := by unfold jY mi; rw [Nat.sub_self, if_pos rfl]
    rw [dX, e1, e2]; rfl
   rw [hlast]
   have hS2 := kl h (f := pl s.cells k) (c := mi s.cells k z) (j := e + 1) hf (fun q _ => hic q)
   have hm := sR hS2 hk' hkN
   simp only [Option.bind_some]; change ((bF (wS s (dX s.cells (pl s.cells k) (mi s.cells k z) (e + 1))) n).bind _) = _; rw [hm]; rfl
  ·rw [if_neg hj, if_neg fun h => hj h.2]; rfl
theorem rins {m : Int} {N : Nat} {x : aa} (h : RS m N x) {n : Int} {k : Nat} (hk : n % N = (k : Int)) (hkN : k < N) {z : Int} (hz : By z) : ea x n z = some (if fj x.L k = true ∧ ie x.L k < rl x.L k true then (wL x (lL x.L k z), true) else (x, false)) := by
 have hl := h.len
 have hle := h.dim.dim.le
 have hrl := o6 x.L k true
 unfold ea; simp only [qh h hk hkN, Option.bind_some]
 cases ho : fj x.L k with
 | false => rw [if_neg (by rintro ⟨h, _⟩; cases h)]; rfl
 | true =>
  have hf : ∀ i, pl x.L k i < N := fun i => by rw [← hl]; exact j4 (by omega) i
  have hrs : dA x.L k true = ef (pl x.L k) (rl x.L k true) := rfl
  simp only [Bool.not_true, cond_false, rrest h hk hkN (jM ho) true, Option.bind_some]
  rw [hrs, rcodes h hf (by omega)]
  simp only [Option.bind_some]
  have hcl := iR x.L (pl x.L k) (rl x.L k true)
  have hic : ∀ i, By (mi x.L k z i) := pN h.ok (by omega) hz
  have hej : ie x.L k ≤ rl x.L k true := jt _ _
  have loop : cD x n z (ef (pl x.L k) (rl x.L k true)) (gG x.L (pl x.L k) (rl x.L k true)) bv 0 = some (if ie x.L k < rl x.L k true then .inr (wL x (lL x.L k z), true) else .inl ()) := by
   refine cw (fun i => (i : Int)) (ie x.L k) (by omega) (fun q i hi => ?_) (fun q => ?_)
   ·have d1 : decide ((i : Int) < ((gG x.L (pl x.L k) (rl x.L k true)).length : Int)) = true := decide_eq_true (by omega)
    have hb : (!((rd x.L ((pl x.L k i : Nat) : Int)).Char == 0)) = true := js (p := fun i => !((rd x.L ((pl x.L k i : Nat) : Int)).Char == 0)) hi
    have hb' : ((rd x.L ((pl x.L k i : Nat) : Int)).Char == 0) = false := by simpa using hb
    rw [cD.eq_2]; simp only [d1, cond_true]
    rw [aV (by omega), qK (by omega), hb', iU (by omega)]
    rfl
   ·rw [cD.eq_2]
    by_cases hj : ie x.L k < rl x.L k true
    ·have d1 : decide ((ie x.L k : Int) < ((gG x.L (pl x.L k) (rl x.L k true)).length : Int)) = true := decide_eq_true (by omega)
     have hb : (!((rd x.L ((pl x.L k (ie x.L k) : Nat) : Int)).Char == 0)) = false := gT (p := fun i => !((rd x.L ((pl x.L k i : Nat) : Int)).Char == 0)) hj
     have hb' : ((rd x.L ((pl x.L k (ie x.L k) : Nat) : Int)).Char == 0) = true := by simpa using hb
     simp only [d1, cond_true]; unfold lL
     generalize hee : ie x.L k = e at hj hb' hej ⊢
     rw [aV (by omega), qK hj, hb', iU (by omega)]
     simp only [cond_true]
     rw [aV (by rw [bC]; omega), aV (by omega)]
     have htk : ∀ j f, j ≤ rl x.L k true → (ef f (rl x.L k true)).take j = ef f j := fun j f hjj => by
      refine List.ext_getElem (by rw [List.length_take, bC, bC]; omega) fun i h1 h2 => ?_
      simp only [ef, List.getElem_take, List.getElem_map, List.getElem_range]
     have htc : (gG x.L (pl x.L k) (rl x.L k true)).take e = gG x.L (pl x.L k) e := by
      refine List.ext_getElem (by rw [List.length_take, iR, iR]; omega) fun i h1 h2 => ?_
      simp only [gG, List.getElem_take, List.getElem_map, List.getElem_range]
     rw [Int.toNat_natCast, Int.toNat_natCast, htk _ _ (by omega), htc]
     have hcl2 := iR x.L (pl x.L k) e
     rw [aV (by simp only [List.length_cons, List.length_nil]; omega)]
     have hrd : ∀ i, i < e + 1 → rd ([z] ++ gG x.L (pl x.L k) e) (i : Int) = mi x.L k z i := fun i hi => by
      unfold mi
      rw [rdn (by rw [List.length_append, hcl2]; simp only [List.length_cons, List.length_nil]; omega)]
      cases i with
      | zero => rfl
      | succ i =>
       rw [if_neg (by omega)]
       simp [gG]
     have hmv := (rmove h hf (j := e + 1) (by omega) (cs := [z] ++ gG x.L (pl x.L k) e) (by rw [List.length_append, hcl2]; simp only [List.length_cons, List.length_nil]; omega) (fun i hi => by rw [hrd i hi]; exact hic i)).1
     rw [hmv, me (e + 1) hrd]
     have hS := mP h (f := pl x.L k) (c := mi x.L k z) (j := e + 1) hf (fun q _ => hic q)
     have hm := rmod hS hk hkN
     simp only [Option.bind_some, hm, if_pos hj]
     rfl
    ·have d1 : decide ((ie x.L k : Int) < ((gG x.L (pl x.L k) (rl x.L k true)).length : Int)) = false := decide_eq_false (by omega)
     simp only [d1, cond_false, if_neg hj]
  rw [loop]
  by_cases hj : ie x.L k < rl x.L k true
  ·rw [if_pos hj, if_pos ⟨trivial, hj⟩]; rfl
  ·rw [if_neg hj, if_neg fun h => hj h.2]; rfl
end Go.Vt
set_option linter.unusedVariables false
set_option linter.unusedSimpArgs false
set_option maxRecDepth 100000
namespace Go.Vt
def pC (s : ab) (p : Int) : ab := ⟨s.model, s.alternate, s.size, s.cells, p, s.attrs⟩
def rC (x : aa) (p : Int) : aa := ⟨x.Model, x.Alt, x.Size, x.L, p⟩
theorem RS.c {m : Int} {N : Nat} {x : aa} (h : RS m N x) {p : Int} (h0 : 0 ≤ p) (h1 : p < N) : RS m N (rC x p) := ⟨h.model, h.dim, h.len, h.ok, ⟨h0, h1⟩⟩
theorem SS.c {m : Int} {N : Nat} {s : ab} (h : SS m N s) {p : Int} (h0 : 0 ≤ p) (h1 : p < N) : SS m N (pC s p) := ⟨h.model, h.dim, h.len, h.ok, ⟨h0, h1⟩, h.attrs⟩
theorem mf {m : Int} {N : Nat} {s : ab} (h : SS m N s) {p : Int} (h0 : 0 ≤ p) (h1 : p < N) : bA s p = some (pC s p) := by
 rw [qd h, Int.emod_eq_of_lt h0 h1]; rfl
theorem nextI_lt {L : List ad} {k : Nat} (hL : 0 < L.length) : -1 ≤ k8 L k ∧ k8 L k < L.length := by
 unfold k8
 split
 ·have := Nat.mod_lt (k + 1 + nQ L k) hL; omega
 ·omega
theorem prevI_lt {L : List ad} {k : Nat} (hL : 0 < L.length) : -1 ≤ mT L k ∧ mT L k < L.length := by
 unfold mT
 split
 ·have := Nat.mod_lt (k + (L.length - 1 - oi L k)) hL; omega
 ·omega
theorem imax0 {z : Int} {N : Nat} (hN : 0 < N) (h : -1 ≤ z ∧ z < N) : 0 ≤ jZ z 0 ∧ jZ z 0 < N := by unfold jZ; split <;> omega
/-- the cursor's own place -/
theorem SS.k {m : Int} {N : Nat} {s : ab} (h : SS m N s) : ∃ k : Nat, s.cursor = (k : Int) ∧ k < N := ⟨s.cursor.toNat, by have := h.cur; omega, by have := h.cur; omega⟩
theorem RS.k {m : Int} {N : Nat} {x : aa} (h : RS m N x) : ∃ k : Nat, x.Cursor = (k : Int) ∧ k < N := ⟨x.Cursor.toNat, by have := h.cur; omega, by have := h.cur; omega⟩
def ki (L : List ad) (k : Nat) : Int := jZ (k8 L k) 0
def oS (L : List ad) (k : Nat) : Int := jZ (mT L k) 0
def iQ (L : List ad) (k : Nat) : Int := if fj L k then (k : Int) else ki L k
theorem mK {L : List ad} {N k : Nat} (hl : L.length = N) (hN : 0 < N) : 0 ≤ ki L k ∧ ki L k < N := imax0 hN (by have := nextI_lt (L := L) (k := k) (by omega); rw [hl] at this; exact this)
theorem btabI_lt {L : List ad} {N k : Nat} (hl : L.length = N) (hN : 0 < N) : 0 ≤ oS L k ∧ oS L k < N := imax0 hN (by have := prevI_lt (L := L) (k := k) (by omega); rw [hl] at this; exact this)
theorem po {L : List ad} {N k : Nat} (hl : L.length = N) (hk : k < N) : 0 ≤ iQ L k ∧ iQ L k < N := by
 unfold iQ; split
 ·omega
 ·exact mK hl (by omega)
theorem ptab {m : Int} {N : Nat} {s : ab} (h : SS m N s) {k : Nat} (hk : s.cursor = (k : Int)) (hkN : k < N) : eT s = some (pC s (ki s.cells k)) := by
 have hle := h.dim.dim.le
 have hb := mK (k := k) h.len (show 0 < N by omega)
 unfold eT ba; simp only [Option.bind_some, hk, pnext h (aQ hkN) hkN]; rw [show jZ (k8 s.cells k) 0 = ki s.cells k from rfl, mf h hb.1 hb.2]; rfl
theorem pbtab {m : Int} {N : Nat} {s : ab} (h : SS m N s) {k : Nat} (hk : s.cursor = (k : Int)) (hkN : k < N) : fT s = some (pC s (oS s.cells k)) := by
 have hle := h.dim.dim.le
 have hb := btabI_lt (k := k) h.len (show 0 < N by omega)
 unfold fT ba; simp only [Option.bind_some, hk, pprev h (aQ hkN) hkN]; rw [show jZ (mT s.cells k) 0 = oS s.cells k from rfl, mf h hb.1 hb.2]; rfl
theorem r4 {m : Int} {N : Nat} {s : ab} (h : SS m N s) {n : Int} {k : Nat} (hk : n % N = (k : Int)) (hkN : k < N) : fS s n = some (iQ s.cells k) := by
 unfold fS aO iQ; simp only [qm h hk hkN, Option.bind_some]
 cases fj s.cells k with
 | true => simp only [cond_true, f3 h, hk, Option.bind_some, if_true]
 | false => simp only [cond_false, pnext h hk hkN, Option.bind_some, Bool.false_eq_true, if_false]; rfl
theorem rtab {m : Int} {N : Nat} {x : aa} (h : RS m N x) {n : Int} {k : Nat} (hk : n % N = (k : Int)) (hkN : k < N) : bT x n false = some (ki x.L k) := by
 unfold bT; simp only [rnext h hk hkN, Option.bind_some]; rfl
theorem rbtab {m : Int} {N : Nat} {x : aa} (h : RS m N x) {n : Int} {k : Nat} (hk : n % N = (k : Int)) (hkN : k < N) : bT x n true = some (oS x.L k) := by
 unfold bT; simp only [rprev h hk hkN, Option.bind_some]; rfl
theorem rU {m : Int} {N : Nat} {x : aa} (h : RS m N x) {n : Int} {k : Nat} (hk : n % N = (k : Int)) (hkN : k < N) : dG x n = some (iQ x.L k) := by
 unfold dG iQ; simp only [qh h hk hkN, Option.bind_some]
 cases fj x.L k with
 | true => simp only [cond_true, fL h, hk, Option.bind_some, if_true]
 | false => simp only [cond_false, rtab h hk hkN, Option.bind_some, Bool.false_eq_true, if_false]
/-! ### rows and columns -/
def atI (rn cn r c : Nat) : Nat := (r % rn) * cn + c % cn
def mvI (rn cn k dr dc : Nat) : Nat := atI rn cn ((k + dc) % (rn * cn) / cn + dr) ((k + dc) % (rn * cn) % cn)
theorem rJ {rn cn r c : Nat} (hr : 0 < rn) (hc : 0 < cn) : atI rn cn r c < rn * cn := by
 unfold atI
 have h1 := Nat.mod_lt r hr
 have h2 := Nat.mod_lt c hc
 have h3 := Nat.mul_le_mul_right cn (show r % rn + 1 ≤ rn from h1)
 rw [Nat.add_mul, Nat.one_mul] at h3; omega
theorem atI_self {rn cn k : Nat} (hc : 0 < cn) (hk : k < rn * cn) : atI rn cn (k / cn) (k % cn) = k := by
 unfold atI
 rw [Nat.mod_eq_of_lt (show k / cn < rn by rw [Nat.div_lt_iff_lt_mul hc]; exact hk), Nat.mod_mod, Nat.mul_comm]
 exact Nat.div_add_mod k cn
theorem w64n {a : Nat} (h : a < 1000000) : w64 ((a : Nat) : Int) = (a : Int) := cZ (by omega) (by omega)
theorem mH {a b : Nat} (h : a + b < 1000000) : w64 ((a : Int) + (b : Int)) = ((a + b : Nat) : Int) := by rw [cZ (by omega) (by omega)]; omega
theorem m7 {r c : Int} {N rn cn : Nat} (h : Dim r c N) (hr : r = (rn : Int)) (hc : c = (cn : Int)) (hN : N = rn * cn) : 80 ≤ cn ∧ cn ≤ 132 ∧ 24 ≤ rn ∧ rn ≤ 43 := by
 obtain ⟨rn', cn', h1, h2, h3, h4, h5, h6, h7⟩ := h.cn
 omega
theorem prowc {r c : Int} {N rn cn : Nat} (h : Dim r c N) (hr : r = (rn : Int)) (hc : c = (cn : Int)) (hN : N = rn * cn) {n : Int} {k : Nat} (hk : n % N = (k : Int)) : fl ⟨r, c⟩ n = some ((k / cn : Nat) : Int) := by
 obtain ⟨b1, b2, b3, b4⟩ := m7 h hr hc hN
 have hle := h.le
 have hkN : k < N := by have := Int.emod_lt_of_pos n (show (0 : Int) < N by omega); omega
 unfold fl; simp only [kS h, mF h, hk, Option.bind_some, Bool.not_true, cond_false]; subst hc
 have h9 : k / cn ≤ k := Nat.div_le_self _ _
 rw [aV (by omega), show Int.tdiv (k : Int) (cn : Int) = ((k / cn : Nat) : Int) from rfl, w64n (by omega)]
theorem patc {r c : Int} {N rn cn : Nat} (h : Dim r c N) (hr : r = (rn : Int)) (hc : c = (cn : Int)) (hN : N = rn * cn) {a b : Int} {a' b' : Nat} (ha : a % (rn : Int) = (a' : Int)) (hb : b % (cn : Int) = (b' : Int)) : fW ⟨r, c⟩ a b = some ((atI rn cn a' b' : Nat) : Int) := by
 obtain ⟨b1, b2, b3, b4⟩ := m7 h hr hc hN
 have ha1 : a' < rn := by have := Int.emod_lt_of_pos a (show (0 : Int) < rn by omega); omega
 have hb1 : b' < cn := by have := Int.emod_lt_of_pos b (show (0 : Int) < cn by omega); omega
 have hml : a' * cn ≤ 43 * 132 := Nat.mul_le_mul (by omega) b2
 unfold fW; simp only [kS h, Option.bind_some, Bool.not_true, cond_false]; subst hr hc
 simp only [nU (show 0 < rn by omega) (by omega), nU (show 0 < cn by omega) (by omega), ha, hb, Option.bind_some]
 unfold atI; rw [Nat.mod_eq_of_lt ha1, Nat.mod_eq_of_lt hb1]
 have e1 : ((a' : Int) * (cn : Int)) = ((a' * cn : Nat) : Int) := by simp
 rw [e1, cZ (x := ((a' * cn : Nat) : Int)) (by omega) (by omega), cZ (by omega) (by omega)]
 rfl
theorem ratc {r c : Int} {N rn cn : Nat} (h : Dim r c N) (hr : r = (rn : Int)) (hc : c = (cn : Int)) (hN : N = rn * cn) {a b : Int} {a' b' : Nat} (ha : a % (rn : Int) = (a' : Int)) (hb : b % (cn : Int) = (b' : Int)) : dM ⟨r, c⟩ a b = some ((atI rn cn a' b' : Nat) : Int) := by
 obtain ⟨b1, b2, b3, b4⟩ := m7 h hr hc hN
 have ha1 : a' < rn := by have := Int.emod_lt_of_pos a (show (0 : Int) < rn by omega); omega
 have hb1 : b' < cn := by have := Int.emod_lt_of_pos b (show (0 : Int) < cn by omega); omega
 have hml : a' * cn ≤ 43 * 132 := Nat.mul_le_mul (by omega) b2
 unfold dM; simp only [o4 h, Option.bind_some, Bool.not_true, cond_false]; subst hr hc
 simp only [lc (show 0 < rn by omega) (by omega), lc (show 0 < cn by omega) (by omega), ha, hb, Option.bind_some]
 unfold atI; rw [Nat.mod_eq_of_lt ha1, Nat.mod_eq_of_lt hb1]
 have e1 : ((cn : Int) * (a' : Int)) = ((a' * cn : Nat) : Int) := by rw [Int.mul_comm]; simp
 rw [e1, cZ (x := ((a' * cn : Nat) : Int)) (by omega) (by omega), cZ (by omega) (by omega)]
 rfl
theorem pmove {r c : Int} {N rn cn : Nat} (h : Dim r c N) (hr : r = (rn : Int)) (hc : c = (cn : Int)) (hN : N = rn * cn) {n dr dc : Int} {k dr' dc' : Nat} (hk : n % N = (k : Int)) (hdr : dr % (rn : Int) = (dr' : Int)) (hdc : dc % (N : Int) = (dc' : Int)) : fU ⟨r, c⟩ n dr dc = some ((mvI rn cn k dr' dc' : Nat) : Int) := by
 obtain ⟨b1, b2, b3, b4⟩ := m7 h hr hc hN
 have hle := h.le
 have hkN : k < N := by have := Int.emod_lt_of_pos n (show (0 : Int) < N by omega); omega
 have hdN : dc' < N := by have := Int.emod_lt_of_pos dc (show (0 : Int) < N by omega); omega
 have hdr1 : dr' < rn := by have := Int.emod_lt_of_pos dr (show (0 : Int) < rn by omega); omega
 have hq : (k + dc') % N < N := Nat.mod_lt _ (by omega)
 have hqd : (k + dc') % N / cn < rn := by rw [Nat.div_lt_iff_lt_mul (by omega), ← hN]; exact hq
 unfold fU; simp only [kS h, Option.bind_some, Bool.not_true, cond_false, mF h, hk, hdc]
 rw [cZ (x := (k : Int) + (dc' : Int)) (by omega) (by omega), show ((k : Int) + (dc' : Int)) % (N : Int) = (((k + dc') % N : Nat) : Int) by rw [Int.natCast_emod]; rfl]
 simp only [prowc h hr hc hN (aQ hq), pcol h hc (aQ hq), Option.bind_some]
 have e2 : fD dr r = some (dr' : Int) := by rw [hr, nU (show 0 < rn by omega) (by omega), hdr]
 simp only [e2, Option.bind_some]
 rw [mH (by omega), patc h hr hc hN (a' := ((k + dc') % N / cn + dr') % rn) (b' := (k + dc') % N % cn) (by rw [Int.natCast_emod]) (by rw [← Int.natCast_emod, Nat.mod_mod])]
 simp only [Option.bind_some]; unfold mvI atI; rw [← hN, Nat.mod_mod]
theorem rmovec {r c : Int} {N rn cn : Nat} (h : Dim r c N) (hr : r = (rn : Int)) (hc : c = (cn : Int)) (hN : N = rn * cn) {n dr dc : Int} {k dr' dc' : Nat} (hk : n % N = (k : Int)) (hdr : dr % (rn : Int) = (dr' : Int)) (hdc : dc % (N : Int) = (dc' : Int)) : dS ⟨r, c⟩ n dr dc = some ((mvI rn cn k dr' dc' : Nat) : Int) := by
 obtain ⟨b1, b2, b3, b4⟩ := m7 h hr hc hN
 have hle := h.le
 have hkN : k < N := by have := Int.emod_lt_of_pos n (show (0 : Int) < N by omega); omega
 have hdN : dc' < N := by have := Int.emod_lt_of_pos dc (show (0 : Int) < N by omega); omega
 have hdr1 : dr' < rn := by have := Int.emod_lt_of_pos dr (show (0 : Int) < rn by omega); omega
 have hq : (k + dc') % N < N := Nat.mod_lt _ (by omega)
 have hqd : (k + dc') % N / cn < rn := by rw [Nat.div_lt_iff_lt_mul (by omega), ← hN]; exact hq
 unfold dS; simp only [o4 h, Option.bind_some, Bool.not_true, cond_false, qf h, hk, hdc, lD h]
 rw [cZ (x := (k : Int) + (dc' : Int)) (by omega) (by omega), lc (by omega) (by omega), show ((k : Int) + (dc' : Int)) % (N : Int) = (((k + dc') % N : Nat) : Int) by rw [Int.natCast_emod]; rfl]
 simp only [Option.bind_some]
 rw [aV (by omega), aV (by omega)]
 have e2 : bs dr r = some (dr' : Int) := by rw [hr, lc (show 0 < rn by omega) (by omega), hdr]
 simp only [e2, Option.bind_some]
 have e3 : Int.tdiv (((k + dc') % N : Nat) : Int) c = (((k + dc') % N / cn : Nat) : Int) := by rw [hc]; rfl
 have e4 : Int.tmod (((k + dc') % N : Nat) : Int) c = (((k + dc') % N % cn : Nat) : Int) := by rw [hc]; exact kT _ _
 rw [e3, e4, w64n (by omega), mH (by omega), ratc h hr hc hN (a' := ((k + dc') % N / cn + dr') % rn) (b' := (k + dc') % N % cn) (by rw [Int.natCast_emod]) (by rw [← Int.natCast_emod, Nat.mod_mod])]
 simp only [Option.bind_some]; unfold mvI atI; rw [← hN, Nat.mod_mod]
theorem mvI_lt {rn cn k dr dc : Nat} (hr : 0 < rn) (hc : 0 < cn) : mvI rn cn k dr dc < rn * cn := rJ hr hc
theorem mv_on {rn cn k : Nat} (hc : 0 < cn) (hN : 0 < rn * cn) : mvI rn cn k 0 1 = (k + 1) % (rn * cn) := by
 unfold mvI; rw [Nat.add_zero]; exact atI_self hc (Nat.mod_lt _ hN)
end Go.Vt
set_option linter.unusedVariables false
set_option linter.unusedSimpArgs false
set_option maxRecDepth 100000
namespace Go.Vt
def sgT (n : Int) : List Int := match bI n with
 | some (os, _) => sgn os
 | none => []
def T37 : List Int := [0, 1, 2, 3, 156, 9, 134, 127, 151, 141, 142, 11, 12, 13, 14, 15, 16, 17, 18, 19, 157, 133, 8, 135, 24, 25, 146, 143, 28, 29, 30, 31, 128, 129, 130, 131, 132, 10, 23, 27, 136, 137, 138, 139, 140, 5, 6, 7, 144, 145, 22, 147, 148, 149, 150, 4, 152, 153, 154, 155, 20, 21, 158, 26, 32, 160, 226, 228, 224, 225, 227, 229, 231, 241, 162, 46, 60, 40, 43, 124, 38, 233, 234, 235, 232, 237, 238, 239, 236, 223, 33, 36, 42, 41, 59, 172, 45, 47, 194, 196, 192, 193, 195, 197, 199, 209, 166, 44, 37, 95, 62, 63, 248, 201, 202, 203, 200, 205, 206, 207, 204, 96, 58, 35, 64, 39, 61, 34, 216, 97, 98, 99, 100, 101, 102, 103, 104, 105, 171, 187, 240, 253, 254, 177, 176, 106, 107, 108, 109, 110, 111, 112, 113, 114, 170, 186, 230, 184, 198, 164, 181, 126, 115, 116, 117, 118, 119, 120, 121, 122, 161, 191, 208, 221, 222, 174, 94, 163, 165, 183, 169, 167, 182, 188, 189, 190, 91, 93, 175, 168, 180, 215, 123, 65, 66, 67, 68, 69, 70, 71, 72, 73, 173, 244, 246, 242, 243, 245, 125, 74, 75, 76, 77, 78, 79, 80, 81, 82, 185, 251, 252, 249, 250, 255, 92, 247, 83, 84, 85, 86, 87, 88, 89, 90, 178, 212, 214, 210, 211, 213, 48, 49, 50, 51, 52, 53, 54, 55, 56, 57, 179, 219, 220, 217, 218, 159]
def te : List Int := [0, 1, 2, 3, 156, 9, 134, 127, 151, 141, 142, 11, 12, 13, 14, 15, 16, 17, 18, 19, 157, 133, 8, 135, 24, 25, 146, 143, 28, 29, 30, 31, 128, 129, 130, 131, 132, 10, 23, 27, 136, 137, 138, 139, 140, 5, 6, 7, 144, 145, 22, 147, 148, 149, 150, 4, 152, 153, 154, 155, 20, 21, 158, 26, 32, 160, 226, 123, 224, 225, 227, 229, 231, 241, 196, 46, 60, 40, 43, 33, 38, 233, 234, 235, 232, 237, 238, 239, 236, 126, 220, 36, 42, 41, 59, 94, 45, 47, 194, 91, 192, 193, 195, 197, 199, 209, 246, 44, 37, 95, 62, 63, 248, 201, 202, 203, 200, 205, 206, 207, 204, 96, 58, 35, 167, 39, 61, 34, 216, 97, 98, 99, 100, 101, 102, 103, 104, 105, 171, 187, 240, 253, 254, 177, 176, 106, 107, 108, 109, 110, 111, 112, 113, 114, 170, 186, 230, 184, 198, 164, 181, 223, 115, 116, 117, 118, 119, 120, 121, 122, 161, 191, 208, 221, 222, 174, 162, 163, 165, 183, 169, 64, 182, 188, 189, 190, 172, 124, 175, 168, 180, 215, 228, 65, 66, 67, 68, 69, 70, 71, 72, 73, 173, 244, 166, 242, 243, 245, 252, 74, 75, 76, 77, 78, 79, 80, 81, 82, 185, 251, 125, 249, 250, 255, 214, 247, 83, 84, 85, 86, 87, 88, 89, 90, 178, 212, 92, 210, 211, 213, 48, 49, 50, 51, 52, 53, 54, 55, 56, 57, 179, 219, 93, 217, 218, 159]
def td : List Int := [0, 1, 2, 3, 156, 9, 134, 127, 151, 141, 142, 11, 12, 13, 14, 15, 16, 17, 18, 19, 157, 133, 8, 135, 24, 25, 146, 143, 28, 29, 30, 31, 128, 129, 130, 131, 132, 10, 23, 27, 136, 137, 138, 139, 140, 5, 6, 7, 144, 145, 22, 147, 148, 149, 150, 4, 152, 153, 154, 155, 20, 21, 158, 26, 32, 160, 226, 228, 64, 225, 227, 229, 92, 241, 176, 46, 60, 40, 43, 33, 38, 123, 234, 235, 125, 237, 238, 239, 236, 223, 167, 36, 42, 41, 59, 94, 45, 47, 194, 196, 192, 193, 195, 197, 199, 209, 249, 44, 37, 95, 62, 63, 248, 201, 202, 203, 200, 205, 206, 207, 204, 181, 58, 163, 224, 39, 61, 34, 216, 97, 98, 99, 100, 101, 102, 103, 104, 105, 171, 187, 240, 253, 254, 177, 91, 106, 107, 108, 109, 110, 111, 112, 113, 114, 170, 186, 230, 184, 198, 164, 96, 168, 115, 116, 117, 118, 119, 120, 121, 122, 161, 191, 208, 221, 222, 174, 162, 35, 165, 183, 169, 93, 182, 188, 189, 190, 172, 124, 175, 126, 180, 215, 233, 65, 66, 67, 68, 69, 70, 71, 72, 73, 173, 244, 246, 242, 243, 245, 232, 74, 75, 76, 77, 78, 79, 80, 81, 82, 185, 251, 252, 166, 250, 255, 231, 247, 83, 84, 85, 86, 87, 88, 89, 90, 178, 212, 214, 210, 211, 213, 48, 49, 50, 51, 52, 53, 54, 55, 56, 57, 179, 219, 220, 217, 218, 159]
def tc : List Int := [0, 1, 2, 3, 156, 9, 134, 127, 151, 141, 142, 11, 12, 13, 14, 15, 16, 17, 18, 19, 157, 133, 8, 135, 24, 25, 146, 143, 28, 29, 30, 31, 128, 129, 130, 131, 132, 10, 23, 27, 136, 137, 138, 139, 140, 5, 6, 7, 144, 145, 22, 147, 148, 149, 150, 4, 152, 153, 154, 155, 20, 21, 158, 26, 32, 160, 226, 228, 224, 225, 227, 229, 231, 241, 91, 46, 60, 40, 43, 33, 38, 233, 234, 235, 232, 237, 238, 239, 236, 223, 93, 36, 42, 41, 59, 94, 45, 47, 194, 196, 192, 193, 195, 197, 199, 209, 166, 44, 37, 95, 62, 63, 248, 201, 202, 203, 200, 205, 206, 207, 204, 96, 58, 35, 64, 39, 61, 34, 216, 97, 98, 99, 100, 101, 102, 103, 104, 105, 171, 187, 240, 253, 254, 177, 176, 106, 107, 108, 109, 110, 111, 112, 113, 114, 170, 186, 230, 184, 198, 164, 181, 126, 115, 116, 117, 118, 119, 120, 121, 122, 161, 191, 208, 221, 222, 174, 162, 163, 165, 183, 169, 167, 182, 188, 189, 190, 172, 124, 175, 168, 180, 215, 123, 65, 66, 67, 68, 69, 70, 71, 72, 73, 173, 244, 246, 242, 243, 245, 125, 74, 75, 76, 77, 78, 79, 80, 81, 82, 185, 251, 252, 249, 250, 255, 92, 247, 83, 84, 85, 86, 87, 88, 89, 90, 178, 212, 214, 210, 211, 213, 48, 49, 50, 51, 52, 53, 54, 55, 56, 57, 179, 219, 220, 217, 218, 159]
def pw : List Int := [0, 1, 2, 3, 156, 9, 134, 127, 151, 141, 142, 11, 12, 13, 14, 15, 16, 17, 18, 19, 157, 133, 8, 135, 24, 25, 146, 143, 28, 29, 30, 31, 128, 129, 130, 131, 132, 10, 23, 27, 136, 137, 138, 139, 140, 5, 6, 7, 144, 145, 22, 147, 148, 149, 150, 4, 152, 153, 154, 155, 20, 21, 158, 26, 32, 160, 226, 228, 224, 225, 227, 229, 231, 241, 162, 46, 60, 40, 43, 124, 38, 233, 234, 235, 232, 237, 238, 239, 236, 223, 33, 36, 42, 41, 59, 94, 45, 47, 194, 196, 192, 193, 195, 197, 199, 209, 166, 44, 37, 95, 62, 63, 248, 201, 202, 203, 200, 205, 206, 207, 204, 96, 58, 35, 64, 39, 61, 34, 216, 97, 98, 99, 100, 101, 102, 103, 104, 105, 171, 187, 240, 253, 254, 177, 176, 106, 107, 108, 109, 110, 111, 112, 113, 114, 170, 186, 230, 184, 198, 164, 181, 126, 115, 116, 117, 118, 119, 120, 121, 122, 161, 191, 208, 91, 222, 174, 172, 163, 165, 183, 169, 167, 182, 188, 189, 190, 221, 168, 175, 93, 180, 215, 123, 65, 66, 67, 68, 69, 70, 71, 72, 73, 173, 244, 246, 242, 243, 245, 125, 74, 75, 76, 77, 78, 79, 80, 81, 82, 185, 251, 252, 249, 250, 255, 92, 247, 83, 84, 85, 86, 87, 88, 89, 90, 178, 212, 214, 210, 211, 213, 48, 49, 50, 51, 52, 53, 54, 55, 56, 57, 179, 219, 220, 217, 218, 159]
def pu : List Int := [0, 1, 2, 3, 156, 9, 134, 127, 151, 141, 142, 11, 12, 13, 14, 15, 16, 17, 18, 19, 157, 133, 8, 135, 24, 25, 146, 143, 28, 29, 30, 31, 128, 129, 130, 131, 132, 10, 23, 27, 136, 137, 138, 139, 140, 5, 6, 7, 144, 145, 22, 147, 148, 149, 150, 4, 152, 153, 154, 155, 20, 21, 158, 26, 32, 160, 226, 228, 224, 225, 227, 229, 231, 241, 162, 46, 60, 40, 43, 124, 38, 233, 234, 235, 232, 237, 238, 239, 236, 223, 33, 36, 42, 41, 59, 172, 45, 47, 194, 196, 192, 193, 195, 197, 199, 209, 166, 44, 37, 95, 62, 63, 248, 201, 202, 203, 200, 205, 206, 207, 204, 96, 58, 35, 64, 39, 61, 34, 216, 97, 98, 99, 100, 101, 102, 103, 104, 105, 171, 187, 240, 253, 254, 177, 176, 106, 107, 108, 109, 110, 111, 112, 113, 114, 170, 186, 230, 184, 198, 8364, 181, 126, 115, 116, 117, 118, 119, 120, 121, 122, 161, 191, 208, 221, 222, 174, 94, 163, 165, 183, 169, 167, 182, 188, 189, 190, 91, 93, 175, 168, 180, 215, 123, 65, 66, 67, 68, 69, 70, 71, 72, 73, 173, 244, 246, 242, 243, 245, 125, 74, 75, 76, 77, 78, 79, 80, 81, 82, 185, 251, 252, 249, 250, 255, 92, 247, 83, 84, 85, 86, 87, 88, 89, 90, 178, 212, 214, 210, 211, 213, 48, 49, 50, 51, 52, 53, 54, 55, 56, 57, 179, 219, 220, 217, 218, 159]
def qY (n : Int) : List Int := if n = 37 then T37 else if n = 273 then te else if n = 297 then td else if n = 500 then tc else if n = 1047 then pw else pu
/-! ### digits to the base 16 -/
def hxI (z : Int) : Int := if z ≥ 97 then w64 ((w64 (IntKind.wrap .u8 (z - 97))) + 10) else w64 (IntKind.wrap .u8 (z - 48))
def nq (l : List Int) : Int := l.foldl (fun a b => w64 ((w64 (16 * a)) + hxI b)) 0
def bl (s : ByteArray) : List Int := s.data.toList.map fun b => (b.toNat : Int)
theorem p5 (s : ByteArray) : (bl s).length = s.size := by simp [bl]
theorem sb_bl {s : ByteArray} {i : Nat} (h : i < (bl s).length) : ju s (i : Int) = (bl s)[i] := by
 have h' : i < s.data.toList.length := by simpa [bl] using h
 unfold ju; simp only [Int.toNat_natCast, bl, List.getElem_map]; rw [List.getD_eq_getElem?_getD, List.getElem?_eq_getElem h']; rfl
theorem oU (s : ByteArray) (a b : Nat) : bl (s.extract a b) = ((bl s).drop a).take (b - a) := by
 unfold bl; rw [ByteArray.data_extract, Array.toList_extract, List.extract_eq_take_drop, List.map_take, List.map_drop]
theorem num_ok {s : ByteArray} (hs : s.size < 100000) : b9 s = some (nq (bl s)) := by
 have hl := p5 s
 unfold b9
 have loop : du s bv (0, 0) = some (nq (bl s)) := by
  refine cw (fun i => ((i : Int), nq ((bl s).take i))) s.size (by omega) (fun k i hi => ?_) (fun k => ?_)
  ·have d1 : decide ((i : Int) < (s.size : Int)) = true := decide_eq_true (by omega)
   have hb := sb_bl (s := s) (i := i) (by omega)
   rw [du.eq_2]; simp only [d1, cond_true]
   rw [aV (by omega), aV (by omega), aV (by omega), hb, iU (by omega)]
   have hx : (cond (decide ((bl s)[i]'(by omega) ≥ 97)) (some (w64 ((w64 (IntKind.wrap .u8 ((bl s)[i]'(by omega) - 97))) + 10))) (some (w64 (IntKind.wrap .u8 ((bl s)[i]'(by omega) - 48)))) : Option Int) = some (hxI ((bl s)[i]'(by omega))) := by
    unfold hxI
    by_cases h : (bl s)[i]'(by omega) ≥ 97
    ·rw [decide_eq_true h, if_pos h]; rfl
    ·rw [decide_eq_false h, if_neg h]; rfl
   rw [hx]; simp only [Option.bind_some]
   have e : nq ((bl s).take (i + 1)) = w64 ((w64 (16 * nq ((bl s).take i))) + hxI ((bl s)[i]'(by omega))) := by
    unfold nq; rw [List.take_succ_eq_append_getElem (by omega), List.foldl_append]; rfl
   rw [e]
  ·have d1 : decide ((s.size : Int) < (s.size : Int)) = false := decide_eq_false (by omega)
   rw [du.eq_2]; simp only [d1, cond_false]
   rw [List.take_of_length_le (by omega)]
 rw [loop]; rfl
theorem pJ {s : ByteArray} {a b : Nat} (hs : s.size < 100000) : b9 (s.extract a b) = some (nq (((bl s).drop a).take (b - a))) := by
 have h : (s.extract a b).size ≤ s.size := by
  have := p5 (s.extract a b)
  rw [oU, List.length_take, List.length_drop, p5] at this; omega
 rw [num_ok (by omega), oU]
/-- the document's sign, out of lists -/
def oP (o : List Int) (c : Int) : Nat → Bool := fun i => !(nq ((o.drop (6 * i)).take 2) == c)
def dsg (b o : List Int) (c : Nat) : Int :=
 if tl (oP o c) (o.length / 6) < o.length / 6 then IntKind.wrap .i32 (nq ((o.drop (6 * tl (oP o c) (o.length / 6) + 2)).take 4)) else IntKind.wrap .i32 (nq ((b.drop (4 * c)).take 4))
def qU : ByteArray := ByteArray.mk (List.toArray [48, 48, 48, 48, 48, 48, 48, 49, 48, 48, 48, 50, 48, 48, 48, 51, 48, 48, 57, 99, 48, 48, 48, 57, 48, 48, 56, 54, 48, 48, 55, 102, 48, 48, 57, 55, 48, 48, 56, 100, 48, 48, 56, 101, 48, 48, 48, 98, 48, 48, 48, 99, 48, 48, 48, 100, 48, 48, 48, 101, 48, 48, 48, 102, 48, 48, 49, 48, 48, 48, 49, 49, 48, 48, 49, 50, 48, 48, 49, 51, 48, 48, 57, 100, 48, 48, 56, 53, 48, 48, 48, 56, 48, 48, 56, 55, 48, 48, 49, 56, 48, 48, 49, 57, 48, 48, 57, 50, 48, 48, 56, 102, 48, 48, 49, 99, 48, 48, 49, 100, 48, 48, 49, 101, 48, 48, 49, 102, 48, 48, 56, 48, 48, 48, 56, 49, 48, 48, 56, 50, 48, 48, 56, 51, 48, 48, 56, 52, 48, 48, 48, 97, 48, 48, 49, 55, 48, 48, 49, 98, 48, 48, 56, 56, 48, 48, 56, 57, 48, 48, 56, 97, 48, 48, 56, 98, 48, 48, 56, 99, 48, 48, 48, 53, 48, 48, 48, 54, 48, 48, 48, 55, 48, 48, 57, 48, 48, 48, 57, 49, 48, 48, 49, 54, 48, 48, 57, 51, 48, 48, 57, 52, 48, 48, 57, 53, 48, 48, 57, 54, 48, 48, 48, 52, 48, 48, 57, 56, 48, 48, 57, 57, 48, 48, 57, 97, 48, 48, 57, 98, 48, 48, 49, 52, 48, 48, 49, 53, 48, 48, 57, 101, 48, 48, 49, 97, 48, 48, 50, 48, 48, 48, 97, 48, 48, 48, 101, 50, 48, 48, 101, 52, 48, 48, 101, 48, 48, 48, 101, 49, 48, 48, 101, 51, 48, 48, 101, 53, 48, 48, 101, 55, 48, 48, 102, 49, 48, 48, 97, 50, 48, 48, 50, 101, 48, 48, 51, 99, 48, 48, 50, 56, 48, 48, 50, 98, 48, 48, 55, 99, 48, 48, 50, 54, 48, 48, 101, 57, 48, 48, 101, 97, 48, 48, 101, 98, 48, 48, 101, 56, 48, 48, 101, 100, 48, 48, 101, 101, 48, 48, 101, 102, 48, 48, 101, 99, 48, 48, 100, 102, 48, 48, 50, 49, 48, 48, 50, 52, 48, 48, 50, 97, 48, 48, 50, 57, 48, 48, 51, 98, 48, 48, 97, 99, 48, 48, 50, 100, 48, 48, 50, 102, 48, 48, 99, 50, 48, 48, 99, 52, 48, 48, 99, 48, 48, 48, 99, 49, 48, 48, 99, 51, 48, 48, 99, 53, 48, 48, 99, 55, 48, 48, 100, 49, 48, 48, 97, 54, 48, 48, 50, 99, 48, 48, 50, 53, 48, 48, 53, 102, 48, 48, 51, 101, 48, 48, 51, 102, 48, 48, 102, 56, 48, 48, 99, 57, 48, 48, 99, 97, 48, 48, 99, 98, 48, 48, 99, 56, 48, 48, 99, 100, 48, 48, 99, 101, 48, 48, 99, 102, 48, 48, 99, 99, 48, 48, 54, 48, 48, 48, 51, 97, 48, 48, 50, 51, 48, 48, 52, 48, 48, 48, 50, 55, 48, 48, 51, 100, 48, 48, 50, 50, 48, 48, 100, 56, 48, 48, 54, 49, 48, 48, 54, 50, 48, 48, 54, 51, 48, 48, 54, 52, 48, 48, 54, 53, 48, 48, 54, 54, 48, 48, 54, 55, 48, 48, 54, 56, 48, 48, 54, 57, 48, 48, 97, 98, 48, 48, 98, 98, 48, 48, 102, 48, 48, 48, 102, 100, 48, 48, 102, 101, 48, 48, 98, 49, 48, 48, 98, 48, 48, 48, 54, 97, 48, 48, 54, 98, 48, 48, 54, 99, 48, 48, 54, 100, 48, 48, 54, 101, 48, 48, 54, 102, 48, 48, 55, 48, 48, 48, 55, 49, 48, 48, 55, 50, 48, 48, 97, 97, 48, 48, 98, 97, 48, 48, 101, 54, 48, 48, 98, 56, 48, 48, 99, 54, 48, 48, 97, 52, 48, 48, 98, 53, 48, 48, 55, 101, 48, 48, 55, 51, 48, 48, 55, 52, 48, 48, 55, 53, 48, 48, 55, 54, 48, 48, 55, 55, 48, 48, 55, 56, 48, 48, 55, 57, 48, 48, 55, 97, 48, 48, 97, 49, 48, 48, 98, 102, 48, 48, 100, 48, 48, 48, 100, 100, 48, 48, 100, 101, 48, 48, 97, 101, 48, 48, 53, 101, 48, 48, 97, 51, 48, 48, 97, 53, 48, 48, 98, 55, 48, 48, 97, 57, 48, 48, 97, 55, 48, 48, 98, 54, 48, 48, 98, 99, 48, 48, 98, 100, 48, 48, 98, 101, 48, 48, 53, 98, 48, 48, 53, 100, 48, 48, 97, 102, 48, 48, 97, 56, 48, 48, 98, 52, 48, 48, 100, 55, 48, 48, 55, 98, 48, 48, 52, 49, 48, 48, 52, 50, 48, 48, 52, 51, 48, 48, 52, 52, 48, 48, 52, 53, 48, 48, 52, 54, 48, 48, 52, 55, 48, 48, 52, 56, 48, 48, 52, 57, 48, 48, 97, 100, 48, 48, 102, 52, 48, 48, 102, 54, 48, 48, 102, 50, 48, 48, 102, 51, 48, 48, 102, 53, 48, 48, 55, 100, 48, 48, 52, 97, 48, 48, 52, 98, 48, 48, 52, 99, 48, 48, 52, 100, 48, 48, 52, 101, 48, 48, 52, 102, 48, 48, 53, 48, 48, 48, 53, 49, 48, 48, 53, 50, 48, 48, 98, 57, 48, 48, 102, 98, 48, 48, 102, 99, 48, 48, 102, 57, 48, 48, 102, 97, 48, 48, 102, 102, 48, 48, 53, 99, 48, 48, 102, 55, 48, 48, 53, 51, 48, 48, 53, 52, 48, 48, 53, 53, 48, 48, 53, 54, 48, 48, 53, 55, 48, 48, 53, 56, 48, 48, 53, 57, 48, 48, 53, 97, 48, 48, 98, 50, 48, 48, 100, 52, 48, 48, 100, 54, 48, 48, 100, 50, 48, 48, 100, 51, 48, 48, 100, 53, 48, 48, 51, 48, 48, 48, 51, 49, 48, 48, 51, 50, 48, 48, 51, 51, 48, 48, 51, 52, 48, 48, 51, 53, 48, 48, 51, 54, 48, 48, 51, 55, 48, 48, 51, 56, 48, 48, 51, 57, 48, 48, 98, 51, 48, 48, 100, 98, 48, 48, 100, 99, 48, 48, 100, 57, 48, 48, 100, 97, 48, 48, 57, 102])
def nK : List Int := [48, 48, 48, 48, 48, 48, 48, 49, 48, 48, 48, 50, 48, 48, 48, 51, 48, 48, 57, 99, 48, 48, 48, 57, 48, 48, 56, 54, 48, 48, 55, 102, 48, 48, 57, 55, 48, 48, 56, 100, 48, 48, 56, 101, 48, 48, 48, 98, 48, 48, 48, 99, 48, 48, 48, 100, 48, 48, 48, 101, 48, 48, 48, 102, 48, 48, 49, 48, 48, 48, 49, 49, 48, 48, 49, 50, 48, 48, 49, 51, 48, 48, 57, 100, 48, 48, 56, 53, 48, 48, 48, 56, 48, 48, 56, 55, 48, 48, 49, 56, 48, 48, 49, 57, 48, 48, 57, 50, 48, 48, 56, 102, 48, 48, 49, 99, 48, 48, 49, 100, 48, 48, 49, 101, 48, 48, 49, 102, 48, 48, 56, 48, 48, 48, 56, 49, 48, 48, 56, 50, 48, 48, 56, 51, 48, 48, 56, 52, 48, 48, 48, 97, 48, 48, 49, 55, 48, 48, 49, 98, 48, 48, 56, 56, 48, 48, 56, 57, 48, 48, 56, 97, 48, 48, 56, 98, 48, 48, 56, 99, 48, 48, 48, 53, 48, 48, 48, 54, 48, 48, 48, 55, 48, 48, 57, 48, 48, 48, 57, 49, 48, 48, 49, 54, 48, 48, 57, 51, 48, 48, 57, 52, 48, 48, 57, 53, 48, 48, 57, 54, 48, 48, 48, 52, 48, 48, 57, 56, 48, 48, 57, 57, 48, 48, 57, 97, 48, 48, 57, 98, 48, 48, 49, 52, 48, 48, 49, 53, 48, 48, 57, 101, 48, 48, 49, 97, 48, 48, 50, 48, 48, 48, 97, 48, 48, 48, 101, 50, 48, 48, 101, 52, 48, 48, 101, 48, 48, 48, 101, 49, 48, 48, 101, 51, 48, 48, 101, 53, 48, 48, 101, 55, 48, 48, 102, 49, 48, 48, 97, 50, 48, 48, 50, 101, 48, 48, 51, 99, 48, 48, 50, 56, 48, 48, 50, 98, 48, 48, 55, 99, 48, 48, 50, 54, 48, 48, 101, 57, 48, 48, 101, 97, 48, 48, 101, 98, 48, 48, 101, 56, 48, 48, 101, 100, 48, 48, 101, 101, 48, 48, 101, 102, 48, 48, 101, 99, 48, 48, 100, 102, 48, 48, 50, 49, 48, 48, 50, 52, 48, 48, 50, 97, 48, 48, 50, 57, 48, 48, 51, 98, 48, 48, 97, 99, 48, 48, 50, 100, 48, 48, 50, 102, 48, 48, 99, 50, 48, 48, 99, 52, 48, 48, 99, 48, 48, 48, 99, 49, 48, 48, 99, 51, 48, 48, 99, 53, 48, 48, 99, 55, 48, 48, 100, 49, 48, 48, 97, 54, 48, 48, 50, 99, 48, 48, 50, 53, 48, 48, 53, 102, 48, 48, 51, 101, 48, 48, 51, 102, 48, 48, 102, 56, 48, 48, 99, 57, 48, 48, 99, 97, 48, 48, 99, 98, 48, 48, 99, 56, 48, 48, 99, 100, 48, 48, 99, 101, 48, 48, 99, 102, 48, 48, 99, 99, 48, 48, 54, 48, 48, 48, 51, 97, 48, 48, 50, 51, 48, 48, 52, 48, 48, 48, 50, 55, 48, 48, 51, 100, 48, 48, 50, 50, 48, 48, 100, 56, 48, 48, 54, 49, 48, 48, 54, 50, 48, 48, 54, 51, 48, 48, 54, 52, 48, 48, 54, 53, 48, 48, 54, 54, 48, 48, 54, 55, 48, 48, 54, 56, 48, 48, 54, 57, 48, 48, 97, 98, 48, 48, 98, 98, 48, 48, 102, 48, 48, 48, 102, 100, 48, 48, 102, 101, 48, 48, 98, 49, 48, 48, 98, 48, 48, 48, 54, 97, 48, 48, 54, 98, 48, 48, 54, 99, 48, 48, 54, 100, 48, 48, 54, 101, 48, 48, 54, 102, 48, 48, 55, 48, 48, 48, 55, 49, 48, 48, 55, 50, 48, 48, 97, 97, 48, 48, 98, 97, 48, 48, 101, 54, 48, 48, 98, 56, 48, 48, 99, 54, 48, 48, 97, 52, 48, 48, 98, 53, 48, 48, 55, 101, 48, 48, 55, 51, 48, 48, 55, 52, 48, 48, 55, 53, 48, 48, 55, 54, 48, 48, 55, 55, 48, 48, 55, 56, 48, 48, 55, 57, 48, 48, 55, 97, 48, 48, 97, 49, 48, 48, 98, 102, 48, 48, 100, 48, 48, 48, 100, 100, 48, 48, 100, 101, 48, 48, 97, 101, 48, 48, 53, 101, 48, 48, 97, 51, 48, 48, 97, 53, 48, 48, 98, 55, 48, 48, 97, 57, 48, 48, 97, 55, 48, 48, 98, 54, 48, 48, 98, 99, 48, 48, 98, 100, 48, 48, 98, 101, 48, 48, 53, 98, 48, 48, 53, 100, 48, 48, 97, 102, 48, 48, 97, 56, 48, 48, 98, 52, 48, 48, 100, 55, 48, 48, 55, 98, 48, 48, 52, 49, 48, 48, 52, 50, 48, 48, 52, 51, 48, 48, 52, 52, 48, 48, 52, 53, 48, 48, 52, 54, 48, 48, 52, 55, 48, 48, 52, 56, 48, 48, 52, 57, 48, 48, 97, 100, 48, 48, 102, 52, 48, 48, 102, 54, 48, 48, 102, 50, 48, 48, 102, 51, 48, 48, 102, 53, 48, 48, 55, 100, 48, 48, 52, 97, 48, 48, 52, 98, 48, 48, 52, 99, 48, 48, 52, 100, 48, 48, 52, 101, 48, 48, 52, 102, 48, 48, 53, 48, 48, 48, 53, 49, 48, 48, 53, 50, 48, 48, 98, 57, 48, 48, 102, 98, 48, 48, 102, 99, 48, 48, 102, 57, 48, 48, 102, 97, 48, 48, 102, 102, 48, 48, 53, 99, 48, 48, 102, 55, 48, 48, 53, 51, 48, 48, 53, 52, 48, 48, 53, 53, 48, 48, 53, 54, 48, 48, 53, 55, 48, 48, 53, 56, 48, 48, 53, 57, 48, 48, 53, 97, 48, 48, 98, 50, 48, 48, 100, 52, 48, 48, 100, 54, 48, 48, 100, 50, 48, 48, 100, 51, 48, 48, 100, 53, 48, 48, 51, 48, 48, 48, 51, 49, 48, 48, 51, 50, 48, 48, 51, 51, 48, 48, 51, 52, 48, 48, 51, 53, 48, 48, 51, 54, 48, 48, 51, 55, 48, 48, 51, 56, 48, 48, 51, 57, 48, 48, 98, 51, 48, 48, 100, 98, 48, 48, 100, 99, 48, 48, 100, 57, 48, 48, 100, 97, 48, 48, 57, 102]
def O37 : List Int := []
def O273 : List Int := [52, 51, 48, 48, 55, 98, 52, 97, 48, 48, 99, 52, 52, 102, 48, 48, 50, 49, 53, 57, 48, 48, 55, 101, 53, 97, 48, 48, 100, 99, 53, 102, 48, 48, 53, 101, 54, 51, 48, 48, 53, 98, 54, 97, 48, 48, 102, 54, 55, 99, 48, 48, 97, 55, 97, 49, 48, 48, 100, 102, 98, 48, 48, 48, 97, 50, 98, 53, 48, 48, 52, 48, 98, 97, 48, 48, 97, 99, 98, 98, 48, 48, 55, 99, 99, 48, 48, 48, 101, 52, 99, 99, 48, 48, 97, 54, 100, 48, 48, 48, 102, 99, 100, 99, 48, 48, 55, 100, 101, 48, 48, 48, 100, 54, 101, 99, 48, 48, 53, 99, 102, 99, 48, 48, 53, 100]
def O297 : List Int := [52, 52, 48, 48, 52, 48, 52, 56, 48, 48, 53, 99, 52, 97, 48, 48, 98, 48, 52, 102, 48, 48, 50, 49, 53, 49, 48, 48, 55, 98, 53, 52, 48, 48, 55, 100, 53, 97, 48, 48, 97, 55, 53, 102, 48, 48, 53, 101, 54, 97, 48, 48, 102, 57, 55, 57, 48, 48, 98, 53, 55, 98, 48, 48, 97, 51, 55, 99, 48, 48, 101, 48, 57, 48, 48, 48, 53, 98, 97, 48, 48, 48, 54, 48, 97, 49, 48, 48, 97, 56, 98, 48, 48, 48, 97, 50, 98, 49, 48, 48, 50, 51, 98, 53, 48, 48, 53, 100, 98, 97, 48, 48, 97, 99, 98, 98, 48, 48, 55, 99, 98, 100, 48, 48, 55, 101, 99, 48, 48, 48, 101, 57, 100, 48, 48, 48, 101, 56, 100, 100, 48, 48, 97, 54, 101, 48, 48, 48, 101, 55]
def O500 : List Int := [52, 97, 48, 48, 53, 98, 52, 102, 48, 48, 50, 49, 53, 97, 48, 48, 53, 100, 53, 102, 48, 48, 53, 101, 98, 48, 48, 48, 97, 50, 98, 97, 48, 48, 97, 99, 98, 98, 48, 48, 55, 99]
def O1047 : List Int := [53, 102, 48, 48, 53, 101, 97, 100, 48, 48, 53, 98, 98, 48, 48, 48, 97, 99, 98, 97, 48, 48, 100, 100, 98, 98, 48, 48, 97, 56, 98, 100, 48, 48, 53, 100]
def O1140 : List Int := [57, 102, 50, 48, 97, 99]
theorem baseB_l : bl qU = nK := by decide +kernel
theorem zero_all : rd T37 0 = 0 ∧ rd te 0 = 0 ∧ rd td 0 = 0 ∧ rd tc 0 = 0 ∧ rd pw 0 = 0 ∧ rd pu 0 = 0 := by decide +kernel
theorem d37 : (List.range 256).map (dsg nK O37) = T37 := by decide +kernel
theorem s37 : sgT 37 = T37 := by decide +kernel
theorem n37 : T37.Nodup := by decide +kernel
theorem d273 : (List.range 256).map (dsg nK O273) = te := by decide +kernel
theorem s273 : sgT 273 = te := by decide +kernel
theorem n273 : te.Nodup := by decide +kernel
theorem d297 : (List.range 256).map (dsg nK O297) = td := by decide +kernel
theorem s297 : sgT 297 = td := by decide +kernel
theorem n297 : td.Nodup := by decide +kernel
theorem d500 : (List.range 256).map (dsg nK O500) = tc := by decide +kernel
theorem s500 : sgT 500 = tc := by decide +kernel
theorem n500 : tc.Nodup := by decide +kernel
theorem d1047 : (List.range 256).map (dsg nK O1047) = pw := by decide +kernel
theorem s1047 : sgT 1047 = pw := by decide +kernel
theorem n1047 : pw.Nodup := by decide +kernel
theorem d1140 : (List.range 256).map (dsg nK O1140) = pu := by decide +kernel
theorem s1140 : sgT 1140 = pu := by decide +kernel
theorem n1140 : pu.Nodup := by decide +kernel

theorem sO {n : Int} {o : ByteArray} {bo : Bool} (ho : ee n = some (o, bo)) (h1 : o.size % 6 = 0) (h2 : o.size < 1000) {c : Nat} (hc : c < 256) : bm n (c : Int) = some (dsg (bl qU) (bl o) c) := by
 have hol := p5 o
 have hle := jt (oP (bl o) (c : Int)) ((bl o).length / 6)
 have hb : qU.size = 1024 := rfl
 have hw : w64 (c : Int) = (c : Int) := w64n (by omega)
 unfold bm; simp only [ho, Option.bind_some]
 have w2 : ∀ i d : Nat, i < 100000 → d < 100 → w64 (((i : Nat) : Int) + (d : Int)) = ((i + d : Nat) : Int) := fun i d h1 h2 => mH (by omega)
 have loop : c7 (c : Int) (o, bo) bv 0 = some (if tl (oP (bl o) (c : Int)) ((bl o).length / 6) < (bl o).length / 6 then .inr (IntKind.wrap .i32 (nq (((bl o).drop (6 * tl (oP (bl o) (c : Int)) ((bl o).length / 6) + 2)).take 4))) else .inl ()) := by
  generalize hj : tl (oP (bl o) (c : Int)) ((bl o).length / 6) = j at hle
  refine cw (fun i => ((6 * i : Nat) : Int)) j (by omega) (fun q i hi => ?_) (fun q => ?_)
  ·have d1 : decide (((6 * i : Nat) : Int) < (o.size : Int)) = true := decide_eq_true (by omega)
   have hb : oP (bl o) (c : Int) i = true := js (n := (bl o).length / 6) (by omega)
   have hb' : (nq (((bl o).drop (6 * i)).take 2) == (c : Int)) = false := by unfold oP at hb; simpa using hb
   have e2 : w64 (((6 * i : Nat) : Int) + 2) = ((6 * i + 2 : Nat) : Int) := w2 (6 * i) 2 (by omega) (by omega)
   have e6 : w64 (((6 * i : Nat) : Int) + 6) = ((6 * (i + 1) : Nat) : Int) := by have := w2 (6 * i) 6 (by omega) (by omega); rw [show 6 * (i + 1) = 6 * i + 6 by omega]; exact this
   rw [c7.eq_2]; simp only [d1, cond_true, e2, e6, hw]
   rw [aV (by omega), Int.toNat_natCast, Int.toNat_natCast, pJ (by omega), show 6 * i + 2 - 6 * i = 2 by omega]
   simp only [Option.bind_some, hb', cond_false]
  ·rw [c7.eq_2]
   by_cases hjn : j < (bl o).length / 6
   ·have d1 : decide (((6 * j : Nat) : Int) < (o.size : Int)) = true := decide_eq_true (by omega)
    have hb : oP (bl o) (c : Int) j = false := by rw [← hj]; exact gT (by omega)
    have hb' : (nq (((bl o).drop (6 * j)).take 2) == (c : Int)) = true := by unfold oP at hb; simpa using hb
    have e2 : w64 (((6 * j : Nat) : Int) + 2) = ((6 * j + 2 : Nat) : Int) := w2 (6 * j) 2 (by omega) (by omega)
    have e6 : w64 (((6 * j : Nat) : Int) + 6) = ((6 * j + 6 : Nat) : Int) := w2 (6 * j) 6 (by omega) (by omega)
    simp only [d1, cond_true, e2, e6, hw]
    rw [aV (by omega), Int.toNat_natCast, Int.toNat_natCast, pJ (by omega), show 6 * j + 2 - 6 * j = 2 by omega]
    simp only [Option.bind_some, hb', cond_true]
    rw [aV (by omega), Int.toNat_natCast, pJ (by omega), show 6 * j + 6 - (6 * j + 2) = 4 by omega, if_pos hjn]
    rfl
   ·have d1 : decide (((6 * j : Nat) : Int) < (o.size : Int)) = false := decide_eq_false (by omega)
    simp only [d1, cond_false, if_neg hjn]
 rw [loop]; unfold dsg
 by_cases hj : tl (oP (bl o) (c : Int)) ((bl o).length / 6) < (bl o).length / 6
 ·rw [if_pos hj, if_pos hj]; rfl
 ·rw [if_neg hj, if_neg hj]; simp only [jn]
  have e4 : w64 (4 * (c : Int)) = ((4 * c : Nat) : Int) := by rw [cZ (by omega) (by omega)]; omega
  have e8 : w64 (((4 * c : Nat) : Int) + 4) = ((4 * c + 4 : Nat) : Int) := w2 (4 * c) 4 (by omega) (by omega)
  rw [hw, e4, e8]; change gd ((0 : Int) ≤ ((4 * c : Nat) : Int) ∧ ((4 * c : Nat) : Int) ≤ ((4 * c + 4 : Nat) : Int) ∧ ((4 * c + 4 : Nat) : Int) ≤ (qU.size : Int)) ((b9 (qU.extract _ _)).bind _) = _
  rw [aV (by omega), Int.toNat_natCast, Int.toNat_natCast, pJ (by omega), show 4 * c + 4 - 4 * c = 4 by omega]
  rfl
theorem jr {n : Int} {o : ByteArray} {bo : Bool} {O T : List Int} (ho : ee n = some (o, bo)) (h1 : o.size % 6 = 0) (h2 : o.size < 1000) (hO : bl o = O) (hT : (List.range 256).map (dsg nK O) = T) {c : Nat} (hc : c < 256) : bm n (c : Int) = some (rd T (c : Int)) := by
 rw [sO ho h1 h2 hc, baseB_l, hO, ← hT]
 rw [rdn (by simpa using hc)]; simp
theorem r37 {c : Nat} (hc : c < 256) : bm 37 (c : Int) = some (rd T37 (c : Int)) := jr (o := _) rfl (by decide +kernel) (by decide +kernel) (by decide +kernel) d37 hc
theorem r273 {c : Nat} (hc : c < 256) : bm 273 (c : Int) = some (rd te (c : Int)) := jr (o := _) rfl (by decide +kernel) (by decide +kernel) (by decide +kernel) d273 hc
theorem r297 {c : Nat} (hc : c < 256) : bm 297 (c : Int) = some (rd td (c : Int)) := jr (o := _) rfl (by decide +kernel) (by decide +kernel) (by decide +kernel) d297 hc
theorem r500 {c : Nat} (hc : c < 256) : bm 500 (c : Int) = some (rd tc (c : Int)) := jr (o := _) rfl (by decide +kernel) (by decide +kernel) (by decide +kernel) d500 hc
theorem r1047 {c : Nat} (hc : c < 256) : bm 1047 (c : Int) = some (rd pw (c : Int)) := jr (o := _) rfl (by decide +kernel) (by decide +kernel) (by decide +kernel) d1047 hc
theorem r1140 {c : Nat} (hc : c < 256) : bm 1140 (c : Int) = some (rd pu (c : Int)) := jr (o := _) rfl (by decide +kernel) (by decide +kernel) (by decide +kernel) d1140 hc
theorem iu {n : Int} (h : n ∈ pgs) : sgT n = qY n ∧ (qY n).length = 256 ∧ (qY n).Nodup ∧ rd (qY n) 0 = 0 ∧ ∀ c : Nat, c < 256 → bm n (c : Int) = some (rd (qY n) (c : Int)) := by
 simp only [pgs, List.mem_cons, List.not_mem_nil, or_false] at h; obtain ⟨z1, z2, z3, z4, z5, z6⟩ := zero_all; rcases h with rfl | rfl | rfl | rfl | rfl | rfl
 ·exact ⟨s37, rfl, n37, z1, fun c hc => r37 hc⟩
 ·exact ⟨s273, rfl, n273, z2, fun c hc => r273 hc⟩
 ·exact ⟨s297, rfl, n297, z3, fun c hc => r297 hc⟩
 ·exact ⟨s500, rfl, n500, z4, fun c hc => r500 hc⟩
 ·exact ⟨s1047, rfl, n1047, z5, fun c hc => r1047 hc⟩
 ·exact ⟨s1140, rfl, n1140, z6, fun c hc => r1140 hc⟩
end Go.Vt
set_option linter.unusedVariables false
set_option linter.unusedSimpArgs false
set_option maxRecDepth 100000
namespace Go.Vt
theorem pg_ok {n : Int} (h : n ∈ pgs) : ∃ os, bI n = some (os, true) := by
 simp only [pgs, List.mem_cons, List.not_mem_nil, or_false] at h; rcases h with rfl | rfl | rfl | rfl | rfl | rfl <;> exact ⟨_, rfl⟩
/-- a code's sign -/
def sgI (n c : Int) : Int := rd (sgT n) c
theorem sgT_of {n : Int} {os : List aq} {b : Bool} (h : bI n = some (os, b)) : sgT n = sgn os := by unfold sgT; rw [h]
theorem rh {n : Int} (h : n ∈ pgs) : (sgT n).length = 256 := by rw [(iu h).1]; exact (iu h).2.1
theorem psign {n : Int} (h : n ∈ pgs) {c : Int} (hc : By c) : gM ⟨n⟩ c = some (sgI n c) := by
 obtain ⟨os, ho⟩ := pg_ok h
 have hlen := rh h
 obtain ⟨c1, c2⟩ := hc
 have e := sgT_of ho
 unfold gM pF sgI; simp only [ho]
 rw [aV ⟨c1, c2⟩, ← e, nD ⟨c1, by omega⟩]
theorem rsign {n : Int} (h : n ∈ pgs) {c : Int} (hc : By c) : bm n c = some (sgI n c) := by
 obtain ⟨c1, c2⟩ := hc
 obtain ⟨k, rfl⟩ : ∃ k : Nat, c = (k : Int) := ⟨c.toNat, by omega⟩
 unfold sgI; rw [(iu h).1]
 exact (iu h).2.2.2.2 k (by omega)
theorem sg0 {n : Int} (h : n ∈ pgs) : sgI n 0 = 0 := by unfold sgI; rw [(iu h).1]; exact (iu h).2.2.2.1
theorem pg_nodup {n : Int} (h : n ∈ pgs) : (sgT n).Nodup := by rw [(iu h).1]; exact (iu h).2.2.1
/-- a sign's code; -1: it has none -/
def cdN (n z : Int) : Nat := tl (fun i => !(sgI n (i : Int) == z)) 256
def cdI (n z : Int) : Int := if cdN n z < 256 then (cdN n z : Int) else -1
theorem cdI_lt (n z : Int) : -1 ≤ cdI n z ∧ cdI n z < 256 := by unfold cdI; split <;> omega
theorem qj {n : Int} (h : n ∈ pgs) (z : Int) : cm n z = some (cdI n z) := by
 have hle : cdN n z ≤ 256 := jt _ _
 have hs : ∀ i : Nat, i < 256 → bm n (IntKind.wrap .u8 (i : Int)) = some (sgI n (i : Int)) := fun i hi => by rw [mG ⟨by omega, by omega⟩]; exact rsign h ⟨by omega, by omega⟩
 unfold cm cdI
 have loop : c8 n z bv 0 = some (if cdN n z < 256 then .inr (cdN n z : Int) else .inl ()) := by
  refine cw (fun i => (i : Int)) (cdN n z) (by omega) (fun q i hi => ?_) (fun q => ?_)
  ·have d1 : decide ((i : Int) < 256) = true := decide_eq_true (by omega)
   have hb : (!(sgI n (i : Int) == z)) = true := js (p := fun i : Nat => !(sgI n (i : Int) == z)) hi
   have hb' : (sgI n (i : Int) == z) = false := by simpa using hb
   rw [c8.eq_2]
   simp only [d1, cond_true, hs i (by omega), Option.bind_some, hb', cond_false, iU (show i < 1000000 by omega)]
  ·rw [c8.eq_2]
   by_cases hj : cdN n z < 256
   ·have d1 : decide ((cdN n z : Int) < 256) = true := decide_eq_true (by omega)
    have hb : (!(sgI n (cdN n z : Int) == z)) = false := gT (p := fun i : Nat => !(sgI n (i : Int) == z)) hj
    have hb' : (sgI n (cdN n z : Int) == z) = true := by simpa using hb
    simp only [d1, cond_true, hs _ hj, Option.bind_some, hb', if_pos hj]
    rfl
   ·have d1 : decide ((cdN n z : Int) < 256) = false := decide_eq_false (by omega)
    simp only [d1, cond_false, if_neg hj]
 rw [loop]
 by_cases hj : cdN n z < 256
 ·rw [if_pos hj, if_pos hj]; rfl
 ·rw [if_neg hj, if_neg hj]; rfl
theorem nB : ∀ (l : List (Int × Value)) (k : Int) (v : Value) (z : Int), fi (ii l k v) z = if k = z then some v else fi l z
 | [], k, v, z => rfl
 | p :: r, k, v, z => by
  simp only [ii]
  by_cases h : p.1 = k
  ·rw [if_pos h]; simp only [fi]
   by_cases h2 : k = z
   ·rw [if_pos h2, if_pos h2]
   ·rw [if_neg h2, if_neg h2, if_neg (by rw [h]; exact h2)]
  ·rw [if_neg h]; simp only [fi]
   by_cases h2 : p.1 = z
   ·rw [if_pos h2, if_pos h2, if_neg (fun e => h (h2.trans e.symm))]
   ·rw [if_neg h2, if_neg h2]; exact nB r k v z
theorem pK {z : Int} : ∀ (ss : List Int) (c : Nat) (m : List (Int × Value)), z ∉ ss → fi (mp c ss m) z = fi m z
 | [], _, _, _ => rfl
 | s :: ss, c, m, h => by
  rw [mp, pK ss (c + 1) _ (fun e => h (List.mem_cons_of_mem _ e)), nB, if_neg fun e => h (by rw [e]; exact List.mem_cons_self)]
theorem r9 {z : Int} : ∀ (ss : List Int) (c : Nat) (m : List (Int × Value)) (i : Nat), ss.Nodup → ss[i]? = some z → fi (mp c ss m) z = some (.int .u8 (IntKind.wrap .u8 ((c + i : Nat) : Int)))
 | [], _, _, i, _, h => by simp at h
 | s :: ss, c, m, 0, hn, h => by
  have e : s = z := by simpa using h
  subst e; rw [mp, pK ss (c + 1) _ (List.nodup_cons.1 hn).1, nB, if_pos rfl]; rfl
 | s :: ss, c, m, i + 1, hn, h => by
  rw [mp, r9 ss (c + 1) _ i (List.nodup_cons.1 hn).2 (by simpa using h), show c + 1 + i = c + (i + 1) by omega]
theorem pcode {n : Int} (h : n ∈ pgs) (z : Int) : eh ⟨n⟩ z = some (if cdI n z < 0 then (0, false) else (cdI n z, true)) := by
 obtain ⟨os, ho⟩ := pg_ok h
 have hlen := rh h
 have e := sgT_of ho
 have hle : cdN n z ≤ 256 := jt _ _
 unfold eh pG; simp only [ho]; rw [← e]
 by_cases hj : cdN n z < 256
 ·have hb : (!(sgI n (cdN n z : Int) == z)) = false := gT (p := fun i : Nat => !(sgI n (i : Int) == z)) hj
  have hb' : sgI n (cdN n z : Int) = z := by simpa using hb
  have hlt : cdN n z < (sgT n).length := by omega
  have hg : (sgT n)[cdN n z]? = some z := by
   have h9 := List.getElem?_eq_getElem hlt
   unfold sgI at hb'; rw [rdn hlt] at hb'; rw [h9, hb']
  rw [r9 (sgT n) 0 [] (cdN n z) (pg_nodup h) hg, Nat.zero_add, mG ⟨by omega, by omega⟩]
  unfold cdI
  rw [if_pos hj, if_neg (by omega)]
 ·have hz : z ∉ sgT n := fun hm => by
   obtain ⟨i, hi, hv⟩ := List.getElem_of_mem hm
   have : (!(sgI n (i : Int) == z)) = true := js (p := fun i : Nat => !(sgI n (i : Int) == z)) (n := 256) (by unfold cdN at hj hle; omega)
   unfold sgI at this
   rw [rdn (by omega), hv] at this
   simp at this
  rw [pK _ _ _ hz]; unfold cdI
  rw [if_neg hj, if_pos (by omega)]; rfl
/-! ### what a code may be used for -/
def jB (c : Int) : Bool := decide (c ≥ 64) && decide (c < 255)
theorem pdata (c : Int) : fB c = some (jB c) := by
 unfold fB jB; cases decide (c ≥ 64) <;> rfl
theorem rdata (c : Int) : eL c = some (jB c) := by
 unfold eL jB
 have : decide (c ≤ 254) = decide (c < 255) := by by_cases h : c < 255 <;> simp [h] <;> omega
 rw [this]; cases decide (c ≥ 64) <;> rfl
def nO (n c : Int) : Bool := (c == 28) || (jB c && ((decide (sgI n c ≥ 48) && decide (sgI n c ≤ 57)) || ((sgI n c == 46) || (sgI n c == 45))))
theorem pnum {n : Int} (h : n ∈ pgs) {c : Int} (hc : By c) : fk ⟨n⟩ c = some (nO n c) := by
 unfold fk gP nO; simp only [psign h hc, pdata, Option.bind_some]
 cases (c == 28) <;> cases jB c <;> cases decide (sgI n c ≥ 48) <;> cases decide (sgI n c ≤ 57) <;> cases (sgI n c == 46) <;> rfl
theorem rnum {n : Int} (h : n ∈ pgs) {c : Int} (hc : By c) : dl n c = some (nO n c) := by
 unfold dl nO; simp only [rsign h hc, rdata, Option.bind_some]
 cases (c == 28) <;> cases jB c <;> cases decide (sgI n c ≥ 48) <;> cases decide (sgI n c ≤ 57) <;> cases (sgI n c == 46) <;> rfl
def kJ (n c : Int) : Int := if c = 0 then 3 else if sgI n c = 63 then 1 else if sgI n c = 62 then 2 else if sgI n c = 32 then 3 else if sgI n c = 38 then 4 else 0
theorem pdes {n : Int} (h : n ∈ pgs) {c : Int} (hc : By c) : fh ⟨n⟩ c = some (kJ n c) := by
 unfold fh gP kJ; simp only [psign h hc, Option.bind_some, Bool.cond_eq_ite, beq_iff_eq]
 repeat' split
 all_goals first | rfl | contradiction
theorem rdes {n : Int} (h : n ∈ pgs) {c : Int} (hc : By c) : dp n c = some (kJ n c) := by
 unfold dp kJ; simp only [rsign h hc, Option.bind_some]
 by_cases h0 : c = 0
 ·subst h0; rw [sg0 h]; rfl
 ·rw [if_neg h0, cQ h0]
  by_cases g1 : sgI n c = 63
  ·rw [if_pos g1, jV g1]; rfl
  ·by_cases g2 : sgI n c = 62
   ·rw [if_neg g1, if_pos g2, cQ g1, jV g2]; rfl
   ·by_cases g3 : sgI n c = 32
    ·rw [if_neg g1, if_neg g2, if_pos g3, cQ g1, cQ g2, jV g3]; rfl
    ·by_cases g4 : sgI n c = 38
     ·rw [if_neg g1, if_neg g2, if_neg g3, if_pos g4, cQ g1, cQ g2, cQ g3, jV g4]; rfl
     ·rw [if_neg g1, if_neg g2, if_neg g3, if_neg g4, cQ g1, cQ g2, cQ g3, cQ g4]; rfl
end Go.Vt
set_option linter.unusedVariables false
set_option linter.unusedSimpArgs false
set_option maxRecDepth 100000
namespace Go.Vt
/-- behind a character was entered -/
def jG (L : List ad) (k : Nat) : Int :=
 if bc L ((k + 1) % L.length) then
  (if (fld (rd L (((k + 1) % L.length : Nat) : Int)).FA).Protected && (fld (rd L (((k + 1) % L.length : Nat) : Int)).FA).Numeric then ki L ((k + 1) % L.length) else ((((k + 1) % L.length + 1) % L.length : Nat) : Int))
 else (((k + 1) % L.length : Nat) : Int)
theorem tb {L : List ad} {N : Nat} (hl : L.length = N) (hN : 0 < N) (k : Nat) : 0 ≤ jG L k ∧ jG L k < N := by
 have h1 := Nat.mod_lt (k + 1) (show 0 < L.length by omega)
 have h2 := Nat.mod_lt ((k + 1) % L.length + 1) (show 0 < L.length by omega)
 unfold jG
 split
 ·split
  ·exact mK hl hN
  ·omega
 ·omega
theorem np {m : Int} {N : Nat} {s : ab} (h : SS m N s) {rn cn : Nat} (hr : s.size.Rows = (rn : Int)) (hc : s.size.Cols = (cn : Int)) (hN : N = rn * cn) {k : Nat} (hk : s.cursor = (k : Int)) (hkN : k < N) {dr dc : Int} {dr' dc' : Nat} (hdr : dr % (rn : Int) = (dr' : Int)) (hdc : dc % (N : Int) = (dc' : Int)) : dK s dr dc = some (pC s ((mvI rn cn k dr' dc' : Nat) : Int)) := by
 have hb := m7 h.dim.dim hr hc hN
 unfold dK aO ba; simp only [Option.bind_some, hk, pmove h.dim.dim hr hc hN (aQ hkN) hdr hdc]
 have hlt : mvI rn cn k dr' dc' < N := by rw [hN]; exact mvI_lt (by omega) (by omega)
 have := mf h (p := ((mvI rn cn k dr' dc' : Nat) : Int)) (by omega) (by omega)
 have e : (⟨s.model, s.alternate, s.size, s.cells, (k : Int), s.attrs⟩ : ab) = s := by rw [← hk]
 simp only [e, this, Option.bind_some]
theorem pafter {m : Int} {N : Nat} {s : ab} (h : SS m N s) {rn cn : Nat} (hr : s.size.Rows = (rn : Int)) (hc : s.size.Cols = (cn : Int)) (hN : N = rn * cn) {k : Nat} (hk : s.cursor = (k : Int)) (hkN : k < N) : fg s = some (pC s (jG s.cells k)) := by
 have hl := h.len
 have hle := h.dim.dim.le
 have hb := m7 h.dim.dim hr hc hN
 have e0 : (0 : Int) % (rn : Int) = ((0 : Nat) : Int) := Int.zero_emod _
 have e1 : (1 : Int) % (N : Int) = ((1 : Nat) : Int) := aQ (k := 1) (by omega)
 have mv : ∀ q, q < N → mvI rn cn q 0 1 = (q + 1) % N := fun q hq => by rw [mv_on (by omega) (by omega), ← hN]
 have hp : (k + 1) % N < N := Nat.mod_lt _ (by omega)
 have hS := h.c (p := (((k + 1) % N : Nat) : Int)) (by omega) (by omega)
 unfold fg jG; simp only [np h hr hc hN hk hkN e0 e1, mv k hkN, Option.bind_some, ba, hl]; change ((aK (pC s (((k + 1) % N : Nat) : Int)) (((k + 1) % N : Nat) : Int)).bind _) = _; simp only [g8 hS, aQ hp, Option.bind_some]
 have hA : (rd (pC s (((k + 1) % N : Nat) : Int)).cells (((k + 1) % N : Nat) : Int)).Attr = bc s.cells ((k + 1) % N) := rfl
 rw [hA]
 cases bc s.cells ((k + 1) % N) with
 | false => simp only [Bool.not_false, cond_true, Option.bind_some, Bool.false_eq_true, if_false]
 | true =>
  simp only [Bool.not_true, cond_false, pof, Option.bind_some, fC, if_true]
  have hF : (rd (pC s (((k + 1) % N : Nat) : Int)).cells (((k + 1) % N : Nat) : Int)).FA = (rd s.cells (((k + 1) % N : Nat) : Int)).FA := rfl
  rw [hF]
  have ht := ptab hS (k := (k + 1) % N) rfl hp
  have hm := np hS hr hc hN (k := (k + 1) % N) rfl hp e0 e1
  rw [mv _ hp] at hm
  cases (fld (rd s.cells (((k + 1) % N : Nat) : Int)).FA).Protected <;> cases (fld (rd s.cells (((k + 1) % N : Nat) : Int)).FA).Numeric
  ·simp only [cond_false, Option.bind_some, hm, Bool.and_false, Bool.false_eq_true, if_false]; rfl
  ·simp only [cond_false, Option.bind_some, hm, Bool.and_true, Bool.false_eq_true, if_false]; rfl
  ·simp only [cond_true, cond_false, Option.bind_some, hm, Bool.and_false, Bool.false_eq_true, if_false]; rfl
  ·simp only [cond_true, Option.bind_some, ht, Bool.and_true, if_true]; rfl
theorem pline {m : Int} {N : Nat} {s : ab} (h : SS m N s) {rn cn : Nat} (hr : s.size.Rows = (rn : Int)) (hc : s.size.Cols = (cn : Int)) (hN : N = rn * cn) {k : Nat} (hk : s.cursor = (k : Int)) (hkN : k < N) : fR s = some (pC s (iQ s.cells (atI rn cn (k / cn + 1) 0))) := by
 have hl := h.len
 have hle := h.dim.dim.le
 have hb := m7 h.dim.dim hr hc hN
 have hq : k / cn < rn := by rw [Nat.div_lt_iff_lt_mul (by omega), ← hN]; exact hkN
 have hat : atI rn cn (k / cn + 1) 0 < N := by rw [hN]; exact rJ (by omega) (by omega)
 have hw : w64 (((k / cn : Nat) : Int) + 1) = ((k / cn + 1 : Nat) : Int) := mH (b := 1) (by omega)
 have hline : fV ⟨s.size.Rows, s.size.Cols⟩ (k : Int) = some ((atI rn cn (k / cn + 1) 0 : Nat) : Int) := by
  unfold fV; simp only [prowc h.dim.dim hr hc hN (aQ hkN), Option.bind_some, hw]
  rw [patc h.dim.dim hr hc hN (a' := (k / cn + 1) % rn) (b' := 0) (by rw [Int.natCast_emod]) (Int.zero_emod _)]
  simp only [Option.bind_some]; unfold atI; rw [Nat.mod_mod]
 have hf := po (L := s.cells) (N := N) (k := atI rn cn (k / cn + 1) 0) hl hat
 unfold fR aO ba; simp only [Option.bind_some, hk, hline, r4 h (aQ hat) hat, mf h hf.1 hf.2]
theorem phome {m : Int} {N : Nat} {s : ab} (h : SS m N s) {rn cn : Nat} (hr : s.size.Rows = (rn : Int)) (hc : s.size.Cols = (cn : Int)) (hN : N = rn * cn) : ic s = some (pC s (iQ s.cells 0)) := by
 have hl := h.len
 have hle := h.dim.dim.le
 have hf := po (L := s.cells) (N := N) (k := 0) hl (by omega)
 unfold ic
 simp only [r4 h (n := 0) (k := 0) (Int.zero_emod _) (by omega), Option.bind_some, mf h hf.1 hf.2]
theorem rdo0 {m : Int} {N : Nat} {x : aa} (h : RS m N x) {rn cn : Nat} (hr : x.Size.Rows = (rn : Int)) (hc : x.Size.Cols = (cn : Int)) (hN : N = rn * cn) {k : Nat} (hk : x.Cursor = (k : Int)) (hkN : k < N) : aY x ⟨0, 0, 0⟩ = some (rC x (ki x.L k)) := by
 have e : ((Int.tmod 0 6) == 0) = true := rfl
 unfold aY; simp only [e, cond_true, hk, rtab h (aQ hkN) hkN, Option.bind_some]
 rfl
theorem rdo1 {m : Int} {N : Nat} {x : aa} (h : RS m N x) {rn cn : Nat} (hr : x.Size.Rows = (rn : Int)) (hc : x.Size.Cols = (cn : Int)) (hN : N = rn * cn) {k : Nat} (hk : x.Cursor = (k : Int)) (hkN : k < N) : aY x ⟨1, 0, 0⟩ = some (rC x (oS x.L k)) := by
 have e : ((Int.tmod 1 6) == 0) = false := rfl
 have e1 : ((Int.tmod 1 6) == 1) = true := rfl
 unfold aY; simp only [e, e1, cond_true, cond_false, hk, rbtab h (aQ hkN) hkN, Option.bind_some]
 rfl
theorem rdo2 {m : Int} {N : Nat} {x : aa} (h : RS m N x) {rn cn : Nat} (hr : x.Size.Rows = (rn : Int)) (hc : x.Size.Cols = (cn : Int)) (hN : N = rn * cn) {k : Nat} (hk : x.Cursor = (k : Int)) (hkN : k < N) : aY x ⟨2, 0, 0⟩ = some (rC x (iQ x.L (atI rn cn (k / cn + 1) 0))) := by
 have hle := h.dim.dim.le
 have hb := m7 h.dim.dim hr hc hN
 have hq : k / cn < rn := by rw [Nat.div_lt_iff_lt_mul (by omega), ← hN]; exact hkN
 have hat : atI rn cn (k / cn + 1) 0 < N := by rw [hN]; exact rJ (by omega) (by omega)
 have hw : w64 (((k / cn : Nat) : Int) + 1) = ((k / cn + 1 : Nat) : Int) := mH (b := 1) (by omega)
 have e : ((Int.tmod 2 6) == 0) = false := rfl
 have e1 : ((Int.tmod 2 6) == 1) = false := rfl
 have e2 : ((Int.tmod 2 6) == 2) = true := rfl
 have ed : Int.tdiv (k : Int) (cn : Int) = ((k / cn : Nat) : Int) := rfl
 have ha : dM x.Size ((k / cn + 1 : Nat) : Int) 0 = some ((atI rn cn (k / cn + 1) 0 : Nat) : Int) := by
  rw [show x.Size = ⟨x.Size.Rows, x.Size.Cols⟩ from rfl, ratc h.dim.dim hr hc hN (a' := (k / cn + 1) % rn) (b' := 0) (by rw [Int.natCast_emod]) (Int.zero_emod _)]
  unfold atI; rw [Nat.mod_mod]
 unfold aY; simp only [e, e1, e2, cond_true, cond_false, hk, hc]
 rw [aV (by omega), ed, w64n (by omega), hw, ha]
 simp only [Option.bind_some, rU h (aQ hat) hat]
 rfl
theorem rdo3 {m : Int} {N : Nat} {x : aa} (h : RS m N x) {rn cn : Nat} (hr : x.Size.Rows = (rn : Int)) (hc : x.Size.Cols = (cn : Int)) (hN : N = rn * cn) {k : Nat} (hk : x.Cursor = (k : Int)) (hkN : k < N) : aY x ⟨3, 0, 0⟩ = some (rC x (iQ x.L 0)) := by
 have hle := h.dim.dim.le
 have e : ((Int.tmod 3 6) == 0) = false := rfl
 have e1 : ((Int.tmod 3 6) == 1) = false := rfl
 have e2 : ((Int.tmod 3 6) == 2) = false := rfl
 have e3 : ((Int.tmod 3 6) == 3) = true := rfl
 unfold aY
 simp only [e, e1, e2, e3, cond_true, cond_false, rU h (n := 0) (k := 0) (Int.zero_emod _) (by omega), Option.bind_some]
 rfl
theorem rdo4 {m : Int} {N : Nat} {x : aa} (h : RS m N x) {rn cn : Nat} (hr : x.Size.Rows = (rn : Int)) (hc : x.Size.Cols = (cn : Int)) (hN : N = rn * cn) {k : Nat} (hk : x.Cursor = (k : Int)) (hkN : k < N) {dr dc : Int} {dr' dc' : Nat} (hdr : dr % (rn : Int) = (dr' : Int)) (hdc : dc % (N : Int) = (dc' : Int)) : aY x ⟨4, dr, dc⟩ = some (rC x ((mvI rn cn k dr' dc' : Nat) : Int)) := by
 have e : ((Int.tmod 4 6) == 0) = false := rfl
 have e1 : ((Int.tmod 4 6) == 1) = false := rfl
 have e2 : ((Int.tmod 4 6) == 2) = false := rfl
 have e3 : ((Int.tmod 4 6) == 3) = false := rfl
 have e4 : ((Int.tmod 4 6) == 4) = true := rfl
 have hm : dS x.Size (k : Int) dr dc = some ((mvI rn cn k dr' dc' : Nat) : Int) := by
  rw [show x.Size = ⟨x.Size.Rows, x.Size.Cols⟩ from rfl, rmovec h.dim.dim hr hc hN (aQ hkN) hdr hdc]
 unfold aY; simp only [e, e1, e2, e3, e4, cond_true, cond_false, hk, hm, Option.bind_some]
 rfl
theorem rdo5 {m : Int} {N : Nat} {x : aa} (h : RS m N x) {rn cn : Nat} (hr : x.Size.Rows = (rn : Int)) (hc : x.Size.Cols = (cn : Int)) (hN : N = rn * cn) {k : Nat} (hk : x.Cursor = (k : Int)) (hkN : k < N) : aY x ⟨5, 0, 0⟩ = some (rC x (jG x.L k)) := by
 have hl := h.len
 have hle := h.dim.dim.le
 have hp : (k + 1) % N < N := Nat.mod_lt _ (by omega)
 have hp2 : ((k + 1) % N + 1) % N < N := Nat.mod_lt _ (by omega)
 have e : ((Int.tmod 5 6) == 0) = false := rfl
 have e1 : ((Int.tmod 5 6) == 1) = false := rfl
 have e2 : ((Int.tmod 5 6) == 2) = false := rfl
 have e3 : ((Int.tmod 5 6) == 3) = false := rfl
 have e4 : ((Int.tmod 5 6) == 4) = false := rfl
 have hR := h.c (p := (((k + 1) % N : Nat) : Int)) (by omega) (by omega)
 have w1 : w64 ((k : Int) + 1) = ((k + 1 : Nat) : Int) := mH (b := 1) (by omega)
 have w2 : w64 ((((k + 1) % N : Nat) : Int) + 1) = (((k + 1) % N + 1 : Nat) : Int) := mH (b := 1) (by omega)
 unfold aY jG; simp only [e, e1, e2, e3, e4, cond_false, hk, w1, hl]; change (((aT (rC x (k : Int)) _).bind _).bind _) = _
 have hRk := h.c (p := (k : Int)) (by omega) (by omega)
 simp only [fL hRk, Option.bind_some]
 rw [show (((k + 1 : Nat) : Int)) % (N : Int) = (((k + 1) % N : Nat) : Int) from (Int.natCast_emod _ _).symm, aV (by omega), w2]
 have hA : (rd x.L (((k + 1) % N : Nat) : Int)).Attr = bc x.L ((k + 1) % N) := rfl
 rw [hA]
 cases bc x.L ((k + 1) % N) with
 | false => simp only [cond_false, Option.bind_some, Bool.false_eq_true, if_false]; rfl
 | true =>
  simp only [cond_true, if_true]
  have hfd := mc hR hp
  have hwp := fL hR (((k + 1) % N + 1 : Nat) : Int)
  rw [show ((((k + 1) % N + 1 : Nat) : Int)) % (N : Int) = ((((k + 1) % N + 1) % N : Nat) : Int) from (Int.natCast_emod _ _).symm] at hwp
  have htb := rtab hR (aQ hp) hp
  change (((bj (rC x (((k + 1) % N : Nat) : Int)) _).bind _).bind _) = _; rw [hfd]; simp only [Option.bind_some]; change ((((cond (fld (rd x.L (((k + 1) % N : Nat) : Int)).FA).Protected (some (fld (rd x.L (((k + 1) % N : Nat) : Int)).FA).Numeric) (some false)).bind fun d10 => cond d10 ((bT (rC x (((k + 1) % N : Nat) : Int)) _ false).bind _) ((aT (rC x (((k + 1) % N : Nat) : Int)) _).bind _)).bind _)) = _
  cases (fld (rd x.L (((k + 1) % N : Nat) : Int)).FA).Protected <;> cases (fld (rd x.L (((k + 1) % N : Nat) : Int)).FA).Numeric
  ·simp only [cond_false, Option.bind_some, hwp, Bool.and_false, Bool.false_eq_true, if_false]; rfl
  ·simp only [cond_false, Option.bind_some, hwp, Bool.and_true, Bool.false_eq_true, if_false]; rfl
  ·simp only [cond_true, cond_false, Option.bind_some, hwp, Bool.and_false, Bool.false_eq_true, if_false]; rfl
  ·simp only [cond_true, Option.bind_some, htb, Bool.and_true, if_true]; rfl
end Go.Vt
set_option linter.unusedVariables false
set_option linter.unusedSimpArgs false
set_option maxRecDepth 100000
namespace Go.Vt
def jE (c : ad) : ad := { c with Char := 0 }
theorem rQ {m : Int} {N : Nat} {s : ab} (h : SS m N s) {j : Nat} (hj : j < N) :
  ∃ s', bi s (j : Int) 0 = some s' ∧ SS m N s' ∧ s'.alternate = s.alternate ∧ s'.size = s.size ∧ s'.cursor = s.cursor ∧ ∀ q, q < N → rd s'.cells (q : Int) = if q = j ∧ (rd s.cells (j : Int)).Attr = false then jE (rd s.cells (q : Int)) else rd s.cells (q : Int) := by
 have hd := h.dim.dim.le
 have hl := h.len
 have hjm : (j : Int) % (N : Int) = (j : Int) := Int.emod_eq_of_lt (by omega) (by omega)
 have hjl : j < s.cells.length := by omega
 unfold bi; simp only [mN h, hjm, Option.bind_some]
 rw [aV (by omega)]
 cases ha : (rd s.cells (j : Int)).Attr with
 | true =>
  simp only [Bool.not_true, cond_false]
  exact ⟨s, rfl, h, rfl, rfl, rfl, fun q hq => by rw [if_neg (by simp)]⟩
 | false =>
  simp only [Bool.not_false, cond_true]
  have hok := h.ok _ (List.getElem_mem hjl)
  rw [rdn hjl] at ha ⊢
  have hcn : cnt (s.cells.set j ⟨0, false, s.cells[j].FA, s.cells[j].High, s.cells[j].Color, s.cells[j].f_Set⟩) = cnt s.cells := by
   rw [pW _ _ _ hjl]; unfold c1; simp [ha]
  refine ⟨_, rfl, ⟨h.model, h.dim, by simp [hl], fun d hd' => ?_, h.cur, ?_⟩, rfl, rfl, rfl, fun q hq => ?_⟩
  ·rw [Int.toNat_natCast] at hd'; rcases List.mem_or_eq_of_mem_set hd' with h1 | h1
   ·exact h.ok d h1
   ·subst h1
    exact ⟨by0, hok.fa, hok.high, hok.color, hok.set, (fun h2 => by cases h2), fun _ => hok.plain ha⟩
  ·simp only [Int.toNat_natCast]; rw [hcn]; exact h.attrs
  ·rw [rdn (by simp; omega), rdn (by omega)]
   simp only [Int.toNat_natCast, List.getElem_set]
   by_cases hqj : j = q
   ·subst hqj; simp [jE, ha]
   ·rw [if_neg hqj, if_neg (by omega)]
theorem l9 {m : Int} {N : Nat} {s : ab} (h : SS m N s) {n : Nat} (hn : n < N) : aK s (n : Int) = some (rd s.cells (n : Int)) := by
 rw [g8 h, Int.emod_eq_of_lt (by omega) (by omega)]
abbrev t7 (s : ab) : T7 := (s.model, s.alternate, s.size.Rows, s.size.Cols, s.cells, s.cursor, s.attrs)
/-- all cells blank, where none is an attribute -/
theorem pT {m : Int} {N : Nat} {s : ab} (h : SS m N s) : ∃ s', iZ s = some s' ∧ SS m N s' ∧ s'.alternate = s.alternate ∧ s'.size = s.size ∧ s'.cursor = s.cursor ∧ ∀ q, q < N → rd s'.cells (q : Int) = if (rd s.cells (q : Int)).Attr = false then jE (rd s.cells (q : Int)) else rd s.cells (q : Int) := by
 have hd := h.dim.dim.le
 unfold iZ aO; simp only [Option.bind_some, mL h]
 have key := ir (L := gg (N : Int)) (n := N) (s := t7 s)
  (fun i y => ∃ u : ab, SS m N u ∧ y = t7 u ∧ u.alternate = s.alternate ∧ u.size = s.size ∧ u.cursor = s.cursor ∧ ∀ q, q < N → rd u.cells (q : Int) = if q < i ∧ (rd s.cells (q : Int)).Attr = false then jE (rd s.cells (q : Int)) else rd s.cells (q : Int))
  (fun r => ∃ u : ab, SS m N u ∧ r = t7 u ∧ u.alternate = s.alternate ∧ u.size = s.size ∧ u.cursor = s.cursor ∧ ∀ q, q < N → rd u.cells (q : Int) = if (rd s.cells (q : Int)).Attr = false then jE (rd s.cells (q : Int)) else rd s.cells (q : Int)) (by omega) ?_ ?_ ?_
 ·obtain ⟨r, h1, u, h2, rfl, h3⟩ := key; rw [h1]; exact ⟨u, rfl, h2, h3⟩
 ·rintro k i y hi ⟨u, hu, rfl, e1, e2, e3, e4⟩
  have d1 : decide ((i : Int) < (N : Int)) = true := decide_eq_true (by omega)
  obtain ⟨u', g1, g2, g3, g4, g5, g6⟩ := rQ hu hi; rw [gg.eq_2]
  simp only [d1, cond_true, se, g1, Option.bind_some, gB (show i < 9223372036854775807 by omega)]
  refine ⟨_, rfl, u', g2, rfl, g3.trans e1, g4.trans e2, g5.trans e3, fun q hq => ?_⟩
  rw [g6 q hq, e4 q hq, e4 i hi, if_neg (show ¬ (i < i ∧ (rd s.cells (i : Int)).Attr = false) by omega)]
  by_cases hqi : q = i
  ·subst hqi
   by_cases ha : (rd s.cells (q : Int)).Attr = false
   ·rw [if_pos ⟨rfl, ha⟩, if_neg (by omega), if_pos ⟨by omega, ha⟩]
   ·rw [if_neg (fun h => ha h.2), if_neg (fun h => ha h.2), if_neg (fun h => ha h.2)]
  ·rw [if_neg (fun h => hqi h.1)]
   by_cases ha : (rd s.cells (q : Int)).Attr = false
   ·by_cases hq2 : q < i
    ·rw [if_pos ⟨hq2, ha⟩, if_pos ⟨by omega, ha⟩]
    ·rw [if_neg (fun h => hq2 h.1), if_neg (fun h => hq2 (by omega))]
   ·rw [if_neg (fun h => ha h.2), if_neg (fun h => ha h.2)]
 ·rintro k y ⟨u, hu, rfl, e1, e2, e3, e4⟩
  have d1 : decide ((N : Int) < (N : Int)) = false := decide_eq_false (by omega)
  rw [gg.eq_2]; simp only [d1, cond_false]; refine ⟨_, rfl, u, hu, rfl, e1, e2, e3, fun q hq => ?_⟩; rw [e4 q hq]
  simp [hq]
 ·exact ⟨s, h, rfl, rfl, rfl, rfl, fun q hq => by simp⟩
/-- the i places behind place a are blank -/
structure qW (m : Int) (N : Nat) (s : ab) (a i : Nat) (u : ab) : Prop where
 ss : SS m N u
 alt : u.alternate = s.alternate
 sz : u.size = s.size
 cur : u.cursor = s.cursor
 na : ∀ t, 1 ≤ t → t ≤ i → (rd s.cells (((a + t) % N : Nat) : Int)).Attr = false
 inn : ∀ q, q < N → (∃ t, 1 ≤ t ∧ t ≤ i ∧ q = (a + t) % N) → rd u.cells (q : Int) = jE (rd s.cells (q : Int))
 out : ∀ q, q < N → (¬ ∃ t, 1 ≤ t ∧ t ≤ i ∧ q = (a + t) % N) → rd u.cells (q : Int) = rd s.cells (q : Int)
theorem qW.attr {m : Int} {N : Nat} {s u : ab} {a i : Nat} (h : qW m N s a i u) {q : Nat} (hq : q < N) : (rd u.cells (q : Int)).Attr = (rd s.cells (q : Int)).Attr := by
 by_cases he : ∃ t, 1 ≤ t ∧ t ≤ i ∧ q = (a + t) % N
 ·rw [h.inn q hq he]; rfl
 ·rw [h.out q hq he]
/-- the places of one field blank -/
theorem sW {m : Int} {N : Nat} {s : ab} (h : SS m N s) {a : Nat} (ha : a < N) (hat : (rd s.cells (a : Int)).Attr = true) :
  ∃ i u, i + 1 ≤ N ∧ bW ⟨s.size.Rows, s.size.Cols⟩ bv ((((a + 1) % N : Nat) : Int), t7 s) = some (t7 u) ∧ qW m N s a i u ∧ (rd s.cells (((a + (i + 1)) % N : Nat) : Int)).Attr = true := by
 have hd := h.dim.dim.le
 have loop : ∀ (d i k : Nat) (u : ab), i + 1 + d = N → d < k → qW m N s a i u →
   ∃ j v, j + 1 ≤ N ∧ bW ⟨s.size.Rows, s.size.Cols⟩ k ((((a + (i + 1)) % N : Nat) : Int), t7 u) = some (t7 v) ∧ qW m N s a j v ∧ (rd s.cells (((a + (j + 1)) % N : Nat) : Int)).Attr = true := by
  intro d
  induction d with
  | zero =>
   intro i k u e hk hu
   obtain ⟨k, rfl⟩ : ∃ j, k = j + 1 := ⟨k - 1, by omega⟩
   have hp : (a + (i + 1)) % N = a := by rw [show a + (i + 1) = a + N by omega, Nat.add_mod_right, Nat.mod_eq_of_lt ha]
   rw [bW.eq_2]
   have h1 : (rd u.cells (((a + (i + 1)) % N : Nat) : Int)).Attr = true := by rw [hu.attr (Nat.mod_lt _ (by omega)), hp]; exact hat
   simp only [se, l9 hu.ss (Nat.mod_lt (a + (i + 1)) (show 0 < N by omega)), Option.bind_some, h1, Bool.not_true, cond_false]
   exact ⟨i, u, by omega, rfl, hu, by rw [hp]; exact hat⟩
  | succ d ih =>
   intro i k u e hk hu
   obtain ⟨k, rfl⟩ : ∃ j, k = j + 1 := ⟨k - 1, by omega⟩
   have hpl : (a + (i + 1)) % N < N := Nat.mod_lt _ (by omega)
   rw [bW.eq_2]
   cases h1 : (rd s.cells (((a + (i + 1)) % N : Nat) : Int)).Attr with
   | true =>
    have h2 : (rd u.cells (((a + (i + 1)) % N : Nat) : Int)).Attr = true := by rw [hu.attr hpl]; exact h1
    simp only [se, l9 hu.ss hpl, Option.bind_some, h2, Bool.not_true, cond_false]
    exact ⟨i, u, by omega, rfl, hu, h1⟩
   | false =>
    have h2 : (rd u.cells (((a + (i + 1)) % N : Nat) : Int)).Attr = false := by rw [hu.attr hpl]; exact h1
    obtain ⟨v, g1, g2, g3, g4, g5, g6⟩ := rQ hu.ss hpl
    have hw : w64 ((((a + (i + 1)) % N : Nat) : Int) + 1) = (((a + (i + 1)) % N + 1 : Nat) : Int) := by rw [cZ (by omega) (by omega)]; omega
    have hm : (((a + (i + 1)) % N + 1 : Nat) : Int) % (N : Int) = (((a + (i + 1 + 1)) % N : Nat) : Int) := by
     rw [← Int.natCast_emod, Nat.mod_add_mod]; rfl
    simp only [se, l9 hu.ss hpl, Option.bind_some, h2, Bool.not_false, cond_true, g1, hw, f3 h, hm]
    refine ih (i + 1) k v (by omega) (by omega) ⟨g2, g3.trans hu.alt, g4.trans hu.sz, g5.trans hu.cur, fun t h3 h4 => ?_, fun q hq hx => ?_, fun q hq hx => ?_⟩
    ·by_cases ht : t = i + 1
     ·subst ht; exact h1
     ·exact hu.na t h3 (by omega)
    ·rw [g6 q hq]; obtain ⟨t, h3, h4, h5⟩ := hx
     by_cases ht : t = i + 1
     ·subst ht; rw [if_pos ⟨h5, h2⟩]
      by_cases he : ∃ t, 1 ≤ t ∧ t ≤ i ∧ q = (a + t) % N
      ·rw [hu.inn q hq he]; rfl
      ·rw [hu.out q hq he]
     ·have he : ∃ t, 1 ≤ t ∧ t ≤ i ∧ q = (a + t) % N := ⟨t, h3, by omega, h5⟩
      rw [hu.inn q hq he]
      split <;> rfl
    ·rw [g6 q hq]
     have h3 : ¬ (q = (a + (i + 1)) % N ∧ (rd u.cells (((a + (i + 1)) % N : Nat) : Int)).Attr = false) := fun h3 => hx ⟨i + 1, by omega, by omega, h3.1⟩
     rw [if_neg h3]
     exact hu.out q hq fun ⟨t, h4, h5, h6⟩ => hx ⟨t, h4, by omega, h6⟩
 have := loop (N - 1) 0 bv s (by omega) (by unfold bv; omega) ⟨h, rfl, rfl, rfl, fun t h1 h2 => by omega, fun q hq ⟨t, h1, h2, _⟩ => by omega, fun q hq _ => rfl⟩
 exact this
def jA (c : ad) : ad := ⟨c.Char, c.Attr, ge .u8 c.FA 1, c.High, c.Color, c.f_Set⟩
/-- what an erase leaves of place q -/
def er (L : List ad) (l0 : Int) (q : Nat) : ad :=
 let c := rd L (q : Int)
 if bJ .u8 (rd L (stF L l0 q)).FA 32 = 0 then (if c.Attr then jA c else jE c) else c
theorem sD (L : List ad) (l0 : Int) (q : Nat) : (er L l0 q).Attr = (rd L (q : Int)).Attr := by
 unfold er jE jA; simp only; split
 ·split
  ·rfl
  ·rfl
 ·rfl
theorem band1 : ∀ f : Fin 256, By (ge .u8 (f.val : Int) 1) ∧ bJ .u8 (ge .u8 (bJ .u8 (f.val : Int) 61) 1) 61 = ge .u8 (bJ .u8 (f.val : Int) 61) 1 ∧ ge .u8 (f.val : Int) 1 = bJ .u8 (f.val : Int) 254 := by decide +kernel
structure tf (m : Int) (N : Nat) (s : ab) (l0 : Int) (a : Nat) (u : ab) : Prop where
 ss : SS m N u
 alt : u.alternate = s.alternate
 sz : u.size = s.size
 cur : u.cursor = s.cursor
 get : ∀ q, q < N → rd u.cells (q : Int) = if stF s.cells l0 q < (a : Int) then er s.cells l0 q else rd s.cells (q : Int)
theorem tf.attr {m : Int} {N : Nat} {s : ab} {l0 : Int} {a : Nat} {u : ab} (h : tf m N s l0 a u) {q : Nat} (hq : q < N) : (rd u.cells (q : Int)).Attr = (rd s.cells (q : Int)).Attr := by
 rw [h.get q hq]; split
 ·exact sD _ _ _
 ·rfl
theorem er_step {m : Int} {N : Nat} {s : ab} (h : SS m N s) {l0 : Int} (hc : l0 = stF s.cells l0 (N - 1)) (hn : ∃ b, b < N ∧ bc s.cells b = true) {a : Nat} (ha : a < N) {u : ab} (hu : tf m N s l0 a u) (k : Nat) :
  ∃ v, bN (N : Int) (k + 1) ((a : Int), t7 u) = bN (N : Int) k (((a + 1 : Nat) : Int), t7 v) ∧ tf m N s l0 (a + 1) v := by
 have hd := h.dim.dim.le
 have hl := h.len
 have hul := hu.ss.len
 have d1 : decide ((a : Int) < (N : Int)) = true := decide_eq_true (by omega)
 have hA := hu.attr ha
 rw [bN.eq_2]
 cases hat : (rd s.cells (a : Int)).Attr with
 | false =>
  rw [hat] at hA
  simp only [d1, cond_true, se, l9 hu.ss ha, Option.bind_some, hA, cond_false, gB (show a < 9223372036854775807 by omega)]
  refine ⟨u, rfl, hu.ss, hu.alt, hu.sz, hu.cur, fun q hq => ?_⟩; rw [hu.get q hq]; obtain ⟨b, h1, h2, h3⟩ := l7 hc hn q hq
  have hb : b ≠ a := by
   intro e; subst e; unfold bc at h3; rw [hat] at h3; cases h3
  rw [h1]
  by_cases h4 : b < a
  ·rw [if_pos (by omega), if_pos (by omega)]
  ·rw [if_neg (by omega), if_neg (by omega)]
 | true =>
  have hisA : bc s.cells a = true := hat
  have hsa : stF s.cells l0 a = (a : Int) := iw hisA
  have hua : rd u.cells (a : Int) = rd s.cells (a : Int) := by rw [hu.get a ha, hsa, if_neg (by omega)]
  have hap : (a : Int) % (N : Int) = (a : Int) := Int.emod_eq_of_lt (by omega) (by omega)
  have hw1 : w64 ((a : Int) + 1) = ((a + 1 : Nat) : Int) := gB (by omega)
  have hm1 : ((a + 1 : Nat) : Int) % (N : Int) = (((a + 1) % N : Nat) : Int) := rfl
  have hok : COk (rd s.cells (a : Int)) := h.ok _ (fG (by omega))
  rw [hat] at hA
  by_cases hp : bJ .u8 (rd s.cells (a : Int)).FA 32 = 0
  ·have hp' : (bJ .u8 (rd s.cells (a : Int)).FA 32 != 0) = false := ly hp
   obtain ⟨i, w, hi, g1, g2, g3⟩ := sW hu.ss ha hA
   have hwa : rd w.cells (a : Int) = rd s.cells (a : Int) := by
    rw [g2.out a ha, hua]; rintro ⟨t, h1, h2, h3⟩
    by_cases h4 : a + t < N
    ·rw [Nat.mod_eq_of_lt h4] at h3; omega
    ·rw [Nat.mod_eq_sub_mod (by omega), Nat.mod_eq_of_lt (by omega)] at h3; omega
   obtain ⟨f, hf⟩ := hok.fa.fin; obtain ⟨b1, b2, b3⟩ := band1 f; rw [hf] at b1 b2; obtain ⟨c1', c2'⟩ := hok.attr hat
   have hcb : CB (jA (rd s.cells (a : Int))) := ⟨hok.char, b1, hok.high, hok.color, hok.set⟩
   obtain ⟨k1, k2⟩ := px g2.ss (a : Int) hcb
   have hfit : Vt.fit (jA (rd s.cells (a : Int))) = jA (rd s.cells (a : Int)) := by
    unfold Vt.fit jA; simp only [hat, if_true]; rw [c2'] at b2; rw [b2, c1']
   rw [hfit, hap, Int.toNat_natCast] at k1 k2
   have e1 : (⟨(rd s.cells (a : Int)).Char, true, ge .u8 (rd s.cells (a : Int)).FA 1, (rd s.cells (a : Int)).High, (rd s.cells (a : Int)).Color, (rd s.cells (a : Int)).f_Set⟩ : ad) = jA (rd s.cells (a : Int)) := by unfold jA; rw [hat]
   have hu42 : bW ⟨u.size.Rows, u.size.Cols⟩ bv ((((a + 1) % N : Nat) : Int), u.model, u.alternate, u.size.Rows, u.size.Cols, u.cells, u.cursor, u.attrs) = some (t7 w) := g1
   have hsAttr : (rd s.cells (a : Int)).Attr = true := hat
   simp only [d1, cond_true, se, l9 hu.ss ha, Option.bind_some, hua, hat, gQ, hp', cond_false, fP, aO, f3 hu.ss, hap, Bool.not_true, hw1, hm1, hu42, l9 g2.ss ha, hwa, e1, k1]; refine ⟨_, rfl, k2, g2.alt.trans hu.alt, g2.sz.trans hu.sz, g2.cur.trans hu.cur, fun q hq => ?_⟩
   have hwl := g2.ss.len
   simp only
   rw [rdn (by simp; omega)]
   simp only [List.getElem_set]
   have er_free : ∀ q, stF s.cells l0 q = (a : Int) → er s.cells l0 q = if (rd s.cells (q : Int)).Attr then jA (rd s.cells (q : Int)) else jE (rd s.cells (q : Int)) := fun q e => by
    unfold er; simp only [e, hp, if_true]
   by_cases hqa : a = q
   ·subst hqa
    rw [if_pos rfl, hsa, if_pos (by omega), er_free a hsa, hat]; simp
   ·rw [if_neg hqa]
    have hrdw : w.cells[q]'(by omega) = rd w.cells (q : Int) := (rdn (by omega)).symm
    rw [hrdw]
    have na' : ∀ t, 1 ≤ t → t ≤ i → bc s.cells ((a + t) % N) = false := fun t h1 h2 => by
     have := g2.na t h1 h2
     rw [hu.attr (Nat.mod_lt _ (by omega))] at this; exact this
    by_cases he : ∃ t, 1 ≤ t ∧ t ≤ i ∧ q = (a + t) % N
    ·rw [g2.inn q hq he]; obtain ⟨t, h1, h2, h3⟩ := he
     have hst : stF s.cells l0 q = (a : Int) := by rw [h3]; exact mM hc ha hisA t fun t' h4 h5 => na' t' h4 (by omega)
     have hnq : (rd s.cells (q : Int)).Attr = false := by have := na' t h1 h2; rw [← h3] at this; exact this
     rw [hst, if_pos (by omega), er_free q hst, hnq, hu.get q hq, hst, if_neg (by omega)]; simp
    ·rw [g2.out q hq he, hu.get q hq]
     have hq1 : q = (a + (q + N - a) % N) % N := by
      rw [Nat.add_mod_mod, show a + (q + N - a) = q + N by omega, Nat.add_mod_right, Nat.mod_eq_of_lt hq]
     have hdl : (q + N - a) % N < N := Nat.mod_lt _ (by omega)
     have hd0 : (q + N - a) % N ≠ 0 := by
      intro e; rw [e, Nat.add_zero, Nat.mod_eq_of_lt ha] at hq1; exact hqa hq1.symm
     have hdi : ¬ (q + N - a) % N ≤ i := fun e => he ⟨_, by omega, e, hq1⟩
     have hend : bc s.cells ((a + (i + 1)) % N) = true := by
      have := g3
      rw [hu.attr (Nat.mod_lt _ (by omega))] at this; exact this
     have hne := n5 hc ha (show 1 ≤ i + 1 by omega) hend ((q + N - a) % N - (i + 1)) (by omega)
     rw [show i + 1 + ((q + N - a) % N - (i + 1)) = (q + N - a) % N by omega, ← hq1] at hne
     obtain ⟨b, h1, h2, h3⟩ := l7 hc hn q hq; rw [h1] at hne ⊢
     by_cases h4 : b < a
     ·rw [if_pos (by omega), if_pos (by omega)]
     ·rw [if_neg (by omega), if_neg (by omega)]
  ·have hp' : (bJ .u8 (rd s.cells (a : Int)).FA 32 != 0) = true := lw hp
   simp only [d1, cond_true, se, l9 hu.ss ha, Option.bind_some, hua, hat, gQ, hp', hw1]; refine ⟨u, rfl, hu.ss, hu.alt, hu.sz, hu.cur, fun q hq => ?_⟩; rw [hu.get q hq]
   by_cases hst : stF s.cells l0 q = (a : Int)
   ·rw [hst, if_neg (by omega), if_pos (by omega)]
    unfold er; simp only [hst, hp, if_false]
   ·obtain ⟨b, h1, h2, h3⟩ := l7 hc hn q hq; rw [h1] at hst ⊢
    by_cases h4 : b < a
    ·rw [if_pos (by omega), if_pos (by omega)]
    ·rw [if_neg (by omega), if_neg (by omega)]
/-! ### the whole -/
/-- what an erase of all unprotected leaves -/
def rv (L : List ad) (q : Nat) : ad := if Fmt L then er L (fJ L) q else jE (rd L (q : Int))
def iI (L : List ad) : List ad := (List.range L.length).map (rv L)
theorem ig (L : List ad) : (iI L).length = L.length := by simp [iI]
theorem nX {L : List ad} {q : Nat} (h : q < L.length) : rd (iI L) (q : Int) = rv L q := by
 unfold iI; rw [rdn (by simpa using h)]; simp
theorem qC {L : List ad} {q : Nat} (h : q < L.length) : bc (iI L) q = bc L q := by
 unfold bc; rw [nX h]; unfold rv
 split
 ·rw [sD]
 ·rfl
theorem fmt_era {L : List ad} : Fmt (iI L) ↔ Fmt L := by
 unfold Fmt; rw [ig]
 constructor
 ·rintro ⟨a, h1, h2⟩; exact ⟨a, h1, by rwa [qC h1] at h2⟩
 ·rintro ⟨a, h1, h2⟩; exact ⟨a, h1, by rwa [qC h1]⟩
theorem next_no {L : List ad} (h : ¬ Fmt L) (hL : 0 < L.length) (k : Nat) : k8 L k = -1 := by
 unfold k8 nQ; rw [if_neg]
 have : tl (fun i => !frB L ((k + 1 + i) % L.length)) L.length = L.length := tl_eq (Nat.le_refl _) (fun i hi => by
  unfold frB
  rw [kZ h (Nat.mod_lt _ hL)]; rfl) (fun h => by omega)
 omega
theorem oG {c : ad} (h : COk c) (ha : c.Attr = true) : COk (jA c) := by
 obtain ⟨f, hf⟩ := h.fa.fin; obtain ⟨b1, b2, _⟩ := band1 f; rw [hf] at b1 b2; rw [(h.attr ha).2] at b2
 exact ⟨h.char, b1, h.high, h.color, h.set, (fun _ => ⟨(h.attr ha).1, b2⟩), fun e => by have e : c.Attr = false := e; rw [ha] at e; cases e⟩
theorem oT {c : ad} (h : COk c) (ha : c.Attr = false) : COk (jE c) := rB h ha by0
theorem sC {L : List ad} (ho : ∀ c ∈ L, COk c) : ∀ c ∈ iI L, COk c := by
 intro c hc; unfold iI at hc; obtain ⟨q, hq, rfl⟩ := List.mem_map.1 hc
 have hq' := List.mem_range.1 hq
 have hok := ho _ (fG (l := L) (n := (q : Int)) (by omega))
 unfold rv
 split
 ·unfold er; simp only
  split
  ·split
   ·rename_i h1; exact oG hok h1
   ·rename_i h1; exact oT hok (by simpa using h1)
  ·exact hok
 ·rename_i hf
  exact oT hok (kZ hf hq')
theorem pera {m : Int} {N : Nat} {s : ab} (h : SS m N s) : eO s = some (pC (wS s (iI s.cells)) (ki (iI s.cells) (N - 1))) := by
 have hd := h.dim.dim.le
 have hl := h.len
 have hcl := cnt_le s.cells
 have hE := h.w (L := iI s.cells) (by rw [ig]; exact hl) (sC h.ok)
 have hel := ig s.cells
 unfold eO bX; rw [h.attrs]
 by_cases hf : Fmt s.cells
 ·have d1 : decide (cnt s.cells > 0) = true := decide_eq_true (kw.1 hf)
  have hcy : fJ s.cells = stF s.cells (fJ s.cells) (N - 1) := by rw [← hl]; exact iP hf
  have hn : ∃ b, b < N ∧ bc s.cells b = true := by rw [← hl]; exact hf
  have key := ir (L := bN (N : Int)) (n := N) (s := t7 s) (fun i y => ∃ u, y = t7 u ∧ tf m N s (fJ s.cells) i u) (fun r => ∃ u, r = t7 u ∧ tf m N s (fJ s.cells) N u) (by omega) ?_ ?_ ?_
  ·obtain ⟨r, h1, u, rfl, hu⟩ := key
   have hcells : u.cells = iI s.cells := by
    refine ky (by rw [hu.ss.len, ig, hl]) fun q hq => ?_
    rw [ig, hl] at hq; obtain ⟨b, h2, h3, _⟩ := l7 hcy hn q hq
    rw [hu.get q hq, h2, if_pos (by omega), nX (by omega)]
    unfold rv; rw [if_pos hf]
   have hu' : u = wS s (iI s.cells) := by
    have e := hu.ss.attrs
    have e2 := hu.ss.model
    have e3 := h.model
    rw [hcells] at e; obtain ⟨u1, u2, u3, u4, u5, u6⟩ := u
    have g1 := hu.alt
    have g2 := hu.sz
    have g3 := hu.cur
    simp only at e e2 g1 g2 g3 hcells; subst e hcells g1 g2 g3; unfold wS; rw [e2, ← e3]
   subst hu'
   have hb := mK (L := iI s.cells) (N := N) (k := N - 1) (by omega) (by omega)
   have h1' : bN (N : Int) bv (0, s.model, s.alternate, s.size.Rows, s.size.Cols, s.cells, s.cursor, s.attrs) = some (t7 (wS s (iI s.cells))) := h1
   simp only [d1, Option.bind_some, Bool.not_true, cond_false, iz, fM, gv, aO, mL h, h.attrs] at h1' ⊢; simp only [h1', Option.bind_some]
   have hm1 : (-1 : Int) % (N : Int) = ((N - 1 : Nat) : Int) := by
    rw [show (-1 : Int) = ((N - 1 : Nat) : Int) - N by omega, Int.sub_emod_right, aQ (by omega)]
   have hnx := pnext hE hm1 (show N - 1 < N by omega)
   change ((fA (wS s (iI s.cells)) (-1)).bind _) = _; rw [hnx]; simp only [Option.bind_some]; change ((bA (wS s (iI s.cells)) (ki (iI s.cells) (N - 1))).bind _) = _; rw [mf hE hb.1 hb.2]; rfl
  ·rintro k i y hi ⟨u, rfl, hu⟩; obtain ⟨v, h1, h2⟩ := er_step h hcy hn hi hu k; exact ⟨_, h1, v, rfl, h2⟩
  ·rintro k y ⟨u, rfl, hu⟩
   have d1 : decide ((N : Int) < (N : Int)) = false := decide_eq_false (by omega)
   rw [bN.eq_2]; simp only [d1, cond_false]; exact ⟨_, rfl, u, rfl, hu⟩
  ·refine ⟨s, rfl, h, rfl, rfl, rfl, fun q hq => ?_⟩; obtain ⟨b, h2, _⟩ := l7 hcy hn q hq
   rw [h2, if_neg (by omega)]
 ·have d1 : decide (cnt s.cells > 0) = false := decide_eq_false fun e => hf (kw.2 e)
  obtain ⟨s', g1, g2, g3, g4, g5, g6⟩ := pT h
  have hcells : s'.cells = iI s.cells := by
   refine ky (by rw [g2.len, ig, hl]) fun q hq => ?_
   rw [ig, hl] at hq
   have h1 : (rd s.cells (q : Int)).Attr = false := kZ hf (by omega)
   rw [g6 q hq, if_pos h1, nX (by omega)]
   unfold rv; rw [if_neg hf]
  have hs' : s' = wS s (iI s.cells) := by
   have e := g2.attrs
   have e2 := g2.model
   have e3 := h.model
   rw [hcells] at e; obtain ⟨u1, u2, u3, u4, u5, u6⟩ := s'; simp only at e e2 g3 g4 g5 hcells; subst e hcells g3 g4 g5; unfold wS; rw [e2, ← e3]
  subst hs'
  have ht : ki (iI s.cells) (N - 1) = 0 := by
   unfold ki
   rw [next_no (fun e => hf (fmt_era.1 e)) (by omega)]; rfl
  simp only [d1, Option.bind_some, Bool.not_false, cond_true, g1, mf hE (p := 0) (by omega) (by omega), ht]
/-! ### the document's -/
theorem rera {m : Int} {N : Nat} {x : aa} (h : RS m N x) : da x = some (rC (wL x (iI x.L)) (ki (iI x.L) (N - 1))) := by
 have hd := h.dim.dim.le
 have hl := h.len
 have hel := ig x.L
 unfold da; simp only [pA h, Option.bind_some]
 -- the characters
 let mid : Nat → ad := fun q => if bc x.L q then rd x.L (q : Int) else if (stI x.L q < 0 ∨ (fld (faI x.L q)).Protected = false) then jE (rd x.L (q : Int)) else rd x.L (q : Int)
 have hmidA : ∀ q, (mid q).Attr = (rd x.L (q : Int)).Attr := fun q => by
  simp only [mid]; split
  ·rfl
  ·split <;> rfl
 have hmidF : ∀ q, (mid q).FA = (rd x.L (q : Int)).FA := fun q => by
  simp only [mid]; split
  ·rfl
  ·split <;> rfl
 let M : Nat → List ad := fun i => (List.range N).map fun q => if q < i then mid q else rd x.L (q : Int)
 have hMl : ∀ i, (M i).length = N := fun i => by simp [M]
 have hMr : ∀ i q, q < N → rd (M i) (q : Int) = if q < i then mid q else rd x.L (q : Int) := fun i q hq => by
  simp only [M]; rw [rdn (by simpa using hq)]; simp
 have hMok : ∀ i, ∀ c ∈ M i, COk c := fun i c hc => by
  obtain ⟨q, hq, rfl⟩ := List.mem_map.1 hc
  have hq' := List.mem_range.1 hq
  have hok := h.ok _ (fG (l := x.L) (n := (q : Int)) (by omega))
  split
  ·simp only [mid]
   split
   ·exact hok
   ·rename_i hA
    split
    ·exact oT hok (by simpa [bc] using hA)
    ·exact hok
  ·exact hok
 have hMA : ∀ i q, q < N → bc (M i) q = bc x.L q := fun i q hq => by
  unfold bc; rw [hMr i q hq]; split
  ·exact hmidA q
  ·rfl
 have hM0 : M 0 = x.L := ky (by rw [hMl, hl]) fun q hq => by rw [hMr 0 q (by omega), if_neg (by omega)]
 have loop1 : bQ x (en x.L (fJ x.L) N) bv (0, x.Model, x.Alt, x.Size.Rows, x.Size.Cols, x.L, x.Cursor) = some (x.Model, x.Alt, x.Size.Rows, x.Size.Cols, M N, x.Cursor) := by
  have e0 : ((0 : Int), x.Model, x.Alt, x.Size.Rows, x.Size.Cols, x.L, x.Cursor) = (((0 : Nat) : Int), x.Model, x.Alt, x.Size.Rows, x.Size.Cols, M 0, x.Cursor) := by rw [hM0]; rfl
  rw [e0]
  refine cw (fun i => ((i : Int), x.Model, x.Alt, x.Size.Rows, x.Size.Cols, M i, x.Cursor)) N (by omega) (fun k i hi => ?_) (fun k => ?_)
  ·have d1 : decide ((i : Int) < (x.L.length : Int)) = true := decide_eq_true (by omega)
   have hsl : (en x.L (fJ x.L) N).length = N := by simp [en]
   have hR := h.w (L := M i) (hMl i) (hMok i)
   rw [bQ.eq_2]; simp only [d1, cond_true]
   rw [aV (by omega), aV (by omega), kj hi, iU (by omega)]
   have hq : (cond (decide (stF x.L (fJ x.L) i < 0)) (some true) ((bj (wL x (M i)) (stF x.L (fJ x.L) i)).bind fun (d7 : aX) => some (!d7.Protected)) : Option Bool) = some (decide (stI x.L i < 0 ∨ (fld (faI x.L i)).Protected = false)) := by
    change (cond (decide (stI x.L i < 0)) (some true) ((bj (wL x (M i)) (stI x.L i)).bind _)) = _
    by_cases hs : stI x.L i < 0
    ·rw [decide_eq_true hs, decide_eq_true (.inl hs)]; rfl
    ·have hf : Fmt x.L := by
      by_cases hf : Fmt x.L
      ·exact hf
      ·rw [gU hf (by omega)] at hs; exact absurd (by omega) hs
     obtain ⟨b, h1, h2, h3⟩ := iv hf (n := i) (by omega)
     rw [decide_eq_false hs]; unfold faI; rw [h1]
     simp only [cond_false, mc hR (show b < N by omega), Option.bind_some]
     have hFA : (rd (wL x (M i)).L (b : Int)).FA = (rd x.L (b : Int)).FA := by
      change (rd (M i) (b : Int)).FA = _
      rw [hMr i b (by omega)]; split
      ·exact hmidF b
      ·rfl
     rw [hFA]
     cases (fld (rd x.L (b : Int)).FA).Protected with
     | true => rw [decide_eq_false (by simp)]; rfl
     | false => rw [decide_eq_true (.inr rfl)]; rfl
   change (((cond (decide (stF x.L (fJ x.L) i < 0)) (some true) ((bj (wL x (M i)) (stF x.L (fJ x.L) i)).bind fun (d7 : aX) => some (!d7.Protected)) : Option Bool)).bind _) = _; rw [hq]; simp only [Option.bind_some]
   have hstep : ∀ b : Bool, b = decide (stI x.L i < 0 ∨ (fld (faI x.L i)).Protected = false) → M (i + 1) = if b then cq (M i) i 0 else M i := fun b hb => by
    refine ky ?_ fun q hq => ?_
    ·rw [hMl]; split
     ·rw [fN, hMl]
     ·rw [hMl]
    ·have hqN : q < N := by
      split at hq
      ·rw [fN, hMl] at hq; exact hq
      ·rw [hMl] at hq; exact hq
     rw [hMr _ q hqN]
     by_cases hqi : q = i
     ·subst hqi
      rw [if_pos (by omega)]
      cases b with
      | true =>
       have hcond := of_decide_eq_true hb.symm
       simp only [if_true, mid, if_pos hcond]; unfold cq; rw [hMA q q hqN]
       cases hA : bc x.L q with
       | true => simp only [if_true]; rw [hMr q q hqN, if_neg (by omega)]
       | false =>
        simp only [Bool.false_eq_true, if_false]
        rw [ij (by rw [hMl]; exact hqN) (by rw [hMl]; exact hqN), if_pos rfl, hMr q q hqN, if_neg (by omega)]; rfl
      | false =>
       have hcond := of_decide_eq_false hb.symm
       have hm : mid q = rd x.L (q : Int) := by
        simp only [mid]
        split
        ·rfl
        ·first | rfl | rw [if_neg hcond]
       change mid q = rd (M q) (q : Int)
       rw [hm, hMr q q hqN, if_neg (by omega)]
     ·have h1 : rd (if b then cq (M i) i 0 else M i) (q : Int) = rd (M i) (q : Int) := by
       cases b with
       | true =>
        simp only [if_true]; unfold cq
        split
        ·rfl
        ·rw [ij (by rw [hMl]; exact hi) (by rw [hMl]; exact hqN), if_neg (fun e => hqi e.symm)]
       | false => rfl
      rw [h1, hMr _ q hqN]
      by_cases h2 : q < i
      ·rw [if_pos (by omega), if_pos h2]
      ·rw [if_neg (by omega), if_neg h2]
   generalize hb : decide (stI x.L i < 0 ∨ (fld (faI x.L i)).Protected = false) = b
   have hs := hstep b hb.symm
   cases b with
   | true =>
    simp only [if_true] at hs
    have hp := sP hR (n := (i : Int)) (aQ hi) hi by0
    simp only [cond_true]; change (((bf (wL x (M i)) (i : Int) 0).bind _).bind _) = _; rw [hp, hs]; rfl
   | false =>
    simp only [Bool.false_eq_true, if_false] at hs; simp only [cond_false, Option.bind_some, hs]
  ·have d1 : decide ((N : Int) < (x.L.length : Int)) = false := decide_eq_false (by omega)
   rw [bQ.eq_2]; simp only [d1, cond_false]
 rw [loop1]; simp only [Option.bind_some]
 have hRM := h.w (L := M N) (hMl N) (hMok N)
 have hat := oV hRM
 change ((cA (wL x (M N))).bind _) = _; rw [hat]; simp only [Option.bind_some]
 have hatt : bV (wL x (M N)).L N = bV x.L N := oW fun q hq => hMA N q hq
 rw [hatt]
 generalize hAA : bV x.L N = A
 have hAle : A.length ≤ N := by rw [← hAA]; exact jF _ _
 have hmem : ∀ q, q ∈ A ↔ q < N ∧ bc x.L q = true := fun q => by rw [← hAA]; exact fI
 -- the attributes
 let W : Nat → List ad := fun i => (List.range N).map fun q => if q ∈ A.take i ∧ (fld (rd x.L (q : Int)).FA).Protected = false then jA (rd x.L (q : Int)) else mid q
 have hWl : ∀ i, (W i).length = N := fun i => by simp [W]
 have hWr : ∀ i q, q < N → rd (W i) (q : Int) = if q ∈ A.take i ∧ (fld (rd x.L (q : Int)).FA).Protected = false then jA (rd x.L (q : Int)) else mid q := fun i q hq => by
  simp only [W]; rw [rdn (by simpa using hq)]; simp
 have hWok : ∀ i, ∀ c ∈ W i, COk c := fun i c hc => by
  obtain ⟨q, hq, rfl⟩ := List.mem_map.1 hc
  have hq' := List.mem_range.1 hq
  split
  ·rename_i hh
   have h2 := (hmem q).1 (List.mem_of_mem_take hh.1)
   exact oG (h.ok _ (fG (by omega))) h2.2
  ·have := hMok N (mid q) (List.mem_map.2 ⟨q, hq, by rw [if_pos hq']⟩)
   exact this
 have hW0 : W 0 = M N := ky (by rw [hWl, hMl]) fun q hq => by
  rw [hMl] at hq
  rw [hWr 0 q hq, hMr N q hq, if_pos hq, if_neg (by simp)]
 have hnd : A.Nodup := by rw [← hAA]; exact List.Pairwise.filter _ List.nodup_range
 have loop2 : bE (A.map fun i : Nat => (i : Int)) bv (0, x.Model, x.Alt, x.Size.Rows, x.Size.Cols, M N, x.Cursor) = some (x.Model, x.Alt, x.Size.Rows, x.Size.Cols, W A.length, x.Cursor) := by
  rw [← hW0]
  refine cw (fun i => ((i : Int), x.Model, x.Alt, x.Size.Rows, x.Size.Cols, W i, x.Cursor)) A.length (by omega) (fun k i hi => ?_) (fun k => ?_)
  ·have d1 : decide ((i : Int) < ((A.map fun i : Nat => (i : Int)).length : Int)) = true := decide_eq_true (by rw [List.length_map]; omega)
   have hrd : rd (A.map fun i : Nat => (i : Int)) (i : Int) = (A[i] : Int) := by rw [rdn (by rw [List.length_map]; exact hi)]; simp
   obtain ⟨ha, hat⟩ := (hmem A[i]).1 (List.getElem_mem hi)
   have hR := h.w (L := W i) (hWl i) (hWok i)
   have hnot : A[i] ∉ A.take i := fun hm => by
    obtain ⟨j, hj, hje⟩ := List.getElem_of_mem hm
    have hj' : j < i := by rw [List.length_take] at hj; omega
    rw [List.getElem_take] at hje
    exact (List.pairwise_iff_getElem.1 hnd) j i (by omega) hi hj' hje
   have hcell : rd (W i) (A[i] : Int) = mid A[i] := by rw [hWr i _ ha, if_neg fun h => hnot h.1]
   have hmidc : mid A[i] = rd x.L (A[i] : Int) := by simp only [mid]; rw [if_pos hat]
   rw [bE.eq_2]; simp only [d1, cond_true]
   rw [aV (by rw [List.length_map]; omega), hrd, aV (by rw [hWl]; omega), iU (by omega)]
   change ((bj (wL x (W i)) (A[i] : Int)).bind _) = _; rw [mc hR ha]; simp only [Option.bind_some]
   have hcw : (rd (wL x (W i)).L (A[i] : Int)) = rd x.L (A[i] : Int) := by change rd (W i) (A[i] : Int) = _; rw [hcell, hmidc]
   rw [hcw]
   have htk : ∀ q, q ∈ A.take (i + 1) ↔ q ∈ A.take i ∨ q = A[i] := fun q => by rw [List.take_succ_eq_append_getElem hi, List.mem_append, List.mem_singleton]
   cases hp : (fld (rd x.L (A[i] : Int)).FA).Protected with
   | true =>
    have hs : W (i + 1) = W i := ky (by rw [hWl, hWl]) fun q hq => by
     rw [hWl] at hq; rw [hWr _ q hq, hWr _ q hq]
     by_cases h1 : q = A[i]
     ·subst h1; rw [if_neg (fun e => by rw [hp] at e; cases e.2), if_neg (fun e => by rw [hp] at e; cases e.2)]
     ·have : (q ∈ A.take (i + 1)) = (q ∈ A.take i) := propext ((htk q).trans ⟨fun h => h.resolve_right h1, .inl⟩)
      simp only [this]
    simp only [Bool.not_true, cond_false, Option.bind_some, hs]
   | false =>
    have hok := h.ok _ (fG (l := x.L) (n := (A[i] : Int)) (by omega))
    have hdm := oG hok hat
    have hset := (kW hR (A[i] : Int) hdm.cb).1
    rw [aQ ha, hdm.fit] at hset
    have hFA : bJ .u8 (rd x.L (A[i] : Int)).FA 254 = ge .u8 (rd x.L (A[i] : Int)).FA 1 := by
     obtain ⟨f, hf⟩ := hok.fa.fin
     have := (band1 f).2.2
     rw [hf] at this; exact this.symm
    have hs : W (i + 1) = (W i).set A[i] (jA (rd x.L (A[i] : Int))) := ky (by rw [List.length_set, hWl, hWl]) fun q hq => by
     rw [List.length_set, hWl] at hq
     rw [ij (by rw [hWl]; exact ha) (by rw [hWl]; exact hq), hWr _ q hq]
     by_cases h1 : A[i] = q
     ·rw [if_pos h1]; subst h1; rw [if_pos ⟨(htk _).2 (.inr rfl), hp⟩]
     ·rw [if_neg h1, hWr _ q hq]
      have : (q ∈ A.take (i + 1)) = (q ∈ A.take i) := propext ((htk q).trans ⟨fun h => h.resolve_right fun e => h1 e.symm, .inl⟩)
      simp only [this]
    simp only [Bool.not_false, cond_true]
    have ecell : ({ (rd (W i) (A[i] : Int)) with FA := bJ .u8 ((rd (W i) (A[i] : Int)).FA) 254 } : ad) = jA (rd x.L (A[i] : Int)) := by
     rw [hcell, hmidc, hFA]; rfl
    rw [← ecell] at hset; refine (congrArg (fun o : Option aa => (o.bind fun d17 => some (d17.Model, d17.Alt, d17.Size.Rows, d17.Size.Cols, d17.L, d17.Cursor)).bind fun d16 => bE (A.map fun i : Nat => (i : Int)) k (((i + 1 : Nat) : Int), d16.1, d16.2.1, d16.2.2.1, d16.2.2.2.1, d16.2.2.2.2.1, d16.2.2.2.2.2)) hset).trans ?_; rw [hs, ecell]; rfl
  ·have d1 : decide ((A.length : Int) < ((A.map fun i : Nat => (i : Int)).length : Int)) = false := decide_eq_false (by rw [List.length_map]; omega)
   rw [bE.eq_2]; simp only [d1, cond_false]
 rw [loop2]; simp only [Option.bind_some]
 have hfin : W A.length = iI x.L := ky (by rw [hWl, ig, hl]) fun q hq => by
  rw [ig, hl] at hq
  rw [hWr _ q hq, nX (by omega), List.take_of_length_le (Nat.le_refl _)]
  have hpb : ∀ f : Int, ((bJ .u8 f 32 = 0) = ((fld f).Protected = false)) := fun f => by unfold fld; simp
  unfold rv
  by_cases hf : Fmt x.L
  ·rw [if_pos hf]; unfold er; simp only [hpb]; change _ = if (fld (faI x.L q)).Protected = false then _ else _
   obtain ⟨b, h1, h2, h3⟩ := iv hf (n := q) (by omega)
   cases hA : bc x.L q with
   | true =>
    have hself : faI x.L q = (rd x.L (q : Int)).FA := by unfold faI; rw [p9 hA]
    have hA2 : (rd x.L (q : Int)).Attr = true := hA
    have hq2 : q ∈ A := (hmem q).2 ⟨hq, hA⟩
    rw [hself]; simp only [mid, hA, if_true, hA2, hq2, true_and]
   | false =>
    have hq2 : q ∉ A := fun e => by rw [((hmem q).1 e).2] at hA; cases hA
    have hA2 : (rd x.L (q : Int)).Attr = false := hA
    rw [if_neg fun e => hq2 e.1]; simp only [mid, hA, Bool.false_eq_true, if_false, hA2]
    by_cases hpr : (fld (faI x.L q)).Protected = false
    ·rw [if_pos (.inr hpr), if_pos hpr]
    ·rw [if_neg (by rw [h1]; rintro (e | e); omega; exact hpr e), if_neg hpr]
  ·rw [if_neg hf]
   have hA : bc x.L q = false := kZ hf (by omega)
   have hq2 : q ∉ A := fun e => by rw [((hmem q).1 e).2] at hA; cases hA
   rw [if_neg fun e => hq2 e.1]; simp only [mid, hA, Bool.false_eq_true, if_false]
   rw [if_pos (.inl (by rw [gU hf (by omega)]; omega))]
 rw [hfin]
 have hE := h.w (L := iI x.L) (by omega) (sC h.ok)
 have hm1 : (-1 : Int) % (N : Int) = ((N - 1 : Nat) : Int) := by
  rw [show (-1 : Int) = ((N - 1 : Nat) : Int) - N by omega, Int.sub_emod_right, aQ (by omega)]
 have hnx := rnext hE hm1 (show N - 1 < N by omega)
 change ((cl (wL x (iI x.L)) (-1) false).bind _) = _; rw [hnx]; rfl
end Go.Vt
set_option linter.unusedVariables false
set_option linter.unusedSimpArgs false
set_option maxRecDepth 100000
namespace Go.Vt
def ent (c : ad) (z : Int) : ad := { c with Char := z, f_Set := 0 }
def iB (L : List ad) (k : Nat) (z : Int) : List ad := L.set k (ent (rd L (k : Int)) z)
theorem rx {c : ad} (h : COk c) (ha : c.Attr = false) {z : Int} (hz : By z) : COk (ent c z) := ⟨hz, h.fa, h.high, h.color, by0, (fun e => by have e : c.Attr = true := e; rw [ha] at e; cases e), fun _ => h.plain ha⟩
theorem jd (L : List ad) (k : Nat) (z : Int) : (iB L k z).length = L.length := by unfold iB; simp
theorem m6 {L : List ad} (ho : ∀ c ∈ L, COk c) {k : Nat} (hk : k < L.length) (hA : bc L k = false) {z : Int} (hz : By z) : ∀ c ∈ iB L k z, COk c := by
 intro c hc; unfold iB at hc; rcases List.mem_or_eq_of_mem_set hc with h1 | rfl
 ·exact ho c h1
 ·exact rx (ho _ (fG (by omega))) hA hz
theorem qr {L : List ad} {k : Nat} (hk : k < L.length) {q : Nat} (hq : q < L.length) : bc (c0 L k) q = bc L q := by
 unfold c0
 split
 ·rfl
 ·rename_i hs
  have hf : Fmt L := by
   by_cases hf : Fmt L
   ·exact hf
   ·rw [gU hf hk] at hs; exact absurd (by omega) hs
  obtain ⟨b, h1, h2, h3⟩ := iv hf hk; rw [h1, Int.toNat_natCast]; unfold bc; rw [ij h2 hq]
  by_cases e : b = q
  ·subst e; rw [if_pos rfl]; rfl
  ·rw [if_neg e]
theorem oh {L : List ad} {k : Nat} (hk : k < L.length) {z : Int} {q : Nat} (hq : q < L.length) : bc (lL L k z) q = bc L q := by
 unfold lL
 have hf : ∀ i, pl L k i < L.length := fun i => j4 (by omega) i
 rw [qr (by rw [dL]; exact hk) (by rw [dL]; exact hq), oa hf _ hq]
theorem og (L : List ad) (k : Nat) (z : Int) : (lL L k z).length = L.length := by unfold lL; rw [iW, dL]
theorem pM {L : List ad} (ho : ∀ c ∈ L, COk c) {k : Nat} (hk : k < L.length) {z : Int} (hz : By z) : ∀ c ∈ lL L k z, COk c := by
 have hf : ∀ i, pl L k i < L.length := fun i => j4 (by omega) i
 unfold lL
 exact ko (nV ho hf _ fun i _ => pN ho (by omega) hz i) (by rw [dL]; exact hk)
/-- what is answered: the screen, the board, an error -/
def gi (n : Int) (B : ai) (x : aa) (c : Int) : aa × ai × Int :=
 if fj x.L x.Cursor.toNat = false then (x, { B with lock := 2 }, 13)
 else if ¬ (stI x.L x.Cursor.toNat < 0) ∧ (fld (faI x.L x.Cursor.toNat)).Numeric = true ∧ nO n c = false then (x, { B with lock := 3 }, 14)
 else if (B.inserts = true ∧ c ≠ 28) ∧ ¬ (ie x.L x.Cursor.toNat < rl x.L x.Cursor.toNat true) then (x, { B with lock := 4 }, 7)
 else
  let L3 := c0 (iB (if B.inserts = true ∧ c ≠ 28 then lL x.L x.Cursor.toNat c else x.L) x.Cursor.toNat c) x.Cursor.toNat
  (rC (wL x L3) (if c = 28 then ki L3 x.Cursor.toNat else jG L3 x.Cursor.toNat), B, 0)
theorem RS.n {m : Int} {N : Nat} {x : aa} (h : RS m N x) : x.Cursor = (x.Cursor.toNat : Int) ∧ x.Cursor.toNat < N := by have := h.cur; omega
/-- a character at the cursor, the field modified -/
theorem pset {m : Int} {N : Nat} {s : ab} (h : SS m N s) {k : Nat} (hk : k < N) (hA : bc s.cells k = false) {z : Int} (hz : By z) : bZ s (k : Int) (ent (rd s.cells (k : Int)) z) = some (wS s (iB s.cells k z)) := by
 have hl := h.len
 have hok := rx (h.ok _ (fG (l := s.cells) (n := (k : Int)) (by omega))) hA hz
 have := (px h (k : Int) hok.cb).1
 rw [aQ hk, hok.fit] at this; exact this
theorem rset {m : Int} {N : Nat} {x : aa} (h : RS m N x) {k : Nat} (hk : k < N) (hA : bc x.L k = false) {z : Int} (hz : By z) : bx x (k : Int) (ent (rd x.L (k : Int)) z) = some (wL x (iB x.L k z)) := by
 have hl := h.len
 have hok := rx (h.ok _ (fG (l := x.L) (n := (k : Int)) (by omega))) hA hz
 have := (kW h (k : Int) hok.cb).1
 rw [aQ hk, hok.fit] at this; exact this
theorem enter_rs {m n : Int} {N : Nat} {x : aa} (h : RS m N x) (hn : n ∈ pgs) {c : Int} (hc : By c) (B : ai) : RS m N (gi n B x c).1 := by
 obtain ⟨hk, hkN⟩ := h.n
 have hl := h.len
 unfold gi
 generalize x.Cursor.toNat = k at hk hkN
 split
 ·exact h
 ·rename_i ho
  split
  ·exact h
  ·split
   ·exact h
   ·have hA := jM (by simpa using ho)
    simp only
    have h1 : ∀ L1 : List ad, L1.length = N → (∀ c ∈ L1, COk c) → bc L1 k = false → RS m N (rC (wL x (c0 (iB L1 k c) k)) (if c = 28 then ki (c0 (iB L1 k c) k) k else jG (c0 (iB L1 k c) k) k)) := fun L1 g1 g2 g3 => by
     have g4 : (c0 (iB L1 k c) k).length = N := by rw [iW, jd]; exact g1
     have g5 := h.w g4 (ko (m6 g2 (by omega) g3 hc) (by rw [jd]; omega))
     have g6 := mK (L := c0 (iB L1 k c) k) (N := N) (k := k) g4 (by omega)
     have g7 := tb (L := c0 (iB L1 k c) k) (N := N) g4 (by omega) k
     split
     ·exact g5.c g6.1 g6.2
     ·exact g5.c g7.1 g7.2
    split
    ·exact h1 _ (by rw [og]; exact hl) (pM h.ok (by omega) hc) (by rw [oh (by omega) (by omega)]; exact hA)
    ·exact h1 _ hl h.ok hA
theorem pH {m n : Int} {N : Nat} {x : aa} (h : RS m N x) (hn : n ∈ pgs) {c : Int} (hc : By c) (B : ai) : df B (prog x) ⟨n⟩ c = some (prog (gi n B x c).1, ⟨n⟩, (gi n B x c).2.1, (gi n B x c).2.2) := by
 obtain ⟨hk, hkN⟩ := h.n
 have hl := h.len
 have hle := h.dim.dim.le
 have hS := h.lk.ss
 unfold df ba gi
 have hcur : (prog x).cursor = x.Cursor := rfl
 simp only [Option.bind_some, hcur]
 generalize x.Cursor.toNat = k at hk hkN
 have hcell : (prog x).cells = x.L := rfl
 rw [hk]; simp only [pfof hS (aQ hkN) hkN, qm hS (aQ hkN) hkN, hcell, Option.bind_some]
 cases ho : fj x.L k with
 | false => rfl
 | true =>
  have hA := jM ho
  rw [if_neg (show ¬ (true = false) by simp)]
  simp only [Bool.not_true, cond_false]
  have hnum : ((cond (if stI x.L k < 0 then ((⟨false, false, 0, false⟩ : bO), false) else (fld (faI x.L k), true)).2 (cond (if stI x.L k < 0 then ((⟨false, false, 0, false⟩ : bO), false) else (fld (faI x.L k), true)).1.Numeric ((fk ⟨n⟩ c).bind fun (d8 : Bool) => some (!d8)) (some false)) (some false)) : Option Bool) = some (decide (¬ (stI x.L k < 0) ∧ (fld (faI x.L k)).Numeric = true ∧ nO n c = false)) := by
   rw [pnum hn hc]
   by_cases hs : stI x.L k < 0
   ·rw [if_pos hs, decide_eq_false (fun e => e.1 hs)]; rfl
   ·rw [if_neg hs]
    cases (fld (faI x.L k)).Numeric <;> cases nO n c <;> simp [hs]
  rw [hnum]; simp only [Option.bind_some]
  by_cases hq : ¬ (stI x.L k < 0) ∧ (fld (faI x.L k)).Numeric = true ∧ nO n c = false
  ·rw [decide_eq_true hq, if_pos hq]; rfl
  ·rw [decide_eq_false hq, if_neg hq]; simp only [cond_false]
   have hins : ((cond B.inserts (some (c != 28)) (some false)) : Option Bool) = some (decide (B.inserts = true ∧ c ≠ 28)) := by
    cases B.inserts with
    | false => simp
    | true => by_cases h28 : c = 28 <;> simp [h28]
   rw [hins]; simp only [Option.bind_some]
   -- behind the insertion
   have tail : ∀ L1 : List ad, L1.length = N → (∀ c ∈ L1, COk c) → bc L1 k = false → ∀ d5 : T7, d5 = t7' (wS (prog x) L1) → ((aK (⟨d5.1, d5.2.1, (⟨d5.2.2.1, d5.2.2.2.1⟩ : ak), d5.2.2.2.2.1, d5.2.2.2.2.2.1, d5.2.2.2.2.2.2⟩ : ab) (k : Int)).bind fun (d13 : ad) =>
     (bZ (⟨d5.1, d5.2.1, (⟨d5.2.2.1, d5.2.2.2.1⟩ : ak), d5.2.2.2.2.1, d5.2.2.2.2.2.1, d5.2.2.2.2.2.2⟩ : ab) (k : Int) (⟨c, d13.Attr, d13.FA, d13.High, d13.Color, 0⟩ : ad)).bind fun (d15 : ab) =>
     (bF d15 (k : Int)).bind fun (d16 : ab × Bool) =>
     (cond (c == 28) ((eT d16.1).bind fun (d18 : ab) => some (d18.model, d18.alternate, d18.size.Rows, d18.size.Cols, d18.cells, d18.cursor, d18.attrs)) ((fg d16.1).bind fun (d19 : ab) => some (d19.model, d19.alternate, d19.size.Rows, d19.size.Cols, d19.cells, d19.cursor, d19.attrs))).bind fun (d17 : T7) =>
     some ((⟨d17.1, d17.2.1, (⟨d17.2.2.1, d17.2.2.2.1⟩ : ak), d17.2.2.2.2.1, d17.2.2.2.2.2.1, d17.2.2.2.2.2.2⟩ : ab), (⟨n⟩ : aB), B, (0 : Int))) = some (prog (rC (wL x (c0 (iB L1 k c) k)) (if c = 28 then ki (c0 (iB L1 k c) k) k else jG (c0 (iB L1 k c) k) k)), ⟨n⟩, B, 0) := by
    intro L1 g1 g2 g3 d5 hd5; subst hd5
    have hS1 := hS.w g1 g2
    change ((aK (wS (prog x) L1) (k : Int)).bind _) = _; simp only [g8 hS1, aQ hkN, Option.bind_some]
    have hset := pset hS1 hkN g3 hc
    change ((bZ (wS (prog x) L1) (k : Int) (ent (rd L1 (k : Int)) c)).bind _) = _; rw [show rd L1 (k : Int) = rd (wS (prog x) L1).cells (k : Int) from rfl, hset]; simp only [Option.bind_some]
    have g4 : (c0 (iB L1 k c) k).length = N := by rw [iW, jd]; exact g1
    have hS2 := hS.w (L := iB L1 k c) (by rw [jd]; exact g1) (m6 g2 (by omega) g3 hc)
    have hS3 := hS.w g4 (ko (m6 g2 (by omega) g3 hc) (by rw [jd]; omega))
    have hm := sR hS2 (aQ hkN) hkN
    change ((bF (wS (prog x) (iB L1 k c)) (k : Int)).bind _) = _; rw [hm]; simp only [Option.bind_some]; obtain ⟨rn, cn, r1, r2, r3, _⟩ := h.dim.dim.cn
    by_cases h28 : c = 28
    ·rw [jV h28, if_pos h28]
     have ht := ptab hS3 (k := k) hk hkN
     simp only [cond_true]; change (((eT (wS (prog x) (c0 (iB L1 k c) k))).bind _).bind _) = _; rw [ht]; rfl
    ·rw [cQ h28, if_neg h28]
     have ht := pafter hS3 r1 r2 r3 (k := k) hk hkN
     simp only [cond_false]; change (((fg (wS (prog x) (c0 (iB L1 k c) k))).bind _).bind _) = _; rw [ht]; rfl
   by_cases hi : B.inserts = true ∧ c ≠ 28
   ·rw [decide_eq_true hi]; simp only [cond_true, pins hS (n := (k : Int)) rfl hkN hc, hcell, Option.bind_some]
    by_cases hj : ie x.L k < rl x.L k true
    ·rw [if_pos ⟨ho, hj⟩, if_neg (fun e => e.2 hj), if_pos hi]; simp only [Bool.not_true, cond_false, jn]
     exact tail (lL x.L k c) (by rw [og]; exact hl) (pM h.ok (by omega) hc) (by rw [oh (by omega) (by omega)]; exact hA) _ rfl
    ·rw [if_neg (fun e => hj e.2), if_pos ⟨hi, hj⟩]; rfl
   ·rw [decide_eq_false hi, if_neg (fun e => hi e.1), if_neg hi]; simp only [cond_false, jn]
    exact tail x.L hl h.ok hA ((prog x).model, (prog x).alternate, (prog x).size.Rows, (prog x).size.Cols, x.L, (k : Int), (prog x).attrs) (by unfold t7' wS prog; simp only [hk])
theorem pB {m n : Int} {N : Nat} {x : aa} (h : RS m N x) (hn : n ∈ pgs) {c : Int} (hc : By c) (B : ai) : cz ⟨n, B.lock, B.inserts, B.aid⟩ x c = some ((gi n B x c).1, ⟨n, (gi n B x c).2.1.lock, (gi n B x c).2.1.inserts, (gi n B x c).2.1.aid⟩, false, (gi n B x c).2.2) := by
 obtain ⟨hk, hkN⟩ := h.n
 have hl := h.len
 have hle := h.dim.dim.le
 unfold cz gi
 generalize x.Cursor.toNat = k at hk hkN
 have hx : (⟨x.Model, x.Alt, x.Size, x.L, x.Cursor⟩ : aa) = x := rfl
 rw [hk]; simp only [qh h (aQ hkN) hkN, n7 h (aQ hkN) hkN, Option.bind_some]
 have hxk : (⟨x.Model, x.Alt, x.Size, x.L, (k : Int)⟩ : aa) = x := by rw [← hk]
 cases ho : fj x.L k with
 | false =>
  simp only [Bool.not_false, cond_true, bt, Option.bind_some, hxk]
  rfl
 | true =>
  have hA := jM ho
  rw [if_neg (show ¬ (true = false) by simp)]
  simp only [Bool.not_true, cond_false]
  have hnum : ((cond (decide (stI x.L k ≥ 0)) ((bj x (stI x.L k)).bind fun (d6 : aX) => cond d6.Numeric ((dl n c).bind fun (d7 : Bool) => some (!d7)) (some false)) (some false)) : Option Bool) = some (decide (¬ (stI x.L k < 0) ∧ (fld (faI x.L k)).Numeric = true ∧ nO n c = false)) := by
   rw [rnum hn hc]
   by_cases hs : stI x.L k < 0
   ·rw [decide_eq_false (show ¬ (stI x.L k ≥ 0) by omega), decide_eq_false (fun e => e.1 hs)]; rfl
   ·have hf : Fmt x.L := by
     by_cases hf : Fmt x.L
     ·exact hf
     ·rw [gU hf (by omega)] at hs; exact absurd (by omega) hs
    obtain ⟨b, h1, h2, h3⟩ := iv hf (n := k) (by omega)
    rw [decide_eq_true (show stI x.L k ≥ 0 by omega)]
    have hfa : faI x.L k = (rd x.L (b : Int)).FA := by unfold faI; rw [h1]
    rw [hfa, h1]
    simp only [cond_true, mc h (show b < N by omega), Option.bind_some]
    have hb0 : ¬ ((b : Int) < 0) := by omega
    cases (fld (rd x.L (b : Int)).FA).Numeric <;> cases nO n c <;> simp [hb0]
  rw [hnum]; simp only [Option.bind_some]
  by_cases hq : ¬ (stI x.L k < 0) ∧ (fld (faI x.L k)).Numeric = true ∧ nO n c = false
  ·rw [decide_eq_true hq, if_pos hq]; simp only [cond_true, bt, Option.bind_some, hxk]
  ·rw [decide_eq_false hq, if_neg hq]; simp only [cond_false]
   have tail : ∀ L1 : List ad, L1.length = N → (∀ c ∈ L1, COk c) → bc L1 k = false → ∀ d10 : Int × Bool × Int × Int × List ad × Int, d10 = (x.Model, x.Alt, x.Size.Rows, x.Size.Cols, L1, (k : Int)) → (gd ((0 : Int) ≤ (k : Int) ∧ (k : Int) < (d10.2.2.2.2.1.length : Int)) <|
     (bx (⟨d10.1, d10.2.1, (⟨d10.2.2.1, d10.2.2.2.1⟩ : ae), d10.2.2.2.2.1, d10.2.2.2.2.2⟩ : aa) (k : Int) { (rd d10.2.2.2.2.1 (k : Int)) with Char := c, f_Set := 0 }).bind fun (d14 : aa) =>
     (bB d14 (k : Int)).bind fun (d15 : aa × Bool) =>
     (cond (c == 28) ((aY d15.1 (⟨0, 0, 0⟩ : bq)).bind fun (d17 : aa) => some (d17.Model, d17.Alt, d17.Size.Rows, d17.Size.Cols, d17.L, d17.Cursor)) ((aY d15.1 (⟨5, 0, 0⟩ : bq)).bind fun (d18 : aa) => some (d18.Model, d18.Alt, d18.Size.Rows, d18.Size.Cols, d18.L, d18.Cursor))).bind fun (d16 : Int × Bool × Int × Int × List ad × Int) =>
     some ((⟨d16.1, d16.2.1, (⟨d16.2.2.1, d16.2.2.2.1⟩ : ae), d16.2.2.2.2.1, d16.2.2.2.2.2⟩ : aa), (⟨n, B.lock, B.inserts, B.aid⟩ : ap), false, (0 : Int))) = some (rC (wL x (c0 (iB L1 k c) k)) (if c = 28 then ki (c0 (iB L1 k c) k) k else jG (c0 (iB L1 k c) k) k), ⟨n, B.lock, B.inserts, B.aid⟩, false, 0) := by
    intro L1 g1 g2 g3 d10 hd; subst hd
    have hR1 := h.w g1 g2
    rw [aV (by simp only; omega)]
    have hset := rset hR1 hkN g3 hc
    have hw : (⟨x.Model, x.Alt, ⟨x.Size.Rows, x.Size.Cols⟩, L1, (k : Int)⟩ : aa) = wL x L1 := by unfold wL; rw [hk]
    simp only [hw]; change ((bx (wL x L1) (k : Int) (ent (rd (wL x L1).L (k : Int)) c)).bind _) = _; rw [hset]; simp only [Option.bind_some]
    have g4 : (c0 (iB L1 k c) k).length = N := by rw [iW, jd]; exact g1
    have hR2 := h.w (L := iB L1 k c) (by rw [jd]; exact g1) (m6 g2 (by omega) g3 hc)
    have hR3 := h.w g4 (ko (m6 g2 (by omega) g3 hc) (by rw [jd]; omega))
    have hm := rmod hR2 (aQ hkN) hkN
    change ((bB (wL x (iB L1 k c)) (k : Int)).bind _) = _; rw [hm]; simp only [Option.bind_some]; obtain ⟨rn, cn, r1, r2, r3, _⟩ := h.dim.dim.cn
    by_cases h28 : c = 28
    ·rw [jV h28, if_pos h28]
     have ht := rdo0 hR3 r1 r2 r3 (k := k) hk hkN
     simp only [cond_true]; change (((aY (wL x (c0 (iB L1 k c) k)) _).bind _).bind _) = _; rw [ht]; rfl
    ·rw [cQ h28, if_neg h28]
     have ht := rdo5 hR3 r1 r2 r3 (k := k) hk hkN
     simp only [cond_false]; change (((aY (wL x (c0 (iB L1 k c) k)) _).bind _).bind _) = _; rw [ht]; rfl
   have hxx := rins h (n := (k : Int)) (aQ hkN) hkN hc
   cases hB : B.inserts with
   | false =>
    rw [if_neg (by rintro ⟨⟨e, _⟩, _⟩; cases e), if_neg (by rintro ⟨e, _⟩; cases e)]
    simp only [cond_false, Option.bind_some]
    have := tail x.L hl h.ok hA _ rfl
    rw [hB] at this
    exact this.trans (by simp only [hB])
   | true =>
    simp only [cond_true]
    by_cases h28 : c = 28
    ·rw [ly h28, if_neg (by rintro ⟨⟨_, e⟩, _⟩; exact e h28), if_neg (by rintro ⟨_, e⟩; exact e h28)]
     simp only [cond_false, Option.bind_some]
     have := tail x.L hl h.ok hA _ rfl
     rw [hB] at this
     exact this.trans (by simp only [hB])
    ·rw [lw h28]; simp only [cond_true, hxx, Option.bind_some]
     by_cases hj : ie x.L k < rl x.L k true
     ·rw [if_pos ⟨ho, hj⟩, if_neg (fun e => e.2 hj), if_pos ⟨trivial, h28⟩]; simp only [Bool.not_true, cond_false]
      have := tail (lL x.L k c) (by rw [og]; exact hl) (pM h.ok (by omega) hc) (by rw [oh (by omega) (by omega)]; exact hA) (x.Model, x.Alt, x.Size.Rows, x.Size.Cols, lL x.L k c, (k : Int)) rfl
      rw [hB] at this
      have hwc : (wL x (lL x.L k c)).Cursor = (k : Int) := hk
      simp only [hwc]
      exact this.trans (by simp only [hB])
     ·rw [if_neg (fun e => hj e.2), if_pos ⟨⟨trivial, h28⟩, hj⟩]; simp only [Bool.not_false, cond_true, bt, Option.bind_some]
end Go.Vt
set_option linter.unusedVariables false
set_option linter.unusedSimpArgs false
set_option maxRecDepth 100000
namespace Go.Vt
theorem sj {n : Int} (h : n ∈ pgs) : (62 : Int) ∈ qY n ∧ (63 : Int) ∈ qY n := by
 simp only [pgs, List.mem_cons, List.not_mem_nil, or_false] at h
 rcases h with rfl | rfl | rfl | rfl | rfl | rfl <;> exact ⟨by decide +kernel, by decide +kernel⟩
theorem cd_pos {n z : Int} (h : n ∈ pgs) (hz : z ∈ sgT n) : 0 ≤ cdI n z := by
 have hlen := rh h
 obtain ⟨i, hi, hv⟩ := List.getElem_of_mem hz
 have hle : cdN n z ≤ 256 := jt _ _
 have : cdN n z < 256 := by
  rcases Nat.lt_or_ge (cdN n z) 256 with h1 | h1
  ·exact h1
  ·exfalso
   have h2 : (!(sgI n (i : Int) == z)) = true := js (p := fun i : Nat => !(sgI n (i : Int) == z)) (n := 256) (by unfold cdN at h1; omega)
   unfold sgI at h2; rw [rdn hi, hv] at h2
   simp at h2
 unfold cdI; rw [if_pos this]; omega
theorem ta {n : Int} (h : n ∈ pgs) : 0 ≤ cdI n 62 := cd_pos h (by rw [(iu h).1]; exact (sj h).1)
theorem s9 {n : Int} (h : n ∈ pgs) : 0 ≤ cdI n 63 := cd_pos h (by rw [(iu h).1]; exact (sj h).2)
theorem lX {n z : Int} (h : 0 ≤ cdI n z) : By (cdI n z) := ⟨h, (cdI_lt n z).2⟩
theorem qk {L : List ad} {k p : Nat} {z : Int} (hk : k < L.length) (hp : p < L.length) (hne : stI L k ≠ (p : Int)) : cq (c0 L k) p z = c0 (cq L p z) k := by
 have hl1 : (cq L p z).length = L.length := fN _ _ _
 have hst : stI (cq L p z) k = stI L k := stI_isA hl1 (fun q hq => mS hp hq) hk
 by_cases hf : Fmt L
 ·obtain ⟨b, h1, h2, h3⟩ := iv hf hk
  have hbp : b ≠ p := fun e => hne (by rw [h1, e])
  unfold c0
  rw [hst, h1, if_neg (by omega), if_neg (by omega), Int.toNat_natCast]
  have hA : bc (L.set b (mdf (rd L (b : Int)))) p = bc L p := by
   unfold bc; rw [ij h2 hp, if_neg hbp]
  have hrb : rd (cq L p z) (b : Int) = rd L (b : Int) := by
   unfold cq
   split
   ·rfl
   ·rw [ij hp h2, if_neg (fun e => hbp e.symm)]
  rw [hrb]; unfold cq; rw [hA, ij h2 hp, if_neg hbp]
  cases bc L p with
  | true => rfl
  | false =>
   simp only [Bool.false_eq_true, if_false]; exact List.set_comm _ _ hbp
 ·unfold c0; rw [hst, gU hf hk]; rfl
def atN (L : List ad) (k : Nat) : Nat := ((stI L k).toNat + 1) % L.length
/-- what is answered: the screen, the board, whether it was sent, an error -/
def dW (n : Int) (B : ai) (x : aa) : aa × ai × Bool × Int :=
 let L := x.L
 let k := x.Cursor.toNat
 if stI L k < 0 ∨ bc L k = true ∨ ¬ ((fld (faI L k)).Display = 1 ∨ (fld (faI L k)).Display = 2) then (x, { B with lock := 2 }, false, 13)
 else
  let d := kJ n (rd L (atN L k : Int)).Char
  if d = 0 ∨ (d < 3 ∧ (fld (faI L k)).Protected = true) then (x, { B with lock := 2 }, false, 13)
  else if d = 1 then (wL x (c0 (cq L (atN L k) (cdI n 62)) k), B, false, 0)
  else if d = 2 then (wL x (cq L (atN L k) (cdI n 63)), B, false, 0)
  else if d = 3 then (wL x (c0 L k), ⟨1, false, 126⟩, true, 0)
  else (wL x (c0 L k), ⟨1, false, 125⟩, true, 0)
theorem s7 {m n : Int} {N : Nat} {x : aa} (h : RS m N x) (hn : n ∈ pgs) (B : ai) : RS m N (dW n B x).1 := by
 obtain ⟨hk, hkN⟩ := h.n
 have hl := h.len
 have hp : atN x.L x.Cursor.toNat < x.L.length := Nat.mod_lt _ (by omega)
 have w1 : RS m N (wL x (c0 x.L x.Cursor.toNat)) := h.w (by rw [iW]; exact hl) (ko h.ok (by omega))
 unfold dW; simp only
 split
 ·exact h
 ·split
  ·exact h
  ·split
   ·exact h.w (by rw [iW, fN]; exact hl) (ko (lE h.ok hp (lX (ta hn))) (by rw [fN]; omega))
   ·split
    ·exact h.w (by rw [fN]; exact hl) (lE h.ok hp (lX (s9 hn)))
    ·split
     ·exact w1
     ·exact w1
theorem oF (n c : Int) : kJ n c = 0 ∨ kJ n c = 1 ∨ kJ n c = 2 ∨ kJ n c = 3 ∨ kJ n c = 4 := by
 unfold kJ; repeat' split
 all_goals simp
theorem pchoose {m n : Int} {N : Nat} {x : aa} (h : RS m N x) (hn : n ∈ pgs) (B : ai) : eN B (prog x) ⟨n⟩ = some (prog (dW n B x).1, ⟨n⟩, (dW n B x).2.1, (dW n B x).2.2.1, (dW n B x).2.2.2) := by
 obtain ⟨hk, hkN⟩ := h.n
 have hl := h.len
 have hle := h.dim.dim.le
 have hS := h.lk.ss
 unfold eN ba dW
 have hcur : (prog x).cursor = x.Cursor := rfl
 have hcell : (prog x).cells = x.L := rfl
 simp only [Option.bind_some, hcur]
 generalize x.Cursor.toNat = k at hk hkN
 rw [hk]; simp only [pE hS (aQ hkN) hkN, pfof hS (aQ hkN) hkN, hcell, Option.bind_some]
 have hA : (rd x.L (k : Int)).Attr = bc x.L k := rfl
 by_cases hs : stI x.L k < 0
 ·rw [if_pos hs, if_pos (.inl hs)]; rfl
 ·rw [if_neg hs]
  have hf : Fmt x.L := by
   by_cases hf : Fmt x.L
   ·exact hf
   ·rw [gU hf (by omega)] at hs; exact absurd (by omega) hs
  obtain ⟨b, h1, h2, h3⟩ := iv hf (n := k) (by omega)
  have hd4 : ((cond (!true) (some true) ((aK (prog x) (k : Int)).bind fun (d5 : ad) => cond d5.Attr (some true) ((dJ (fld (faI x.L k))).bind fun (d6 : Bool) => some (!d6)))) : Option Bool) = some (decide (bc x.L k = true ∨ ¬ ((fld (faI x.L k)).Display = 1 ∨ (fld (faI x.L k)).Display = 2))) := by
   simp only [Bool.not_true, cond_false, g8 hS, aQ hkN, hcell, Option.bind_some, hA]
   cases bc x.L k with
   | true => simp
   | false =>
    unfold dJ
    by_cases e1 : (fld (faI x.L k)).Display = 1
    ·simp [e1]
    ·by_cases e2 : (fld (faI x.L k)).Display = 2
     ·simp [e2]
     ·rw [cQ e1, cQ e2]; simp [e1, e2]
  rw [hd4]; simp only [Option.bind_some]
  by_cases hr : bc x.L k = true ∨ ¬ ((fld (faI x.L k)).Display = 1 ∨ (fld (faI x.L k)).Display = 2)
  ·rw [decide_eq_true hr, if_pos (.inr hr)]; rfl
  ·rw [decide_eq_false hr, if_neg (by rintro (e | e); exact hs e; exact hr e)]
   have hp : (b + 1) % N < N := Nat.mod_lt _ (by omega)
   have w1 : w64 ((b : Int) + 1) = ((b + 1 : Nat) : Int) := mH (b := 1) (by omega)
   have hmod : ((b + 1 : Nat) : Int) % (N : Int) = (((b + 1) % N : Nat) : Int) := (Int.natCast_emod _ _).symm
   have hat : atN x.L k = (b + 1) % N := by unfold atN; rw [h1, hl, Int.toNat_natCast]
   rw [hat, h1]
   have hby : By (rd x.L (((b + 1) % N : Nat) : Int)).Char := (h.ok _ (fG (by omega))).char
   simp only [cond_false, w1, g8 hS, hmod, hcell, Option.bind_some, pdes hn hby]
   generalize hdd : kJ n (rd x.L (((b + 1) % N : Nat) : Int)).Char = d
   have hcs := oF n (rd x.L (((b + 1) % N : Nat) : Int)).Char
   rw [hdd] at hcs
   have hne : stI x.L k ≠ (((b + 1) % N : Nat) : Int) := by
    rw [h1]; intro e
    have e' : b = (b + 1) % N := by omega
    by_cases h9 : b + 1 < N
    ·rw [Nat.mod_eq_of_lt h9] at e'; omega
    ·rw [show b + 1 = N by omega, Nat.mod_self] at e'; omega
   have hm0 := sR hS (aQ hkN) hkN
   have hput : ∀ z, bi (prog x) ((b + 1 : Nat) : Int) z = some (wS (prog x) (cq x.L ((b + 1) % N) z)) := fun z => sQ hS hmod hp z
   have hmp : ∀ z, By z → bF (wS (prog x) (cq x.L ((b + 1) % N) z)) (k : Int) = some (wS (prog x) (c0 (cq x.L ((b + 1) % N) z) k), decide (0 ≤ stI (cq x.L ((b + 1) % N) z) k)) := fun z hz => by
    have hS2 := hS.w (L := cq x.L ((b + 1) % N) z) (by rw [fN]; exact hl) (lE h.ok (by omega) hz)
    exact sR hS2 (aQ hkN) hkN
   have c62 : eh ⟨n⟩ 62 = some (cdI n 62, true) := by rw [pcode hn, if_neg (by have := ta hn; omega)]
   have c63 : eh ⟨n⟩ 63 = some (cdI n 63, true) := by rw [pcode hn, if_neg (by have := s9 hn; omega)]
   rcases hcs with rfl | rfl | rfl | rfl | rfl
   ·rfl
   ·cases hpr : (fld (faI x.L k)).Protected with
    | true => rw [if_pos (.inr ⟨by omega, rfl⟩)]; rfl
    | false =>
     rw [if_neg (by rintro (e | ⟨_, e⟩); omega; cases e)]
     simp only [cQ (show (1 : Int) ≠ 0 by omega), show decide ((1 : Int) < 3) = true from rfl, cond_false, cond_true, Option.bind_some, show ((1 : Int) == 1) = true from rfl, dm, c62, w1, hput, jn, if_true]
     change ((bF (wS (prog x) (cq x.L ((b + 1) % N) (cdI n 62))) (k : Int)).bind _) = _; rw [hmp _ (lX (ta hn))]; rfl
   ·cases hpr : (fld (faI x.L k)).Protected with
    | true => rw [if_pos (.inr ⟨by omega, rfl⟩)]; rfl
    | false =>
     rw [if_neg (by rintro (e | ⟨_, e⟩); omega; cases e)]
     simp only [cQ (show (2 : Int) ≠ 0 by omega), show decide ((2 : Int) < 3) = true from rfl, cond_false, cond_true, Option.bind_some, show ((2 : Int) == 1) = false from rfl, show ((2 : Int) == 2) = true from rfl, dm, c63, w1, hput, jn, esc, if_neg (show ¬ (2 : Int) = 1 by omega), if_true]
     rfl
   ·rw [if_neg (by rintro (e | ⟨e, _⟩) <;> omega), if_neg (by omega), if_neg (by omega), if_pos rfl]
    simp only [cQ (show (3 : Int) ≠ 0 by omega), show decide ((3 : Int) < 3) = false from rfl, cond_false, cond_true, Option.bind_some, show ((3 : Int) == 1) = false from rfl, show ((3 : Int) == 2) = false from rfl, show ((3 : Int) == 3) = true from rfl, dN, jn]
    have hmm : bF ⟨(prog x).model, (prog x).alternate, ⟨(prog x).size.Rows, (prog x).size.Cols⟩, x.L, (k : Int), (prog x).attrs⟩ (k : Int) = some (wS (prog x) (c0 x.L k), decide (0 ≤ stI x.L k)) := by rw [← hk] at hm0 ⊢; exact hm0
    rw [hmm]; rfl
   ·rw [if_neg (by rintro (e | ⟨e, _⟩) <;> omega), if_neg (by omega), if_neg (by omega), if_neg (by omega)]
    simp only [cQ (show (4 : Int) ≠ 0 by omega), show decide ((4 : Int) < 3) = false from rfl, cond_false, cond_true, Option.bind_some, show ((4 : Int) == 1) = false from rfl, show ((4 : Int) == 2) = false from rfl, show ((4 : Int) == 3) = false from rfl, dN, jn]
    have hmm : bF ⟨(prog x).model, (prog x).alternate, ⟨(prog x).size.Rows, (prog x).size.Cols⟩, x.L, (k : Int), (prog x).attrs⟩ (k : Int) = some (wS (prog x) (c0 x.L k), decide (0 ≤ stI x.L k)) := by rw [← hk] at hm0 ⊢; exact hm0
    rw [hmm]; rfl
theorem rchoose {m n : Int} {N : Nat} {x : aa} (h : RS m N x) (hn : n ∈ pgs) (B : ai) : dY ⟨n, B.lock, B.inserts, B.aid⟩ x = some ((dW n B x).1, ⟨n, (dW n B x).2.1.lock, (dW n B x).2.1.inserts, (dW n B x).2.1.aid⟩, (dW n B x).2.2.1, (dW n B x).2.2.2) := by
 obtain ⟨hk, hkN⟩ := h.n
 have hl := h.len
 have hle := h.dim.dim.le
 unfold dY dW
 generalize x.Cursor.toNat = k at hk hkN
 rw [hk]; simp only [n7 h (aQ hkN) hkN, Option.bind_some]
 have hA : (rd x.L (k : Int)).Attr = bc x.L k := rfl
 by_cases hs : stI x.L k < 0
 ·rw [decide_eq_true hs, if_pos (.inl hs)]; rfl
 ·rw [decide_eq_false hs]
  have hf : Fmt x.L := by
   by_cases hf : Fmt x.L
   ·exact hf
   ·rw [gU hf (by omega)] at hs; exact absurd (by omega) hs
  obtain ⟨b, h1, h2, h3⟩ := iv hf (n := k) (by omega)
  simp only [cond_false]
  rw [aV (by omega), hA]
  simp only [Option.bind_some]
  cases hAA : bc x.L k with
  | true => rw [if_pos (.inr (.inl rfl))]; rfl
  | false =>
   have hp : (b + 1) % N < N := Nat.mod_lt _ (by omega)
   have w1 : w64 ((b : Int) + 1) = ((b + 1 : Nat) : Int) := mH (b := 1) (by omega)
   have hmod : ((b + 1 : Nat) : Int) % (N : Int) = (((b + 1) % N : Nat) : Int) := (Int.natCast_emod _ _).symm
   have hat : atN x.L k = (b + 1) % N := by unfold atN; rw [h1, hl, Int.toNat_natCast]
   have hfa : faI x.L k = (rd x.L (b : Int)).FA := by unfold faI; rw [h1]
   have hby : By (rd x.L (((b + 1) % N : Nat) : Int)).Char := (h.ok _ (fG (by omega))).char
   rw [hat, h1]
   simp only [cond_false, mc h (show b < N by omega), w1, fL h, hmod, Option.bind_some]
   rw [aV (by omega)]
   simp only [rdes hn hby, Option.bind_some, hfa]
   generalize hdd : kJ n (rd x.L (((b + 1) % N : Nat) : Int)).Char = d
   have hcs := oF n (rd x.L (((b + 1) % N : Nat) : Int)).Char
   rw [hdd] at hcs
   generalize hF : fld (rd x.L (b : Int)).FA = F
   have hq : ((cond (F.Display != 1) (cond (F.Display != 2) (some true) (cond (d == 0) (some true) (cond (decide (d < 3)) (some F.Protected) (some false)))) (cond (d == 0) (some true) (cond (decide (d < 3)) (some F.Protected) (some false)))) : Option Bool) = some (decide (¬ (F.Display = 1 ∨ F.Display = 2) ∨ d = 0 ∨ (d < 3 ∧ F.Protected = true))) := by
    by_cases e1 : F.Display = 1
    ·rw [ly e1]; rcases hcs with rfl | rfl | rfl | rfl | rfl <;> cases F.Protected <;> simp [e1]
    ·rw [lw e1]
     by_cases e2 : F.Display = 2
     ·rw [ly e2]; rcases hcs with rfl | rfl | rfl | rfl | rfl <;> cases F.Protected <;> simp [e2]
     ·rw [lw e2]; simp [e1, e2]
   rw [hq]; simp only [Option.bind_some]
   have hb0 : ¬ ((b : Int) < 0) := by omega
   by_cases hD : ¬ (F.Display = 1 ∨ F.Display = 2)
   ·rw [decide_eq_true (.inl hD), if_pos (.inr (.inr hD))]; simp only [cond_true, bt, Option.bind_some]
   ·rw [if_neg (by rintro (e | e | e); exact hb0 e; cases e; exact hD e)]
    by_cases hZ : d = 0 ∨ (d < 3 ∧ F.Protected = true)
    ·rw [decide_eq_true (.inr hZ), if_pos hZ]; simp only [cond_true, bt, Option.bind_some]
    ·rw [decide_eq_false (by rintro (e | e); exact hD e; exact hZ e), if_neg hZ]
     simp only [cond_false]
     have hne : stI x.L k ≠ (((b + 1) % N : Nat) : Int) := by
      rw [h1]; intro e
      have e' : b = (b + 1) % N := by omega
      by_cases h9 : b + 1 < N
      ·rw [Nat.mod_eq_of_lt h9] at e'; omega
      ·rw [show b + 1 = N by omega, Nat.mod_self] at e'; omega
     have hm0 := rmod h (aQ hkN) hkN
     have hput : ∀ z, By z → bf x ((b + 1 : Nat) : Int) z = some (wL x (cq x.L ((b + 1) % N) z)) := fun z hz => sP h hmod hp hz
     have hR2 := h.w (L := c0 x.L k) (by rw [iW]; exact hl) (ko h.ok (by omega))
     have hput2 : ∀ z, By z → bf (wL x (c0 x.L k)) ((b + 1 : Nat) : Int) z = some (wL x (cq (c0 x.L k) ((b + 1) % N) z)) := fun z hz => sP hR2 hmod hp hz
     have y62 := lX (ta hn)
     have y63 := lX (s9 hn)
     rcases hcs with rfl | rfl | rfl | rfl | rfl
     ·exact absurd (.inl rfl) hZ
     ·simp only [show ((1 : Int) == 2) = false from rfl, show ((1 : Int) == 1) = true from rfl, cond_false, cond_true, hm0, Option.bind_some, qj hn, mG y62, hput2 _ y62, if_true]
      rw [qk (by omega) (by omega) hne]
     ·simp only [show ((2 : Int) == 2) = true from rfl, cond_true, Option.bind_some, qj hn, mG y63, hput _ y63, if_neg (show ¬ (2 : Int) = 1 by omega), if_true]
     ·simp only [show ((3 : Int) == 2) = false from rfl, show ((3 : Int) == 1) = false from rfl, show ((3 : Int) == 3) = true from rfl, cond_false, cond_true, hm0, Option.bind_some, ci, if_neg (show ¬ (3 : Int) = 1 by omega), if_neg (show ¬ (3 : Int) = 2 by omega), if_true]
     ·simp only [show ((4 : Int) == 2) = false from rfl, show ((4 : Int) == 1) = false from rfl, show ((4 : Int) == 3) = false from rfl, cond_false, hm0, Option.bind_some, ci, if_neg (show ¬ (4 : Int) = 1 by omega), if_neg (show ¬ (4 : Int) = 2 by omega), if_neg (show ¬ (4 : Int) = 3 by omega)]
end Go.Vt
