/- Sizes, places, cells of the program's screen and the document's. No conditions. -/
import Derived.Test.YteebpkekdkkmhaaGreatDoorVpA
import Derived.Test.YteebpkekdkkmhaaGreatDoorVmEQ
set_option linter.unusedVariables false
set_option linter.unusedSimpArgs false
namespace Go.Vt
structure Dim (r c : Int) (N : Nat) : Prop where
  d : (r = 24 ∧ c = 80 ∧ N = 1920) ∨ (r = 32 ∧ c = 80 ∧ N = 2560) ∨ (r = 43 ∧ c = 80 ∧ N = 3440) ∨ (r = 27 ∧ c = 132 ∧ N = 3564)
theorem Dim.le {r c : Int} {N : Nat} (h : Dim r c N) : 1920 ≤ N ∧ N ≤ 3564 := by rcases h.d with ⟨_, _, h⟩ | ⟨_, _, h⟩ | ⟨_, _, h⟩ | ⟨_, _, h⟩ <;> omega
/-- a whole number as Go has it -/
def I64 (n : Int) : Prop := -9223372036854775808 ≤ n ∧ n < 9223372036854775808
theorem valid_ok {r c : Int} {N : Nat} (h : Dim r c N) : m_addr_Size_Valid ⟨r, c⟩ = some true := by
  rcases h.d with ⟨rfl, rfl, rfl⟩ | ⟨rfl, rfl, rfl⟩ | ⟨rfl, rfl, rfl⟩ | ⟨rfl, rfl, rfl⟩ <;> decide +kernel
theorem cells_ok {r c : Int} {N : Nat} (h : Dim r c N) : m_addr_Size_Cells ⟨r, c⟩ = some (N : Int) := by
  rcases h.d with ⟨rfl, rfl, rfl⟩ | ⟨rfl, rfl, rfl⟩ | ⟨rfl, rfl, rfl⟩ | ⟨rfl, rfl, rfl⟩ <;> decide +kernel
theorem tmod_cases {n : Int} {N : Nat} (hN : 0 < N) : (0 ≤ n.tmod N ∧ n.tmod N = n % N) ∨ (n.tmod N < 0 ∧ n.tmod N + N = n % N) := by
  have hN' : (0 : Int) < N := by omega
  have h3 := Int.emod_nonneg n (show (N : Int) ≠ 0 by omega)
  have h4 := Int.emod_lt_of_pos n hN'
  by_cases h : 0 ≤ n
  · left
    have h1 := Int.tmod_eq_emod_of_nonneg (b := (N : Int)) h
    exact ⟨by rw [h1]; exact h3, h1⟩
  · have h1 : n.tmod N = -((-n) % N) := by
      rw [← Int.tmod_eq_emod_of_nonneg (show 0 ≤ -n by omega), Int.neg_tmod]; omega
    have h5 := Int.emod_nonneg (-n) (show (N : Int) ≠ 0 by omega)
    have h6 := Int.emod_lt_of_pos (-n) hN'
    have h7 : n = N * (n / N) + n % N := (Int.mul_ediv_add_emod n N).symm
    have h8 : -n = N * (-n / N) + (-n) % N := (Int.mul_ediv_add_emod (-n) N).symm
    have h9 : (N : Int) * (n / N + -n / N) + (n % N + (-n) % N) = 0 := by rw [Int.mul_add]; omega
    generalize hq : n / (N : Int) + -n / (N : Int) = q at h9
    by_cases hz : (-n) % (N : Int) = 0
    · left
      have : q = 0 := by
        rcases Int.lt_trichotomy q 0 with hq0 | hq0 | hq0
        · have : (N : Int) * q ≤ N * (-1) := Int.mul_le_mul_of_nonneg_left (by omega) (by omega)
          omega
        · exact hq0
        · have : (N : Int) * 1 ≤ N * q := Int.mul_le_mul_of_nonneg_left (by omega) (by omega)
          omega
      subst this
      rw [Int.mul_zero] at h9
      exact ⟨by omega, by omega⟩
    · right
      have : q = -1 := by
        rcases Int.lt_trichotomy q (-1) with hq0 | hq0 | hq0
        · have : (N : Int) * q ≤ N * (-2) := Int.mul_le_mul_of_nonneg_left (by omega) (by omega)
          omega
        · exact hq0
        · have : (N : Int) * 0 ≤ N * q := Int.mul_le_mul_of_nonneg_left (by omega) (by omega)
          omega
      subst this
      exact ⟨by omega, by omega⟩
theorem rest_ok {n : Int} {N : Nat} (hN : 0 < N) (h2 : N ≤ 1000000) : m_addr_rest n N = some (n % N) := by
  unfold m_addr_rest
  rw [gd_pos (by omega)]
  have h4 := Int.emod_lt_of_pos n (show (0 : Int) < N by omega)
  have h5 := Int.emod_nonneg n (show (N : Int) ≠ 0 by omega)
  rcases tmod_cases (n := n) hN with ⟨h, h3⟩ | ⟨h, h3⟩
  · have d1 : decide (n.tmod N < 0) = false := decide_eq_false (by omega)
    simp only [d1, cond_false, Option.bind_some]
    rw [h3]
  · have d1 : decide (n.tmod N < 0) = true := decide_eq_true h
    simp only [d1, cond_true, Option.bind_some]
    rw [h3, w64_in (by omega) (by omega)]
theorem wrap_ok {r c : Int} {N : Nat} (h : Dim r c N) (n : Int) : m_addr_Size_Wrap ⟨r, c⟩ n = some (n % N) := by
  have := h.le
  unfold m_addr_Size_Wrap
  simp only [valid_ok h, cells_ok h, Option.bind_some, Bool.not_true, cond_false]
  rw [rest_ok (by omega) (by omega)]; rfl
/-! ### the document's -/
theorem rcells_ok {r c : Int} {N : Nat} (h : Dim r c N) : m_vitrineref04_Cells ⟨r, c⟩ = some (N : Int) := by
  rcases h.d with ⟨rfl, rfl, rfl⟩ | ⟨rfl, rfl, rfl⟩ | ⟨rfl, rfl, rfl⟩ | ⟨rfl, rfl, rfl⟩ <;> decide +kernel
theorem mod_ok {n : Int} {N : Nat} (hN : 0 < N) (h2 : N ≤ 1000000) : m_vitrineref04_Mod n N = some (n % N) := by
  unfold m_vitrineref04_Mod
  have d1 : decide ((N : Int) < 1) = false := decide_eq_false (by omega)
  have h4 := Int.emod_lt_of_pos n (show (0 : Int) < N by omega)
  have h5 := Int.emod_nonneg n (show (N : Int) ≠ 0 by omega)
  simp only [d1, cond_false]
  rw [gd_pos (by omega), gd_pos (by omega)]
  rcases tmod_cases (n := n) hN with ⟨h, h3⟩ | ⟨h, h3⟩
  · rw [w64_in (by omega) (by omega), h3, Int.tmod_eq_emod_of_nonneg (by omega), Int.add_emod_right, Int.emod_emod]
  · rw [w64_in (by omega) (by omega), h3, Int.tmod_eq_emod_of_nonneg (by omega), Int.emod_emod]
theorem rwrap_ok {r c : Int} {N : Nat} (h : Dim r c N) (n : Int) : m_vitrineref04_Wrap ⟨r, c⟩ n = some (n % N) := by
  have := h.le
  unfold m_vitrineref04_Wrap
  simp only [rcells_ok h, Option.bind_some]
  rw [mod_ok (by omega) (by omega)]; rfl
/-! ### cells -/
abbrev zc : Vapi_Cell := ⟨0, false, 0, 0, 0, 0⟩
/-- a cell as it may stand -/
structure COk (c : Vapi_Cell) : Prop where
  char : By c.Char
  fa : By c.FA
  high : By c.High
  color : By c.Color
  set : By c.f_Set
  attr : c.Attr = true → c.Char = 0 ∧ iband .u8 c.FA 61 = c.FA
  plain : c.Attr = false → c.FA = 0
def fit (c : Vapi_Cell) : Vapi_Cell := if c.Attr then { c with Char := 0, FA := iband .u8 c.FA 61 } else { c with FA := 0 }
theorem COk.fit {c : Vapi_Cell} (h : COk c) : fit c = c := by
  unfold Vt.fit
  cases ha : c.Attr with
  | true => obtain ⟨h1, h2⟩ := h.attr ha; simp only [if_true]; rw [h2, ← h1]; cases c; simp_all
  | false => have h1 := h.plain ha; simp only [Bool.false_eq_true, if_false]; rw [← h1]; cases c; simp_all
instance (n : Int) : Decidable (By n) := by unfold By; infer_instance
theorem band61 : ∀ f : Fin 256, By (iband .u8 (f.val : Int) 61) ∧ iband .u8 (iband .u8 (f.val : Int) 61) 61 = iband .u8 (f.val : Int) 61 ∧ m_vitrineref05_Six (f.val : Int) = some (iband .u8 (f.val : Int) 61) := by decide +kernel
/-- what is told of a cell: bytes -/
structure CB (c : Vapi_Cell) : Prop where
  char : By c.Char
  fa : By c.FA
  high : By c.High
  color : By c.Color
  set : By c.f_Set
theorem COk.cb {c : Vapi_Cell} (h : COk c) : CB c := ⟨h.char, h.fa, h.high, h.color, h.set⟩
theorem by0 : By 0 := ⟨by omega, by omega⟩
theorem fit_ok {c : Vapi_Cell} (h : CB c) : COk (Vt.fit c) := by
  unfold Vt.fit
  obtain ⟨f, hf⟩ := h.fa.fin
  obtain ⟨b1, b2, _⟩ := band61 f
  rw [hf] at b1 b2
  cases ha : c.Attr with
  | true => simp only [if_true]; exact ⟨by0, b1, h.high, h.color, h.set, fun _ => ⟨rfl, b2⟩, (fun e => by cases e)⟩
  | false => simp only [Bool.false_eq_true, if_false]; exact ⟨h.char, by0, h.high, h.color, h.set, (fun e => by cases e), fun _ => rfl⟩
theorem zc_ok : COk zc := ⟨by0, by0, by0, by0, by0, (fun h => by cases h), fun _ => rfl⟩
theorem rfit_ok {c : Vapi_Cell} (h : CB c) : m_vitrineref12_Fit c = some (Vt.fit c) := by
  obtain ⟨f, hf⟩ := h.fa.fin
  obtain ⟨_, _, b3⟩ := band61 f
  rw [hf] at b3
  unfold m_vitrineref12_Fit Vt.fit
  cases ha : c.Attr with
  | true => simp only [cond_true, b3, Option.bind_some, if_true]
  | false => simp only [cond_false, Option.bind_some, Bool.false_eq_true, if_false]
/-! ### the document's space -/
/-- model, and which size -/
def DimOf (m : Int) (alt : Bool) (r c : Int) (N : Nat) : Prop := if alt then (m = 2 ∧ r = 24 ∧ c = 80 ∧ N = 1920) ∨ (m = 3 ∧ r = 32 ∧ c = 80 ∧ N = 2560) ∨ (m = 4 ∧ r = 43 ∧ c = 80 ∧ N = 3440) ∨ (m = 5 ∧ r = 27 ∧ c = 132 ∧ N = 3564) else r = 24 ∧ c = 80 ∧ N = 1920
theorem DimOf.dim {m : Int} {alt : Bool} {r c : Int} {N : Nat} (h : DimOf m alt r c N) : Dim r c N := by
  unfold DimOf at h
  cases alt with
  | true =>
    simp only [if_true] at h
    rcases h with ⟨_, h⟩ | ⟨_, h⟩ | ⟨_, h⟩ | ⟨_, h⟩
    · exact ⟨.inl h⟩
    · exact ⟨.inr (.inl h)⟩
    · exact ⟨.inr (.inr (.inl h))⟩
    · exact ⟨.inr (.inr (.inr h))⟩
  | false => simp only [Bool.false_eq_true, if_false] at h; exact ⟨.inl h⟩
structure RS (m : Int) (N : Nat) (x : Vvitrineref12_Space) : Prop where
  model : x.Model = m
  dim : DimOf m x.Alt x.Size.Rows x.Size.Cols N
  len : x.L.length = N
  ok : ∀ c ∈ x.L, COk c
  cur : 0 ≤ x.Cursor ∧ x.Cursor < N
theorem rs_wrap {m : Int} {N : Nat} {x : Vvitrineref12_Space} (h : RS m N x) (n : Int) : m_vitrineref12_Wrap x n = some (n % N) := by
  unfold m_vitrineref12_Wrap
  rw [show x.Size = ⟨x.Size.Rows, x.Size.Cols⟩ from rfl, rwrap_ok h.dim.dim]; rfl
theorem emod_nat (n : Int) {N : Nat} (h : 0 < N) : ∃ k : Nat, n % N = (k : Int) ∧ k < N := by
  have h4 := Int.emod_lt_of_pos n (show (0 : Int) < N by omega)
  have h5 := Int.emod_nonneg n (show (N : Int) ≠ 0 by omega)
  exact ⟨(n % N).toNat, by omega, by omega⟩
theorem rs_at {m : Int} {N : Nat} {x : Vvitrineref12_Space} (h : RS m N x) (n : Int) : m_vitrineref12_At x n = some (rd x.L (n % N)) := by
  have hd := h.dim.dim.le
  obtain ⟨k, hk, hlt⟩ := emod_nat n (N := N) (by omega)
  unfold m_vitrineref12_At
  have hl := h.len
  simp only [rs_wrap h, Option.bind_some]
  rw [gd_pos (by omega)]
theorem rd_mem {τ : Type} [Inhabited τ] {l : List τ} {n : Int} (h : 0 ≤ n ∧ n < l.length) : rd l n ∈ l := List.mem_of_getElem? (rd_eq h)
theorem rs_set {m : Int} {N : Nat} {x : Vvitrineref12_Space} (h : RS m N x) (n : Int) {c : Vapi_Cell} (hc : CB c) :
    m_vitrineref12_Set x n c = some ⟨x.Model, x.Alt, x.Size, x.L.set (n % N).toNat (Vt.fit c), x.Cursor⟩ ∧ RS m N ⟨x.Model, x.Alt, x.Size, x.L.set (n % N).toNat (Vt.fit c), x.Cursor⟩ := by
  have hd := h.dim.dim.le
  obtain ⟨k, hk, hlt⟩ := emod_nat n (N := N) (by omega)
  have hl := h.len
  refine ⟨?_, h.model, h.dim, by simp [hl], fun d hd' => ?_, h.cur⟩
  · unfold m_vitrineref12_Set
    simp only [rs_wrap h, rfit_ok hc, Option.bind_some]
    rw [gd_pos (by omega)]
  · rcases List.mem_or_eq_of_mem_set hd' with h1 | h1
    · exact h.ok d h1
    · rw [h1]; exact fit_ok hc
theorem rs_put {m : Int} {N : Nat} {x : Vvitrineref12_Space} (h : RS m N x) (n : Int) {c : Int} (hc : By c) : ∃ x', m_vitrineref12_Put x n c = some x' ∧ RS m N x' ∧ x'.Alt = x.Alt := by
  have hd := h.dim.dim.le
  obtain ⟨k, hk, hlt⟩ := emod_nat n (N := N) (by omega)
  have hl := h.len
  have hm := h.ok _ (rd_mem (l := x.L) (n := n % N) (by omega))
  unfold m_vitrineref12_Put
  simp only [rs_at h, Option.bind_some]
  cases ha : (rd x.L (n % N)).Attr with
  | true => simp only [Bool.not_true, cond_false]; exact ⟨_, rfl, h, rfl⟩
  | false =>
    simp only [Bool.not_false, cond_true]
    obtain ⟨h1, h2⟩ := rs_set h n (c := ⟨c, false, (rd x.L (n % N)).FA, (rd x.L (n % N)).High, (rd x.L (n % N)).Color, (rd x.L (n % N)).f_Set⟩) ⟨hc, hm.fa, hm.high, hm.color, hm.set⟩
    have h1' : m_vitrineref12_Set ⟨x.Model, x.Alt, x.Size, x.L, x.Cursor⟩ n _ = _ := h1
    rw [h1']
    exact ⟨_, rfl, h2, rfl⟩
def Mod4 (m : Int) : Prop := m = 2 ∨ m = 3 ∨ m = 4 ∨ m = 5
def nOf (m : Int) (alt : Bool) : Nat := if alt then (if m = 2 then 1920 else if m = 3 then 2560 else if m = 4 then 3440 else 3564) else 1920
def rOf (m : Int) (alt : Bool) : Int := if alt then (if m = 2 then 24 else if m = 3 then 32 else if m = 4 then 43 else 27) else 24
def cOf (m : Int) (alt : Bool) : Int := if alt then (if m = 5 then 132 else 80) else 80
theorem dimOf_mk {m : Int} (h : Mod4 m) (alt : Bool) : DimOf m alt (rOf m alt) (cOf m alt) (nOf m alt) := by
  unfold DimOf rOf cOf nOf
  rcases h with rfl | rfl | rfl | rfl <;> cases alt <;> simp
theorem DimOf.n {m : Int} {alt : Bool} {r c : Int} {N : Nat} (h : DimOf m alt r c N) : r = rOf m alt ∧ c = cOf m alt ∧ N = nOf m alt := by
  unfold DimOf at h; unfold rOf cOf nOf
  cases alt with
  | true => simp only [if_true] at h; rcases h with ⟨rfl, rfl, rfl, rfl⟩ | ⟨rfl, rfl, rfl, rfl⟩ | ⟨rfl, rfl, rfl, rfl⟩ | ⟨rfl, rfl, rfl, rfl⟩ <;> simp
  | false => simpa using h
def clr (m : Int) (alt : Bool) : Vvitrineref12_Space := ⟨m, alt, ⟨rOf m alt, cOf m alt⟩, List.replicate (nOf m alt) zc, 0⟩
theorem rs_clr {m : Int} (h : Mod4 m) (alt : Bool) : RS m (nOf m alt) (clr m alt) := by
  have hd := dimOf_mk h alt
  have := hd.dim.le
  exact ⟨rfl, hd, by simp [clr], fun c hc => by rw [(List.mem_replicate.1 hc).2]; exact zc_ok, by simp only [clr]; omega⟩
theorem rmodel_ok {m : Int} (h : Mod4 m) : m_vitrineref04_Model m = some (⟨rOf m true, cOf m true⟩, true) := by
  rcases h with rfl | rfl | rfl | rfl <;> decide +kernel
theorem rclear_ok {x : Vvitrineref12_Space} {m : Int} (h : Mod4 m) (hx : x.Model = m) (alt : Bool) : m_vitrineref12_Clear_2 x alt = some (clr m alt) ∧ m_vitrineref12_Clear x alt = some (clr m alt) := by
  have h2 := rmodel_ok (m := 2) (.inl rfl)
  have hm := rmodel_ok h
  have hd := dimOf_mk h alt
  have hle := hd.dim.le
  unfold m_vitrineref12_Clear_2 m_vitrineref12_Clear
  simp only [h2, hm, hx, Option.bind_some]
  cases alt with
  | true =>
    simp only [cond_true, Option.bind_some, rcells_ok hd.dim]
    rw [gd_pos (show (0 : Int) ≤ (nOf m true : Int) ∧ (nOf m true : Int) ≤ 68719476736 by omega)]
    exact ⟨rfl, rfl⟩
  | false =>
    have hd' : Dim (rOf 2 true) (cOf 2 true) (nOf m false) := ⟨.inl ⟨rfl, rfl, rfl⟩⟩
    simp only [cond_false, Option.bind_some, rcells_ok hd']
    rw [gd_pos (show (0 : Int) ≤ (nOf m false : Int) ∧ (nOf m false : Int) ≤ 68719476736 by omega)]
    exact ⟨rfl, rfl⟩
theorem rnew_ok {m : Int} (h : Mod4 m) : m_vitrineref12_New m = some (.inr (clr m false)) := by
  unfold m_vitrineref12_New
  simp only [rmodel_ok h, Option.bind_some, Bool.not_true, cond_false]
  rw [(rclear_ok h (x := ⟨m, false, ⟨0, 0⟩, [], 0⟩) rfl false).2]; rfl
end Go.Vt
