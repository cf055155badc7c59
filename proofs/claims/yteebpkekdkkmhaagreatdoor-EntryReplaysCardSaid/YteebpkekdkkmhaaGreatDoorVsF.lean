/- Answers; pairs; what is read. No conditions. -/
import Derived.Test.YteebpkekdkkmhaaGreatDoorVsE
set_option linter.unusedVariables false
set_option linter.unusedSimpArgs false
set_option maxRecDepth 100000
namespace Go.Vt
/-- an answer there is, and P of it -/
def Tot {α : Type} (x : Option α) (P : α → Prop) : Prop := ∃ r, x = some r ∧ P r
theorem tot_some {α : Type} {v : α} {P : α → Prop} (h : P v) : Tot (some v) P := ⟨v, rfl, h⟩
theorem tot_bind {α β : Type} {x : Option α} {f : α → Option β} {P : α → Prop} {Q : β → Prop} (h : Tot x P) (k : ∀ d, P d → Tot (f d) Q) : Tot (x.bind f) Q := by
  obtain ⟨r, rfl, hr⟩ := h; exact k r hr
theorem tot_cond {α : Type} {b : Bool} {x y : Option α} {Q : α → Prop} (h1 : b = true → Tot x Q) (h2 : b = false → Tot y Q) : Tot (cond b x y) Q := by
  cases b with
  | true => exact h1 rfl
  | false => exact h2 rfl
theorem tot_esc {D O : Type} {M : Option O} {Q : D ⊕ O → Prop} (h : Tot M fun o => Q (.inr o)) : Tot (esc M : Option (D ⊕ O)) Q := by
  obtain ⟨r, rfl, hr⟩ := h; exact ⟨_, rfl, hr⟩
theorem Tot.mono {α : Type} {x : Option α} {P Q : α → Prop} (h : Tot x P) (k : ∀ d, P d → Q d) : Tot x Q := by
  obtain ⟨r, e, hr⟩ := h; exact ⟨r, e, k r hr⟩
theorem jn_inl {D O : Type} (d : D) (f : D → Option O) : jn (some (.inl d)) f = f d := rfl
theorem ris_all : ∀ n : Fin 256, m_vitrineref16_Is (n.val : Int) = some (isO (n.val : Int)) := by decide +kernel
theorem ris_spec {n : Int} (h : By n) : m_vitrineref16_Is n = some (isO n) := by
  obtain ⟨f, rfl⟩ := h.fin; exact ris_all f
/-! ### pairs -/
def chkRt (t v : Int) : Bool := match m_vitrineref05_Right ⟨t, v⟩ with
  | some true => m_attr_Pair_Check ⟨t, v⟩ == some 0
  | some false => true
  | none => false
theorem r0_all : ∀ f : Fin 256, chkRt 0 f.val = true := by decide +kernel
theorem r192_all : ∀ f : Fin 256, chkRt 192 f.val = true := by decide +kernel
theorem r65_all : ∀ f : Fin 256, chkRt 65 f.val = true := by decide +kernel
theorem r66_all : ∀ f : Fin 256, chkRt 66 f.val = true := by decide +kernel
theorem r67_all : ∀ f : Fin 256, chkRt 67 f.val = true := by decide +kernel
theorem chkRt_ok {t v : Int} (h : chkRt t v = true) : Tot (m_vitrineref05_Right ⟨t, v⟩) fun b => b = true → m_attr_Pair_Check ⟨t, v⟩ = some 0 := by
  unfold chkRt at h
  split at h
  · rename_i e; exact ⟨_, e, fun _ => by simpa using h⟩
  · rename_i e; exact ⟨_, e, fun h => by cases h⟩
  · cases h
theorem right_rel {t v : Int} (hv : By v) : Tot (m_vitrineref05_Right ⟨t, v⟩) fun b => b = true → m_attr_Pair_Check ⟨t, v⟩ = some 0 := by
  obtain ⟨f, rfl⟩ := hv.fin
  by_cases h0 : t = 0
  · subst h0; exact chkRt_ok (r0_all f)
  by_cases h1 : t = 192
  · subst h1; exact chkRt_ok (r192_all f)
  by_cases h2 : t = 65
  · subst h2; exact chkRt_ok (r65_all f)
  by_cases h3 : t = 66
  · subst h3; exact chkRt_ok (r66_all f)
  by_cases h4 : t = 67
  · subst h4; exact chkRt_ok (r67_all f)
  unfold m_vitrineref05_Right
  simp only [beq_f h0, beq_f h1, beq_f h2, beq_f h3, beq_f h4, cond_false, jn_inl]
  have hl : vitrineref05_Right_l4 ⟨t, (f.val : Int)⟩ [] fuel 0 = some (.inl ()) := by
    rw [show fuel = (fuel - 1) + 1 by unfold fuel; rfl, vitrineref05_Right_l4.eq_2]; rfl
  rw [hl]
  exact tot_some fun h => by cases h
/-- a list of pairs that is one -/
structure Prs (p : List Int) (c : Nat) : Prop where
  le : c ≤ 255
  len : 1 + 2 * c ≤ p.length
  hd : rd p 0 = (c : Int)
  chk : ∀ j, j < c → m_attr_Pair_Check ⟨rd p ((1 + 2 * j : Nat) : Int), rd p ((2 + 2 * j : Nat) : Int)⟩ = some 0
def prsL (p : List Int) (n : Nat) : List Vattr_Pair := (List.range n).map fun j => ⟨rd p ((1 + 2 * j : Nat) : Int), rd p ((2 + 2 * j : Nat) : Int)⟩
theorem pparse_loop {p : List Int} {c : Nat} (h : Prs p c) : ∀ (d i k : Nat), i + d = c → d < k → attr_Parse_l4 p k (((1 + 2 * i : Nat) : Int), prsL p i) = some (.inl (prsL p c))
  | d, i, 0, _, hk => by omega
  | d, i, k + 1, e, hk => by
    have hc := h.le
    have hl := h.len
    have hw : w64 (1 + w64 (2 * w64 (rd p 0))) = ((1 + 2 * c : Nat) : Int) := by
      rw [h.hd, w64_in (x := (c : Int)) (by omega) (by omega), w64_in (x := 2 * (c : Int)) (by omega) (by omega), w64_in (by omega) (by omega)]; omega
    rw [attr_Parse_l4.eq_2]
    match d with
    | 0 =>
      have d1 : decide (((1 + 2 * i : Nat) : Int) < ((1 + 2 * c : Nat) : Int)) = false := decide_eq_false (by omega)
      have : i = c := by omega
      subst this
      simp only [hw, d1, cond_false]
    | d + 1 =>
      have d1 : decide (((1 + 2 * i : Nat) : Int) < ((1 + 2 * c : Nat) : Int)) = true := decide_eq_true (by omega)
      have hw1 : w64 (((1 + 2 * i : Nat) : Int) + 1) = ((2 + 2 * i : Nat) : Int) := by rw [w64_in (by omega) (by omega)]; omega
      have hw2 : w64 (((1 + 2 * i : Nat) : Int) + 2) = ((1 + 2 * (i + 1) : Nat) : Int) := by rw [w64_in (by omega) (by omega)]; omega
      have hn : ((0 : Int) != 0) = false := rfl
      simp only [hw, d1, cond_true, hw1, hw2]
      rw [gd_pos (by omega), gd_pos (by omega), h.chk i (by omega)]
      simp only [Option.bind_some, hn, cond_false]
      rw [gd_pos (by simp [prsL]; omega)]
      have hs : prsL p i ++ [⟨rd p ((1 + 2 * i : Nat) : Int), rd p ((2 + 2 * i : Nat) : Int)⟩] = prsL p (i + 1) := by unfold prsL; rw [List.range_succ, List.map_append]; rfl
      rw [hs]
      exact pparse_loop h d (i + 1) k (by omega) (by omega)
theorem pparse {p : List Int} {c : Nat} (h : Prs p c) : m_attr_Parse p = some (prsL p c, ((1 + 2 * c : Nat) : Int), 0) := by
  have hc := h.le
  have hl := h.len
  have hw : w64 (1 + w64 (2 * w64 (rd p 0))) = ((1 + 2 * c : Nat) : Int) := by
    rw [h.hd, w64_in (x := (c : Int)) (by omega) (by omega), w64_in (x := 2 * (c : Int)) (by omega) (by omega), w64_in (by omega) (by omega)]; omega
  unfold m_attr_Parse
  have d1 : decide ((p.length : Int) < 1) = false := decide_eq_false (by omega)
  have d2 : decide ((p.length : Int) < ((1 + 2 * c : Nat) : Int)) = false := decide_eq_false (by omega)
  simp only [d1, cond_false]
  rw [gd_pos (by omega)]
  simp only [hw, d2, cond_false, Option.bind_some]
  rw [gd_pos (by omega)]
  have := pparse_loop h c 0 fuel (by omega) (by unfold fuel; omega)
  have h1 : attr_Parse_l4 p fuel (1, []) = some (.inl (prsL p c)) := this
  rw [h1]; rfl
end Go.Vt
