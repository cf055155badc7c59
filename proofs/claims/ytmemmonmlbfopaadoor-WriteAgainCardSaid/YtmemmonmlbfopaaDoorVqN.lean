/- Of the model of WriteNames: it answers true. No conditions. -/
import Derived.Test.YtmemmonmlbfopaaDoorVqE
set_option linter.unusedVariables false
set_option linter.unusedSimpArgs false
set_option maxRecDepth 100000
namespace Go.Vt
def cmdOk (b : Int) : Bool := match m_write_Command b, m_vitrineref17_Command b with
  | some (k, ok), some w => (ok == decide (w ≥ 0)) && (if ok then k == w else k == 0)
  | _, _ => false
theorem cmd_all : ∀ f : Fin 256, cmdOk (f.val : Int) = true := by decide +kernel
def nameOk (c : Int) : Bool := match m_write_Byte c, m_vitrineref17_Byte c, m_write_Name c, m_vitrineref17_Name c with
  | some a, some b, some x, some y => (a == b) && (x.data.toList == y.data.toList)
  | _, _, _, _ => false
theorem name_all : ∀ f : Fin 9, nameOk (f.val : Int) = true := by decide +kernel
theorem name_ok (c : Int) : nameOk c = true := by
  by_cases h : 0 ≤ c ∧ c < 9
  · have := name_all ⟨c.toNat, by omega⟩
    have e : (((⟨c.toNat, by omega⟩ : Fin 9).val : Nat) : Int) = c := by simp; omega
    rw [e] at this; exact this
  · have h1 : ((cond (decide (c < 0)) (some true) (some (decide (c ≥ 9)))) : Option Bool) = some true := by
      by_cases h0 : c < 0
      · rw [decide_eq_true h0]; rfl
      · rw [decide_eq_false h0, decide_eq_true (show c ≥ 9 by omega)]; rfl
    have h2 : ((cond (decide (c < 0)) (some true) (some (decide (c > 8)))) : Option Bool) = some true := by
      by_cases h0 : c < 0
      · rw [decide_eq_true h0]; rfl
      · rw [decide_eq_false h0, decide_eq_true (show c > 8 by omega)]; rfl
    have e1 : m_write_Byte c = some 0 := by unfold m_write_Byte m_write_of; rw [h1]; rfl
    have e2 : m_vitrineref17_Byte c = some 0 := by unfold m_vitrineref17_Byte; rw [h2]; rfl
    have e3 : m_write_Name c = some ByteArray.empty := by unfold m_write_Name m_write_of; rw [h1]; rfl
    have e4 : m_vitrineref17_Name c = some (ByteArray.mk (List.toArray [])) := by unfold m_vitrineref17_Name; rw [h2]; rfl
    unfold nameOk
    rw [e1, e2, e3, e4]; rfl
theorem cut_tot {p : List Int} (hl : p.length ≤ 9223372036854775807) {m : Int} (n : Nat) (hm : m = (n : Int)) (hn : n ≤ 100000) : m_vitrineref01_Cut p m = some (p.take n) := by
  subst hm
  unfold m_vitrineref01_Cut m_vitrineref01_Copy gd
  by_cases h : p.length > n
  · have d1 : decide ((p.length : Int) > (n : Int)) = true := decide_eq_true (by omega)
    simp only [d1, cond_true]
    rw [if_pos (by omega)]
    simp only [Option.bind_some, List.nil_append, Int.toNat_natCast]
    rw [if_pos (by simp; omega)]; rfl
  · have d1 : decide ((p.length : Int) > (n : Int)) = false := decide_eq_false (by omega)
    simp only [d1, cond_false, Option.bind_some, List.nil_append]
    rw [if_pos (by simp; omega), List.take_of_length_le (by omega)]; rfl
theorem writeNames_true (b c : Int) (p : List Int) (hb : By b) (hl : p.length ≤ 9223372036854775807) : m_vitrinelaw17_WriteNames b c p = some true := by
  obtain ⟨f, rfl⟩ := hb.fin
  have hc := cmd_all f
  have hn := name_ok c
  unfold cmdOk at hc
  unfold nameOk at hn
  cases h1 : m_write_Command (f.val : Int) with
  | none => rw [h1] at hc; cases hc
  | some kok =>
    cases h2 : m_vitrineref17_Command (f.val : Int) with
    | none => rw [h1, h2] at hc; cases hc
    | some w =>
      obtain ⟨k, ok⟩ := kok
      rw [h1, h2] at hc
      cases h3 : m_write_Byte c with
      | none => rw [h3] at hn; cases hn
      | some x1 =>
        cases h4 : m_vitrineref17_Byte c with
        | none => rw [h3, h4] at hn; cases hn
        | some x2 =>
          cases h5 : m_write_Name c with
          | none => rw [h3, h4, h5] at hn; cases hn
          | some x3 =>
            cases h6 : m_vitrineref17_Name c with
            | none => rw [h3, h4, h5, h6] at hn; cases hn
            | some x4 =>
              rw [h3, h4, h5, h6] at hn
              simp only [Bool.and_eq_true] at hn hc
              obtain ⟨hn1, hn2⟩ := hn
              obtain ⟨hc1, hc2⟩ := hc
              have hcut : m_vitrineref01_Cut p 20 = some (p.take 20) := cut_tot hl 20 rfl (by omega)
              unfold m_vitrinelaw17_WriteNames
              simp only [awake17, h1, h2, hcut, m_write_Run_2, m_write_Orders_2, Option.bind_some, Bool.not_true, cond_false, hc1, cond_true, h3, h4, h5, h6, hn1, hn2, m_write_Reads, m_write_Erases]
              have e5 : ((5 : Int) == 5) = true := rfl
              have fin : ∀ (r2 r1 : Bool), ((cond (decide (c ≥ 5)) (cond (decide (c ≥ 2)) (some ((decide (c ≤ 4)), (decide (c ≤ 7)))) (some (false, (decide (c ≤ 7))))) (cond (decide (c ≥ 2)) (some ((decide (c ≤ 4)), false)) (some (false, false)))) : Option (Bool × Bool)) = some (r1, r2) →
                  ((cond (decide (c ≥ 5)) (some (decide (c ≤ 7))) (some false) : Option Bool) = some r2) ∧ ((cond (decide (c ≥ 2)) (some (decide (c ≤ 4))) (some false) : Option Bool) = some r1) := fun r2 r1 h => by
                cases h5 : decide (c ≥ 5) <;> cases h6 : decide (c ≥ 2) <;> rw [h5, h6] at h <;> simp at h <;> obtain ⟨rfl, rfl⟩ := h <;> simp
              obtain ⟨r, hr⟩ : ∃ r : Bool × Bool, ((cond (decide (c ≥ 5)) (cond (decide (c ≥ 2)) (some ((decide (c ≤ 4)), (decide (c ≤ 7)))) (some (false, (decide (c ≤ 7))))) (cond (decide (c ≥ 2)) (some ((decide (c ≤ 4)), false)) (some (false, false)))) : Option (Bool × Bool)) = some r := by
                cases decide (c ≥ 5) <;> cases decide (c ≥ 2) <;> exact ⟨_, rfl⟩
              obtain ⟨g1, g2⟩ := fin r.2 r.1 hr
              have q : ∀ b : Bool, (b == b) = true := fun b => by cases b <;> rfl
              rw [hr]
              simp only [Option.bind_some, g1, g2, q, cond_true, e5]
              cases ok with
              | true => simp only [if_true] at hc2; simp only [Bool.not_true, cond_false, hc2, cond_true, Option.bind_some]
              | false => simp only [Bool.false_eq_true, if_false] at hc2; simp only [Bool.not_false, cond_true, hc2, Option.bind_some]
end Go.Vt
