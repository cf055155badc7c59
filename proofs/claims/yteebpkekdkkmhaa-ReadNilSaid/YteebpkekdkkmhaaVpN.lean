/- Of the model of ReadNil: it answers true. No conditions. -/
import Derived.Test.YteebpkekdkkmhaaVpG
set_option linter.unusedVariables false
set_option linter.unusedSimpArgs false
namespace Go.Vt
theorem buf_nil (a b : Int) : m_read_Buffer a b = some 5 := rfl
theorem mod_nil (a b : Int) (c : Bool) : m_read_modified_2 a b c = some 5 := rfl
theorem Mod_nil {a : Int} (h : By a) (b : Int) : m_read_Modified_2 a b = some 5 := by
  unfold m_read_Modified_2; simp only [(short_ok h).1, mod_nil, Option.bind_some]
theorem All_nil (a b : Int) : m_read_All_2 a b = some 5 := rfl
theorem most_nil : m_read_Most = some 3 := by decide +kernel
theorem readNil_true (c a m : Int) (ha : By a) : m_vitrinelaw19_ReadNil c a m = some true := by
  unfold m_vitrinelaw19_ReadNil m_read_For m_read_Length
  have e5 : ((5 : Int) == 5) = true := rfl
  simp only [awake19, Option.bind_some, Bool.not_true, cond_false, buf_nil, Mod_nil ha, All_nil, most_nil, e5, cond_true]
  by_cases h5 : c = 5
  · subst h5; rfl
  · by_cases h6 : c = 6
    · subst h6; rfl
    · by_cases h7 : c = 7
      · subst h7; rfl
      · simp only [beq_f h5, beq_f h6, beq_f h7, cond_false, Option.bind_some]
        by_cases hl : c < 5
        · have d1 : decide (c < 5) = true := decide_eq_true hl
          simp only [d1, cond_true, Option.bind_some]; rfl
        · have d1 : decide (c < 5) = false := decide_eq_false hl
          have d2 : decide (c > 7) = true := decide_eq_true (by omega)
          simp only [d1, d2, cond_true, cond_false, Option.bind_some]; rfl
end Go.Vt
