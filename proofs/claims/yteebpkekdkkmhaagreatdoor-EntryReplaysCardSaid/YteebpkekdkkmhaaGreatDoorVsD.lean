/- What acts make, by the law's own helper. No conditions. -/
import Derived.Test.YteebpkekdkkmhaaGreatDoorVsC
set_option linter.unusedVariables false
set_option linter.unusedSimpArgs false
namespace Go.Vt
def doAll : Vvitrineref12_Space → List Vvitrineref12_Act → Option Vvitrineref12_Space
  | x, [] => some x
  | x, a :: r => (m_vitrineref12_Do x a).bind fun y => doAll y r
theorem doAll_app : ∀ (l r : List Vvitrineref12_Act) (x : Vvitrineref12_Space), doAll x (l ++ r) = (doAll x l).bind fun y => doAll y r
  | [], r, x => rfl
  | a :: l, r, x => by
    simp only [List.cons_append, doAll]
    cases m_vitrineref12_Do x a with
    | none => rfl
    | some y => simp only [Option.bind_some]; exact doAll_app l r y
/-- the program's space, of the document's -/
def prog (x : Vvitrineref12_Space) : Vspace_Space := ⟨x.Model, x.Alt, ⟨x.Size.Rows, x.Size.Cols⟩, x.L, x.Cursor, cnt x.L⟩
theorem RS.lk {m : Int} {N : Nat} {x : Vvitrineref12_Space} (h : RS m N x) : Lk m N (prog x) x := ⟨h, ⟨h.model, h.dim, h.len, h.ok, h.cur, rfl⟩, rfl, rfl, rfl, rfl⟩
abbrev T7 := Int × Bool × Int × Int × List Vapi_Cell × Int × Int
theorem min30_lt {i : Nat} (h : i < 30) : min i 30 = i ∧ min (i + 1) 30 = i + 1 := by omega
theorem min30_ge {i : Nat} (h : ¬ i < 30) : min i 30 = 30 ∧ min (i + 1) 30 = 30 := by omega
end Go.Vt
