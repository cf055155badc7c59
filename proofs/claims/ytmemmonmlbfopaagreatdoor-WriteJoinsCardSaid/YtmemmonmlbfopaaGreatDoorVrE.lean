/- The document's example of a write. No conditions. -/
import Derived.Test.YtmemmonmlbfopaaGreatDoorVrD17
set_option linter.unusedVariables false
set_option linter.unusedSimpArgs false
set_option maxRecDepth 100000
namespace Go.Vt
theorem awake17 : m_vitrinelaw17_awake = some true := by decide +kernel
end Go.Vt
