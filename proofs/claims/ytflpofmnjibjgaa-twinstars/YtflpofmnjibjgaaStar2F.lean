/- A part of the proof: see the last text. -/
import Derived.Test.YtflpofmnjibjgaaStarDefs
set_option linter.unusedVariables false
set_option linter.unusedSimpArgs false
namespace Go.Proofs.Ytflpofmnjibjgaa
open Go Go.V
set_option maxRecDepth 1000000
set_option maxHeartbeats 0
theorem starK2M0F (w n : Int) : star 2 0 false w n = starIs 2 0 1 w n := by kernel_rfl
theorem starK2M1F (w n : Int) : star 2 1 false w n = starIs 2 1 2 w n := by kernel_rfl
theorem starK2M2F (w n : Int) : star 2 2 false w n = starIs 2 2 3 w n := by kernel_rfl
theorem starK2M3F (w n : Int) : star 2 3 false w n = starIs 2 3 4 w n := by kernel_rfl
end Go.Proofs.Ytflpofmnjibjgaa
