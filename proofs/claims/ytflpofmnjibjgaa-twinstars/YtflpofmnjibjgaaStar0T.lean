/- A part of the proof: see the last text. -/
import Derived.Test.YtflpofmnjibjgaaStarDefs
set_option linter.unusedVariables false
set_option linter.unusedSimpArgs false
namespace Go.Proofs.Ytflpofmnjibjgaa
open Go Go.V
set_option maxRecDepth 1000000
set_option maxHeartbeats 0
theorem starK0M0T (w n : Int) : star 0 0 true w n = starIs 0 0 1 w n := by kernel_rfl
theorem starK0M1T (w n : Int) : star 0 1 true w n = starIs 0 1 2 w n := by kernel_rfl
theorem starK0M2T (w n : Int) : star 0 2 true w n = starIs 0 2 3 w n := by kernel_rfl
theorem starK0M3T (w n : Int) : star 0 3 true w n = starIs 0 3 4 w n := by kernel_rfl
end Go.Proofs.Ytflpofmnjibjgaa
