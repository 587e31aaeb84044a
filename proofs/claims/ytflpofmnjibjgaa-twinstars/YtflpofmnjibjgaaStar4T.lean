/- A part of the proof: see the last text. -/
import Derived.Test.YtflpofmnjibjgaaStarDefs
set_option linter.unusedVariables false
set_option linter.unusedSimpArgs false
namespace Go.Proofs.Ytflpofmnjibjgaa
open Go Go.V
set_option maxRecDepth 1000000
set_option maxHeartbeats 0
theorem starK4M0T (w n : Int) : star 4 0 true w n = starIs 4 0 2 w n := by kernel_rfl
theorem starK4M1T (w n : Int) : star 4 1 true w n = starIs 4 1 3 w n := by kernel_rfl
theorem starK4M2T (w n : Int) : star 4 2 true w n = starIs 4 2 4 w n := by kernel_rfl
theorem starK4M3T (w n : Int) : star 4 3 true w n = starIs 4 3 5 w n := by kernel_rfl
end Go.Proofs.Ytflpofmnjibjgaa
