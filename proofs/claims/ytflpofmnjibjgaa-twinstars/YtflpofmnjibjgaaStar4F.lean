/- A part of the proof: see the last text. -/
import Derived.Test.YtflpofmnjibjgaaStarDefs
set_option linter.unusedVariables false
set_option linter.unusedSimpArgs false
namespace Go.Proofs.Ytflpofmnjibjgaa
open Go Go.V
set_option maxRecDepth 1000000
set_option maxHeartbeats 0
theorem starK4M0F (w n : Int) : star 4 0 false w n = starIs 4 0 1 w n := by kernel_rfl
theorem starK4M1F (w n : Int) : star 4 1 false w n = starIs 4 1 2 w n := by kernel_rfl
theorem starK4M2F (w n : Int) : star 4 2 false w n = starIs 4 2 3 w n := by kernel_rfl
theorem starK4M3F (w n : Int) : star 4 3 false w n = starIs 4 3 4 w n := by kernel_rfl
end Go.Proofs.Ytflpofmnjibjgaa
