/- A part of the proof: see the last text. -/
import Derived.Test.YtflpofmnjibjgaaW
set_option linter.unusedVariables false
set_option linter.unusedSimpArgs false
namespace Go.Proofs.Ytflpofmnjibjgaa
open Go Go.V
set_option maxRecDepth 1000000
set_option maxHeartbeats 0

theorem run8 : xrun P T I base0 2000 100 8 [] = some (.lit (.bool true), []) := by kernel_rfl

/-- what calls come to in a run of the law: 'k', 'm' are what 'within' tells. -/
noncomputable def ora (k m : Int) : CallF := fun g xs =>
  if g = 15 then (match xs with | [_, .lit (.int _ d)] => if d = 5 then some (.lit (.int .i64 k), [.gone, .gone]) else some (.lit (.int .i64 m), [.gone, .gone]) | _ => none)
  else if g = 8 then (match xs with | [] => some (.lit (.bool true), []) | _ => none)
  else xrun P T I base0 2000 100 g xs

noncomputable def star (k m : Int) (b : Bool) (w n : Int) : Option ((AV × List AV) × Tr) :=
  (yend P T (ora k m) i6 20 3 (bodyOf i6.fn) (initS [.lit (.int .i64 w), .lit (.int .i64 n), .lit (.bool b)])).map fun q => (q.1, q.2.filter fun t => t.1 == 15)

def starIs (k m : Int) (j : Nat) (w n : Int) : Option ((AV × List AV) × Tr) :=
  some ((.lit (.bool true), [.gone, .gone, .gone]), (15, [.lit (.int .i64 w), .lit (.int .i64 5)], .lit (.int .i64 k), [.gone, .gone]) :: List.replicate j (15, [.lit (.int .i64 n), .lit (.int .i64 4)], .lit (.int .i64 m), [.gone, .gone]))
end Go.Proofs.Ytflpofmnjibjgaa
