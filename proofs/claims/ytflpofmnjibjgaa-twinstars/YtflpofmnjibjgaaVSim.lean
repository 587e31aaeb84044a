/- V: the rules that simp walks by: what has come out first, then what follows. -/
import Derived.Test.YtflpofmnjibjgaaVFn
set_option linter.unusedVariables false
set_option linter.unusedSimpArgs false
namespace Go.V
open Go

/-- what follows, given what has come out. -/
def after {α : Type} (x : Option α) (K : α → Prop) : Prop := match x with | some a => K a | none => False
theorem after_some {α : Type} {a : α} {K : α → Prop} : after (some a) K = K a := rfl
theorem after_congr {α : Type} {x y : Option α} {K : α → Prop} (h : x = y) : after x K = after y K := by rw [h]
theorem bind_congr_l {α β : Type} {x y : Option α} {f : α → Option β} (h : x = y) : x.bind f = y.bind f := by rw [h]

theorem vops_one {E : Env} {ops : Array Oper} {pol : Pol} {i : Nat} {o : Oper} {os : List Oper} {σ : Slots} {K : Slots → Prop}
    (hw : o.guard = none) (hc : isCall o.op = none) (h : after (stepF E pol i o σ) fun σ' => vops E ops pol (i + 1) os σ' K) :
    vops E ops pol i (o :: os) σ K := by
  cases hs : stepF E pol i o σ with
  | none => rw [hs] at h; exact h.elim
  | some σ' => rw [hs] at h; exact vops_step (by simp [wantedV, hw]) hc hs h

theorem vwp_region {E : Env} {pols : Nat → Pol} {keep : List Nat} {id : Nat} {ops : Array Oper} {Q : Ex → Slots → Prop} {σ : Slots}
    (h : vops E ops (pols id) 0 ops.toList σ fun σ' => Q .normal (clean keep σ')) : vwp E pols keep (.region id ops false) Q σ := h

end Go.V
