/- A part of the proof: see the last text. -/
import Derived.Test.YtflpofmnjibjgaaInfo
import Derived.Test.YtflpofmnjibjgaaVTrace
set_option linter.unusedVariables false
set_option linter.unusedSimpArgs false
namespace Go.Proofs.Ytflpofmnjibjgaa
open Go Go.V
set_option maxRecDepth 1000000
set_option maxHeartbeats 0
noncomputable def P : Program := Go.Proofs.Try.prog
def base0 : CallF := fun _ _ => none
def sfst : Code → Code | .seq a _ => a | c => c
def ssnd : Code → Code | .seq _ b => b | c => c
def bodyOf (f : Func) : Code := match f.body with | some c => c | none => .skip

theorem I_info : ∀ g i, I g = some i → P.funcs[g]? = some i.fn ∧ i.ok = true := by
  intro g i h
  unfold I at h
  split at h <;> first | (cases h; exact ⟨by kernel_rfl, by decide +kernel⟩) | cases h

theorem I_ok : InfoOk P T I base0 := ⟨T_ok, by decide +kernel, I_info, fun _ _ _ h => by cases h⟩

theorem runs (n : Nat) (g : FuncId) (xs : List AV) (r : AV × List AV) (h : xrun P T I base0 2000 n g xs = some r) : Enters P g ∧ VCalls P g xs r.1 r.2 := xrun_calls I_ok n g xs r h

/-! within -/
def w15 (a d : Int) (r : Int) : Slots := [(0, .lit (.int .i64 a)), (1, .lit (.int .i64 d)), (4, .lit (.int .i64 0)), (5, .lit (.int .i64 r)), (10, .gone)]
noncomputable def c15 : Code := ssnd (ssnd (bodyOf i15.fn))

theorem within_a (a : Int) (d : Int) (hd : d = 5 ∨ d = 4) : ywp P T base0 i15.pol i15.keep 1 (sfst (bodyOf i15.fn)) (initS [.lit (.int .i64 a), .lit (.int .i64 d)]) =
    some (.normal, [(0, .lit (.int .i64 a)), (1, .lit (.int .i64 d)), (4, .lit (.int .i64 0)), (5, .gone), (10, .gone)], []) := by
  rcases hd with rfl | rfl <;> kernel_rfl
theorem within_b (a : Int) (d : Int) (hd : d = 5 ∨ d = 4) : ywp P T base0 i15.pol i15.keep 1 (sfst (ssnd (bodyOf i15.fn))) [(0, .lit (.int .i64 a)), (1, .lit (.int .i64 d)), (4, .lit (.int .i64 0)), (5, .gone), (10, .gone)] =
    some (.normal, w15 a d (a.tmod d), []) := by
  rcases hd with rfl | rfl <;> kernel_rfl

def within (a d : Int) : Int := if a.tmod d < 0 then a.tmod d + d else a.tmod d

theorem within_c (a : Int) (d : Int) (r : Int) (hd : (d = 5 ∧ -5 < r ∧ r < 5) ∨ (d = 4 ∧ -4 < r ∧ r < 4)) : yend P T base0 i15 1 2 c15 (w15 a d r) = some ((.lit (.int .i64 (if r < 0 then r + d else r)), [.gone, .gone]), []) := by
  rcases hd with ⟨rfl, h1, h2⟩ | ⟨rfl, h1, h2⟩
  · have : r = -4 ∨ r = -3 ∨ r = -2 ∨ r = -1 ∨ r = 0 ∨ r = 1 ∨ r = 2 ∨ r = 3 ∨ r = 4 := by omega
    rcases this with rfl | rfl | rfl | rfl | rfl | rfl | rfl | rfl | rfl <;> (show _ = _; kernel_rfl)
  · have : r = -3 ∨ r = -2 ∨ r = -1 ∨ r = 0 ∨ r = 1 ∨ r = 2 ∨ r = 3 := by omega
    rcases this with rfl | rfl | rfl | rfl | rfl | rfl | rfl <;> (show _ = _; kernel_rfl)

theorem tmod_lt (a d : Int) (h : 0 < d) : -d < a.tmod d ∧ a.tmod d < d := by
  have h1 := Int.tmod_lt_of_pos a h
  have h2 : -d < a.tmod d := by
    have := Int.tmod_lt_of_pos (-a) h
    rw [Int.neg_tmod] at this; omega
  exact ⟨h2, h1⟩

theorem within_calls (a : Int) (d : Int) (hd : d = 5 ∨ d = 4) : Enters P 15 ∧ VCalls P 15 [.lit (.int .i64 a), .lit (.int .i64 d)] (.lit (.int .i64 (within a d))) [.gone, .gone] := by
  refine ⟨⟨i15.fn, by kernel_rfl, by decide +kernel, by decide +kernel⟩, ?_⟩
  let E : Env := ⟨P, T, fun _ _ _ _ => False⟩
  have hE : E.Good := ⟨T_ok, by decide +kernel, fun _ _ _ _ h => h.elim⟩
  refine vcalls_of hE (g := 15) (fn := i15.fn) (c := .seq (sfst (bodyOf i15.fn)) (.seq (sfst (ssnd (bodyOf i15.fn))) c15)) (by kernel_rfl) (by kernel_rfl) (by show 2 ≤ _; decide +kernel) [] (by decide +kernel) rfl i15.pol i15.keep ?_
  refine vwp_seq (ywp_vwp (E := E) (c := base0) (n := 1) _ _ _ _ (within_a a d hd) (fun t ht => by cases ht) ?_)
  simp only
  refine vwp_seq (ywp_vwp (E := E) (c := base0) (n := 1) _ _ _ _ (within_b a d hd) (fun t ht => by cases ht) ?_)
  simp only
  have := within_c a d (a.tmod d) (by
    rcases hd with rfl | rfl
    · exact .inl ⟨rfl, (tmod_lt a 5 (by omega)).1, (tmod_lt a 5 (by omega)).2⟩
    · exact .inr ⟨rfl, (tmod_lt a 4 (by omega)).1, (tmod_lt a 4 (by omega)).2⟩)
  exact yend_vwp (E := E) this (fun t ht => by cases ht)
end Go.Proofs.Ytflpofmnjibjgaa
