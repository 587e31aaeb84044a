/- V: every operation that is no call of a function. -/
import Derived.Test.YtflpofmnjibjgaaVOpK
set_option linter.unusedVariables false
set_option linter.unusedSimpArgs false
namespace Go.V
open Go

section
variable {P : Program} {T : TypeId → TI} {w0 : World} {F0 Z0 : Foot} {σ σ' : Slots} {w : World} {Z : Foot} {Fs : Nat → Foot} {G : Nat → Hops → Value} {a : Act}
  {o : Oper} {v : AV} {pol : Bool}

theorem sound_M (hT : TOk P T) (k : Ok w0 F0 Z0 no (pk σ) a.tmps w Z Fs G) (h : (evM P T pol o.op).run σ = some (v, σ')) : Sound P w0 F0 Z0 a w o σ' v := by
  have step : (M.step (evOp P T pol o.op) .ret).run σ = some (v, σ') → ∃ ps, (evOp P T pol o.op).run σ = some (v, ps) ∧ putAll ps σ = some σ' := by
    intro h
    simp only [M.run] at h
    replace h := bind_some_inv h
    obtain ⟨r, hr, h⟩ := h
    replace h := bind_some_inv h
    obtain ⟨σ1, hσ1, h⟩ := h
    simp only [Option.some.injEq, Prod.mk.injEq] at h
    obtain ⟨rfl, rfl⟩ := h
    exact ⟨_, hr, hσ1⟩
  generalize ho : o.op = op at h step
  cases op with
  | build t parts => exact sound_build hT k ho h
  | buildSlice t n parts => exact sound_buildSlice hT k ho h
  | call c =>
    cases hap : isAppend (.call c) with
    | some q =>
      obtain ⟨t, t', s, x⟩ := q
      simp only [evM, hap] at h
      obtain ⟨c', h1, h2, h3, h4⟩ := isAppend_inv hap
      cases h1
      exact sound_append hT k ho h2 h3 h4 h
    | none =>
      simp only [evM, hap] at h
      obtain ⟨ps, h1, h2⟩ := step h
      cases hc : c.callee with
      | value f => simp only [evOp, hc] at h1; cases h1
      | invoke r m => simp only [evOp, hc] at h1; cases h1
      | builtin b =>
        cases b with
        | len => exact sound_len hT k ho hc h1 h2
        | min => exact sound_minmax k ho hc (.inl rfl) h1 h2
        | max => exact sound_minmax k ho hc (.inr rfl) h1 h2
        | _ => simp only [evOp, hc] at h1; cases h1
  | move x => obtain ⟨ps, h1, h2⟩ := step h; exact sound_move k ho h1 h2
  | assign x => obtain ⟨ps, h1, h2⟩ := step h; exact sound_assign k ho h1 h2
  | pick c x y => obtain ⟨ps, h1, h2⟩ := step h; exact sound_pick k ho h1 h2
  | alloc t => obtain ⟨ps, h1, h2⟩ := step h; exact sound_alloc hT k ho h1 h2
  | box t x => obtain ⟨ps, h1, h2⟩ := step h; exact sound_box k ho h1 h2
  | load t x => obtain ⟨ps, h1, h2⟩ := step h; exact sound_load hT k ho h1 h2
  | store t x y => obtain ⟨ps, h1, h2⟩ := step h; exact sound_store hT k ho h1 h2
  | nilCheck x => obtain ⟨ps, h1, h2⟩ := step h; exact sound_nilCheck k ho h1 h2
  | binOp op t x y yt => obtain ⟨ps, h1, h2⟩ := step h; exact sound_binOp hT k ho h1 h2
  | unOp op t x => obtain ⟨ps, h1, h2⟩ := step h; exact sound_unOp k ho h1 h2
  | convert s d x => obtain ⟨ps, h1, h2⟩ := step h; exact sound_convert k ho h1 h2
  | makeFunc fn first caps => obtain ⟨ps, h1, h2⟩ := step h; exact sound_makeFunc k ho h1 h2
  | makeSlice t x y => obtain ⟨ps, h1, h2⟩ := step h; exact sound_makeSlice hT k ho h1 h2
  | slice t x lo hi mx => obtain ⟨ps, h1, h2⟩ := step h; exact sound_slice hT k ho h1 h2
  | fieldAddr s x f => obtain ⟨ps, h1, h2⟩ := step h; exact sound_fieldAddr hT k ho h1 h2
  | field s x f => obtain ⟨ps, h1, h2⟩ := step h; exact sound_field hT k ho h1 h2
  | indexAddr t x i => obtain ⟨ps, h1, h2⟩ := step h; exact sound_indexAddr hT k ho h1 h2
  | index t x i => obtain ⟨ps, h1, h2⟩ := step h; exact sound_index hT k ho h1 h2
  | extract t j => obtain ⟨ps, h1, h2⟩ := step h; exact sound_extract k ho h1 h2
  | _ => obtain ⟨ps, h1, h2⟩ := step h; cases h1

end
end Go.V
