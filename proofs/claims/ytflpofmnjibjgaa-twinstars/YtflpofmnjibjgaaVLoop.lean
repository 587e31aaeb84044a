/- V: loops, by an invariant that falls. -/
import Derived.Test.YtflpofmnjibjgaaVInt
set_option linter.unusedVariables false
set_option linter.unusedSimpArgs false
namespace Go.V
open Go

theorem vops_mono {E : Env} {ops : Array Oper} {pol : Pol} {K K' : Slots → Prop} (hK : ∀ σ, K σ → K' σ) : ∀ (os : List Oper) (i : Nat) (σ : Slots), vops E ops pol i os σ K → vops E ops pol i os σ K'
  | [], i, σ, h => hK _ h
  | o :: os, i, σ, h => vop_mono (fun σ' h' => vops_mono hK os (i + 1) σ' h') h

theorem vloop_mono {step : (Ex → Slots → Prop) → Slots → Prop} (hs : ∀ (Q Q' : Ex → Slots → Prop), (∀ x σ, Q x σ → Q' x σ) → ∀ σ, step Q σ → step Q' σ) {Q Q' : Ex → Slots → Prop} (hQ : ∀ x σ, Q x σ → Q' x σ) :
    ∀ (n : Nat) (σ : Slots), vloop step Q n σ → vloop step Q' n σ
  | 0, _, h => h
  | n + 1, σ, h => by
    refine hs _ _ ?_ σ h
    intro x σ' h'
    cases x with
    | normal => exact vloop_mono hs hQ n σ' h'
    | exit j => exact hQ _ _ h'
    | ret => exact hQ _ _ h'

theorem vwp_mono {E : Env} {pols : Nat → Pol} {keep : List Nat} : ∀ (c : Code) (Q Q' : Ex → Slots → Prop), (∀ x σ, Q x σ → Q' x σ) → ∀ σ, vwp E pols keep c Q σ → vwp E pols keep c Q' σ := by
  intro c
  induction c with
  | skip => intro Q Q' hQ σ h; exact hQ _ _ h
  | label l => intro Q Q' hQ σ h; exact hQ _ _ h
  | region id ops b =>
    intro Q Q' hQ σ h
    cases b with
    | false => exact vops_mono (fun σ' h' => hQ _ _ h') _ _ _ h
    | true => exact ⟨h.1, vdops_mono (fun σ' h' => hQ _ _ h') _ _ _ h.2⟩
  | seq a b iha ihb =>
    intro Q Q' hQ σ h
    refine iha _ _ ?_ σ h
    intro x σ' h'
    cases x with
    | normal => exact ihb _ _ hQ σ' h'
    | exit j => exact hQ _ _ h'
    | ret => exact hQ _ _ h'
  | cond t a b iha ihb =>
    intro Q Q' hQ σ h
    obtain ⟨t, h1, h2⟩ := h
    refine ⟨t, h1, ?_⟩
    split
    · rename_i ht; rw [if_pos ht] at h2; exact iha _ _ hQ σ h2
    · rename_i ht; rw [if_neg ht] at h2; exact ihb _ _ hQ σ h2
  | block id b ih =>
    intro Q Q' hQ σ h
    refine ih _ _ ?_ σ h
    intro x σ' h'
    cases x with
    | normal => exact hQ _ _ h'
    | exit j =>
      simp only at h' ⊢
      split
      · rename_i hj; rw [if_pos hj] at h'; exact hQ _ _ h'
      · rename_i hj; rw [if_neg hj] at h'; exact hQ _ _ h'
    | ret => exact hQ _ _ h'
  | loop b ih =>
    intro Q Q' hQ σ h
    obtain ⟨n, h⟩ := h
    exact ⟨n, vloop_mono ih hQ n σ h⟩
  | scope b ih => intro Q Q' hQ σ h; exact ih Q Q' hQ σ h
  | exit id => intro Q Q' hQ σ h; exact hQ _ _ h
  | ret => intro Q Q' hQ σ h; exact hQ _ _ h
  | _ => intro Q Q' hQ σ h; exact h.elim

/-- a loop, by an invariant with a count that falls. -/
theorem vwp_loop {E : Env} {pols : Nat → Pol} {keep : List Nat} {b : Code} {Q : Ex → Slots → Prop} {σ : Slots} (I : Nat → Slots → Prop) (n : Nat) (h0 : I n σ)
    (round : ∀ n σ, I n σ → vwp E pols keep b (fun x σ' => match x with | .normal => ∃ m, m < n ∧ I m σ' | x => Q x σ') σ) : vwp E pols keep (.loop b) Q σ := by
  have key : ∀ n σ, I n σ → vloop (vwp E pols keep b) Q (n + 1) σ := by
    intro n
    induction n using Nat.strongRecOn with
    | _ n ih =>
      intro σ hI
      refine vwp_mono b _ _ ?_ σ (round n σ hI)
      intro x σ' h'
      cases x with
      | normal =>
        obtain ⟨m, hm, hI'⟩ := h'
        have := ih m hm σ' hI'
        -- more rounds than needed do no harm
        have more : ∀ (k d : Nat) (σ : Slots), vloop (vwp E pols keep b) Q k σ → vloop (vwp E pols keep b) Q (k + d) σ := by
          intro k
          induction k with
          | zero => intro d σ h; exact h.elim
          | succ k ihk =>
            intro d σ h
            rw [show k + 1 + d = (k + d) + 1 by omega]
            refine vwp_mono b _ _ ?_ σ h
            intro x σ' h'
            cases x with
            | normal => exact ihk d σ' h'
            | exit j => exact h'
            | ret => exact h'
        have := more (m + 1) (n - (m + 1)) σ' this
        rwa [show m + 1 + (n - (m + 1)) = n by omega] at this
      | exit j => exact h'
      | ret => exact h'
  exact ⟨n + 1, key n σ h0⟩

end Go.V
