/- A part of the proof: see the last text. -/
import Derived.Test.YtflpofmnjibjgaaStar0T
import Derived.Test.YtflpofmnjibjgaaStar0F
import Derived.Test.YtflpofmnjibjgaaStar1T
import Derived.Test.YtflpofmnjibjgaaStar1F
import Derived.Test.YtflpofmnjibjgaaStar2T
import Derived.Test.YtflpofmnjibjgaaStar2F
import Derived.Test.YtflpofmnjibjgaaStar3T
import Derived.Test.YtflpofmnjibjgaaStar3F
import Derived.Test.YtflpofmnjibjgaaStar4T
import Derived.Test.YtflpofmnjibjgaaStar4F
set_option linter.unusedVariables false
set_option linter.unusedSimpArgs false
namespace Go.Proofs.Ytflpofmnjibjgaa
open Go Go.V
set_option maxRecDepth 1000000
set_option maxHeartbeats 0

/-- what the law's own code may call, and what comes of it. -/
def EC (k m : Int) (w n : Int) : FuncId → List AV → AV → List AV → Prop := fun g xs res outs =>
  (g = 15 ∧ xs = [.lit (.int .i64 w), .lit (.int .i64 5)] ∧ res = .lit (.int .i64 k) ∧ outs = [.gone, .gone]) ∨
  (g = 15 ∧ xs = [.lit (.int .i64 n), .lit (.int .i64 4)] ∧ res = .lit (.int .i64 m) ∧ outs = [.gone, .gone]) ∨
  (g = 8 ∧ xs = [] ∧ res = .lit (.bool true) ∧ outs = []) ∨
  xrun P T I base0 2000 100 g xs = some (res, outs)

theorem P_mixed : P.follows .mixedOrders = true := by decide +kernel

theorem EC_ok {k m w n : Int} (hk : k = within w 5) (hm : m = within n 4) : ∀ g xs res outs, EC k m w n g xs res outs → Enters P g ∧ VCalls P g xs res outs := by
  rintro g xs res outs (⟨rfl, rfl, rfl, rfl⟩ | ⟨rfl, rfl, rfl, rfl⟩ | ⟨rfl, rfl, rfl, rfl⟩ | h)
  · rw [hk]; exact within_calls w 5 (.inl rfl)
  · rw [hm]; exact within_calls n 4 (.inr rfl)
  · exact runs 100 8 [] _ run8
  · exact runs 100 g xs _ h

theorem star_calls {k m : Int} {b : Bool} {j : Nat} {w n : Int} (hk : k = within w 5) (hm : m = within n 4) (h : star k m b w n = starIs k m j w n) :
    VCalls P 6 [.lit (.int .i64 w), .lit (.int .i64 n), .lit (.bool b)] (.lit (.bool true)) [.gone, .gone, .gone] := by
  unfold star starIs at h
  rw [Option.map_eq_some_iff] at h
  obtain ⟨q, h1, h2⟩ := h
  simp only [Prod.mk.injEq] at h2
  obtain ⟨h2, h3⟩ := h2
  let E : Env := ⟨P, T, EC k m w n⟩
  have hE : E.Good := ⟨T_ok, P_mixed, EC_ok hk hm⟩
  have htr : ∀ t ∈ q.2, E.C t.1 t.2.1 t.2.2.1 t.2.2.2 := by
    intro t ht
    have h4 := yend_tr h1 t ht
    obtain ⟨g, xs, res, outs⟩ := t
    simp only at h4
    show EC k m w n g xs res outs
    by_cases hg : g = 15
    · subst hg
      have hm : (15, xs, res, outs) ∈ q.2.filter fun t => t.1 == 15 := List.mem_filter.2 ⟨ht, rfl⟩
      rw [h3] at hm
      rcases List.mem_cons.1 hm with hm | hm
      · simp only [Prod.mk.injEq] at hm
        exact .inl ⟨rfl, hm.2.1, hm.2.2.1, hm.2.2.2⟩
      · have hm := List.eq_of_mem_replicate hm
        simp only [Prod.mk.injEq] at hm
        exact .inr (.inl ⟨rfl, hm.2.1, hm.2.2.1, hm.2.2.2⟩)
    · unfold ora at h4
      rw [if_neg hg] at h4
      by_cases hg2 : g = 8
      · rw [if_pos hg2] at h4
        subst hg2
        cases xs with
        | nil =>
          have h5 : some ((.lit (.bool true) : AV), ([] : List AV)) = some (res, outs) := h4
          simp only [Option.some.injEq, Prod.mk.injEq] at h5
          exact .inr (.inr (.inl ⟨rfl, rfl, h5.1.symm, h5.2.symm⟩))
        | cons x xs => cases h4
      · rw [if_neg hg2] at h4
        exact .inr (.inr (.inr h4))
  have hv := yend_vwp (E := E) h1 htr
  rw [h2] at hv
  exact vcalls_of hE (g := 6) (fn := i6.fn) (c := bodyOf i6.fn) (by kernel_rfl) (by kernel_rfl) (by show 3 ≤ _; decide +kernel) [] (by decide +kernel) rfl i6.pol i6.keep hv

theorem within_5 (a : Int) : within a 5 = 0 ∨ within a 5 = 1 ∨ within a 5 = 2 ∨ within a 5 = 3 ∨ within a 5 = 4 := by
  have := tmod_lt a 5 (by omega)
  unfold within; split <;> omega
theorem within_4 (a : Int) : within a 4 = 0 ∨ within a 4 = 1 ∨ within a 4 = 2 ∨ within a 4 = 3 := by
  have := tmod_lt a 4 (by omega)
  unfold within; split <;> omega

theorem stars (w n : Int) (b : Bool) : VCalls P 6 [.lit (.int .i64 w), .lit (.int .i64 n), .lit (.bool b)] (.lit (.bool true)) [.gone, .gone, .gone] := by
  rcases within_5 w with hk | hk | hk | hk | hk <;> rcases within_4 n with hm | hm | hm | hm <;> cases b
  · exact star_calls hk.symm hm.symm (starK0M0F w n)
  · exact star_calls hk.symm hm.symm (starK0M0T w n)
  · exact star_calls hk.symm hm.symm (starK0M1F w n)
  · exact star_calls hk.symm hm.symm (starK0M1T w n)
  · exact star_calls hk.symm hm.symm (starK0M2F w n)
  · exact star_calls hk.symm hm.symm (starK0M2T w n)
  · exact star_calls hk.symm hm.symm (starK0M3F w n)
  · exact star_calls hk.symm hm.symm (starK0M3T w n)
  · exact star_calls hk.symm hm.symm (starK1M0F w n)
  · exact star_calls hk.symm hm.symm (starK1M0T w n)
  · exact star_calls hk.symm hm.symm (starK1M1F w n)
  · exact star_calls hk.symm hm.symm (starK1M1T w n)
  · exact star_calls hk.symm hm.symm (starK1M2F w n)
  · exact star_calls hk.symm hm.symm (starK1M2T w n)
  · exact star_calls hk.symm hm.symm (starK1M3F w n)
  · exact star_calls hk.symm hm.symm (starK1M3T w n)
  · exact star_calls hk.symm hm.symm (starK2M0F w n)
  · exact star_calls hk.symm hm.symm (starK2M0T w n)
  · exact star_calls hk.symm hm.symm (starK2M1F w n)
  · exact star_calls hk.symm hm.symm (starK2M1T w n)
  · exact star_calls hk.symm hm.symm (starK2M2F w n)
  · exact star_calls hk.symm hm.symm (starK2M2T w n)
  · exact star_calls hk.symm hm.symm (starK2M3F w n)
  · exact star_calls hk.symm hm.symm (starK2M3T w n)
  · exact star_calls hk.symm hm.symm (starK3M0F w n)
  · exact star_calls hk.symm hm.symm (starK3M0T w n)
  · exact star_calls hk.symm hm.symm (starK3M1F w n)
  · exact star_calls hk.symm hm.symm (starK3M1T w n)
  · exact star_calls hk.symm hm.symm (starK3M2F w n)
  · exact star_calls hk.symm hm.symm (starK3M2T w n)
  · exact star_calls hk.symm hm.symm (starK3M3F w n)
  · exact star_calls hk.symm hm.symm (starK3M3T w n)
  · exact star_calls hk.symm hm.symm (starK4M0F w n)
  · exact star_calls hk.symm hm.symm (starK4M0T w n)
  · exact star_calls hk.symm hm.symm (starK4M1F w n)
  · exact star_calls hk.symm hm.symm (starK4M1T w n)
  · exact star_calls hk.symm hm.symm (starK4M2F w n)
  · exact star_calls hk.symm hm.symm (starK4M2T w n)
  · exact star_calls hk.symm hm.symm (starK4M3F w n)
  · exact star_calls hk.symm hm.symm (starK4M3T w n)
end Go.Proofs.Ytflpofmnjibjgaa
