/- V: cuts, lengths, the lesser and the greater. -/
import Derived.Test.YtflpofmnjibjgaaVOpD
set_option linter.unusedVariables false
set_option linter.unusedSimpArgs false
namespace Go.V
open Go

section
variable {P : Program} {T : TypeId → TI} {w0 : World} {F0 Z0 X : Foot} {σ σ' : Slots} {w : World} {Z : Foot} {Fs : Nat → Foot} {G : Nat → Hops → Value} {a : Act}
  {o : Oper} {v : AV} {ps : List Put} {pol : Bool}

/-- an optional bound, as it is read. -/
theorem opt_inv {x : Option Operand} {l : Option AV} (h : (opt x).run σ = some l) : (x = none ∧ l = none) ∨ ∃ p u, x = some p ∧ l = some u ∧ (opnd p).run σ = some u := by
  cases x with
  | none => simp only [opt, Q.run, Option.some.injEq] at h; exact .inl ⟨rfl, h.symm⟩
  | some p =>
    simp only [opt, Q.run_bind] at h
    obtain ⟨u, hu, h⟩ := bind_some_inv h
    simp only [Q.run, Option.some.injEq] at h
    exact .inr ⟨p, u, rfl, h.symm, hu⟩

theorem bound_inv (k : Ok w0 F0 Z0 X (pk σ) a.tmps w Z Fs G) {x : Option Operand} {l : Option AV} {d i : Int} (h : (opt x).run σ = some l) (hb : (boundQ d l).run σ = some i) :
    (x = none ∧ l = none ∧ i = d) ∨ ∃ p kk, x = some p ∧ l ≠ none ∧ a.eval p = .int kk i := by
  rcases opt_inv h with ⟨rfl, rfl⟩ | ⟨p, u, rfl, rfl, hu⟩
  · simp only [boundQ, Q.run, Option.some.injEq] at hb; exact .inl ⟨rfl, rfl, hb.symm⟩
  · simp only [boundQ] at hb
    obtain ⟨kk, hje⟩ := idx_inv hb
    rw [hje] at hu
    exact .inr ⟨p, kk, rfl, by simp, lit_ok k hu⟩

theorem run_bound {kk : IntKind} {i : Int} {y : Nat} {code : BoundsCode} (h0 : 0 ≤ i) (h1 : i ≤ y) (w : World) : (Instr.sliceBound (.int kk i) y code).run P w = .ok i.toNat w := by
  simp [Instr.sliceBound, asIntOf, h0, h1]

/-- the bounds of a cut, as the machine reckons them. -/
theorem run_bounds (k : Ok w0 F0 Z0 X (pk σ) a.tmps w Z Fs G) {lo hi : Option Operand} {l h : Option AV} {n cap : Nat} {q : Nat × Nat} {isS : Bool} (hl : (opt lo).run σ = some l) (hh : (opt hi).run σ = some h)
    (hq : (sliceLoHi n l h).run σ = some q) (hc : n ≤ cap) : (Instr.sliceBounds isS n cap (lo.map a.eval) (hi.map a.eval) none).run P w = .ok (q.1, q.2, cap) w ∧ q.1 ≤ q.2 ∧ q.2 ≤ n := by
  unfold sliceLoHi at hq
  simp only [Q.run_bind] at hq
  replace hq := bind_some_inv hq
  obtain ⟨i, hi', hq⟩ := hq
  replace hq := bind_some_inv hq
  obtain ⟨j, hj', hq⟩ := hq
  split at hq
  · rename_i hcond
    simp only [Q.run, Option.some.injEq] at hq
    subst hq
    refine ⟨?_, by simp; omega, by simp; omega⟩
    rcases bound_inv k hh hi' with ⟨rfl, _, rfl⟩ | ⟨p, kk, rfl, _, hp⟩ <;> rcases bound_inv k hl hj' with ⟨rfl, _, rfl⟩ | ⟨p', kk', rfl, _, hp'⟩
    · simp [Instr.sliceBounds]
    · simp only [Instr.sliceBounds, Option.map_none, Option.map_some, hp', Sem.run_bind, Sem.run_pure, Result.andThen_ok]
      rw [run_bound hcond.1 (by simpa using hcond.2.1)]
      simp
    · simp only [Instr.sliceBounds, Option.map_none, Option.map_some, hp, Sem.run_bind, Sem.run_pure, Result.andThen_ok]
      rw [run_bound (by omega) (by omega)]
      simp
    · simp only [Instr.sliceBounds, Option.map_none, Option.map_some, hp, hp', Sem.run_bind, Sem.run_pure, Result.andThen_ok]
      rw [run_bound (by omega) (by omega)]
      simp only [Result.andThen_ok]
      rw [run_bound hcond.1 (by omega)]
      simp
  · cases hq

theorem sound_slice (hT : TOk P T) (k : Ok w0 F0 Z0 no (pk σ) a.tmps w Z Fs G) {t : TypeId} {x : Operand} {lo hi mx : Option Operand} (ho : o.op = .slice t x lo hi mx)
    (h : (evOp P T pol (.slice t x lo hi mx)).run σ = some (v, ps)) (hσ : putAll ps σ = some σ') : Sound P w0 F0 Z0 a w o σ' v := by
  simp only [evOp, Q.run_bind] at h
  replace h := bind_some_inv h
  obtain ⟨u, hu, h⟩ := h
  replace h := bind_some_inv h
  obtain ⟨l, hl, h⟩ := h
  replace h := bind_some_inv h
  obtain ⟨hh, hhi, h⟩ := h
  replace h := bind_some_inv h
  obtain ⟨m, hm, h⟩ := h
  obtain ⟨hr, hv⟩ := opnd_ok k hu
  unfold evSlice at h
  cases hd : (T t).d with
  | slice el =>
    have hun := hT.slice hd
    rw [hd] at h
    simp only at h
    rcases opt_inv hm with ⟨rfl, rfl⟩ | ⟨pm, um, rfl, rfl, hum⟩
    · simp only at h
      cases u with
      | view r hs a' n e =>
        simp only [Q.run_bind] at h
        replace h := bind_some_inv h
        obtain ⟨q, hq, h⟩ := h
        split at h
        · rename_i hc
          obtain ⟨rfl, c2⟩ := hc
          simp only [Q.run, Option.some.injEq, Prod.mk.injEq] at h
          obtain ⟨rfl, rfl⟩ := h
          have := nil2 hσ
          subst this
          have hsz := hT.size (ok_ne c2) w
          generalize hval : a.eval x = val at hv
          cases hv with
          | view rows b off m off' hget hG hle hoff =>
            have hmr : rows.length ≤ m := by
              obtain ⟨vn, hrr⟩ := Rep.at hs (k.rep r) hget
              obtain ⟨b', off2, m', e1, e2, e3, _⟩ := hrr.sub
              simp only [List.append_nil] at e2
              rw [← e2, hG] at e1
              simp only [Value.slice.injEq] at e1
              omega
            obtain ⟨hb, hq1, hq2⟩ := run_bounds (P := P) (w := w) (isS := true) k hl hhi hq (show n ≤ m - a' by omega)
            refine ⟨.slice (some ⟨b, if m - a' = q.1 then off' else off' + q.1 * (T el).size, none⟩) (q.2 - q.1) (m - (a' + q.1)), w, .inl ?_, Out.idle k ⟨fun _ => undef, .view rfl⟩ (.view rows b off m _ hget hG (by omega) ?_)⟩
            · have : m - a' - q.1 = m - (a' + q.1) := by omega
              simp only [execOp, ho, hval, Instr.sliceAt, Instr.slice, Sem.run_bind, run_under hun, Result.andThen_ok, hb, hsz, Option.map_none]
              simp only [Sem.run_pure, Result.andThen_ok, this]
              split <;> simp [add_none]
            · split
              · rename_i hcut
                by_cases hz : a' + q.1 = 0
                · have ha0 : a' = 0 := by omega
                  have hq0 : q.1 = 0 := by omega
                  rcases hoff with rfl | ⟨_, h0⟩
                  · left; rw [ha0, hq0]
                  · exact absurd ha0 h0
                · right; exact ⟨by omega, hz⟩
              · rcases hoff with rfl | ⟨rfl, h0⟩
                · left; rw [Nat.add_mul]; omega
                · right; exact ⟨by omega, by omega⟩
        · cases h
      | slc o2 e rows =>
        simp only [Q.run_bind] at h
        replace h := bind_some_inv h
        obtain ⟨q, hq, h⟩ := h
        split at h
        · rename_i hc
          obtain ⟨rfl, rfl, c2⟩ := hc
          simp only [Q.run, Option.some.injEq, Prod.mk.injEq] at h
          obtain ⟨rfl, rfl⟩ := h
          have := nil2 hσ
          subst this
          have hsz := hT.size (ok_ne c2) w
          obtain ⟨Gx, hr⟩ := hr
          obtain ⟨b, off, m, e1, e2, e3, e4⟩ := hr.sub
          obtain ⟨hb, hq1, hq2⟩ := run_bounds (P := P) (w := w) (isS := true) k hl hhi hq e3
          obtain ⟨G', hr'⟩ := e4 q.1 (q.2 - q.1) (if m = q.1 then off else off + q.1 * (T el).size) (by omega) (by split; (right; assumption); (left; rfl))
          refine ⟨_, w, .inl ?_, Out.idle k ⟨G', hr'⟩ .slc⟩
          simp only [execOp, ho, e1, Instr.sliceAt, Instr.slice, Sem.run_bind, run_under hun, Result.andThen_ok, hb, hsz, Option.map_none]
          simp only [Sem.run_pure, Result.andThen_ok]
          split <;> simp [add_none]
        · cases h
      | lit u =>
        cases u with
        | slice ad n m =>
          cases ad with
          | none =>
            cases n with
            | zero =>
              cases m with
              | zero =>
                simp only [Q.run_bind] at h
                replace h := bind_some_inv h
                obtain ⟨q, hq, h⟩ := h
                split at h
                · rename_i c2
                  simp only [Q.run, Option.some.injEq, Prod.mk.injEq] at h
                  obtain ⟨rfl, rfl⟩ := h
                  have hsz := hT.size (ok_ne c2) w
                  obtain ⟨hb, hq1, hq2⟩ := run_bounds (P := P) (w := w) (isS := true) k hl hhi hq (Nat.le_refl 0)
                  have h1 : q.1 = 0 := by omega
                  have h2 : q.2 = 0 := by omega
                  refine word_out k hσ rfl ?_
                  simp only [execOp, ho, lit_ok k hu, Instr.sliceAt, Instr.slice, Sem.run_bind, run_under hun, Result.andThen_ok, hb, hsz, Option.map_none]
                  simp [h1, h2]
                · cases h
              | succ m => cases h
            | succ n => cases h
          | some ad => cases h
        | _ => cases h
      | _ => cases h
    · simp only [Q.run_bind] at h
      replace h := bind_some_inv h
      obtain ⟨kx, hkx, h⟩ := h
      rcases opt_inv hhi with ⟨rfl, rfl⟩ | ⟨ph, uh, rfl, rfl, huh⟩
      · cases h
      · simp only [Q.run_bind] at h
        replace h := bind_some_inv h
        obtain ⟨jx, hjx, h⟩ := h
        rcases opt_inv hl with ⟨rfl, rfl⟩ | ⟨pl, ul, rfl, rfl, hul⟩
        · simp only at h
          split at h
          · rename_i hc
            obtain ⟨rfl, rfl, c3, c4⟩ := hc
            obtain ⟨k1, hk1⟩ := idx_inv hkx
            obtain ⟨k2, hk2⟩ := idx_inv hjx
            rw [hk1] at hum
            rw [hk2] at huh
            have e1 := lit_ok k hum
            have e2 := lit_ok k huh
            have hsz := hT.size (ok_ne c4) w
            have hb : ∀ n cap, (Instr.sliceBounds true n cap none (some (a.eval ph)) (some (a.eval pm))).run P w = .ok (0, 0, 0) w := by
              intro n cap
              simp only [Instr.sliceBounds, e1, e2, Sem.run_bind]
              rw [run_bound (Int.le_refl 0) (by omega)]
              simp only [Result.andThen_ok, Int.toNat_zero, Sem.run_bind]
              rw [run_bound (Int.le_refl 0) (by omega)]
              simp
            split at h
            · rename_i hsl
              simp only [Q.run, Option.some.injEq, Prod.mk.injEq] at h
              obtain ⟨rfl, rfl⟩ := h
              have := nil2 hσ
              subst this
              obtain ⟨ad, n, m, hval⟩ := eq_nil hr hv (slcish_inv hsl)
              have hadn : ad.spot = none := by
                rcases slcish_inv hsl with ⟨_, _, _, _, _, rfl⟩ | ⟨_, _, _, rfl⟩
                · generalize a.eval x = val at hv hval
                  cases hv with
                  | view => simp only [Value.slice.injEq, Option.some.injEq] at hval; rw [← hval.1]
                · obtain ⟨_, hr⟩ := hr
                  obtain ⟨b, off, m', e1', _⟩ := hr.sub
                  rw [hval] at e1'
                  simp only [Value.slice.injEq, Option.some.injEq] at e1'
                  rw [e1'.1]
              refine ⟨.slice (some ad) 0 0, w, .inl ?_, Out.idle k ⟨fun _ => .slice (some ad) 0 0, ?_⟩ .slc⟩
              · simp only [execOp, ho, hval, Instr.sliceAt, Instr.slice, Sem.run_bind, run_under hun, Result.andThen_ok, hb, hsz, Option.map_none, Option.map_some]
                simp
              · obtain ⟨b, off, sp⟩ := ad
                simp only at hadn
                subst hadn
                exact .arr (.slc true (T el).size []) true (T el).size [] b off 0 (fun _ => undef) (fun _ => no) rfl c3 (by simp [capOk]) (fun r hr => by simp at hr)
                  (fun _ j hj => by omega) (fun q => by cases q) (fun h x y q => q.elim) (fun h g x y q => q.elim) (fun h x hx => by simp [cellOf] at hx) (fun h x hx => by simp [cellOf] at hx) rfl
            · split at h
              · rename_i hnl
                obtain ⟨n, m, rfl⟩ := nilish_inv hnl
                simp only [Q.run, Option.some.injEq, Prod.mk.injEq] at h
                obtain ⟨rfl, rfl⟩ := h
                have hpl : plain (.slice none n m) = true := by
                  obtain ⟨_, hr⟩ := hr
                  generalize a.eval x = val at hr
                  cases hr with
                  | lit h => exact h
                  | arr q o e rows b off m val Fc ha he hm hrow hown hshr hsub hdis hcell hrep hG => simp [AV.arr] at ha
                have hnm : n = 0 ∧ m = 0 := by cases n <;> cases m <;> simp [plain] at hpl <;> exact ⟨rfl, rfl⟩
                obtain ⟨rfl, rfl⟩ := hnm
                refine word_out k hσ rfl ?_
                simp only [execOp, ho, lit_ok k hu, Instr.sliceAt, Instr.slice, Sem.run_bind, run_under hun, Result.andThen_ok, hb, hsz, Option.map_none, Option.map_some]
                simp
              · cases h
          · cases h
        · cases h
  | str =>
    have hun := hT.str hd
    rw [hd] at h
    simp only at h
    rcases opt_inv hm with ⟨rfl, rfl⟩ | ⟨pm, um, rfl, rfl, hum⟩
    · cases u with
      | lit z =>
        cases z with
        | string s =>
          simp only [Q.run_bind] at h
          replace h := bind_some_inv h
          obtain ⟨q, hq, h⟩ := h
          simp only [Q.run, Option.some.injEq, Prod.mk.injEq] at h
          obtain ⟨rfl, rfl⟩ := h
          obtain ⟨hb, hq1, hq2⟩ := run_bounds (P := P) (w := w) (isS := false) k hl hhi hq (Nat.le_refl _)
          refine word_out k hσ rfl ?_
          simp only [execOp, ho, lit_ok k hu, Instr.sliceAt, Instr.slice, Sem.run_bind, run_under hun, Result.andThen_ok, Option.map_none]
          simp [hb]
        | _ => cases h
      | _ => cases h
    · cases u with
      | lit z => cases z <;> cases h
      | _ => cases h
  | _ => rw [hd] at h; cases h

end
end Go.V
