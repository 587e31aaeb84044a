/- V: lengths, the lesser and the greater, functions by name, what a tuple holds. -/
import Derived.Test.YtflpofmnjibjgaaVOpE
set_option linter.unusedVariables false
set_option linter.unusedSimpArgs false
namespace Go.V
open Go

section
variable {P : Program} {T : TypeId → TI} {w0 : World} {F0 Z0 X : Foot} {σ σ' : Slots} {w : World} {Z : Foot} {Fs : Nat → Foot} {G : Nat → Hops → Value} {a : Act}
  {o : Oper} {v : AV} {ps : List Put} {pol : Bool}

theorem sound_len (hT : TOk P T) (k : Ok w0 F0 Z0 no (pk σ) a.tmps w Z Fs G) {c : Call} (ho : o.op = .call c) (hc : c.callee = .builtin .len)
    (h : (evOp P T pol (.call c)).run σ = some (v, ps)) (hσ : putAll ps σ = some σ') : Sound P w0 F0 Z0 a w o σ' v := by
  simp only [evOp, hc] at h
  cases hargs : c.args.toList with
  | nil => rw [hargs] at h; cases h
  | cons x l =>
    cases l with
    | cons y l => rw [hargs] at h; cases h
    | nil =>
      cases hts : c.argTypes.toList with
      | nil => rw [hargs, hts] at h; cases h
      | cons t l =>
        cases l with
        | cons y l => rw [hargs, hts] at h; cases h
        | nil =>
          rw [hargs, hts] at h
          simp only [Q.run_bind] at h
          replace h := bind_some_inv h
          obtain ⟨u, hu, h⟩ := h
          obtain ⟨hr, hv⟩ := opnd_ok k hu
          have hA : c.args = #[x] := by rw [← Array.toArray_toList (xs := c.args), hargs]
          have hB : c.argTypes = #[t] := by rw [← Array.toArray_toList (xs := c.argTypes), hts]
          have hexec : ∀ val, (Builtin.len_ #[t] o.type #[a.eval x]).run P w = .ok val w → (execOp a.eval o).run P w = .ok (.value val) w := by
            intro val hval
            simp [execOp, ho, resolve, hc, hA, hB, Go.invoke, Go.builtin, hval]
          unfold evLen at h
          cases hd : (T t).d with
          | slice el =>
            have hun := hT.slice hd
            rw [hd] at h
            simp only at h
            cases u with
            | view r hs lo len e =>
              simp only [Q.run, Option.some.injEq, Prod.mk.injEq] at h
              obtain ⟨rfl, rfl⟩ := h
              refine word_out k hσ rfl (hexec _ ?_)
              generalize a.eval x = val at hv
              cases hv with
              | view => simp [Builtin.len_, run_under hun, goInt]
            | slc o2 e rows =>
              simp only [Q.run, Option.some.injEq, Prod.mk.injEq] at h
              obtain ⟨rfl, rfl⟩ := h
              refine word_out k hσ rfl (hexec _ ?_)
              obtain ⟨_, hr⟩ := hr
              obtain ⟨b, off, m, e1, _⟩ := hr.sub
              simp [Builtin.len_, run_under hun, goInt, e1]
            | lit z =>
              cases z with
              | slice ad n m =>
                cases ad with
                | none =>
                  simp only [Q.run, Option.some.injEq, Prod.mk.injEq] at h
                  obtain ⟨rfl, rfl⟩ := h
                  refine word_out k hσ rfl (hexec _ ?_)
                  simp [Builtin.len_, run_under hun, goInt, lit_ok k hu]
                | some ad => cases h
              | _ => cases h
            | _ => cases h
          | str =>
            have hun := hT.str hd
            rw [hd] at h
            simp only at h
            cases u with
            | lit z =>
              cases z with
              | string s =>
                simp only [Q.run, Option.some.injEq, Prod.mk.injEq] at h
                obtain ⟨rfl, rfl⟩ := h
                refine word_out k hσ rfl (hexec _ ?_)
                simp [Builtin.len_, run_under hun, goInt, lit_ok k hu]
              | _ => cases h
            | _ => cases h
          | _ => rw [hd] at h; cases h

theorem two_args {c : Call} {x y : Operand} (h : c.args.toList = [x, y]) : c.args = #[x, y] := by rw [← Array.toArray_toList (xs := c.args), h]

theorem sound_minmax (k : Ok w0 F0 Z0 no (pk σ) a.tmps w Z Fs G) {c : Call} {bi : Builtin} (ho : o.op = .call c) (hc : c.callee = .builtin bi) (hbi : bi = .min ∨ bi = .max)
    (h : (evOp P T pol (.call c)).run σ = some (v, ps)) (hσ : putAll ps σ = some σ') : Sound P w0 F0 Z0 a w o σ' v := by
  rcases hbi with rfl | rfl
  all_goals
    simp only [evOp, hc] at h
    cases hargs : c.args.toList with
    | nil => rw [hargs] at h; cases h
    | cons x l =>
      cases l with
      | nil => rw [hargs] at h; cases h
      | cons y l =>
        cases l with
        | cons z l => rw [hargs] at h; cases h
        | nil =>
          rw [hargs] at h
          simp only [Q.run_bind] at h
          replace h := bind_some_inv h
          obtain ⟨u1, hu1, h⟩ := h
          replace h := bind_some_inv h
          obtain ⟨u2, hu2, h⟩ := h
          replace h := bind_some_inv h
          obtain ⟨q1, hq1, h⟩ := h
          replace h := bind_some_inv h
          obtain ⟨q2, hq2, h⟩ := h
          replace h := bind_some_inv h
          obtain ⟨q3, hq3, h⟩ := h
          have e1 := asLit_inv hq1
          have e2 := asLit_inv hq2
          rw [e1] at hu1
          rw [e2] at hu2
          obtain ⟨val, rfl, hpl, hrun⟩ := ofS_ok hq3
          simp only [Q.run, Option.some.injEq, Prod.mk.injEq] at h
          obtain ⟨rfl, rfl⟩ := h
          refine word_out k hσ hpl ?_
          have := hrun w
          simp [execOp, ho, resolve, hc, two_args hargs, Go.invoke, Go.builtin, lit_ok k hu1, lit_ok k hu2, Builtin.min_, Builtin.max_, this]

theorem sound_makeFunc (k : Ok w0 F0 Z0 no (pk σ) a.tmps w Z Fs G) {fn : Fn} {first caps : Array Operand} (ho : o.op = .makeFunc fn first caps)
    (h : (evOp P T pol (.makeFunc fn first caps)).run σ = some (v, ps)) (hσ : putAll ps σ = some σ') : Sound P w0 F0 Z0 a w o σ' v := by
  simp only [evOp] at h
  cases fn with
  | func f =>
    simp only at h
    split at h
    · rename_i hc
      obtain ⟨rfl, rfl⟩ := hc
      simp only [Q.run, Option.some.injEq, Prod.mk.injEq] at h
      obtain ⟨rfl, rfl⟩ := h
      have := nil2 hσ
      subst this
      exact ⟨.func (.func f) #[] #[], w, .inl (by simp [execOp, ho, Instr.makeFunc]), Out.idle k ⟨fun _ => undef, .clo f⟩ .clo⟩
    · cases h
  | _ => cases h

theorem sound_extract (k : Ok w0 F0 Z0 no (pk σ) a.tmps w Z Fs G) {t : Operand} {j : Nat} (ho : o.op = .extract t j)
    (h : (evOp P T pol (.extract t j)).run σ = some (v, ps)) (hσ : putAll ps σ = some σ') : Sound P w0 F0 Z0 a w o σ' v := by
  simp only [evOp] at h
  cases t with
  | tmp s =>
    simp only [Q.run, AV.get, Option.bind_some] at h
    cases hp : pk σ s with
    | tup vs =>
      rw [hp] at h
      simp only at h
      cases hj : vs[j]? with
      | none => rw [hj] at h; cases h
      | some x =>
        rw [hj] at h
        simp only at h
        split at h
        case isFalse => cases h
        rename_i hfree
        by_cases hown : x.owns = false
        · simp only [hown, Bool.false_eq_true, if_false, Q.run, Option.some.injEq, Prod.mk.injEq] at h
          obtain ⟨rfl, rfl⟩ := h
          have := nil2 hσ
          subst this
          have hr := k.rep s
          rw [hp] at hr
          generalize hval : a.tmps.getD s undef = val at hr
          cases hr with
          | tup _ us Gc Fc hl hsub hdis hrep =>
            have hjlt : j < vs.length := (List.getElem?_eq_some_iff.1 hj).1
            obtain ⟨z, hz1, hz2⟩ := getD_lt (vs := us) (i := j) (by omega)
            have hz3 := hrep j x hj
            rw [hz2] at hz3
            have hvx : ∀ f G, Vok f G x z := by
              intro f G
              cases x with
              | agg cs =>
                cases hz3 with
                | agg _ vs' Gc' Fc' hl' hsub' hdis' hrep' => exact .agg fun i y hy => free_vok (List.all_eq_true.1 hfree y (List.mem_of_getElem? hy)) _
                | arr q o e rows b off m val Fc ha he hm hrow hown hshr hsub hdis hcell hrep hG => simp [AV.arr] at ha
              | _ => exact free_vok (by simpa only [AV.free2] using hfree) _
            refine ⟨z, w, .inl ?_, Out.idle k ⟨_, hz3.noOwn hown⟩ (hvx _ _)⟩
            have : a.tmps.getD s undef = .tuple us := hval
            simp only [execOp, ho, Act.eval, hval, Instr.extract, hz1]
            simp
          | arr q o e rows b off m val Fc ha he hm hrow hown hshr hsub hdis hcell hrep hG => simp [AV.arr] at ha
        have hown : x.owns = true := by simpa using hown
        simp only [hown, if_true, Q.run, Option.some.injEq, Prod.mk.injEq] at h
        obtain ⟨rfl, rfl⟩ := h
        simp only [putAll] at hσ
        cases ht : Put.to ⟨s, [], .tup (vs.set j .gone)⟩ σ with
        | none => rw [ht] at hσ; cases hσ
        | some τ =>
          rw [ht] at hσ
          simp only [Option.bind_some, Option.some.injEq] at hσ
          subst hσ
          obtain ⟨n, h1, h2, h3⟩ := put_to ht
          simp only [AV.get, Option.some.injEq] at h1
          subst h1
          have hr := k.rep s
          have hvk := k.vok s
          rw [hp] at hr
          generalize hval : a.tmps.getD s undef = val at hr
          cases hr with
          | tup _ us Gc Fc hl hsub hdis hrep =>
            have hjlt : j < vs.length := (List.getElem?_eq_some_iff.1 hj).1
            obtain ⟨z, hz1, hz2⟩ := getD_lt (vs := us) (i := j) (by omega)
            have hz3 := hrep j x hj
            rw [hz2] at hz3
            have hvx : ∀ f G, Vok f G x z := by
              intro f G
              cases x with
              | agg cs =>
                cases hz3 with
                | agg _ vs' Gc' Fc' hl' hsub' hdis' hrep' => exact .agg fun i y hy => free_vok (List.all_eq_true.1 hfree y (List.mem_of_getElem? hy)) _
                | arr q o e rows b off m val Fc ha he hm hrow hown hshr hsub hdis hcell hrep hG => simp [AV.arr] at ha
              | _ => exact free_vok (by simpa only [AV.free2] using hfree) _
            have hFs : ∀ i x y, Fc i x y → Fs s x y := hsub
            have hk : ∃ Fs' G', Ok w0 F0 Z0 (Fc j) (putF (pk σ) s [] (.tup (vs.set j .gone)) (pk σ s).node) a.tmps w Z Fs' G' := by
              refine ⟨_, _, k.slot s (ts' := a.tmps) (v := .tuple us) (Fd := fun x y => ∃ i, i ≠ j ∧ Fc i x y) (Gd := fun _ => undef) (X' := Fc j) ?_ (fun x y _ => .refl w x y) (Nat.le_refl _) (.refl w) (fun _ _ q => q) k.shared ?_ ?_ ?_ ?_ .tup⟩
              · intro t; split
                · rename_i htt; rw [htt]; exact hval
                · rfl
              · intro t x' y' ht q
                have q' := k.foot t x' y' q
                exact ⟨q'.1, fun u => ht (k.dis _ _ _ _ q (hFs _ _ _ u)), fun ⟨i, _, u⟩ => ht (k.dis _ _ _ _ q (hFs _ _ _ u))⟩
              · rintro x' y' ⟨i, hi, q⟩
                have q' := k.foot s x' y' (hFs _ _ _ q)
                exact ⟨q'.1, fun u => hi (hdis _ _ _ _ q u), q'.2.2⟩
              · intro x' y' q
                have q' := k.foot s x' y' (hFs _ _ _ q)
                exact ⟨q'.1, q'.2.2⟩
              · refine .tup _ us Gc (fun i x' y' => i ≠ j ∧ Fc i x' y') (by simp [hl]) (fun i x' y' q => ⟨i, q⟩) (fun i i' x' y' q q' => hdis _ _ _ _ q.2 q'.2) ?_
                intro i y hy
                rw [List.getElem?_set] at hy
                by_cases hij : j = i
                · subst hij
                  simp only [if_true, hjlt] at hy
                  simp only [Option.some.injEq] at hy
                  subst hy; exact .gone
                · simp only [hij, if_false] at hy
                  exact (hrep i y hy).mono (fun x' y' q => ⟨fun e => hij e.symm, q⟩)
            obtain ⟨Fs', G', hk⟩ := hk
            refine ⟨z, w, .inl ?_, Z, Fs', G', Fc j, Gc j, by rw [h3]; exact hk, hz3, hvx _ _⟩
            have : a.tmps.getD s undef = .tuple us := hval
            simp only [execOp, ho, Act.eval, hval, Instr.extract, hz1]
            simp
          | arr q o e rows b off m val Fc ha he hm hrow hown hshr hsub hdis hcell hrep hG => simp [AV.arr] at ha
    | _ => rw [hp] at h; cases h
  | _ => cases h

end
end Go.V
