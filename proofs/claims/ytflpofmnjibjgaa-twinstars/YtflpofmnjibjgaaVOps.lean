/- V: each operation does to memory what it does to trees: operands, what is taken for storing. -/
import Derived.Test.YtflpofmnjibjgaaVOk
set_option linter.unusedVariables false
set_option linter.unusedSimpArgs false
namespace Go.V
open Go

theorem Q.run_bind {α β : Type} (σ : Slots) (q : Q α) (f : α → Q β) : (q.bind f).run σ = (q.run σ).bind fun a => (f a).run σ := by
  induction q with
  | ret a => rfl
  | fail => rfl
  | slot t k ih => exact ih _
  | cells r hs i c n k ih =>
    simp only [Q.bind, Q.run]
    cases cellsAt σ r hs i c n with
    | none => rfl
    | some l => exact ih l
  | deep r hs k ih =>
    simp only [Q.bind, Q.run]
    cases (pk σ r).get hs with
    | none => rfl
    | some l => exact ih l

theorem Q.run_bind' {α β : Type} (σ : Slots) (q : Q α) (f : α → Q β) : (q >>= f).run σ = (q.run σ).bind fun a => (f a).run σ := Q.run_bind σ q f
theorem Q.run_pure {α : Type} (σ : Slots) (a : α) : (pure a : Q α).run σ = some a := rfl
theorem Q.run_ret {α : Type} (σ : Slots) (a : α) : (Q.ret a : Q α).run σ = some a := rfl
theorem Q.run_fail {α : Type} (σ : Slots) : (Q.fail : Q α).run σ = none := rfl

theorem guardQ_run {σ : Slots} {b : Bool} {u : Unit} (h : (guardQ b).run σ = some u) : b = true := by
  unfold guardQ at h; cases b <;> simp [Q.run] at h ⊢

theorem Rep.shrNo {w : World} {Z : Foot} {G : Hops → Value} {a : AV} {v : Value} {F : Foot} (h : Rep w Z G a v F) (ha : ∀ x, a.arr = some x → x.1 = false) (hm : ∀ o es, a = .map o es → o = false)
    (hg : a.flat = true) : Rep w Z G a v no := by
  cases h with
  | lit h => exact .lit h
  | gone => exact .gone
  | dead h => exact .dead h
  | ref h => exact .ref h
  | view h => exact .view h
  | mref h => exact .mref h
  | held h hG => exact .held h hG
  | arr a o e rows b off m val Fc ha' he hm hrow hown hshr hsub hdis hcell hrep hG =>
    have : o = false := ha _ ha'
    subst this
    exact .arr a false e rows b off m val Fc ha' he hm hrow (fun q => by cases q) hshr (fun h x y q => by cases (hsub h x y q).1) hdis hcell hrep hG
  | agg cs vs Gc Fc hl hsub hdis hrep => cases hg
  | tup cs vs Gc Fc hl hsub hdis hrep => cases hg
  | clo f => exact .clo f
  | map o es b entries clock hw hes hp hF hZ hG =>
    have := hm _ _ rfl
    subst this
    exact .map false es b entries clock hw hes hp (fun q => by cases q) hZ hG

theorem Rep.one {w : World} {Z : Foot} {G : Hops → Value} {a : AV} {v : Value} {F : Foot} (h : Rep w Z G a v F) (hf : a.flat = true) (hg : a ≠ .gone) : v.oneCell' = true ∨ ∃ x, a = .lit x := by
  cases h with
  | lit h => exact .inr ⟨_, rfl⟩
  | gone => exact (hg rfl).elim
  | dead h => exact .inl h
  | ref h => exact .inl h
  | view h => exact .inl h
  | mref h => exact .inl h
  | held h hG => exact .inl h
  | arr a o e rows b off m val Fc ha' he hm hrow hown hshr hsub hdis hcell hrep hG => left; unfold hdr; split <;> rfl
  | agg => cases hf
  | tup => cases hf
  | clo f => exact .inl rfl
  | map => exact .inl rfl

theorem Rep.memOne {w : World} {Z : Foot} {G : Hops → Value} {a : AV} {v : Value} {F : Foot} (h : Rep w Z G a v F) (hm : a.mem = true) : v.oneCell' = true := by
  rcases h.one (by cases a <;> first | rfl | cases hm) (fun q => by subst q; cases hm) with q | ⟨x, rfl⟩
  · exact q
  · cases hm

theorem Rep.part {w : World} {Z : Foot} {G : Hops → Value} {a : AV} {v : Value} {F : Foot} (h : Rep w Z G a v F) : Rep w Z G a.part v no := by
  cases a with
  | slc o e rows =>
    cases o <;> simp only [AV.part, if_true, Bool.false_eq_true, if_false]
    · exact h.shrNo (by simp [AV.arr]) (by simp) rfl
    · exact .dead (h.memOne rfl)
  | box o cs =>
    cases o <;> simp only [AV.part, if_true, Bool.false_eq_true, if_false]
    · exact h.shrNo (by simp [AV.arr]) (by simp) rfl
    · exact .dead (h.memOne rfl)
  | map o es =>
    cases o <;> simp only [AV.part, if_true, Bool.false_eq_true, if_false]
    · exact h.shrNo (by simp [AV.arr]) (by simp) rfl
    · exact .dead (h.memOne rfl)
  | agg cs => exact .gone
  | tup cs => exact .gone
  | held => exact .dead (h.memOne rfl)
  | _ => exact h.shrNo (by simp [AV.arr]) (by simp) rfl

theorem Vok.part {f : Nat → AV} {G : Nat → Hops → Value} {a : AV} {v : Value} (h : Vok f G a v) : Vok f G a.part v := by
  cases a with
  | slc o e rows => cases o <;> simp only [AV.part, if_true, Bool.false_eq_true, if_false] <;> first | exact .dead | exact .slc
  | box o cs => cases o <;> simp only [AV.part, if_true, Bool.false_eq_true, if_false] <;> first | exact .dead | exact .box
  | map o es => cases o <;> simp only [AV.part, if_true, Bool.false_eq_true, if_false] <;> first | exact .dead | exact .map
  | agg cs => exact .gone
  | tup cs => exact .gone
  | held => exact .dead
  | _ => exact h

section
variable {P : Program} {T : TypeId → TI} {w0 : World} {F0 Z0 X : Foot} {σ : Slots} {w : World} {Z : Foot} {Fs : Nat → Foot} {G : Nat → Hops → Value} {a : Act}

theorem sh_ok (k : Ok w0 F0 Z0 X (pk σ) a.tmps w Z Fs G) (t : Nat) :
    (∃ Gx, Rep w Z Gx ((pk σ t).sh t) (a.tmps.getD t undef) no) ∧ Vok (pk σ) G ((pk σ t).sh t) (a.tmps.getD t undef) := by
  have hr := k.rep t
  have hv := k.vok t
  cases hp : pk σ t with
  | slc o e rows =>
    rw [hp] at hr hv
    cases o with
    | true =>
      simp only [AV.sh, AV.sh1, if_true]
      obtain ⟨b, off, m, h1, h2, h3, _⟩ := hr.sub
      refine ⟨⟨fun _ => undef, .view (hr.memOne rfl)⟩, ?_⟩
      rw [h1]
      exact Vok.view rows b off m off (by rw [hp]; rfl) (by rw [h2, h1]) (by omega) (.inl (by omega))
    | false => simp only [AV.sh, AV.sh1, Bool.false_eq_true, if_false]; exact ⟨⟨_, hr.shrNo (by simp [AV.arr]) (by simp) rfl⟩, .slc⟩
  | box o cs =>
    rw [hp] at hr hv
    cases o with
    | true =>
      simp only [AV.sh, AV.sh1, if_true]
      refine ⟨⟨fun _ => undef, .ref (hr.memOne rfl)⟩, ?_⟩
      generalize hq : AV.box true cs = q at hr
      generalize hu : a.tmps.getD t undef = u at hr
      cases hr with
      | arr q o e rows b off m val Fc ha he hm hrow hown hshr hsub hdis hcell hrep hG =>
        subst hq
        have := Vok.ref (f := pk σ) (G := G) (r := t) (hs := []) (i := 0) (c := 0) (.box true cs) o e rows b off m (by rw [hp]; rfl) ha hG
        simpa [hdr] using this
      | _ => cases hq
    | false => simp only [AV.sh, AV.sh1, Bool.false_eq_true, if_false]; exact ⟨⟨_, hr.shrNo (by simp [AV.arr]) (by simp) rfl⟩, .box⟩
  | map o es =>
    rw [hp] at hr hv
    cases o with
    | true =>
      simp only [AV.sh, AV.sh1, if_true]
      refine ⟨⟨fun _ => undef, .mref (hr.memOne rfl)⟩, ?_⟩
      generalize hq : AV.map true es = q at hr
      generalize hu : a.tmps.getD t undef = u at hr
      cases hr with
      | map o es' b entries clock hw hes hpl hF hZ hG =>
        have := Vok.mref (f := pk σ) (G := G) (r := t) (hs := []) (.map true es) (by rw [hp]; rfl) (.inr ⟨_, _, rfl⟩)
        rw [hG] at this; exact this
      | arr q o e rows b off m val Fc ha he hm hrow hown hshr hsub hdis hcell hrep hG => subst hq; simp [AV.arr] at ha
      | _ => cases hq
    | false => simp only [AV.sh, AV.sh1, Bool.false_eq_true, if_false]; exact ⟨⟨_, hr.shrNo (by simp [AV.arr]) (by simp) rfl⟩, .map⟩
  | agg cs =>
    rw [hp] at hr hv
    simp only [AV.sh]
    generalize hu : a.tmps.getD t undef = u at hr hv
    cases hr with
    | agg _ vs Gc Fc hl hsub hdis hrep =>
      refine ⟨⟨fun _ => undef, .agg _ vs Gc (fun _ => no) (by simp [hl]) (fun i x y q => q) (fun i j x y q => q.elim) ?_⟩, ?_⟩
      · intro i x hx
        rw [List.getElem?_map] at hx
        cases hc : cs[i]? with
        | none => rw [hc] at hx; cases hx
        | some y => rw [hc] at hx; simp only [Option.map_some, Option.some.injEq] at hx; rw [← hx]; exact (hrep i y hc).part
      · cases hv with
        | agg hv =>
          refine .agg fun i x hx => ?_
          rw [List.getElem?_map] at hx
          cases hc : cs[i]? with
          | none => rw [hc] at hx; cases hx
          | some y => rw [hc] at hx; simp only [Option.map_some, Option.some.injEq] at hx; rw [← hx]; exact (hv i y hc).part
    | arr q o e rows b off m val Fc ha he hm hrow hown hshr hsub hdis hcell hrep hG => simp [AV.arr] at ha
  | tup cs => simp only [AV.sh]; exact ⟨⟨fun _ => undef, .gone⟩, .gone⟩
  | lit x => rw [hp] at hr; exact ⟨⟨_, hr.shrNo (by simp [AV.arr]) (by simp) rfl⟩, .lit⟩
  | ref r hs i c => rw [hp] at hr hv; exact ⟨⟨_, hr.shrNo (by simp [AV.arr]) (by simp) rfl⟩, hv⟩
  | view r hs lo len e => rw [hp] at hr hv; exact ⟨⟨_, hr.shrNo (by simp [AV.arr]) (by simp) rfl⟩, hv⟩
  | mref r hs => rw [hp] at hr hv; exact ⟨⟨_, hr.shrNo (by simp [AV.arr]) (by simp) rfl⟩, hv⟩
  | clo g cs => rw [hp] at hr; exact ⟨⟨_, hr.shrNo (by simp [AV.arr]) (by simp) rfl⟩, .clo⟩
  | dead => rw [hp] at hr; exact ⟨⟨_, hr.shrNo (by simp [AV.arr]) (by simp) rfl⟩, .dead⟩
  | gone => exact ⟨⟨fun _ => undef, .gone⟩, .gone⟩
  | held => rw [hp] at hr; exact ⟨⟨fun _ => undef, .dead (hr.memOne rfl)⟩, .dead⟩

theorem constAV_ok {v : Value} {x : AV} (h : (constAV v).run σ = some x) : (∃ Gx, Rep w Z Gx x v no) ∧ Vok (pk σ) G x v := by
  unfold constAV at h
  cases v with
  | agg cs =>
    simp only at h
    split at h
    · rename_i hp
      simp only [Q.run, Option.some.injEq] at h
      subst h
      refine ⟨⟨fun _ => undef, .agg _ cs (fun _ _ => undef) (fun _ => no) (by simp) (fun i x y q => q) (fun i j x y q => q.elim) ?_⟩, .agg ?_⟩
      · intro i x hx
        rw [List.getElem?_map] at hx
        cases hc : cs.toList[i]? with
        | none => rw [hc] at hx; cases hx
        | some y =>
          rw [hc] at hx
          simp only [Option.map_some, Option.some.injEq] at hx
          rw [← hx]
          have hpl : plain y = true := (List.all_eq_true.1 hp) y (List.mem_of_getElem? hc)
          have : cs.getD i undef = y := by
            rw [Array.getElem?_toList] at hc
            simp [Array.getD_eq_getD_getElem?, hc]
          rw [this]; exact .lit hpl
      · intro i x hx
        rw [List.getElem?_map] at hx
        cases hc : cs.toList[i]? with
        | none => rw [hc] at hx; cases hx
        | some y => rw [hc] at hx; simp only [Option.map_some, Option.some.injEq] at hx; rw [← hx]; exact .lit
    · cases h
  | _ =>
    simp only at h
    split at h
    · rename_i hp
      simp only [Q.run, Option.some.injEq] at h
      subst h
      exact ⟨⟨fun _ => undef, .lit hp⟩, .lit⟩
    · cases h

theorem opnd_ok (k : Ok w0 F0 Z0 X (pk σ) a.tmps w Z Fs G) {x : Operand} {v : AV} (h : (opnd x).run σ = some v) :
    (∃ Gx, Rep w Z Gx v (a.eval x) no) ∧ Vok (pk σ) G v (a.eval x) := by
  cases x with
  | tmp t =>
    simp only [opnd, Q.run, Option.some.injEq] at h
    subst h
    exact sh_ok k t
  | const c => exact constAV_ok h
  | func g => simp only [opnd, Q.run, Option.some.injEq] at h; subst h; exact ⟨⟨fun _ => undef, .clo g⟩, .clo⟩
  | global g => cases h

theorem lit_ok (k : Ok w0 F0 Z0 X (pk σ) a.tmps w Z Fs G) {x : Operand} {v : Value} (h : (opnd x).run σ = some (.lit v)) : a.eval x = v := by
  obtain ⟨⟨_, hr⟩, _⟩ := opnd_ok k h
  generalize a.eval x = u at hr
  cases hr with
  | lit _ => rfl
  | arr q o e rows b off m val Fc ha he hm hrow hown hshr hsub hdis hcell hrep hG => simp [AV.arr] at ha

end
end Go.V
