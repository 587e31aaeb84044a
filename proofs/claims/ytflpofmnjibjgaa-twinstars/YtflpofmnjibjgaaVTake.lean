/- V: what a variable holds, taken whole or by its parts. -/
import Derived.Test.YtflpofmnjibjgaaVAbsorb
set_option linter.unusedVariables false
set_option linter.unusedSimpArgs false
namespace Go.V
open Go

section
variable {P : Program} {T : TypeId → TI} {w0 : World} {F0 Z0 X : Foot} {ts : Array Value} {σ σ' : Slots} {w : World} {Z : Foot} {Fs : Nat → Foot} {G : Nat → Hops → Value} {a : Act}

/-- what a taking comes to: the value, held beside the frame; what names something far stands. -/
def Taken (w0 : World) (F0 Z0 X : Foot) (σ σ' : Slots) (ts : Array Value) (w : World) (Z : Foot) (G : Nat → Hops → Value) (ps : List Put) (x : AV) (val : Value) : Prop :=
  ∃ (Z' : Foot) (Fs' : Nat → Foot) (G' : Nat → Hops → Value) (Fa : Foot) (Ga : Hops → Value), (∀ x y, Z x y → Z' x y) ∧ (∀ x y, Fa x y → ¬ X x y) ∧
    Ok w0 F0 Z0 (fun x y => X x y ∨ Fa x y) (pk σ') ts w Z' Fs' G' ∧ Rep w Z' Ga x val Fa ∧ Vok (pk σ') G' x val ∧
    (∀ b u, b.flat = true → (∀ f cs, b = .clo f cs → cs = []) → (∀ p ∈ ps, ∀ q, b.place = some q → ¬ (q.1 = p.r ∧ Hops.through p.hs q.2 = true)) → Vok (pk σ) G b u → Vok (pk σ') G' b u)

theorem absorb_ok (k : Ok w0 F0 Z0 X (pk σ) ts w Z Fs G) {share : Bool} {c : AV} {val : Value} {x : AV × List Put}
    (h : (absorb share c).run σ = some x) (hp : putAll x.2 σ = some σ') (hr : ∃ Gx, Rep w Z Gx c val no) (hv : Vok (pk σ) G c val) :
    Taken w0 F0 Z0 X σ σ' ts w Z G x.2 x.1 val := by
  cases c with
  | agg cs =>
    simp only [absorb, Q.run_bind] at h
    cases h1 : (absorbL share cs).run σ with
    | none => rw [h1] at h; cases h
    | some x1 =>
    rw [h1] at h
    simp only [Option.bind_some, Q.run, Option.some.injEq] at h
    subst h
    obtain ⟨Gx, hr⟩ := hr
    generalize hval : val = val' at hr
    cases hr with
    | agg _ vs Gc Fc hl hsub hdis hrep =>
      subst hval
      cases hv with
      | agg hv =>
      have hget : ∀ (i : Nat) (v : Value), vs.toList[i]? = some v → vs.getD i undef = v := by
        intro i v hiv
        rw [Array.getElem?_toList] at hiv
        simp [Array.getD_eq_getD_getElem?, hiv]
      obtain ⟨Z', Fs', G', Fa, Ga, a1, a2, a3, a4, a5, a6, a7⟩ := absorbL_ok cs vs.toList x1 σ σ' X Z Fs G k h1 hp (fun _ _ _ _ _ h _ => h) (by simpa using hl)
        (fun i c v hc hiv => by
          have := hrep i c hc
          rw [hget i v hiv] at this
          refine ⟨⟨Gc i, this.mono (fun x y q => hsub i x y q)⟩, ?_⟩
          have := hv i c hc
          rw [hget i v hiv] at this; exact this)
      refine ⟨Z', Fs', G', fun x y => ∃ i, Fa i x y, fun _ => undef, a1, fun x y ⟨i, q⟩ => a2 i x y q, a4, ?_, ?_, a7⟩
      · refine .agg _ vs Ga Fa (by rw [a5, hl]) (fun i x y q => ⟨i, q⟩) a3 fun i c hc => ?_
        have hlt : i < vs.toList.length := by
          have := (List.getElem?_eq_some_iff.1 hc).1
          rw [a5] at this; simpa [hl] using this
        have hiv : vs.toList[i]? = some vs.toList[i] := List.getElem?_eq_getElem hlt
        rw [hget i _ hiv]; exact (a6 i c _ hc hiv).1
      · refine .agg fun i c hc => ?_
        have hlt : i < vs.toList.length := by
          have := (List.getElem?_eq_some_iff.1 hc).1
          rw [a5] at this; simpa [hl] using this
        have hiv : vs.toList[i]? = some vs.toList[i] := List.getElem?_eq_getElem hlt
        rw [hget i _ hiv]; exact (a6 i c _ hc hiv).2
    | arr q o e rows b off m val Fc ha he hm hrow hown hshr hsub hdis hcell hrep hG => simp [AV.arr] at ha
  | _ => exact absorb1_ok k (by simpa only [absorb] using h) hp hr hv

theorem ownsL_mem : ∀ {cs : List AV}, ownsL cs = false → ∀ c ∈ cs, c.owns = false
  | [], _, c, hc => by simp at hc
  | d :: cs, h, c, hc => by
    simp only [ownsL, Bool.or_eq_false_iff] at h
    rcases List.mem_cons.1 hc with rfl | hc
    · exact h.1
    · exact ownsL_mem h.2 c hc

theorem Rep.noOwn {w : World} {Z : Foot} {G : Hops → Value} {a : AV} {v : Value} {F : Foot} (h : Rep w Z G a v F) : a.owns = false → Rep w Z G a v no := by
  induction h with
  | lit h => intro _; exact .lit h
  | gone => intro _; exact .gone
  | dead h => intro _; exact .dead h
  | ref h => intro _; exact .ref h
  | view h => intro _; exact .view h
  | mref h => intro _; exact .mref h
  | held h hG => intro _; exact .held h hG
  | arr a o e rows b off m val Fc ha' he hm hrow hown hshr hsub hdis hcell hrep hG ih =>
    intro ho
    have h' : Rep w Z _ a _ _ := .arr a o e rows b off m val Fc ha' he hm hrow hown hshr hsub hdis hcell hrep hG
    exact h'.shrNo (fun x hx => by cases a <;> simp [AV.arr] at hx <;> subst hx <;> exact ho) (fun o es hx => by subst hx; simp [AV.arr] at ha') (by cases a <;> simp [AV.arr] at ha' <;> rfl)
  | agg cs vs Gc Fc hl hsub hdis hrep ih =>
    intro ho
    exact .agg cs vs Gc (fun _ => no) hl (fun i x y q => q) (fun i j x y q => q.elim) fun i x hx => ih i x hx (ownsL_mem ho x (List.mem_of_getElem? hx))
  | tup cs vs Gc Fc hl hsub hdis hrep ih =>
    intro ho
    exact .tup cs vs Gc (fun _ => no) hl (fun i x y q => q) (fun i j x y q => q.elim) fun i x hx => ih i x hx (ownsL_mem ho x (List.mem_of_getElem? hx))
  | clo f => intro _; exact .clo f
  | map o es b entries clock hw hes hp hF hZ hG => intro ho; exact .map o es b entries clock hw hes hp (fun q => by rw [show o = false from ho] at q; cases q) hZ hG

theorem free_vok {f : Nat → AV} {G : Nat → Hops → Value} {a : AV} (h : a.free = true) (v : Value) : Vok f G a v := by
  cases a <;> simp [AV.free] at h
  · exact .lit
  · exact .slc
  · exact .box
  · exact .map
  · exact .clo
  · exact .dead
  · exact .gone

/-- a slot's whole. -/
theorem whole_ok (k : Ok w0 F0 Z0 X (pk σ) ts w Z Fs G) {t : Nat} (hp : Put.to ⟨t, [], .gone⟩ σ = some σ') (hn : (pk σ t).node = true) :
    ∃ (Fn : Foot) (Fs' : Nat → Foot) (G' : Nat → Hops → Value), Rep w Z (G t) (pk σ t) (ts.getD t undef) Fn ∧ (∀ x y, Fn x y → ¬ X x y ∧ ¬ Z x y) ∧
      Ok w0 F0 Z0 (fun x y => X x y ∨ Fn x y) (pk σ') ts w Z Fs' G' ∧
      (∀ b u, Vok (pk σ) G b u → Vok (pk σ') G' (b.kill t []) u) := by
  obtain ⟨n, h1, h2, h3⟩ := put_to hp
  simp only [AV.get, Option.some.injEq] at h1
  subst h1
  obtain ⟨vn, Fn, Fs', G', q1, q2, q3, q4, q5⟩ := k.take' (r := t) (hs := []) rfl h2 (n' := .gone) (.inl rfl)
  refine ⟨Fn, Fs', G', ?_, q2, by rw [h3]; exact q4, ?_⟩
  · rw [← q3 rfl]; simpa using q1
  · intro b u hb
    have := q5 b u hb
    rw [hn] at this
    rw [h3, hn]; exact this

theorem shrCells_get : ∀ (l : List AV) (i : Nat), (shrCells l)[i]? = (l[i]?).map AV.shr
  | [], i => by simp [shrCells]
  | c :: l, 0 => by simp [shrCells]
  | c :: l, i + 1 => by simp only [shrCells, List.getElem?_cons_succ]; exact shrCells_get l i

theorem shr_free {b : AV} (h : b.free = true) : b.shr.free = true := by
  cases b <;> simp [AV.free] at h <;> simp [AV.shr, AV.free]

theorem Ok.less {f : Nat → AV} {ts : Array Value} (k : Ok w0 F0 Z0 X f ts w Z Fs G) {X' : Foot} (h : ∀ x y, X' x y → X x y) : Ok w0 F0 Z0 X' f ts w Z Fs G :=
  ⟨k.rep, k.vok, k.dis, fun t x y q => ⟨(k.foot t x y q).1, fun u => (k.foot t x y q).2.1 (h _ _ u), (k.foot t x y q).2.2⟩, fun x y q => k.free x y (h _ _ q), k.base, k.shared, k.grows, k.keep, k.step⟩

/-- what is held beside is made common. -/
theorem Ok.give {ts : Array Value} {f : Nat → AV} {Fn : Foot} (k : Ok w0 F0 Z0 (fun x y => X x y ∨ Fn x y) f ts w Z Fs G) (hd : ∀ x y, Fn x y → ¬ X x y) : Ok w0 F0 Z0 X f ts w (fun x y => Z x y ∨ Fn x y) Fs G :=
  ⟨fun t => (k.rep t).agree (fun x y _ => .refl w x y) (fun _ _ q => .inl q), k.vok, k.dis,
    fun t x y q => ⟨fun u => u.elim (k.foot t x y q).1 (fun u => (k.foot t x y q).2.1 (.inr u)), fun u => (k.foot t x y q).2.1 (.inl u), (k.foot t x y q).2.2⟩,
    fun x y q => ⟨fun u => u.elim (k.free x y (.inl q)).1 (fun u => hd x y u q), (k.free x y (.inl q)).2⟩, fun x y q => .inl (k.base x y q),
    fun x y q => q.elim (fun q => k.shared x y q) (fun q => ⟨(k.free x y (.inr q)).2.1, .inr (k.free x y (.inr q)).2.2⟩), k.grows, k.keep, k.step⟩

theorem take_ok (k : Ok w0 F0 Z0 X (pk σ) a.tmps w Z Fs G) {share : Bool} {o : Operand} {x : AV × List Put}
    (h : (take share o).run σ = some x) (hp : putAll x.2 σ = some σ') :
    Taken w0 F0 Z0 X σ σ' a.tmps w Z G x.2 x.1 (a.eval o) := by
  have plainly : ∀ v, (opnd o).run σ = some v → (absorb share v).run σ = some x → Taken w0 F0 Z0 X σ σ' a.tmps w Z G x.2 x.1 (a.eval o) := by
    intro v hv hx
    obtain ⟨hr, hvk⟩ := opnd_ok k hv
    exact absorb_ok k hx hp hr hvk
  cases o with
  | tmp t =>
    simp only [take, Q.run] at h
    cases hs : (pk σ t).sh t with
    | agg cs0 =>
      rw [hs] at h
      simp only [Q.run, AV.get, Option.bind_some] at h
      cases hpk : pk σ t with
      | agg cs =>
        rw [hpk] at h
        simp only at h
        split at h
        · split at h
          · simp [Q.run] at h
          · rename_i hfree
            have hfree : cs.all AV.free = true := by simpa using hfree
            simp only [Q.run, Option.some.injEq] at h
            subst h
            simp only [putAll] at hp
            cases ht : Put.to ⟨t, [], .gone⟩ σ with
            | none => rw [ht] at hp; cases hp
            | some τ =>
            rw [ht] at hp
            simp only [Option.bind_some, putAll, Option.some.injEq] at hp
            subst hp
            obtain ⟨Fn, Fs', G', q1, q2, q3, q4⟩ := whole_ok k ht (by rw [hpk]; rfl)
            rw [hpk] at q1
            cases share with
            | true =>
            refine ⟨fun x y => Z x y ∨ Fn x y, Fs', G', no, G t, fun _ _ q => .inl q, fun x y q => q.elim, (q3.give fun x y q => (q2 x y q).1).less (fun x y q => q.elim id fun q => q.elim), q1.shr (fun x y q => .inr q) (fun x y q => .inl q), ?_, ?_⟩
            · have hv := k.vok t
              rw [hpk] at hv
              simp only [Act.eval, if_true]
              generalize a.tmps.getD t undef = u at hv
              cases hv with
              | agg hv =>
                refine .agg fun i c hc => ?_
                rw [shrCells_get] at hc
                cases hq : cs[i]? with
                | none => rw [hq] at hc; cases hc
                | some d =>
                  rw [hq] at hc
                  simp only [Option.map_some, Option.some.injEq] at hc
                  subst hc
                  exact free_vok (shr_free (List.all_eq_true.1 hfree d (List.mem_of_getElem? hq))) _
            · intro b u hb hc hfar hvb
              have := q4 b u hvb
              rw [kill_far hb hc (fun q hq => hfar ⟨t, [], .gone⟩ (List.mem_cons_self ..) q hq)] at this
              exact this
            | false =>
            refine ⟨Z, Fs', G', Fn, G t, fun _ _ q => q, fun x y q => (q2 x y q).1, q3, q1, ?_, ?_⟩
            · have hv := k.vok t
              rw [hpk] at hv
              simp only [Act.eval]
              generalize a.tmps.getD t undef = u at hv
              cases hv with
              | agg hv => exact .agg fun i c hc => free_vok (List.all_eq_true.1 hfree c (List.mem_of_getElem? hc)) _
            · intro b u hb hc hfar hvb
              have := q4 b u hvb
              rw [kill_far hb hc (fun q hq => hfar ⟨t, [], .gone⟩ (List.mem_cons_self ..) q hq)] at this
              exact this
        · have hv := k.vok t
          have hr := k.rep t
          rename_i hno
          rw [hpk] at hv hr
          exact absorb_ok k h hp ⟨_, hr.noOwn (by simpa [AV.owns] using hno)⟩ hv
      | _ => rw [hpk] at hs; simp [AV.sh, AV.sh1] at hs <;> (try split at hs) <;> simp at hs
    | _ =>
      rw [hs] at h
      exact plainly _ (show (opnd (.tmp t)).run σ = some ((pk σ t).sh t) from rfl) (by rw [hs]; simpa only using h)
  | const c => simp only [take, Q.run_bind] at h; cases hv : (opnd (.const c)).run σ with
    | none => rw [hv] at h; cases h
    | some v => rw [hv] at h; exact plainly v hv h
  | func c => simp only [take, Q.run_bind] at h; cases hv : (opnd (.func c)).run σ with
    | none => rw [hv] at h; cases h
    | some v => rw [hv] at h; exact plainly v hv h
  | global c => simp only [take, Q.run_bind] at h; cases hv : (opnd (.global c)).run σ with
    | none => rw [hv] at h; cases h
    | some v => rw [hv] at h; exact plainly v hv h
end
end Go.V
