/- V: what is lent, what is taken for a while, what is laid back. -/
import Derived.Test.YtflpofmnjibjgaaVSound
set_option linter.unusedVariables false
set_option linter.unusedSimpArgs false
namespace Go.V
open Go

section
variable {P : Program} {T : TypeId → TI} {w0 : World} {F0 Z0 X : Foot} {σ σ' : Slots} {w : World} {Z : Foot} {Fs : Nat → Foot} {G : Nat → Hops → Value} {a : Act} {ts : Array Value}

theorem Rep.wide {G : Hops → Value} {b : AV} {v : Value} {F Zc : Foot} (h : Rep w Z G b v F) (hZ : ∀ x y, Z x y → Zc x y) : Rep w Zc G b v F := h.agree (fun x y _ => .refl w x y) hZ

theorem lend1_ok (k : Ok w0 F0 Z0 X (pk σ) ts w Z Fs G) {Zc : Foot} (hZ : ∀ x y, Z x y → Zc x y) (hF : ∀ t x y, Fs t x y → Zc x y) {v u : AV} {val : Value} {Gv : Hops → Value} {F : Foot}
    (hr : Rep w Z Gv v val F) (hFv : ∀ x y, F x y → Zc x y) (hv : Vok (pk σ) G v val) (h : (lend1 v).run σ = some u) : ∃ Gu, Rep w Zc Gu u val no := by
  cases v with
  | lit x =>
    simp only [lend1, Q.run, Option.some.injEq] at h; subst h
    cases hr with
    | lit h => exact ⟨fun _ => undef, .lit h⟩
    | arr q o e rows b off m val Fc ha => simp [AV.arr] at ha
  | slc o e rows =>
    cases o with
    | true => simp only [lend1, if_true, Q.run, Option.some.injEq] at h; subst h; exact ⟨_, hr.shr hFv hZ⟩
    | false => simp only [lend1, Bool.false_eq_true, if_false, Q.run, Option.some.injEq] at h; subst h; exact ⟨_, (hr.shrNo (by simp [AV.arr]) (by simp) rfl).wide hZ⟩
  | box o cs =>
    cases o with
    | true => simp only [lend1, if_true, Q.run, Option.some.injEq] at h; subst h; exact ⟨_, hr.shr hFv hZ⟩
    | false => simp only [lend1, Bool.false_eq_true, if_false, Q.run, Option.some.injEq] at h; subst h; exact ⟨_, (hr.shrNo (by simp [AV.arr]) (by simp) rfl).wide hZ⟩
  | clo f cs =>
    cases cs with
    | nil => simp only [lend1, Q.run, Option.some.injEq] at h; subst h; exact ⟨_, (hr.shrNo (by simp [AV.arr]) (by simp) rfl).wide hZ⟩
    | cons c cs => simp only [lend1] at h; cases h
  | dead => simp only [lend1, Q.run, Option.some.injEq] at h; subst h; exact ⟨_, (hr.shrNo (by simp [AV.arr]) (by simp) rfl).wide hZ⟩
  | view r hs lo len e =>
    generalize hval : val = val' at hv
    cases hv with
    | view rows b off m off' hget hG hle hoff =>
      subst hval
      simp only [lend1, Q.run, hget, Option.bind_some, Option.some.injEq] at h
      subst h
      obtain ⟨vn, q1⟩ := Rep.at hs (k.rep r) hget
      have hh := q1.head rfl
      rw [List.append_nil, hG] at hh
      obtain ⟨b', off0, m', e1, _, e3, e4⟩ := q1.sub
      rw [← hh] at e1
      simp only [Value.slice.injEq, Option.some.injEq, Addr.mk.injEq, and_true, true_and] at e1
      obtain ⟨⟨rfl, rfl⟩, rfl⟩ := e1
      obtain ⟨G'', q6⟩ := e4 lo len off' hle (hoff.imp id (·.1))
      exact ⟨_, q6.shr (fun x y q => hF r x y q) hZ⟩
  | ref r hs i c =>
    simp only [lend1] at h
    split at h
    · rename_i hc
      obtain ⟨rfl, rfl⟩ := hc
      generalize hval : val = val' at hv
      cases hv with
      | ref nd o e rows b off m hget ha hG =>
        subst hval
        simp only [Q.run, hget, Option.bind_some] at h
        cases nd with
        | box o2 cs =>
          simp only [Q.run, Option.some.injEq] at h
          subst h
          obtain ⟨vn, q1⟩ := Rep.at hs (k.rep r) hget
          have hh := q1.head rfl
          rw [List.append_nil, hG] at hh
          have := q1.shr (Z' := Zc) (fun x y q => hF r x y q) hZ
          rw [← hh] at this
          refine ⟨_, by simpa [hdr, AV.shr] using this⟩
        | _ => cases h
    · cases h
  | _ => cases h

theorem lendL_ok (k : Ok w0 F0 Z0 X (pk σ) ts w Z Fs G) {Zc : Foot} (hZ : ∀ x y, Z x y → Zc x y) (hF : ∀ t x y, Fs t x y → Zc x y) : ∀ (cs us : List AV) (vs : List Value) (Gc : Nat → Hops → Value) (Fc : Nat → Foot),
    (∀ i c v, cs[i]? = some c → vs[i]? = some v → Rep w Z (Gc i) c v (Fc i) ∧ Vok (pk σ) G c v) → (∀ i x y, Fc i x y → Zc x y) → cs.length = vs.length → (lendL cs).run σ = some us →
    us.length = cs.length ∧ ∃ Gu : Nat → Hops → Value, ∀ i u v, us[i]? = some u → vs[i]? = some v → Rep w Zc (Gu i) u v no
  | [], us, vs, Gc, Fc, hall, hFc, hl, h => by
    simp only [lendL, Q.run, Option.some.injEq] at h; subst h
    exact ⟨rfl, fun _ _ => undef, fun i u v hu => by simp at hu⟩
  | c :: cs, us, vs, Gc, Fc, hall, hFc, hl, h => by
    cases vs with
    | nil => simp at hl
    | cons v vs =>
      simp only [lendL, Q.run_bind] at h
      replace h := bind_some_inv h
      obtain ⟨u, hu, h⟩ := h
      replace h := bind_some_inv h
      obtain ⟨l, hl', h⟩ := h
      simp only [Q.run, Option.some.injEq] at h
      subst h
      obtain ⟨h1, h2⟩ := hall 0 c v rfl rfl
      obtain ⟨Gu, q⟩ := lend1_ok k hZ hF h1 (hFc 0) h2 hu
      obtain ⟨q1, Gs, q2⟩ := lendL_ok k hZ hF cs l vs (fun i => Gc (i + 1)) (fun i => Fc (i + 1)) (fun i c v hc hv => hall (i + 1) c v hc hv) (fun i => hFc (i + 1)) (by simpa using hl) hl'
      refine ⟨by simp [q1], fun i => match i with | 0 => Gu | i + 1 => Gs i, ?_⟩
      intro i u' v' hu' hv'
      cases i with
      | zero => simp only [List.getElem?_cons_zero, Option.some.injEq] at hu' hv'; subst hu'; subst hv'; exact q
      | succ i => simp only [List.getElem?_cons_succ] at hu' hv'; exact q2 i u' v' hu' hv'

theorem lendA_ok (k : Ok w0 F0 Z0 X (pk σ) ts w Z Fs G) {Zc : Foot} (hZ : ∀ x y, Z x y → Zc x y) (hF : ∀ t x y, Fs t x y → Zc x y) {v u : AV} {val : Value} {Gv : Hops → Value} {F : Foot}
    (hr : Rep w Z Gv v val F) (hFv : ∀ x y, F x y → Zc x y) (hv : Vok (pk σ) G v val) (h : (lendA v).run σ = some u) : ∃ Gu, Rep w Zc Gu u val no := by
  cases v with
  | agg cs =>
    simp only [lendA, Q.run_bind] at h
    replace h := bind_some_inv h
    obtain ⟨l, hl, h⟩ := h
    simp only [Q.run, Option.some.injEq] at h
    subst h
    generalize hval : val = val' at hr
    cases hr with
    | agg _ vs Gc Fc hlen hsub hdis hrep =>
      subst hval
      cases hv with
      | agg hv =>
        have hg : ∀ (i : Nat) (v : Value), vs.toList[i]? = some v → vs.getD i undef = v := by
          intro i v hiv
          rw [Array.getElem?_toList] at hiv
          simp [Array.getD_eq_getD_getElem?, hiv]
        obtain ⟨q1, Gu, q2⟩ := lendL_ok k hZ hF cs l vs.toList Gc Fc (fun i c v hc hiv => by
          have h1 := hrep i c hc
          have h2 := hv i c hc
          rw [hg i v hiv] at h1 h2
          exact ⟨h1, h2⟩) (fun i x y q => hFv x y (hsub i x y q)) (by simpa using hlen) hl
        refine ⟨fun _ => undef, .agg _ vs Gu (fun _ => no) (by rw [q1, hlen]) (fun i x y q => q) (fun i j x y q => q.elim) fun i x hx => ?_⟩
        have hlt : i < vs.toList.length := by
          have := (List.getElem?_eq_some_iff.1 hx).1
          rw [q1] at this; simpa [hlen] using this
        have hiv : vs.toList[i]? = some vs.toList[i] := List.getElem?_eq_getElem hlt
        rw [hg i _ hiv]; exact q2 i x _ hx hiv
    | arr q o e rows b off m val Fc ha => simp [AV.arr] at ha
  | _ => exact lend1_ok k hZ hF hr hFv hv (by simpa only [lendA] using h)

theorem lendQ_ok (k : Ok w0 F0 Z0 X (pk σ) a.tmps w Z Fs G) {Zc : Foot} (hZ : ∀ x y, Z x y → Zc x y) (hF : ∀ t x y, Fs t x y → Zc x y) {x : Operand} {u : AV}
    (h : (lendQ x).run σ = some u) : ∃ Gu, Rep w Zc Gu u (a.eval x) no := by
  have opn : ∀ x, ((opnd x).bind lendA).run σ = some u → ∃ Gu, Rep w Zc Gu u (a.eval x) no := by
    intro x h
    rw [Q.run_bind] at h
    replace h := bind_some_inv h
    obtain ⟨v, hv, h⟩ := h
    obtain ⟨⟨Gx, hr⟩, hvk⟩ := opnd_ok k hv
    exact lendA_ok k hZ hF hr (fun x y q => q.elim) hvk h
  cases x with
  | tmp t =>
    simp only [lendQ, Q.run, AV.get, Option.bind_some] at h
    exact lendA_ok k hZ hF (k.rep t) (fun x y q => hF t x y q) (k.vok t) h
  | const c => exact opn _ h
  | func c => exact opn _ h
  | global c => exact opn _ h

/-- what holds nothing common asks for nothing common. -/
theorem loneR_cell {rows : List (List AV)} (h : loneR rows = true) {q : Nat × Nat} {x : AV} (hx : cellOf rows q = some x) : x.lone = true := by
  have hR : ∀ (rows : List (List AV)), loneR rows = true → ∀ r ∈ rows, loneL r = true := by
    intro rows
    induction rows with
    | nil => intro _ r hr; simp at hr
    | cons r rs ih =>
      intro h r' hr'
      simp only [loneR, Bool.and_eq_true] at h
      rcases List.mem_cons.1 hr' with rfl | h'
      · exact h.1
      · exact ih h.2 r' h'
  have hL : ∀ (l : List AV), loneL l = true → ∀ c ∈ l, c.lone = true := by
    intro l
    induction l with
    | nil => intro _ r hr; simp at hr
    | cons r rs ih =>
      intro h r' hr'
      simp only [loneL, Bool.and_eq_true] at h
      rcases List.mem_cons.1 hr' with rfl | h'
      · exact h.1
      · exact ih h.2 r' h'
  unfold cellOf at hx
  cases hr : rows[q.1]? with
  | none => rw [hr] at hx; cases hx
  | some row =>
    rw [hr] at hx
    exact hL row (hR rows h row (List.mem_of_getElem? hr)) x (List.mem_of_getElem? hx)

theorem loneL_mem {l : List AV} (h : loneL l = true) : ∀ c ∈ l, c.lone = true := by
  induction l with
  | nil => intro r hr; simp at hr
  | cons r rs ih =>
    intro r' hr'
    simp only [loneL, Bool.and_eq_true] at h
    rcases List.mem_cons.1 hr' with rfl | h'
    · exact h.1
    · exact ih h.2 r' h'

theorem Rep.lone {G : Hops → Value} {b : AV} {v : Value} {F Z' : Foot} (h : Rep w Z G b v F) : b.lone = true → Rep w Z' G b v F := by
  induction h with
  | lit h => intro _; exact .lit h
  | gone => intro _; exact .gone
  | dead h => intro _; exact .dead h
  | ref h => intro _; exact .ref h
  | view h => intro _; exact .view h
  | mref h => intro _; exact .mref h
  | held h hG => intro _; exact .held h hG
  | @arr G F b o e rows bb off m val Fc ha he hm hrow hown hshr hsub hdis hcell hrep hG ih =>
    intro hl
    have : o = true ∧ loneR rows = true := by
      cases b <;> simp [AV.arr] at ha <;> obtain ⟨rfl, rfl, rfl⟩ := ha <;> simpa [AV.lone, loneR] using hl
    obtain ⟨rfl, hl'⟩ := this
    exact .arr b true e rows bb off m val Fc ha he hm hrow hown (fun q => by cases q) hsub hdis hcell (fun h x hx => ih h x hx (loneR_cell hl' hx)) hG
  | agg cs vs Gc Fc hl hsub hdis hrep ih =>
    intro hl'
    exact .agg cs vs Gc Fc hl hsub hdis fun i x hx => ih i x hx (loneL_mem hl' x (List.mem_of_getElem? hx))
  | tup cs vs Gc Fc hl hsub hdis hrep ih =>
    intro hl'
    exact .tup cs vs Gc Fc hl hsub hdis fun i x hx => ih i x hx (loneL_mem hl' x (List.mem_of_getElem? hx))
  | clo f => intro _; exact .clo f
  | map o es b entries clock hw hes hp hF hZ hG => intro hl; exact .map o es b entries clock hw hes hp hF (fun q => by rw [q] at hl; cases hl) hG

theorem pureL_mem {l : List AV} (h : pureL l = true) : ∀ c ∈ l, c.pure = true := by
  induction l with
  | nil => intro r hr; simp at hr
  | cons r rs ih =>
    intro r' hr'
    simp only [pureL, Bool.and_eq_true] at h
    rcases List.mem_cons.1 hr' with rfl | h'
    · exact h.1
    · exact ih h.2 r' h'

/-- what names nothing stands anywhere. -/
theorem Rep.pure {f : Nat → AV} {G' : Nat → Hops → Value} {G : Hops → Value} {b : AV} {v : Value} {F : Foot} (h : Rep w Z G b v F) : b.pure = true → Vok f G' b v := by
  induction h with
  | lit h => intro _; exact .lit
  | gone => intro _; exact .gone
  | dead h => intro _; exact .dead
  | ref h => intro q; cases q
  | view h => intro q; cases q
  | mref h => intro q; cases q
  | held h hG => intro _; exact .held
  | arr b o e rows bb off m val Fc ha => intro _; cases b <;> simp [AV.arr] at ha <;> first | exact .slc | exact .box
  | agg cs vs Gc Fc hl hsub hdis hrep ih => intro hp; exact .agg fun i x hx => ih i x hx (pureL_mem hp x (List.mem_of_getElem? hx))
  | tup => intro _; exact .tup
  | clo f => intro _; exact .clo
  | map => intro _; exact .map

end
end Go.V
