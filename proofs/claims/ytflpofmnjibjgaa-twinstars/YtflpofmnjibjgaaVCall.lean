/- V: calls of functions; one operation; a region in text order. -/
import Derived.Test.YtflpofmnjibjgaaVBack
import Derived.Tactics
set_option linter.unusedVariables false
set_option linter.unusedSimpArgs false
namespace Go.V
open Go

/-- what a call leaves behind. -/
def VPost (args : Array Value) (w : World) (Z : Foot) (Fa : Nat → Foot) (res : AV) (outs : List AV) (e : Ending) (w' : World) : Prop :=
  ∃ v, e = .returned v ∧ ∃ (Z' Fr : Foot) (Fo : Nat → Foot),
      Step w w' ∧ (∀ x y, Z x y → Z' x y) ∧ (∀ x y, Z' x y → x < w'.heap.size ∧ (Z x y ∨ (∃ i, Fa i x y) ∨ w.heap.size ≤ x)) ∧
      (∀ x y, x < w.heap.size → ¬ (∃ i, Fa i x y) → Same w w' x y) ∧ (∃ Gr, Rep w' Z' Gr res v Fr) ∧
      (∀ (i : Nat) (o : AV), outs[i]? = some o → ∃ Go, Rep w' Z' Go o (args.getD i undef) (Fo i)) ∧
      (∀ x y, Fr x y → ¬ Z' x y ∧ x < w'.heap.size ∧ ((∃ i, Fa i x y) ∨ w.heap.size ≤ x) ∧ ∀ i, ¬ Fo i x y) ∧
      (∀ i x y, Fo i x y → ¬ Z' x y ∧ x < w'.heap.size ∧ ((∃ i, Fa i x y) ∨ w.heap.size ≤ x)) ∧ (∀ i j x y, Fo i x y → Fo j x y → i = j)

/-- what a function does, told by trees: with arguments so and so it returns so and so, and leaves so much at what it was handed. -/
def VCalls (P : Program) (g : FuncId) (as : List AV) (res : AV) (outs : List AV) : Prop :=
  ∀ (args : Array Value) (w : World) (Z : Foot) (Fa : Nat → Foot), args.size = as.length →
    (∀ (i : Nat) (v : AV), as[i]? = some v → ∃ Ga, Rep w Z Ga v (args.getD i undef) (Fa i)) → (∀ i j x y, Fa i x y → Fa j x y → i = j) →
    (∀ i x y, Fa i x y → ¬ Z x y ∧ x < w.heap.size) → (∀ x y, Z x y → x < w.heap.size) → Calls P g args w (VPost args w Z Fa res outs)

def Enters (P : Program) (g : FuncId) : Prop := ∃ fn, P.funcs[g]? = some fn ∧ (fn.name == "runtime.NumGoroutine") = false ∧ fn.body.isNone = false

structure Env.Good (E : Env) : Prop where
  types : TOk E.P E.T
  mixed : E.P.follows .mixedOrders = true
  calls : ∀ g as res outs, E.C g as res outs → Enters E.P g ∧ VCalls E.P g as res outs

section
variable {P : Program} {T : TypeId → TI} {w0 : World} {F0 Z0 X : Foot} {σ σ' : Slots} {w : World} {Z : Foot} {Fs : Nat → Foot} {G : Nat → Hops → Value} {a : Act} {ts : Array Value} {f : Nat → AV}

theorem lendArgs_ok {Zc : Foot} (k : Ok w0 F0 Z0 X (pk σ) a.tmps w Z Fs G) (hZ : ∀ x y, Z x y → Zc x y) : ∀ (ms : List Mode) (xs : List Operand) (vs us : List AV) (Fa : Nat → Foot),
    (ms.contains .val = true → ∀ t x y, Fs t x y → Zc x y) → (∀ (i : Nat) (v : AV) (x : Operand), vs[i]? = some v → xs[i]? = some x → ∃ Ga, Rep w Z Ga v (a.eval x) (Fa i)) → lendArgs σ ms xs vs = some us →
    us.length = xs.length ∧ ∀ (i : Nat) (u : AV) (x : Operand), us[i]? = some u → xs[i]? = some x → ∃ Gu, Rep w Zc Gu u (a.eval x) (Fa i)
  | [], [], [], us, Fa, hF, hall, h => by
    simp only [lendArgs, Option.some.injEq] at h; subst h
    exact ⟨rfl, fun i u x hu => by simp at hu⟩
  | m :: ms, x :: xs, v :: vs, us, Fa, hF, hall, h => by
    simp only [lendArgs] at h
    replace h := bind_some_inv h
    obtain ⟨u, hu, h⟩ := h
    replace h := bind_some_inv h
    obtain ⟨l, hl, h⟩ := h
    simp only [Option.some.injEq] at h
    subst h
    obtain ⟨q1, q2⟩ := lendArgs_ok k hZ ms xs vs l (fun i => Fa (i + 1)) (fun hc => hF (by simp only [List.contains_cons, Bool.or_eq_true]; exact .inr hc)) (fun i v x hv hx => hall (i + 1) v x hv hx) hl
    refine ⟨by simp [q1], ?_⟩
    intro i u' x' hu' hx'
    cases i with
    | zero =>
      simp only [List.getElem?_cons_zero, Option.some.injEq] at hu' hx'
      subst hu'; subst hx'
      split at hu
      · rename_i hm
        subst hm
        obtain ⟨Gu, q⟩ := lendQ_ok k hZ (hF (by simp)) hu
        exact ⟨Gu, q.mono (fun x y q => q.elim)⟩
      · simp only [Option.some.injEq] at hu
        subst hu
        obtain ⟨Ga, q⟩ := hall 0 v x rfl rfl
        exact ⟨Ga, q.wide hZ⟩
    | succ i => simp only [List.getElem?_cons_succ] at hu' hx'; exact q2 i u' x' hu' hx'
  | [], _ :: _, _, _, _, _, _, h => by simp [lendArgs] at h
  | _ :: _, [], _, _, _, _, _, h => by simp [lendArgs] at h
  | [], [], _ :: _, _, _, _, _, h => by simp [lendArgs] at h
  | _ :: _, _ :: _, [], _, _, _, _, h => by simp [lendArgs] at h

/-- a frame's slot is set to what has come out. -/
theorem put_ok (k : Ok w0 F0 Z0 X (pk σ) a.tmps w Z Fs G) {o : Oper} {v : AV} {val : Value} {Gv : Hops → Value} (hr : Rep w Z Gv v val X) (hv : Vok (pk σ) G v val) (h : setDst o v σ = some σ')
    (hd : ∀ d, o.dst = some d → d < a.tmps.size) : ∃ Fs' G', Ok w0 F0 Z0 no (pk σ') (a.put o.dst val).tmps w Z Fs' G' := by
  unfold setDst at h
  cases hdst : o.dst with
  | none =>
    rw [hdst] at h
    simp only [Option.some.injEq] at h
    subst h
    exact ⟨Fs, G, k.less (fun _ _ q => q.elim)⟩
  | some d =>
    rw [hdst] at h
    simp only at h
    obtain ⟨n, h1, h2, h3⟩ := put_to h
    simp only [AV.get, Option.some.injEq] at h1
    subst h1
    have hlt := hd d hdst
    have := k.slot d (ts' := (a.put (some d) val).tmps) (w' := w) (Z' := Z) (X' := no) (a := v) (v := val) (Fd := X) (Gd := Gv) (by
      intro t
      simp only [Act.put, Array.getD_eq_getD_getElem?, Array.getElem?_setIfInBounds]
      by_cases ht : d = t
      · subst ht; simp [hlt]
      · have ht' : ¬ t = d := fun e => ht e.symm
        simp [ht, ht']) (fun x y _ => .refl w x y) (Nat.le_refl _) (.refl w) (fun _ _ q => q) k.shared
      (fun t x y ht q => ⟨(k.foot t x y q).1, fun u => u, (k.foot t x y q).2.1⟩) (fun x y q => ⟨(k.free x y q).1, fun u => u, (k.free x y q).2⟩) (fun x y q => q.elim) hr hv
    exact ⟨_, _, by rw [h3]; exact this⟩

theorem put_size (a : Act) (d : Option Tmp) (v : Value) : (a.put d v).tmps.size = a.tmps.size := by cases d <;> simp [Act.put]
theorem put_defers' (a : Act) (d : Option Tmp) (v : Value) : (a.put d v).defers = a.defers := by cases d <;> rfl

/-- the state of a frame while it walks. -/
structure St (w0 : World) (F0 Z0 : Foot) (n : Nat) (fx : List Nat) (a0 : Nat → Value) (σ : Slots) (a : Act) (w : World) : Prop where
  ok : ∃ Z Fs G, Ok w0 F0 Z0 no (pk σ) a.tmps w Z Fs G
  size : a.tmps.size = n
  defers : a.defers = []
  fix : ∀ t ∈ fx, a.tmps.getD t undef = a0 t

theorem put_fix {fx : List Nat} {a0 : Nat → Value} {a : Act} {dst : Option Tmp} {v : Value} (h : ∀ t ∈ fx, a.tmps.getD t undef = a0 t) (hd : ∀ d, dst = some d → d ∉ fx) : ∀ t ∈ fx, (a.put dst v).tmps.getD t undef = a0 t := by
  intro t ht
  rw [← h t ht]
  cases dst with
  | none => rfl
  | some d =>
    have hne : d ≠ t := fun e => hd d rfl (e ▸ ht)
    simp only [Act.put, Array.getD_eq_getD_getElem?, Array.getElem?_setIfInBounds_ne hne]

theorem St.put {n : Nat} {fx : List Nat} {a0 : Nat → Value} {o : Oper} {v : AV} {val : Value} (h : Out w0 F0 Z0 (pk σ) a.tmps w v val) (hs : a.tmps.size = n) (hdf : a.defers = []) (hfx : ∀ t ∈ fx, a.tmps.getD t undef = a0 t) (hset : setDst o v σ = some σ') (hd : ∀ d, o.dst = some d → d < n ∧ d ∉ fx) :
    St w0 F0 Z0 n fx a0 σ' (a.put o.dst val) w := by
  obtain ⟨Z, Fs, G, Fv, Gv, k, hr, hv⟩ := h
  obtain ⟨Fs', G', k'⟩ := put_ok k hr hv hset (fun d h => by rw [hs]; exact (hd d h).1)
  exact ⟨⟨Z, Fs', G', k'⟩, by rw [put_size, hs], by rw [put_defers', hdf], put_fix hfx (fun d h => (hd d h).2)⟩

theorem wanted_ok {ops : Array Oper} {o : Oper} {b : Bool} (k : Ok w0 F0 Z0 X (pk σ) a.tmps w Z Fs G) (h : wantedV ops σ o = some b) : Region.wanted o (yielded ops a.tmps) = b := by
  unfold wantedV at h
  unfold Region.wanted
  cases hg : o.guard with
  | none => rw [hg] at h; simp only [Option.some.injEq] at h; subst h; rfl
  | some q =>
    obtain ⟨j, want⟩ := q
    rw [hg] at h
    simp only [Option.map_eq_some_iff] at h
    obtain ⟨y, hy, rfl⟩ := h
    have : yielded ops a.tmps j = y := by
      unfold yieldedV at hy
      unfold yielded
      cases hd : (ops[j]?).bind (·.dst) with
      | none => rw [hd] at hy; simp only [Option.some.injEq] at hy; subst hy; rfl
      | some d =>
        rw [hd] at hy
        have hr := k.rep d
        have hval : ∀ x, pk σ d = .lit x → a.tmps.getD d undef = x := by
          intro x hx
          rw [hx] at hr
          generalize a.tmps.getD d undef = v at hr
          cases hr with
          | lit => rfl
          | arr q o e rows b off m val Fc ha => simp [AV.arr] at ha
        simp only [Option.bind_some]
        simp only at hy
        split at hy
        · rename_i b hb
          simp only [Option.some.injEq] at hy
          subst hy
          have := hval _ hb
          rw [Array.getD_eq_getD_getElem?] at this
          cases hq : a.tmps[d]? with
          | none => rw [hq] at this; simp [undef] at this
          | some u => rw [hq] at this; simp only [Option.getD_some] at this; subst this; rfl
        · rename_i x hb hx
          simp only [Option.some.injEq] at hy
          subst hy
          have := hval _ hx
          rw [Array.getD_eq_getD_getElem?] at this
          cases hq : a.tmps[d]? with
          | none => rfl
          | some u =>
            rw [hq] at this
            simp only [Option.getD_some] at this
            subst this
            cases u <;> first | rfl | exact (hb _ rfl).elim | exact absurd hx (hb _)
        · cases hy
    simp only [this]

theorem Ok.common (k : Ok w0 F0 Z0 X f ts w Z Fs G) : Ok w0 F0 Z0 no f ts w (fun x y => Z x y ∨ X x y) Fs G :=
  ⟨fun t => (k.rep t).agree (fun x y _ => .refl w x y) (fun _ _ q => .inl q), k.vok, k.dis,
    fun t x y q => ⟨fun u => u.elim (k.foot t x y q).1 (k.foot t x y q).2.1, fun u => u, (k.foot t x y q).2.2⟩, fun _ _ q => q.elim, fun x y q => .inl (k.base x y q),
    fun x y q => q.elim (fun q => k.shared x y q) (fun q => ⟨(k.free x y q).2.1, .inr (k.free x y q).2.2⟩), k.grows, k.keep, k.step⟩

/-- a call. -/
theorem call_ok {E : Env} (hE : E.Good) {n : Nat} {fx : List Nat} {a0 : Nat → Value} {o : Oper} {c : Call} {fo : Operand} (hop : o.op = .call c) (hc : c.callee = .value fo) {g : FuncId} {ms : List Mode} {as : List AV} {bs : List (Option (Nat × Hops))}
    {σ1 σ2 σ3 : Slots} {as' : List AV} {res : AV} {outs : List AV} (hs : St w0 F0 Z0 n fx a0 σ a w) (hd : ∀ d, o.dst = some d → d < n ∧ d ∉ fx) (hf : (opnd fo).run σ = some (.clo g []))
    (ht : takeArgs ms c.args.toList [] σ = some (as, bs, σ1)) (hl : lendArgs σ1 ms c.args.toList as = some as') (hC : E.C g as' res outs) (hlen : outs.length = as'.length)
    (hlone : ms.contains .val = true → res.lone = true ∧ loneL outs = true) (share : Bool) (hpure : (if share then res.shr else res).pure = true) (hrs : restore bs outs σ1 = some σ2) (hset : setDst o (if share then res.shr else res) σ2 = some σ3)
    {next : Act → World → Prop} {Q : Exit → Act → World → Prop} (hK : ∀ a' w', St w0 F0 Z0 n fx a0 σ3 a' w' → next a' w') : o.wp E.P a w next Q := by
  obtain ⟨⟨Z, Fs, G, k⟩, hsz, hdf, hfx⟩ := hs
  obtain ⟨⟨fn, hfn, hnm, hbody⟩, hV⟩ := hE.calls g as' res outs hC
  -- the function that is called
  have hval : a.eval fo = .func (.func g) #[] #[] := by
    obtain ⟨⟨Gx, hr⟩, _⟩ := opnd_ok k hf
    generalize a.eval fo = v at hr
    cases hr with
    | clo => rfl
    | arr q o e rows b off m val Fc ha => simp [AV.arr] at ha
  have hexec : (execOp a.eval o).run E.P w = .ok (.enter g (c.args.map a.eval)) w := by
    have hnm' : ¬ fn.name = "runtime.NumGoroutine" := by simpa using hnm
    have hbody' : ¬ fn.body = none := by intro h; rw [h] at hbody; cases hbody
    simp [execOp, hop, resolve, hc, hval, Deferred.ofValue, Go.invoke, callFunc, hfn, hnm', hbody']
  unfold Oper.wp
  rw [hexec]
  simp only [Oper.upon]
  -- its arguments
  obtain ⟨Z1, Fs1, G1, Fa, a1, a2, a3, a4, a5, a6, a7, a8, a9, a10, a11, a12⟩ := takeArgs_ok ms c.args.toList [] σ σ1 no Z Fs G as bs k ht
  have hX : (fun x y => no x y ∨ ∃ i, Fa i x y) = fun x y => ∃ i, Fa i x y := by funext x y; simp [no]
  rw [hX] at a3
  let Zc : Foot := if ms.contains .val = true then (fun x y => Z1 x y ∨ ∃ t, Fs1 t x y) else Z1
  have hZc1 : ∀ x y, Z1 x y → Zc x y := by
    intro x y q; simp only [Zc]; split
    · exact .inl q
    · exact q
  have hZc2 : ms.contains .val = true → ∀ t x y, Fs1 t x y → Zc x y := by
    intro h t x y q; simp only [Zc, h, if_true]; exact .inr ⟨t, q⟩
  have hZc3 : ∀ x y, Zc x y → Z1 x y ∨ (∃ t, Fs1 t x y) := by
    intro x y q; simp only [Zc] at q; split at q
    · exact q
    · exact .inl q
  obtain ⟨l1, l2⟩ := lendArgs_ok a3 hZc1 ms c.args.toList as as' Fa hZc2 a7 hl
  have hsize : (c.args.map a.eval).size = as'.length := by simp [l1]
  have hargs : ∀ (i : Nat) (x : Operand), c.args.toList[i]? = some x → (c.args.map a.eval).getD i undef = a.eval x := by
    intro i x hx
    rw [Array.getElem?_toList] at hx
    simp [Array.getD_eq_getD_getElem?, hx]
  have hop' : ∀ (i : Nat), i < as'.length → ∃ x, c.args.toList[i]? = some x := by
    intro i hi; rw [l1] at hi; exact ⟨_, List.getElem?_eq_getElem hi⟩
  refine Calls.mono (hV (c.args.map a.eval) w Zc Fa hsize (fun i v hv => ?_) a6 (fun i x y q => ⟨fun u => ?_, (a3.free x y ⟨i, q⟩).2.1⟩) (fun x y q => ?_)) ?_
  · obtain ⟨x, hx⟩ := hop' i (List.getElem?_eq_some_iff.1 hv).1
    rw [hargs i x hx]
    exact l2 i v x hv hx
  · rcases hZc3 x y u with u | ⟨t, u⟩
    · exact (a3.free x y ⟨i, q⟩).1 u
    · exact (a3.foot t x y u).2.1 ⟨i, q⟩
  · rcases hZc3 x y q with u | ⟨t, u⟩
    · exact (a3.shared x y u).1
    · exact (a3.foot t x y u).2.2.1
  · rintro e w1 ⟨v, rfl, Z2, Fr, Fo, r1, r2, r3, r4, ⟨Gr, r5⟩, r6, r7, r8, r9⟩
    simp only
    -- what is common from now on
    obtain ⟨Zn, n1, n2, n3, n4, n5⟩ : ∃ Zn : Foot, (∀ x y, Z1 x y → Zn x y) ∧ (∀ x y, Zn x y → Z2 x y) ∧ (∀ x y, Zn x y → Z1 x y ∨ (∃ i, Fa i x y) ∨ w.heap.size ≤ x) ∧ Rep w1 Zn Gr res v Fr ∧
        (∀ (i : Nat) (o : AV), outs[i]? = some o → ∃ Go, Rep w1 Zn Go o ((c.args.map a.eval).getD i undef) (Fo i)) := by
      by_cases hm : ms.contains .val = true
      · obtain ⟨h1, h2⟩ := hlone hm
        exact ⟨Z1, fun _ _ q => q, fun x y q => r2 x y (hZc1 x y q), fun x y q => .inl q, r5.lone h1, fun i o ho => by
          obtain ⟨Go, h⟩ := r6 i o ho
          exact ⟨Go, h.lone (loneL_mem h2 o (List.mem_of_getElem? ho))⟩⟩
      · refine ⟨Z2, fun x y q => r2 x y (hZc1 x y q), fun _ _ q => q, fun x y q => ?_, r5, r6⟩
        rcases (r3 x y q).2 with u | u | u
        · simp only [Zc, hm] at u; exact .inl u
        · exact .inr (.inl u)
        · exact .inr (.inr u)
    have hfresh : ∀ x y, ((∃ i, Fa i x y) ∨ w.heap.size ≤ x) → F0 x y ∨ w0.heap.size ≤ x := by
      intro x y q
      rcases q with q | q
      · exact (a3.free x y q).2.2
      · exact .inr (Nat.le_trans a3.grows q)
    have hnotFs : ∀ t x y, Fs1 t x y → ¬ ((∃ i, Fa i x y) ∨ w.heap.size ≤ x) := by
      intro t x y q u
      rcases u with u | u
      · exact (a3.foot t x y q).2.1 u
      · have := (a3.foot t x y q).2.2.1; omega
    have k1 : Ok w0 F0 Z0 (fun x y => Fr x y ∨ ∃ i, Fo i x y) (pk σ1) a.tmps w1 Zn Fs1 G1 := by
      refine ⟨fun t => (a3.rep t).agree (fun x y q => ?_) n1, a3.vok, a3.dis, ?_, ?_, fun x y q => n1 _ _ (a3.base x y q), ?_, Nat.le_trans a3.grows r1.size, ?_, a3.step.trans r1⟩
      · rcases q with q | q
        · exact r4 x y (a3.foot t x y q).2.2.1 (fun u => (a3.foot t x y q).2.1 u)
        · exact r4 x y (a3.shared x y q).1 (fun u => (a3.free x y u).1 q)
      · intro t x y q
        refine ⟨fun u => ?_, fun u => ?_, Nat.lt_of_lt_of_le (a3.foot t x y q).2.2.1 r1.size, (a3.foot t x y q).2.2.2⟩
        · rcases n3 x y u with u | u
          · exact (a3.foot t x y q).1 u
          · exact hnotFs t x y q u
        · rcases u with u | ⟨i, u⟩
          · exact hnotFs t x y q (r7 x y u).2.2.1
          · exact hnotFs t x y q (r8 i x y u).2.2
      · rintro x y (q | ⟨i, q⟩)
        · exact ⟨fun u => (r7 x y q).1 (n2 x y u), (r7 x y q).2.1, hfresh x y (r7 x y q).2.2.1⟩
        · exact ⟨fun u => (r8 i x y q).1 (n2 x y u), (r8 i x y q).2.1, hfresh x y (r8 i x y q).2.2⟩
      · intro x y q
        refine ⟨(r3 x y (n2 x y q)).1, ?_⟩
        rcases n3 x y q with u | u
        · exact (a3.shared x y u).2
        · exact .inr (hfresh x y u)
      · intro x y hx hn
        refine (a3.keep x y hx hn).trans (r4 x y (Nat.lt_of_lt_of_le hx a3.grows) (fun u => ?_))
        rcases (a3.free x y u).2.2 with h | h
        · exact hn h
        · omega
    -- laid back
    obtain ⟨X', Fs2, G2, m1, m2⟩ := restore_ok bs outs (c.args.toList.map a.eval) σ1 σ2 _ Fs1 G1 Fo k1 hrs (by simp [hlen, l1]) (fun i o u ho hu => by
        obtain ⟨Go, h⟩ := n5 i o ho
        rw [List.getElem?_map] at hu
        cases hx : c.args.toList[i]? with
        | none => rw [hx] at hu; cases hu
        | some x =>
          rw [hx] at hu
          simp only [Option.map_some, Option.some.injEq] at hu
          subst hu
          rw [hargs i x hx] at h
          exact ⟨Go, h⟩)
      (fun i b u hb hu => by
        rw [List.getElem?_map] at hu
        cases hx : c.args.toList[i]? with
        | none => rw [hx] at hu; cases hu
        | some x =>
          rw [hx] at hu
          simp only [Option.map_some, Option.some.injEq] at hu
          subst hu
          exact a10 i b x hb hx) (fun i x y q => .inr ⟨i, q⟩) r9 a12
    have m3 := m1.less (X' := Fr) (fun x y q => m2 x y (.inl q) (r7 x y q).2.2.2)
    cases share with
    | false =>
      simp only [Bool.false_eq_true, if_false] at hpure hset
      obtain ⟨Fs3, G3, m4⟩ := put_ok m3 n4 (n4.pure hpure) hset (fun d h => by rw [hsz]; exact (hd d h).1)
      exact hK _ _ ⟨⟨Zn, Fs3, G3, m4⟩, by rw [put_size, hsz], by rw [put_defers', hdf], put_fix hfx (fun d h => (hd d h).2)⟩
    | true =>
      simp only [if_true] at hpure hset
      have n5 := n4.shr (Z' := fun x y => Zn x y ∨ Fr x y) (fun x y q => .inr q) (fun x y q => .inl q)
      obtain ⟨Fs3, G3, m4⟩ := put_ok m3.common n5 (n5.pure hpure) hset (fun d h => by rw [hsz]; exact (hd d h).1)
      exact hK _ _ ⟨⟨_, Fs3, G3, m4⟩, by rw [put_size, hsz], by rw [put_defers', hdf], put_fix hfx (fun d h => (hd d h).2)⟩

theorem isCall_inv {op : Op} {f : Operand} {args : List Operand} (h : isCall op = some (f, args)) : ∃ c, op = .call c ∧ c.callee = .value f ∧ c.args.toList = args := by
  unfold isCall at h
  split at h
  · simp only [Option.some.injEq, Prod.mk.injEq] at h
    obtain ⟨rfl, rfl⟩ := h
    exact ⟨_, rfl, rfl, rfl⟩
  · cases h

/-- one operation. -/
theorem vop_ok {E : Env} (hE : E.Good) {n : Nat} {fx : List Nat} {a0 : Nat → Value} {ops : Array Oper} {pol : Pol} {i : Nat} {o : Oper} {K : Slots → Prop} (h : vop E ops pol i o σ K) (hs : St w0 F0 Z0 n fx a0 σ a w) (hd : ∀ d, o.dst = some d → d < n ∧ d ∉ fx)
    {next : Act → World → Prop} {Q : Exit → Act → World → Prop} (hK : ∀ σ' a' w', K σ' → St w0 F0 Z0 n fx a0 σ' a' w' → next a' w') :
    if Region.wanted o (yielded ops a.tmps) then o.wp E.P a w next Q else next (a.put o.dst undef) w := by
  have hs' := hs
  obtain ⟨⟨Z, Fs, G, k⟩, hsz, hdf, hfx⟩ := hs'
  unfold vop at h
  cases hw : wantedV ops σ o with
  | none => rw [hw] at h; exact h.elim
  | some b =>
    rw [wanted_ok k hw]
    rw [hw] at h
    cases b with
    | false =>
      simp only [Bool.false_eq_true, if_false]
      obtain ⟨σ', h1, h2⟩ := h
      exact hK σ' _ _ h2 (St.put (Out.idle k ⟨fun _ => undef, .lit rfl⟩ .lit) hsz hdf hfx h1 hd)
    | true =>
      simp only [if_true]
      simp only at h
      split at h
      · rename_i f args hcall
        obtain ⟨g, ms, as, bs, σ1, as', res, outs, σ2, σ3, h1, h2, h3, h4, h5, h6, h7, h8, h9, h10, h11⟩ := h
        obtain ⟨c, e1, e2, rfl⟩ := isCall_inv hcall
        exact call_ok hE e1 e2 hs hd h1 h3 h4 h5 h6 h7 (pol.rsh.contains i) h8 h9 h10 (fun a' w' hst => hK _ _ _ h11 hst)
      · obtain ⟨σ', h1, h2⟩ := h
        unfold stepF at h1
        replace h1 := bind_some_inv h1
        obtain ⟨⟨v, σ1⟩, h3, h4⟩ := h1
        obtain ⟨val, w', h5, h6⟩ := sound_M hE.types k h3
        unfold Oper.wp
        rcases h5 with h5 | ⟨h5, rfl⟩
        · rw [h5]; exact hK _ _ _ h2 (St.put h6 hsz hdf hfx h4 hd)
        · rw [h5]; exact hK _ _ _ h2 (St.put h6 hsz hdf hfx h4 hd)

theorem vops_ok {E : Env} (hE : E.Good) {n : Nat} {fx : List Nat} {a0 : Nat → Value} {ops : Array Oper} {pol : Pol} {K : Slots → Prop} {Q : Exit → Act → World → Prop} (hQ : ∀ σ' a' w', K σ' → St w0 F0 Z0 n fx a0 σ' a' w' → Q .normal a' w') :
    ∀ (os : List Oper) (i : Nat) (σ : Slots) (a : Act) (w : World), (∀ o ∈ os, ∀ d, o.dst = some d → d < n ∧ d ∉ fx) → vops E ops pol i os σ K → St w0 F0 Z0 n fx a0 σ a w → wpList E.P ops Q os a w
  | [], i, σ, a, w, hd, h, hs => hQ _ _ _ h hs
  | o :: os, i, σ, a, w, hd, h, hs => by
    simp only [wpList]
    have := vop_ok hE (Q := Q) h hs (hd o (List.mem_cons_self ..)) (next := wpList E.P ops Q os) (fun σ' a' w' h1 h2 => vops_ok hE hQ os (i + 1) σ' a' w' (fun o ho => hd o (List.mem_cons_of_mem _ ho)) h1 h2)
    split
    · rename_i hw; rw [if_pos hw] at this; exact .inl this
    · rename_i hw; rw [if_neg hw] at this; exact this

end
end Go.V
