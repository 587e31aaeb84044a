/- V: arguments taken; what was taken for a while laid back. -/
import Derived.Test.YtflpofmnjibjgaaVLend
set_option linter.unusedVariables false
set_option linter.unusedSimpArgs false
namespace Go.V
open Go

section
variable {P : Program} {T : TypeId → TI} {w0 : World} {F0 Z0 X : Foot} {σ σ' : Slots} {w : World} {Z : Foot} {Fs : Nat → Foot} {G : Nat → Hops → Value} {a : Act} {ts : Array Value} {f : Nat → AV}

theorem apart1_not {r : Nat} {hs : Hops} {p : Put} (h : apart1 r hs p = true) : ¬ (r = p.r ∧ Hops.through p.hs hs = true) := by
  rintro ⟨h1, h2⟩
  simp only [apart1, Bool.not_eq_true', Bool.and_eq_false_iff, Bool.or_eq_false_iff, beq_eq_false_iff_ne, ne_eq] at h
  rcases h with h | h
  · exact h h1.symm
  · rw [h2] at h; cases h.2

theorem get_putF_self {r : Nat} {hs : Hops} {n n' : AV} {kill : Bool} (hget : (f r).get hs = some n) (hm : n'.mem = true) : (putF f r hs n' kill r).get hs = some n' := by
  have hk : (if kill = true then n'.kill r hs else n') = n' := by
    cases kill
    · rfl
    · simp only [if_true]; exact mem_kill hm r hs
  simp only [putF, if_true, hk]
  exact get_put_self n' hs (f r) n hget

theorem Ok.hold (k : Ok w0 F0 Z0 X f ts w Z Fs G) {r : Nat} {hs : Hops} {n : AV} (hget : (f r).get hs = some n) (hown : (f r).owned hs = true) (hn : n.mem = true) :
    ∃ (vn : Value) (Fn : Foot) (Fs' : Nat → Foot) (G' : Nat → Hops → Value), Rep w Z (fun q => G r (hs ++ q)) n vn Fn ∧ (∀ x y, Fn x y → ¬ X x y ∧ ¬ Z x y) ∧
      Ok w0 F0 Z0 (fun x y => X x y ∨ Fn x y) (putF f r hs .held n.node) ts w Z Fs' G' ∧ Vok (putF f r hs .held n.node) G' (.mref r hs) vn ∧
      (∀ b u, Vok f G b u → Vok (putF f r hs .held n.node) G' (if n.node then b.kill r hs else b) u) := by
  cases hs with
  | nil =>
    have hget0 := hget
    simp only [AV.get, Option.some.injEq] at hget
    subst hget
    refine ⟨ts.getD r undef, Fs r, _, _, k.rep r, fun x y q => ⟨(k.foot r x y q).2.1, (k.foot r x y q).1⟩, k.slot r (ts' := ts) (v := ts.getD r undef) (Fd := no) (Gd := fun _ => ts.getD r undef) ?_ (fun x y _ => .refl w x y) (Nat.le_refl _) (.refl w) (fun _ _ q => q) k.shared ?_ ?_ ?_
      (.held ((k.rep r).memOne hn) rfl) .held, ?_, fun b u h => k.names _ _ rfl h⟩
    · intro t; split <;> simp_all
    · intro t x y ht q
      have q' := k.foot t x y q
      exact ⟨q'.1, fun u => u.elim q'.2.1 (fun u => ht (k.dis _ _ _ _ q u)), fun u => u⟩
    · intro x y q; exact q.elim
    · rintro x y (q | q)
      · exact k.free x y q
      · exact ⟨(k.foot r x y q).1, (k.foot r x y q).2.2.1, (k.foot r x y q).2.2.2⟩
    · have := Vok.mref (f := putF f r [] .held (f r).node) (G := updG G r [] (fun _ => ts.getD r undef)) (r := r) (hs := []) .held (get_putF_self hget0 rfl) (.inl rfl)
      have e : updG G r [] (fun _ => ts.getD r undef) r [] = ts.getD r undef := updG_self (hs := []) []
      rw [e] at this; exact this
  | cons g hs =>
    obtain ⟨b, off, vn, F1, F2, k1, k2, k3, k4, k5, k6, k7, _, k8⟩ := k.mem hget hown
    refine ⟨vn, F2, _, _, k7, fun x y q => ⟨(k.foot r x y (k2 _ _ q)).2.1, (k.foot r x y (k2 _ _ q)).1⟩, k8 w Z (fun x y => X x y ∨ F2 x y) .held vn no (fun _ => vn) (fun x y _ _ => .refl w x y) (Nat.le_refl _) (.refl w) k5 k6 (fun _ _ q => q) k.shared ?_ (fun x y q => q.elim) ?_ (.held (k7.memOne hn) rfl), ?_, fun b u h => k.names _ _ hget h⟩
    · intro t x y q u
      have q' := k.foot t x y q
      refine ⟨q'.1, fun z => z.elim q'.2.1 (fun z => ?_), fun z => z⟩
      have : t = r := k.dis _ _ _ _ q (k2 _ _ z)
      exact k3 _ _ (u this) z
    · rintro x y (q | q)
      · exact k.free x y q
      · have q' := k.foot r x y (k2 _ _ q)
        exact ⟨q'.1, q'.2.2.1, q'.2.2.2⟩
    · have := Vok.mref (f := putF f r (g :: hs) .held n.node) (G := updG G r (g :: hs) (fun _ => vn)) (r := r) (hs := g :: hs) .held (get_putF_self hget rfl) (.inl rfl)
      have e : updG G r (g :: hs) (fun _ => vn) r (g :: hs) = vn := by
        have := updG_self (G := G) (r := r) (hs := g :: hs) (Gn := fun _ => vn) []
        simpa using this
      rw [e] at this; exact this

/-- what names something far stands. -/
def Far (σ σ' : Slots) (G G' : Nat → Hops → Value) (ps : List Put) : Prop :=
  ∀ b u, b.flat = true → (∀ f cs, b = .clo f cs → cs = []) → (∀ p ∈ ps, ∀ q, b.place = some q → ¬ (q.1 = p.r ∧ Hops.through p.hs q.2 = true)) → Vok (pk σ) G b u → Vok (pk σ') G' b u

theorem far_kill {r : Nat} {hs : Hops} {n n' : AV} {G G' : Nat → Hops → Value} (hn : n.node = true) (hσ : pk σ' = putF (pk σ) r hs n' n.node)
    (h : ∀ b u, Vok (pk σ) G b u → Vok (putF (pk σ) r hs n' n.node) G' (if n.node then b.kill r hs else b) u) : Far σ σ' G G' [⟨r, hs, n'⟩] := by
  intro b u hb hc hfar hvb
  have := h b u hvb
  rw [hn] at this
  simp only [if_true] at this
  rw [kill_far hb hc (fun q hq => hfar ⟨r, hs, n'⟩ (List.mem_cons_self ..) q hq)] at this
  rw [hσ, hn]; exact this

/-- one argument taken. -/
theorem arg_ok (k : Ok w0 F0 Z0 X (pk σ) a.tmps w Z Fs G) {m : Mode} {x : Operand} {v : AV × List Put} (h : (argQ m x).run σ = some v) (hp : putAll v.2 σ = some σ') :
    ∃ (Z' : Foot) (Fs' : Nat → Foot) (G' : Nat → Hops → Value) (Fa : Foot) (Ga : Hops → Value), (∀ x y, Z x y → Z' x y) ∧ (∀ x y, Fa x y → ¬ X x y) ∧
      Ok w0 F0 Z0 (fun x y => X x y ∨ Fa x y) (pk σ') a.tmps w Z' Fs' G' ∧ Rep w Z' Ga v.1 (a.eval x) Fa ∧ Far σ σ' G G' v.2 ∧
      (∀ b, backOf m v.2 = some b → Vok (pk σ') G' (.mref b.1 b.2) (a.eval x)) := by
  have idle : (fun x y => X x y ∨ no x y) = X := by funext x y; simp [no]
  cases m with
  | val =>
    simp only [argQ, Q.run, Option.some.injEq] at h
    subst h
    simp only [putAll, Option.some.injEq] at hp
    subst hp
    exact ⟨Z, Fs, G, no, fun _ => undef, fun _ _ q => q, fun _ _ q => q.elim, by rw [idle]; exact k, .gone, fun b u _ _ _ h => h, fun b hb => by simp [backOf] at hb⟩
  | frz =>
    obtain ⟨Z', Fs', G', Fa, Ga, a1, a2, a3, a4, a5, a6⟩ := take_ok k h hp
    exact ⟨Z', Fs', G', Fa, Ga, a1, a2, a3, a4, a6, fun b hb => by simp [backOf] at hb⟩
  | own =>
    obtain ⟨Z', Fs', G', Fa, Ga, a1, a2, a3, a4, a5, a6⟩ := take_ok k h hp
    exact ⟨Z', Fs', G', Fa, Ga, a1, a2, a3, a4, a6, fun b hb => by simp [backOf] at hb⟩
  | io =>
    simp only [argQ, holdQ, Q.run_bind] at h
    replace h := bind_some_inv h
    obtain ⟨u, hu, h⟩ := h
    obtain ⟨hr, hv⟩ := opnd_ok k hu
    have finish : ∀ (r : Nat) (hs : Hops) (n : AV), (pk σ r).get hs = some n → n.mem = true → n.node = true → v = (n, [⟨r, hs, .held⟩]) → (∀ vn, G r hs = vn → a.eval x = vn) →
        ∃ (Z' : Foot) (Fs' : Nat → Foot) (G' : Nat → Hops → Value) (Fa : Foot) (Ga : Hops → Value), (∀ x y, Z x y → Z' x y) ∧ (∀ x y, Fa x y → ¬ X x y) ∧
          Ok w0 F0 Z0 (fun x y => X x y ∨ Fa x y) (pk σ') a.tmps w Z' Fs' G' ∧ Rep w Z' Ga v.1 (a.eval x) Fa ∧ Far σ σ' G G' v.2 ∧
          (∀ b, backOf .io v.2 = some b → Vok (pk σ') G' (.mref b.1 b.2) (a.eval x)) := by
      intro r hs n hget hm hnn hv hval
      subst hv
      simp only [putAll] at hp
      cases ht : Put.to ⟨r, hs, .held⟩ σ with
      | none => rw [ht] at hp; cases hp
      | some τ =>
        rw [ht] at hp
        simp only [Option.bind_some, Option.some.injEq] at hp
        subst hp
        obtain ⟨n2, h1, h2, h3⟩ := put_to ht
        simp only at h1 h2 h3
        rw [hget] at h1
        cases h1
        obtain ⟨vn, Fn, Fs', G', q1, q2, q3, q4, q5⟩ := k.hold hget h2 hm
        have hh := q1.head hm
        rw [List.append_nil] at hh
        have he := hval vn hh
        refine ⟨Z, Fs', G', Fn, _, fun _ _ q => q, fun x y q => (q2 x y q).1, by rw [h3]; exact q3, by rw [he]; exact q1, far_kill hnn h3 q5, ?_⟩
        intro b hb
        simp only [backOf, Option.some.injEq] at hb
        subst hb
        rw [h3, he]; exact q4
    cases u with
    | view r hs lo len e =>
      generalize hval : a.eval x = val at hv
      cases hv with
      | view rows b off m off' hget hG hle hoff =>
        simp only [Q.run, hget, Option.bind_some] at h
        split at h
        · rename_i hc
          obtain ⟨_, rfl, rfl⟩ := hc
          simp only [Q.run, Option.some.injEq] at h
          rw [hval] at finish
          refine finish r hs _ hget rfl rfl h.symm (fun vn hvn => ?_)
          rw [← hvn, hG]
          rcases hoff with rfl | ⟨_, h0⟩
          · simp
          · exact absurd rfl h0
        · cases h
    | ref r hs i c =>
      generalize hval : a.eval x = val at hv
      cases hv with
      | ref nd o e rows b off m hget ha hG =>
        simp only [Q.run, hget, Option.bind_some] at h
        cases nd with
        | box o2 cs =>
          simp only at h
          split at h
          · rename_i hc
            obtain ⟨rfl, rfl, rfl⟩ := hc
            simp only [Q.run, Option.some.injEq] at h
            rw [hval] at finish
            refine finish r hs _ hget rfl rfl h.symm (fun vn hvn => ?_)
            rw [← hvn, hG]
            simp [hdr]
          · cases h
        | _ => cases h
    | lit y =>
      simp only [Q.run, Option.some.injEq] at h
      subst h
      simp only [putAll, Option.some.injEq] at hp
      subst hp
      obtain ⟨Gx, hr⟩ := hr
      exact ⟨Z, Fs, G, no, Gx, fun _ _ q => q, fun _ _ q => q.elim, by rw [idle]; exact k, hr, fun b u _ _ _ h => h, fun b hb => by simp [backOf] at hb⟩
    | _ => cases h

theorem takeArgs_ok : ∀ (ms : List Mode) (xs : List Operand) (pins : List (Nat × Hops)) (σ σ' : Slots) (X Z : Foot) (Fs : Nat → Foot) (G : Nat → Hops → Value) (as : List AV) (bs : List (Option (Nat × Hops))),
    Ok w0 F0 Z0 X (pk σ) a.tmps w Z Fs G → takeArgs ms xs pins σ = some (as, bs, σ') →
    ∃ (Z' : Foot) (Fs' : Nat → Foot) (G' : Nat → Hops → Value) (Fa : Nat → Foot), (∀ x y, Z x y → Z' x y) ∧ (∀ i x y, Fa i x y → ¬ X x y) ∧
      Ok w0 F0 Z0 (fun x y => X x y ∨ ∃ i, Fa i x y) (pk σ') a.tmps w Z' Fs' G' ∧ as.length = xs.length ∧ bs.length = xs.length ∧ (∀ i j x y, Fa i x y → Fa j x y → i = j) ∧
      (∀ (i : Nat) (v : AV) (x : Operand), as[i]? = some v → xs[i]? = some x → ∃ Ga, Rep w Z' Ga v (a.eval x) (Fa i)) ∧ (∀ i x y, Fa i x y → i < xs.length) ∧
      (∀ b ∈ pins, ∀ u, Vok (pk σ) G (.mref b.1 b.2) u → Vok (pk σ') G' (.mref b.1 b.2) u) ∧
      (∀ (i : Nat) (b : Nat × Hops) (x : Operand), bs[i]? = some (some b) → xs[i]? = some x → Vok (pk σ') G' (.mref b.1 b.2) (a.eval x)) ∧
      (∀ b ∈ pins, ∀ (j : Nat) (c : Nat × Hops), bs[j]? = some (some c) → apart1 b.1 b.2 ⟨c.1, c.2, .held⟩ = true) ∧
      (∀ (i j : Nat) (b c : Nat × Hops), bs[i]? = some (some b) → bs[j]? = some (some c) → i < j → apart1 b.1 b.2 ⟨c.1, c.2, .held⟩ = true)
  | [], [], pins, σ, σ', X, Z, Fs, G, as, bs, k, h => by
    simp only [takeArgs, Option.some.injEq, Prod.mk.injEq] at h
    obtain ⟨rfl, rfl, rfl⟩ := h
    have idle : (fun x y => X x y ∨ ∃ _ : Nat, no x y) = X := by funext x y; simp [no]
    refine ⟨Z, Fs, G, fun _ => no, fun _ _ q => q, fun _ _ _ q => q.elim, by rw [idle]; exact k, rfl, rfl, fun _ _ _ _ q => q.elim, fun i v x hv => by simp at hv, fun _ _ _ q => q.elim, fun b _ u h => h, fun i b x hb => by simp at hb, fun b _ j c hc => by simp at hc, fun i j b c hb => by simp at hb⟩
  | m :: ms, x :: xs, pins, σ, σ', X, Z, Fs, G, as, bs, k, h => by
    simp only [takeArgs] at h
    replace h := bind_some_inv h
    obtain ⟨v, hv, h⟩ := h
    split at h
    · rename_i hpin
      replace h := bind_some_inv h
      obtain ⟨σ1, hσ1, h⟩ := h
      replace h := bind_some_inv h
      obtain ⟨r, hr, h⟩ := h
      simp only [Option.some.injEq, Prod.mk.injEq] at h
      obtain ⟨rfl, rfl, rfl⟩ := h
      obtain ⟨Z1, Fs1, G1, Fa, Ga, a1, a2, a3, a4, a5, a6⟩ := arg_ok k hv hσ1
      obtain ⟨Z2, Fs2, G2, Fb, b1, b2, b3, b4, b5, b6, b7, b8, b9, b10, b11, b12⟩ := takeArgs_ok ms xs _ σ1 r.2.2 _ Z1 Fs1 G1 r.1 r.2.1 a3 hr
      refine ⟨Z2, Fs2, G2, fun i => match i with | 0 => Fa | i + 1 => Fb i, fun x y q => b1 _ _ (a1 _ _ q), ?_, ?_, by simp [b4], by simp [b5], ?_, ?_, ?_, ?_, ?_, ?_, ?_⟩
      · intro i x y q
        cases i with
        | zero => exact a2 x y q
        | succ i => exact fun u => b2 i x y q (.inl u)
      · have : (fun x y => (X x y ∨ Fa x y) ∨ ∃ i, Fb i x y) = (fun x y => X x y ∨ ∃ i : Nat, (match i with | 0 => Fa | i + 1 => Fb i : Foot) x y) := by
          funext x y
          apply propext
          constructor
          · rintro ((q | q) | ⟨i, q⟩)
            · exact .inl q
            · exact .inr ⟨0, q⟩
            · exact .inr ⟨i + 1, q⟩
          · rintro (q | ⟨i, q⟩)
            · exact .inl (.inl q)
            · cases i with
              | zero => exact .inl (.inr q)
              | succ i => exact .inr ⟨i, q⟩
        rw [← this]; exact b3
      · intro i j x y q q'
        cases i with
        | zero =>
          cases j with
          | zero => rfl
          | succ j => exact (b2 j x y q' (.inr q)).elim
        | succ i =>
          cases j with
          | zero => exact (b2 i x y q (.inr q')).elim
          | succ j => rw [b6 i j x y q q']
      · intro i v' x' hv' hx'
        cases i with
        | zero =>
          simp only [List.getElem?_cons_zero, Option.some.injEq] at hv' hx'
          subst hv'; subst hx'
          exact ⟨Ga, a4.wide b1⟩
        | succ i => simp only [List.getElem?_cons_succ] at hv' hx'; exact b7 i v' x' hv' hx'
      · intro i x y q
        cases i with
        | zero => simp
        | succ i => have := b8 i x y q; simp; omega
      · intro b hb u hu
        refine b9 b (List.mem_append_right _ hb) u (a5 _ u rfl (fun f cs h => by cases h) (fun p hp q hq => ?_) hu)
        simp only [AV.place, Option.some.injEq] at hq
        subst hq
        exact apart1_not (List.all_eq_true.1 (List.all_eq_true.1 hpin p hp) b hb)
      · intro i b x' hb hx'
        cases i with
        | zero =>
          simp only [List.getElem?_cons_zero, Option.some.injEq] at hb hx'
          subst hx'
          exact b9 b (by rw [hb]; simp) _ (a6 b hb)
        | succ i => simp only [List.getElem?_cons_succ] at hb hx'; exact b10 i b x' hb hx'
      · intro b hb j c hc
        cases j with
        | zero =>
          simp only [List.getElem?_cons_zero, Option.some.injEq] at hc
          have : ∃ p, v.2 = [p] ∧ c = (p.r, p.hs) := by
            unfold backOf at hc
            split at hc
            · rename_i p hp; simp only [Option.some.injEq] at hc; exact ⟨p, hp, hc.symm⟩
            · cases hc
          obtain ⟨p, hp, rfl⟩ := this
          have := List.all_eq_true.1 (List.all_eq_true.1 hpin p (by rw [hp]; simp)) b hb
          exact this
        | succ j => simp only [List.getElem?_cons_succ] at hc; exact b11 b (List.mem_append_right _ hb) j c hc
      · intro i j b c hb hc hij
        cases j with
        | zero => omega
        | succ j =>
          simp only [List.getElem?_cons_succ] at hc
          cases i with
          | zero =>
            simp only [List.getElem?_cons_zero, Option.some.injEq] at hb
            exact b11 b (by rw [hb]; simp) j c hc
          | succ i => simp only [List.getElem?_cons_succ] at hb; exact b12 i j b c hb hc (by omega)
    · cases h
  | [], _ :: _, _, _, _, _, _, _, _, _, _, _, h => by simp [takeArgs] at h
  | _ :: _, [], _, _, _, _, _, _, _, _, _, _, h => by simp [takeArgs] at h

end
end Go.V
