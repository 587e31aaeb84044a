/- V: what is taken for storing. -/
import Derived.Test.YtflpofmnjibjgaaVOps
set_option linter.unusedVariables false
set_option linter.unusedSimpArgs false
namespace Go.V
open Go

section
variable {P : Program} {T : TypeId → TI} {w0 : World} {F0 Z0 X : Foot} {f : Nat → AV} {ts : Array Value} {σ : Slots} {w : World} {Z : Foot} {Fs : Nat → Foot} {G : Nat → Hops → Value} {a : Act}

theorem Rep.head {w : World} {Z : Foot} {G : Hops → Value} {a : AV} {v : Value} {F : Foot} (h : Rep w Z G a v F) (hm : a.mem = true) : G [] = v := by
  cases h with
  | arr a o e rows b off m val Fc ha he hm hrow hown hshr hsub hdis hcell hrep hG => exact hG
  | map o es b entries clock hw hes hp hF hZ hG => exact hG
  | held h hG => exact hG
  | _ => cases hm

theorem shr_vok {f : Nat → AV} {G : Nat → Hops → Value} {n : AV} {q : Bool × Nat × List (List AV)} (h : n.arr = some q) (v : Value) : Vok f G n.shr v := by
  cases n <;> simp [AV.arr] at h
  · simp only [AV.shr]; exact .slc
  · simp only [AV.shr]; exact .box

/-- a part is made common in its place. -/
theorem Ok.share (k : Ok w0 F0 Z0 X f ts w Z Fs G) {r : Nat} {hs : Hops} {n : AV} {q : Bool × Nat × List (List AV)} (hget : (f r).get hs = some n) (hown : (f r).owned hs = true) (hn : n.arr = some q) :
    ∃ (vn : Value) (Z' : Foot) (Fs' : Nat → Foot) (G' : Nat → Hops → Value), (∀ x y, Z x y → Z' x y) ∧ G r hs = vn ∧
      (∃ Gn, Rep w Z' Gn n.shr vn no) ∧
      Ok w0 F0 Z0 X (putF f r hs n.shr n.node) ts w Z' Fs' G' ∧ (∀ b u, Vok f G b u → Vok (putF f r hs n.shr n.node) G' (if n.node then b.kill r hs else b) u) := by
  cases hs with
  | nil =>
    simp only [AV.get, Option.some.injEq] at hget
    subst hget
    have hsh := (k.rep r).shr (Z' := fun x y => Z x y ∨ Fs r x y) (fun _ _ q => .inr q) (fun _ _ q => .inl q)
    refine ⟨ts.getD r undef, fun x y => Z x y ∨ Fs r x y, _, _, fun _ _ q => .inl q, (k.rep r).head (arr_mem hn), ⟨_, hsh⟩,
      k.slot r (ts' := ts) (v := ts.getD r undef) (Fd := no) (Gd := G r) ?_ (fun x y _ => .refl w x y) (Nat.le_refl _) (.refl w) (fun _ _ q => .inl q) ?_ ?_ ?_ ?_ hsh (shr_vok hn _), fun b u h => k.names _ _ rfl h⟩
    · intro t; split <;> simp_all
    · rintro x y (q | q)
      · exact k.shared x y q
      · have := k.foot r x y q; exact ⟨this.2.2.1, .inr this.2.2.2⟩
    · intro t x y ht q
      have q' := k.foot t x y q
      exact ⟨fun u => u.elim q'.1 (fun u => ht (k.dis _ _ _ _ q u)), q'.2.1, fun u => u⟩
    · intro x y q; exact q.elim
    · intro x y q
      have q' := k.free x y q
      exact ⟨fun u => u.elim q'.1 (fun u => (k.foot r x y u).2.1 q), q'.2⟩
  | cons g hs =>
    obtain ⟨b, off, vn, F1, F2, k1, k2, k3, k4, k5, k6, k7, _, k8⟩ := k.mem hget hown
    have hsh := k7.shr (Z' := fun x y => Z x y ∨ F2 x y) (fun _ _ q => .inr q) (fun _ _ q => .inl q)
    have hh := k7.head (arr_mem hn)
    rw [List.append_nil] at hh
    refine ⟨vn, fun x y => Z x y ∨ F2 x y, _, _, fun _ _ q => .inl q, hh, ⟨_, hsh⟩, k8 w (fun x y => Z x y ∨ F2 x y) X n.shr vn no _ (fun x y _ _ => .refl w x y) (Nat.le_refl _) (.refl w) k5 k6 (fun _ _ q => .inl q) ?_ ?_ (fun x y q => q.elim) ?_ hsh,
      fun b u h => k.names _ _ hget h⟩
    · rintro x y (q | q)
      · exact k.shared x y q
      · have := k.foot r x y (k2 _ _ q); exact ⟨this.2.2.1, .inr this.2.2.2⟩
    · intro t x y q u
      have q' := k.foot t x y q
      refine ⟨fun z => z.elim q'.1 (fun z => ?_), q'.2.1, fun z => z⟩
      have : t = r := k.dis _ _ _ _ q (k2 _ _ z)
      exact k3 _ _ (u this) z
    · intro x y q
      have q' := k.free x y q
      exact ⟨fun u => u.elim q'.1 (fun u => (k.foot r x y (k2 _ _ u)).2.1 q), q'.2⟩

/-- the same for a part that is taken, with what becomes of names. -/
theorem Ok.take' (k : Ok w0 F0 Z0 X f ts w Z Fs G) {r : Nat} {hs : Hops} {n n' : AV} (hget : (f r).get hs = some n) (hown : (f r).owned hs = true) (hn' : n' = .gone ∨ (n' = .dead ∧ n.mem = true)) :
    ∃ (vn : Value) (Fn : Foot) (Fs' : Nat → Foot) (G' : Nat → Hops → Value), Rep w Z (fun q => G r (hs ++ q)) n vn Fn ∧ (∀ x y, Fn x y → ¬ X x y ∧ ¬ Z x y) ∧
      (hs = [] → vn = ts.getD r undef) ∧
      Ok w0 F0 Z0 (fun x y => X x y ∨ Fn x y) (putF f r hs n' n.node) ts w Z Fs' G' ∧
      (∀ b u, Vok f G b u → Vok (putF f r hs n' n.node) G' (if n.node then b.kill r hs else b) u) := by
  have hrn : ∀ (Gx : Hops → Value) (vn : Value) (Fx : Foot), Rep w Z Gx n vn Fx → Rep w Z (fun _ => undef) n' vn no := by
    intro Gx vn Fx hr
    rcases hn' with rfl | ⟨rfl, hm⟩
    · exact .gone
    · exact .dead (hr.memOne hm)
  have hvn : ∀ {g : Nat → AV} {G : Nat → Hops → Value} {u : Value}, Vok g G n' u := by
    intro g G u
    rcases hn' with rfl | ⟨rfl, _⟩
    · exact .gone
    · exact .dead
  cases hs with
  | nil =>
    simp only [AV.get, Option.some.injEq] at hget
    subst hget
    refine ⟨ts.getD r undef, Fs r, _, _, k.rep r, fun x y q => ⟨(k.foot r x y q).2.1, (k.foot r x y q).1⟩, fun _ => rfl, k.slot r (ts' := ts) (v := ts.getD r undef) (Fd := no) (Gd := fun _ => undef) ?_ (fun x y _ => .refl w x y) (Nat.le_refl _) (.refl w) (fun _ _ q => q) k.shared ?_ ?_ ?_ (hrn _ _ _ (k.rep r)) hvn, fun b u h => k.names _ _ rfl h⟩
    · intro t; split <;> simp_all
    · intro t x y ht q
      have q' := k.foot t x y q
      exact ⟨q'.1, fun u => u.elim q'.2.1 (fun u => ht (k.dis _ _ _ _ q u)), fun u => u⟩
    · intro x y q; exact q.elim
    · rintro x y (q | q)
      · exact k.free x y q
      · exact ⟨(k.foot r x y q).1, (k.foot r x y q).2.2.1, (k.foot r x y q).2.2.2⟩
  | cons g hs =>
    obtain ⟨b, off, vn, F1, F2, k1, k2, k3, k4, k5, k6, k7, _, k8⟩ := k.mem hget hown
    refine ⟨vn, F2, _, _, k7, fun x y q => ⟨(k.foot r x y (k2 _ _ q)).2.1, (k.foot r x y (k2 _ _ q)).1⟩, fun h => by simp at h, k8 w Z (fun x y => X x y ∨ F2 x y) n' vn no (fun _ => undef) (fun x y _ _ => .refl w x y) (Nat.le_refl _) (.refl w) k5 k6 (fun _ _ q => q) k.shared ?_ (fun x y q => q.elim) ?_ (hrn _ _ _ k7), fun b u h => k.names _ _ hget h⟩
    · intro t x y q u
      have q' := k.foot t x y q
      refine ⟨q'.1, fun z => z.elim q'.2.1 (fun z => ?_), fun z => z⟩
      have : t = r := k.dis _ _ _ _ q (k2 _ _ z)
      exact k3 _ _ (u this) z
    · rintro x y (q | q)
      · exact k.free x y q
      · have q' := k.foot r x y (k2 _ _ q)
        exact ⟨q'.1, q'.2.2.1, q'.2.2.2⟩

def AV.place : AV → Option (Nat × Hops)
  | .ref r hs _ _ => some (r, hs)
  | .view r hs _ _ _ => some (r, hs)
  | .mref r hs => some (r, hs)
  | _ => none

theorem kill_far {a : AV} (ha : a.flat = true) (hc : ∀ f cs, a = .clo f cs → cs = []) {r : Nat} {hs : Hops} (h : ∀ q, a.place = some q → ¬ (q.1 = r ∧ Hops.through hs q.2 = true)) : a.kill r hs = a := by
  cases a with
  | ref r' hs' i c =>
    simp only [AV.kill]; rw [if_neg]; intro hh; simp only [Bool.and_eq_true, beq_iff_eq] at hh; exact h _ rfl hh
  | view r' hs' lo len e =>
    simp only [AV.kill]; rw [if_neg]; intro hh; simp only [Bool.and_eq_true, beq_iff_eq] at hh; exact h _ rfl hh
  | mref r' hs' =>
    simp only [AV.kill]; rw [if_neg]; intro hh; simp only [Bool.and_eq_true, beq_iff_eq] at hh; exact h _ rfl hh
  | agg cs => cases ha
  | tup cs => cases ha
  | clo f cs => have := hc f cs rfl; subst this; rfl
  | _ => rfl

theorem shrRows_take_drop (lo len : Nat) : ∀ rows : List (List AV), ((shrRows rows).drop lo).take len = shrRows ((rows.drop lo).take len) := by
  have hm : ∀ rows : List (List AV), shrRows rows = rows.map shrCells := by
    intro rows; induction rows with
    | nil => rfl
    | cons r rs ih => simp [shrRows, ih]
  intro rows
  rw [hm, hm, List.map_take, List.map_drop]

/-- what one absorbing comes to: at most one place is written, and it is the one that the value names. -/
theorem absorb1_place {share : Bool} {c : AV} {x : AV × List Put} (h : (absorb1 share c).run σ = some x) :
    (c.place = none ∧ x.2 = [] ∧ x.1 = c) ∨ ∃ p n, x.2 = [p] ∧ c.place = some (p.r, p.hs) ∧ (pk σ p.r).get p.hs = some n ∧ n.mem = true := by
  cases c with
  | lit v => simp only [absorb1, Q.run, Option.some.injEq] at h; subst h; exact .inl ⟨rfl, rfl, rfl⟩
  | slc o e rows => cases o <;> simp [absorb1, Q.run] at h; subst h; exact .inl ⟨rfl, rfl, rfl⟩
  | box o cs => cases o <;> simp [absorb1, Q.run] at h; subst h; exact .inl ⟨rfl, rfl, rfl⟩
  | clo f cs => simp only [absorb1, Q.run, Option.some.injEq] at h; subst h; exact .inl ⟨rfl, rfl, rfl⟩
  | dead => simp only [absorb1, Q.run, Option.some.injEq] at h; subst h; exact .inl ⟨rfl, rfl, rfl⟩
  | view r hs lo len e =>
    simp only [absorb1, Q.run] at h
    cases hg : (pk σ r).get hs with
    | none => rw [hg] at h; cases h
    | some n =>
      rw [hg] at h
      simp only [Option.bind_some] at h
      cases n <;> simp [Q.run] at h
      rename_i o e' rows
      cases o <;> simp [Q.run] at h
      cases share <;> simp [Q.run] at h <;> subst h <;> exact .inr ⟨_, _, rfl, rfl, hg, rfl⟩
  | ref r hs i c =>
    simp only [absorb1] at h
    split at h
    · simp only [Q.run] at h
      cases hg : (pk σ r).get hs with
      | none => rw [hg] at h; cases h
      | some n =>
        rw [hg] at h
        simp only [Option.bind_some] at h
        cases n <;> simp [Q.run] at h
        rename_i o cs
        cases o <;> simp [Q.run] at h
        cases share <;> simp [Q.run] at h <;> subst h <;> exact .inr ⟨_, _, rfl, rfl, hg, rfl⟩
    · cases h
  | mref r hs =>
    simp only [absorb1, Q.run] at h
    cases hg : (pk σ r).get hs with
    | none => rw [hg] at h; cases h
    | some n =>
      rw [hg] at h
      simp only [Option.bind_some] at h
      cases n <;> simp [Q.run] at h
      rename_i o es
      cases o <;> cases share <;> simp [Q.run] at h
      subst h; exact .inr ⟨_, _, rfl, rfl, hg, rfl⟩
  | agg cs => cases h
  | tup cs => cases h
  | map o es => cases h
  | gone => cases h
  | held => cases h

theorem absorb1_congr {share : Bool} {c : AV} {σ σ' : Slots} (h : ∀ q, c.place = some q → (pk σ' q.1).get q.2 = (pk σ q.1).get q.2) :
    (absorb1 share c).run σ' = (absorb1 share c).run σ := by
  cases c with
  | view r hs lo len e => have := h _ rfl; simp only at this; simp only [absorb1, Q.run, this]; cases (pk σ r).get hs with
    | none => rfl
    | some n => simp only [Option.bind_some]; cases n <;> simp only [Q.run]; rename_i o _ _; cases o <;> cases share <;> simp [Q.run]
  | ref r hs i c => have := h _ rfl; simp only at this; simp only [absorb1]; split; (simp only [Q.run, this]; cases (pk σ r).get hs with
    | none => rfl
    | some n => simp only [Option.bind_some]; cases n <;> simp only [Q.run]; rename_i o _; cases o <;> cases share <;> simp [Q.run]); rfl
  | mref r hs => have := h _ rfl; simp only at this; simp only [absorb1, Q.run, this]; cases (pk σ r).get hs with
    | none => rfl
    | some n => simp only [Option.bind_some]; cases n <;> simp only [Q.run]; rename_i o _; cases o <;> cases share <;> simp [Q.run]
  | slc o e rows => cases o <;> simp [absorb1, Q.run]
  | box o cs => cases o <;> simp [absorb1, Q.run]
  | _ => simp only [absorb1, Q.run]

/-- one value that is to be stored is taken: what it is, held beside the frame. -/
theorem absorb1_ok (k : Ok w0 F0 Z0 X (pk σ) ts w Z Fs G) {share : Bool} {c : AV} {val : Value} {x : AV × List Put} {σ' : Slots}
    (h : (absorb1 share c).run σ = some x) (hp : putAll x.2 σ = some σ') (hr : ∃ Gx, Rep w Z Gx c val no) (hv : Vok (pk σ) G c val) :
    ∃ (Z' : Foot) (Fs' : Nat → Foot) (G' : Nat → Hops → Value) (Fa : Foot) (Ga : Hops → Value), (∀ x y, Z x y → Z' x y) ∧ (∀ x y, Fa x y → ¬ X x y) ∧
      Ok w0 F0 Z0 (fun x y => X x y ∨ Fa x y) (pk σ') ts w Z' Fs' G' ∧ Rep w Z' Ga x.1 val Fa ∧ Vok (pk σ') G' x.1 val ∧
      (∀ b u, b.flat = true → (∀ f cs, b = .clo f cs → cs = []) → (∀ p ∈ x.2, ∀ q, b.place = some q → ¬ (q.1 = p.r ∧ Hops.through p.hs q.2 = true)) → Vok (pk σ) G b u → Vok (pk σ') G' b u) := by
  have idle : x.2 = [] → x.1 = c → c.place = none → ∃ (Z' : Foot) (Fs' : Nat → Foot) (G' : Nat → Hops → Value) (Fa : Foot) (Ga : Hops → Value), (∀ x y, Z x y → Z' x y) ∧ (∀ x y, Fa x y → ¬ X x y) ∧
      Ok w0 F0 Z0 (fun x y => X x y ∨ Fa x y) (pk σ') ts w Z' Fs' G' ∧ Rep w Z' Ga x.1 val Fa ∧ Vok (pk σ') G' x.1 val ∧
      (∀ b u, b.flat = true → (∀ f cs, b = .clo f cs → cs = []) → (∀ p ∈ x.2, ∀ q, b.place = some q → ¬ (q.1 = p.r ∧ Hops.through p.hs q.2 = true)) → Vok (pk σ) G b u → Vok (pk σ') G' b u) := by
    intro h1 h2 h3
    rw [h1] at hp
    simp only [putAll, Option.some.injEq] at hp
    subst hp
    obtain ⟨Gx, hr⟩ := hr
    refine ⟨Z, Fs, G, no, Gx, fun _ _ q => q, fun _ _ q => q.elim, ?_, by rw [h2]; exact hr, by rw [h2]; exact hv, fun b u _ _ _ h => h⟩
    have : (fun x y => X x y ∨ no x y) = X := by funext x y; simp [no]
    rw [this]; exact k
  -- what is taken, or made common
  have names : ∀ (r : Nat) (hs : Hops) (n : AV) (n' : AV) (G' : Nat → Hops → Value), n.node = true → x.2 = [⟨r, hs, n'⟩] → pk σ' = putF (pk σ) r hs n' n.node →
      (∀ b u, Vok (pk σ) G b u → Vok (putF (pk σ) r hs n' n.node) G' (if n.node then b.kill r hs else b) u) →
      (∀ b u, b.flat = true → (∀ f cs, b = .clo f cs → cs = []) → (∀ p ∈ x.2, ∀ q, b.place = some q → ¬ (q.1 = p.r ∧ Hops.through p.hs q.2 = true)) → Vok (pk σ) G b u → Vok (pk σ') G' b u) := by
    intro r hs n n' G' hnn hx hσ hall b u hb hc hfar hvb
    have := hall b u hvb
    rw [hnn] at this
    simp only [if_true] at this
    rw [kill_far hb hc (fun q hq => hfar ⟨r, hs, n'⟩ (by rw [hx]; exact List.mem_cons_self ..) q hq)] at this
    rw [hσ, hnn]; exact this
  have one : ∀ (r : Nat) (hs : Hops) (n n' : AV), (pk σ r).get hs = some n → x.2 = [⟨r, hs, n'⟩] → (pk σ r).owned hs = true ∧ pk σ' = putF (pk σ) r hs n' n.node := by
    intro r hs n n' hg hx
    rw [hx] at hp
    simp only [putAll] at hp
    cases ht : Put.to ⟨r, hs, n'⟩ σ with
    | none => rw [ht] at hp; cases hp
    | some τ =>
      rw [ht] at hp
      simp only [Option.bind_some, putAll, Option.some.injEq] at hp
      subst hp
      obtain ⟨n2, h1, h2, h3⟩ := put_to ht
      simp only at h1 h2 h3
      rw [hg] at h1
      cases h1
      exact ⟨h2, h3⟩
  cases c with
  | lit v => simp only [absorb1, Q.run, Option.some.injEq] at h; subst h; exact idle rfl rfl rfl
  | slc o e rows => cases o <;> simp [absorb1, Q.run] at h; subst h; exact idle rfl rfl rfl
  | box o cs => cases o <;> simp [absorb1, Q.run] at h; subst h; exact idle rfl rfl rfl
  | clo f cs => simp only [absorb1, Q.run, Option.some.injEq] at h; subst h; exact idle rfl rfl rfl
  | dead => simp only [absorb1, Q.run, Option.some.injEq] at h; subst h; exact idle rfl rfl rfl
  | view r hs lo len e =>
    cases hv with
    | view rows b off m off' hget hG hle hoff =>
      simp only [absorb1, Q.run, hget, Option.bind_some, if_true] at h
      cases share with
      | true =>
        simp only [if_true, Q.run, Option.some.injEq] at h
        subst h
        obtain ⟨hown, hσ⟩ := one r hs _ _ hget rfl
        obtain ⟨vn, Z', Fs', G', q1, q2, ⟨Gn, q3⟩, q4, q5⟩ := k.share hget hown (q := (true, e, rows)) rfl
        simp only [AV.shr] at q3 q4 q5
        obtain ⟨b', off0, m', e1, _, e3, e4⟩ := q3.sub
        rw [← q2, hG, shrRows_length] at e1
        simp only [Value.slice.injEq, Option.some.injEq, Addr.mk.injEq, and_true, true_and] at e1
        obtain ⟨⟨rfl, rfl⟩, rfl⟩ := e1
        obtain ⟨G'', q6⟩ := e4 lo len off' (by rw [shrRows_length]; exact hle) (hoff.imp id (·.1))
        rw [shrRows_take_drop] at q6
        refine ⟨Z', Fs', G', no, G'', q1, fun _ _ q => q.elim, ?_, q6, .slc, names r hs _ _ G' rfl rfl hσ q5⟩
        have : (fun x y => X x y ∨ no x y) = X := by funext x y; simp [no]
        rw [this, hσ]; exact q4
      | false =>
        simp only [Bool.false_eq_true, if_false, Q.run, Option.some.injEq] at h
        subst h
        obtain ⟨hown, hσ⟩ := one r hs _ _ hget rfl
        obtain ⟨vn, Fn, Fs', G', q1, q2, _, q4, q5⟩ := k.take' hget hown (n' := .dead) (.inr ⟨rfl, rfl⟩)
        obtain ⟨b', off0, m', e1, e2, e3, e4⟩ := q1.sub
        simp only [List.append_nil] at e2
        rw [← e2, hG] at e1
        simp only [Value.slice.injEq, Option.some.injEq, Addr.mk.injEq, and_true, true_and] at e1
        obtain ⟨⟨rfl, rfl⟩, rfl⟩ := e1
        obtain ⟨G'', q6⟩ := e4 lo len off' hle (hoff.imp id (·.1))
        exact ⟨Z, Fs', G', Fn, G'', fun _ _ q => q, fun x y q => (q2 x y q).1, by rw [hσ]; exact q4, q6, .slc, names r hs _ _ G' rfl rfl hσ q5⟩
  | ref r hs i c =>
    simp only [absorb1] at h
    split at h
    · rename_i hic
      obtain ⟨rfl, rfl⟩ := hic
      cases hv with
      | ref nd o e rows b off m hget ha hG =>
        simp only [Q.run, hget, Option.bind_some] at h
        cases nd <;> simp [Q.run] at h
        rename_i o' cs
        cases o' <;> simp [Q.run] at h
        cases share with
        | true =>
          simp only [if_true, Q.run, Option.some.injEq] at h
          subst h
          obtain ⟨hown, hσ⟩ := one r hs _ _ hget rfl
          obtain ⟨vn, Z', Fs', G', q1, q2, ⟨Gn, q3⟩, q4, q5⟩ := k.share hget hown (q := (true, cs.length, [cs])) rfl
          simp only [AV.shr] at q3 q4 q5
          refine ⟨Z', Fs', G', no, Gn, q1, fun _ _ q => q.elim, ?_, ?_, .box, names r hs _ _ G' rfl rfl hσ q5⟩
          · have : (fun x y => X x y ∨ no x y) = X := by funext x y; simp [no]
            rw [this, hσ]; exact q4
          · rw [← q2, hG] at q3; simpa [hdr] using q3
        | false =>
          simp only [Bool.false_eq_true, if_false, Q.run, Option.some.injEq] at h
          subst h
          obtain ⟨hown, hσ⟩ := one r hs _ _ hget rfl
          obtain ⟨vn, Fn, Fs', G', q1, q2, _, q4, q5⟩ := k.take' hget hown (n' := .dead) (.inr ⟨rfl, rfl⟩)
          have hh := q1.head rfl
          simp only [List.append_nil] at hh
          refine ⟨Z, Fs', G', Fn, fun q => G r (hs ++ q), fun _ _ q => q, fun x y q => (q2 x y q).1, by rw [hσ]; exact q4, ?_, .box, names r hs _ _ G' rfl rfl hσ q5⟩
          rw [← hh, hG] at q1; simpa [hdr] using q1
    · cases h
  | mref r hs =>
    cases hv with
    | mref y hget hy =>
      simp only [absorb1, Q.run, hget, Option.bind_some] at h
      rcases hy with rfl | ⟨o, es, rfl⟩
      · cases h
      cases o <;> cases share <;> simp [Q.run] at h
      subst h
      obtain ⟨hown, hσ⟩ := one r hs _ _ hget rfl
      obtain ⟨vn, Fn, Fs', G', q1, q2, _, q4, q5⟩ := k.take' hget hown (n' := .dead) (.inr ⟨rfl, rfl⟩)
      have hh := q1.head rfl
      simp only [List.append_nil] at hh
      refine ⟨Z, Fs', G', Fn, fun q => G r (hs ++ q), fun _ _ q => q, fun x y q => (q2 x y q).1, by rw [hσ]; exact q4, ?_, .map, names r hs _ _ G' rfl rfl hσ q5⟩
      rw [← hh] at q1; exact q1
  | agg cs => cases h
  | tup cs => cases h
  | map o es => cases h
  | gone => cases h
  | held => cases h


theorem putAll_append (ps qs : List Put) : ∀ (σ : Slots), putAll (ps ++ qs) σ = (putAll ps σ).bind (putAll qs) := by
  induction ps with
  | nil => intro σ; rfl
  | cons p ps ih =>
    intro σ
    simp only [List.cons_append, putAll]
    cases p.to σ with
    | none => rfl
    | some τ => exact ih τ

/-- far places are as they were. -/
theorem get_put_far (n' : AV) : ∀ (hs hv : Hops) (a : AV), ¬ hs <+: hv → ¬ hv <+: hs → (a.put hs n').get hv = a.get hv
  | [], hv, _, hn, _ => (hn ⟨hv, rfl⟩).elim
  | g :: hs, [], _, _, hn => (hn ⟨g :: hs, rfl⟩).elim
  | g :: hs, h :: hv, a, h1, h2 => by
    simp only [AV.get, AV.put]
    rw [kid_modKid]
    by_cases hg : h = g
    · subst hg
      simp only [if_true]
      cases a.kid h with
      | none => rfl
      | some y =>
        simp only [Option.map_some, Option.bind_some]
        exact get_put_far n' hs hv y (fun hp => h1 (by obtain ⟨t, ht⟩ := hp; exact ⟨t, by simp [ht]⟩)) (fun hp => h2 (by obtain ⟨t, ht⟩ := hp; exact ⟨t, by simp [ht]⟩))
    · simp only [hg, if_false]

theorem get_kill {a : AV} {r : Nat} {hs : Hops} (g : Nat × Nat) (hv : Hops) : (a.kill r hs).get (g :: hv) = a.get (g :: hv) := by
  cases a <;> simp only [AV.kill] <;> first | rfl | skip
  all_goals simp only [AV.get, AV.kid]
  all_goals (try split) <;> simp [AV.arr]

/-- a far node of memory is as it was. -/
theorem far_one {σ σ' : Slots} {p : Put} (h : p.to σ = some σ') {r : Nat} {hv : Hops} {n : AV} (hfar : apart1 r hv p = true) (hn : (pk σ r).get hv = some n) (hm : n.mem = true) :
    (pk σ' r).get hv = some n := by
  obtain ⟨n0, h1, h2, h3⟩ := put_to h
  rw [h3]
  unfold putF
  simp only [apart1, Bool.not_eq_true', Bool.and_eq_false_iff, Bool.or_eq_false_iff, beq_eq_false_iff_ne, ne_eq] at hfar
  by_cases hr : r = p.r
  · subst hr
    simp only [if_true]
    have hfar := hfar.resolve_left (fun q => q rfl)
    rw [get_put_far _ _ _ _ (fun q => by rw [through_of_prefix _ _ q] at hfar; cases hfar.2) (fun q => by rw [through_of_prefix _ _ q] at hfar; cases hfar.1)]
    exact hn
  · simp only [hr, if_false]
    cases n0.node with
    | false => exact hn
    | true =>
      simp only [if_true]
      cases hv with
      | nil => simp only [AV.get, Option.some.injEq] at hn ⊢; rw [hn]; exact mem_kill hm _ _
      | cons g hv => rw [get_kill]; exact hn

theorem far_all {ps : List Put} : ∀ {σ σ' : Slots}, putAll ps σ = some σ' → ∀ {r : Nat} {hv : Hops} {n : AV}, (∀ p ∈ ps, apart1 r hv p = true) → (pk σ r).get hv = some n → n.mem = true → (pk σ' r).get hv = some n := by
  induction ps with
  | nil => intro σ σ' h r hv n _ hn _; simp only [putAll, Option.some.injEq] at h; subst h; exact hn
  | cons p ps ih =>
    intro σ σ' h r hv n hfar hn hm
    simp only [putAll] at h
    cases ht : p.to σ with
    | none => rw [ht] at h; cases h
    | some τ =>
      rw [ht] at h
      exact ih h (fun q hq => hfar q (List.mem_cons_of_mem _ hq)) (far_one ht (hfar p (List.mem_cons_self ..)) hn hm) hm

/-- what a row of absorbings comes to, one after the other. -/
theorem absorbL_ok {share : Bool} {σ0 : Slots} : ∀ (cs : List AV) (vals : List Value) (x : List AV × List Put) (σ σ' : Slots) (X Z : Foot) (Fs : Nat → Foot) (G : Nat → Hops → Value),
    Ok w0 F0 Z0 X (pk σ) ts w Z Fs G → (absorbL share cs).run σ0 = some x → putAll x.2 σ = some σ' →
    (∀ (c : AV) (q : Nat × Hops), c ∈ cs → c.place = some q → ∀ n, (pk σ0 q.1).get q.2 = some n → n.mem = true → (pk σ q.1).get q.2 = some n) →
    cs.length = vals.length → (∀ (i : Nat) (c : AV) (v : Value), cs[i]? = some c → vals[i]? = some v → (∃ Gx, Rep w Z Gx c v no) ∧ Vok (pk σ) G c v) →
    ∃ (Z' : Foot) (Fs' : Nat → Foot) (G' : Nat → Hops → Value) (Fa : Nat → Foot) (Ga : Nat → Hops → Value), (∀ x y, Z x y → Z' x y) ∧ (∀ i x y, Fa i x y → ¬ X x y) ∧ (∀ i j x y, Fa i x y → Fa j x y → i = j) ∧
      Ok w0 F0 Z0 (fun x y => X x y ∨ ∃ i, Fa i x y) (pk σ') ts w Z' Fs' G' ∧ x.1.length = cs.length ∧
      (∀ (i : Nat) (c : AV) (v : Value), x.1[i]? = some c → vals[i]? = some v → Rep w Z' (Ga i) c v (Fa i) ∧ Vok (pk σ') G' c v) ∧
      (∀ b u, b.flat = true → (∀ f cs, b = .clo f cs → cs = []) → (∀ p ∈ x.2, ∀ q, b.place = some q → ¬ (q.1 = p.r ∧ Hops.through p.hs q.2 = true)) → Vok (pk σ) G b u → Vok (pk σ') G' b u)
  | [], vals, x, σ, σ', X, Z, Fs, G, k, h, hp, _, hl, _ => by
    simp only [absorbL, Q.run, Option.some.injEq] at h
    subst h
    simp only [putAll, Option.some.injEq] at hp
    subst hp
    refine ⟨Z, Fs, G, fun _ => no, fun _ _ => undef, fun _ _ q => q, fun _ _ _ q => q.elim, fun _ _ _ _ q => q.elim, ?_, rfl, fun i c v hc => by simp at hc, fun b u _ _ _ h => h⟩
    have : (fun x y => X x y ∨ ∃ i : Nat, (no : Foot) x y) = X := by funext x y; simp [no]
    rw [this]; exact k
  | c :: cs, vals, x, σ, σ', X, Z, Fs, G, k, h, hp, hsame, hl, hall => by
    cases vals with
    | nil => simp at hl
    | cons v vals =>
    simp only [absorbL, Q.run_bind] at h
    cases h1 : (absorb1 share c).run σ0 with
    | none => rw [h1] at h; cases h
    | some x1 =>
    rw [h1] at h
    simp only [Option.bind_some] at h
    cases h2 : (absorbL share cs).run σ0 with
    | none => rw [h2] at h; cases h
    | some x2 =>
    rw [h2] at h
    simp only [Option.bind_some] at h
    split at h
    · rename_i hap
      simp only [Q.run, Option.some.injEq] at h
      subst h
      simp only [putAll_append] at hp
      cases hp1 : putAll x1.2 σ with
      | none => rw [hp1] at hp; cases hp
      | some τ =>
      rw [hp1] at hp
      simp only [Option.bind_some] at hp
      have hplace := absorb1_place h1
      have hrun : (absorb1 share c).run σ = some x1 := by
        rw [← h1]
        refine absorb1_congr fun q hq => ?_
        rcases hplace with ⟨hnone, _⟩ | ⟨p, n, _, hpl, hg, hm⟩
        · rw [hnone] at hq; cases hq
        · rw [hpl] at hq; cases hq
          rw [hg]; exact hsame c _ (List.mem_cons_self ..) hpl n hg hm
      obtain ⟨⟨Gx, hr⟩, hv⟩ := hall 0 c v rfl rfl
      obtain ⟨Z1, Fs1, G1, Fa, Ga, a1, a2, a3, a4, a5, a6⟩ := absorb1_ok k hrun hp1 ⟨Gx, hr⟩ hv
      -- what the rest names is far from what was written
      have hrest : ∀ (cs : List AV) (x2 : List AV × List Put), (absorbL share cs).run σ0 = some x2 → ∀ c' ∈ cs, ∀ q, c'.place = some q → ∃ p ∈ x2.2, p.r = q.1 ∧ p.hs = q.2 := by
        intro cs
        induction cs with
        | nil => intro x2 _ c' hc'; simp at hc'
        | cons d ds ih =>
          intro x2 hx2 c' hc' q hq
          simp only [absorbL, Q.run_bind] at hx2
          cases e1 : (absorb1 share d).run σ0 with
          | none => rw [e1] at hx2; cases hx2
          | some y1 =>
          rw [e1] at hx2
          simp only [Option.bind_some] at hx2
          cases e2 : (absorbL share ds).run σ0 with
          | none => rw [e2] at hx2; cases hx2
          | some y2 =>
          rw [e2] at hx2
          simp only [Option.bind_some] at hx2
          split at hx2
          · simp only [Q.run, Option.some.injEq] at hx2
            subst hx2
            rcases List.mem_cons.1 hc' with rfl | hc'
            · rcases absorb1_place e1 with ⟨hnone, _⟩ | ⟨p, n, hp, hpl, _, _⟩
              · rw [hnone] at hq; cases hq
              · rw [hpl] at hq; cases hq
                exact ⟨p, List.mem_append_left _ (by rw [hp]; exact List.mem_cons_self ..), rfl, rfl⟩
            · obtain ⟨p, hp, hh⟩ := ih y2 e2 c' hc' q hq
              exact ⟨p, List.mem_append_right _ hp, hh⟩
          · cases hx2
      have hapart : ∀ p1 ∈ x1.2, ∀ p2 ∈ x2.2, apart1 p1.r p1.hs p2 = true := by
        intro p1 hp1 p2 hp2
        exact List.all_eq_true.1 (List.all_eq_true.1 hap p1 hp1) p2 hp2
      have hfar : ∀ c' ∈ cs, ∀ q, c'.place = some q → ∀ p1 ∈ x1.2, apart1 q.1 q.2 p1 = true := by
        intro c' hc' q hq p1 hp1
        obtain ⟨p2, hp2, e1, e2⟩ := hrest cs x2 h2 c' hc' q hq
        have := hapart p1 hp1 p2 hp2
        simp only [apart1, Bool.not_eq_true', Bool.and_eq_false_iff, Bool.or_eq_false_iff, beq_eq_false_iff_ne, ne_eq] at this ⊢
        rw [← e1, ← e2]
        rcases this with u | u
        · exact .inl fun z => u z.symm
        · exact .inr ⟨u.2, u.1⟩
      have hshape : ∀ (cs : List AV) (x2 : List AV × List Put), (absorbL share cs).run σ0 = some x2 → ∀ c' ∈ cs, c'.flat = true := by
        intro cs
        induction cs with
        | nil => intro x2 _ c' hc'; simp at hc'
        | cons d ds ih =>
          intro x2 hx2 c' hc'
          simp only [absorbL, Q.run_bind] at hx2
          cases e1 : (absorb1 share d).run σ0 with
          | none => rw [e1] at hx2; cases hx2
          | some y1 =>
          rw [e1] at hx2
          simp only [Option.bind_some] at hx2
          cases e2 : (absorbL share ds).run σ0 with
          | none => rw [e2] at hx2; cases hx2
          | some y2 =>
          rcases List.mem_cons.1 hc' with rfl | hc'
          · cases c' <;> first | rfl | (simp [absorb1, Q.run] at e1)
          · exact ih y2 e2 c' hc'
      obtain ⟨Z2, Fs2, G2, Fb, Gb, b1, b2, b2', b3, b4, b5, b6⟩ := absorbL_ok cs vals x2 τ σ' _ Z1 Fs1 G1 a3 h2 hp
        (fun c' q hc' hq n hn hm => far_all hp1 (fun p hp => hfar c' hc' q hq p hp) (hsame c' q (List.mem_cons_of_mem _ hc') hq n hn hm) hm)
        (by simpa using hl)
        (fun i c' v' hc' hv' => by
          obtain ⟨⟨Gx', hr'⟩, hvk⟩ := hall (i + 1) c' v' hc' hv'
          refine ⟨⟨Gx', hr'.agree (fun x y q => q.elim (fun q => q.elim) (fun _ => .refl w x y)) a1⟩, ?_⟩
          have hmem : c' ∈ cs := List.mem_of_getElem? hc'
          refine a6 c' v' (hshape cs x2 h2 c' hmem) ?_ ?_ hvk
          · intro f cc hh; subst hh; cases hr' with
            | clo f => rfl
            | arr a o e rows b off m val Fc ha he hm hrow hown hshr hsub hdis hcell hrep hG => simp [AV.arr] at ha
          · intro p hp q hq hth
            have := hfar c' hmem q hq p hp
            simp only [apart1, Bool.not_eq_true', Bool.and_eq_false_iff, Bool.or_eq_false_iff, beq_eq_false_iff_ne, ne_eq] at this
            rcases this with u | u
            · exact u hth.1.symm
            · rw [hth.2] at u; cases u.2)
      refine ⟨Z2, Fs2, G2, fun i => match i with | 0 => Fa | i + 1 => Fb i, fun i => match i with | 0 => Ga | i + 1 => Gb i, fun x y q => b1 _ _ (a1 _ _ q), ?_, ?_, ?_, by simp [b4], ?_, ?_⟩
      · intro i x y q
        cases i with
        | zero => exact a2 x y q
        | succ i => exact fun u => b2 i x y q (.inl u)
      · intro i j x y q u
        cases i <;> cases j
        · rfl
        · exact (b2 _ x y u (.inr q)).elim
        · exact (b2 _ x y q (.inr u)).elim
        · exact congrArg _ (b2' _ _ x y q u)
      · have : (fun x y => X x y ∨ ∃ i : Nat, (match i with | 0 => Fa | i + 1 => Fb i : Foot) x y) = fun x y => (X x y ∨ Fa x y) ∨ ∃ i, Fb i x y := by
          funext x y
          apply propext
          constructor
          · rintro (q | ⟨i, q⟩)
            · exact .inl (.inl q)
            · cases i with
              | zero => exact .inl (.inr q)
              | succ i => exact .inr ⟨i, q⟩
          · rintro ((q | q) | ⟨i, q⟩)
            · exact .inl q
            · exact .inr ⟨0, q⟩
            · exact .inr ⟨i + 1, q⟩
        rw [this]; exact b3
      · intro i c' v' hc' hv'
        cases i with
        | zero =>
          simp only [List.getElem?_cons_zero, Option.some.injEq] at hc' hv'
          subst hc'; subst hv'
          refine ⟨a4.agree (fun x y _ => .refl w x y) b1, ?_⟩
          -- the first one names nothing any more
          rcases hplace with ⟨hnone, _, hc1⟩ | ⟨p, n, hp, hpl, hg, hm⟩
          · have : x1.1.place = none := by rw [hc1]; exact hnone
            have hfl : x1.1.flat = true := by rw [hc1]; cases c <;> first | rfl | (simp [absorb1, Q.run] at h1)
            refine b6 _ _ hfl ?_ (fun p _ q hq => by rw [this] at hq; cases hq) a5
            intro f cc hh
            rw [hh] at a4
            cases a4 with
            | clo f => rfl
            | arr a o e rows b off m val Fc ha he hm hrow hown hshr hsub hdis hcell hrep hG => simp [AV.arr] at ha
          · have hx1 : x1.1.mem = true := by
              cases c with
              | view r hs lo len e => 
                simp only [absorb1, Q.run] at h1
                cases hg2 : (pk σ0 r).get hs with
                | none => rw [hg2] at h1; cases h1
                | some n2 =>
                  rw [hg2] at h1
                  simp only [Option.bind_some] at h1
                  cases n2 <;> simp [Q.run] at h1
                  rename_i o _ _
                  cases o <;> simp [Q.run] at h1
                  cases share <;> simp [Q.run] at h1 <;> subst h1 <;> rfl
              | ref r hs i c =>
                simp only [absorb1] at h1
                split at h1
                · simp only [Q.run] at h1
                  cases hg2 : (pk σ0 r).get hs with
                  | none => rw [hg2] at h1; cases h1
                  | some n2 =>
                    rw [hg2] at h1
                    simp only [Option.bind_some] at h1
                    cases n2 <;> simp [Q.run] at h1
                    rename_i o _
                    cases o <;> simp [Q.run] at h1
                    cases share <;> simp [Q.run] at h1 <;> subst h1 <;> rfl
                · cases h1
              | mref r hs =>
                simp only [absorb1, Q.run] at h1
                cases hg2 : (pk σ0 r).get hs with
                | none => rw [hg2] at h1; cases h1
                | some n2 =>
                  rw [hg2] at h1
                  simp only [Option.bind_some] at h1
                  cases n2 <;> simp [Q.run] at h1
                  rename_i o _
                  cases o <;> cases share <;> simp [Q.run] at h1
                  subst h1; rfl
              | _ => simp [AV.place] at hpl
            cases hq : x1.1 <;> rw [hq] at hx1 <;> simp [AV.mem] at hx1
            · exact .slc
            · exact .box
            · exact .map
            · exact .held
        | succ i =>
          simp only [List.getElem?_cons_succ] at hc' hv'
          exact b5 i c' v' hc' hv'
      · intro b u hb hc hfar' hvb
        refine b6 b u hb hc (fun p hp => hfar' p (List.mem_append_right _ hp)) (a6 b u hb hc (fun p hp => hfar' p (List.mem_append_left _ hp)) hvb)
    · cases h

end
end Go.V
