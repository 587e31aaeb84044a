/- V: regions that draw their order. -/
import Derived.Test.YtflpofmnjibjgaaVCall
import Derived.Orders
set_option linter.unusedVariables false
set_option linter.unusedSimpArgs false
namespace Go.V
open Go

def Off (D : List Nat) (σ σ' : Slots) : Prop := ∀ t, D.contains t = false → pk σ' t = pk σ t

theorem Q.runD_agree {α : Type} {D : List Nat} {σ σ' : Slots} (hD : Off D σ σ') : ∀ (q : Q α) (a : α), q.runD D σ = some a → q.run σ' = some a
  | .ret a, b, h => h
  | .fail, _, h => by cases h
  | .slot t k, b, h => by
    simp only [Q.runD] at h
    cases hc : D.contains t with
    | true => rw [hc] at h; cases h
    | false =>
      simp only [hc, Bool.false_eq_true, if_false] at h
      simp only [Q.run, hD t hc]
      exact Q.runD_agree hD _ b h
  | .cells r hs i c n k, b, h => by
    simp only [Q.runD] at h
    cases hc : D.contains r with
    | true => rw [hc] at h; cases h
    | false =>
      simp only [hc, Bool.false_eq_true, if_false] at h
      have h2 : cellsAt σ' r hs i c n = cellsAt σ r hs i c n := by simp only [cellsAt, hD r hc]
      simp only [Q.run, h2]
      replace h := bind_some_inv h
      obtain ⟨l, hl, h⟩ := h
      rw [hl]
      exact Q.runD_agree hD _ b h
  | .deep r hs k, b, h => by
    simp only [Q.runD] at h
    cases hc : D.contains r with
    | true => rw [hc] at h; cases h
    | false =>
      simp only [hc, Bool.false_eq_true, if_false] at h
      simp only [Q.run, hD r hc]
      replace h := bind_some_inv h
      obtain ⟨l, hl, h⟩ := h
      rw [hl]
      exact Q.runD_agree hD _ b h

theorem M.runD_run {α : Type} {D : List Nat} {σ σ' : Slots} (hD : Off D σ σ') : ∀ (m : M α) (a : α), m.runD D σ = some a → m.run σ' = some (a, σ')
  | .ret a, b, h => by
    simp only [M.runD, Option.some.injEq] at h
    rw [h]; rfl
  | .fail, _, h => by cases h
  | .step q k, b, h => by
    simp only [M.runD] at h
    replace h := bind_some_inv h
    obtain ⟨r, hr, h⟩ := h
    split at h
    · rename_i he
      have h1 : q.run σ' = some r := Q.runD_agree hD q r hr
      have h2 : r.2 = [] := by simpa using he
      simp only [M.run, h1, Option.bind_some, h2, putAll]
      exact M.runD_run hD (k r.1) b h
    · cases h

theorem wantedD_agree {D : List Nat} {ops : Array Oper} {o : Oper} {σ σ' : Slots} {b : Bool} (hD : Off D σ σ') (h : wantedD D ops σ o = some b) : wantedV ops σ' o = some b := by
  unfold wantedD at h
  unfold wantedV
  cases hg : o.guard with
  | none => rw [hg] at h; exact h
  | some q =>
    obtain ⟨j, want⟩ := q
    simp only [hg] at h ⊢
    have key : ∀ (d : Option Nat), (ops[j]?).bind (·.dst) = d → (∀ x, d = some x → D.contains x = false) → yieldedV ops σ' j = yieldedV ops σ j := by
      intro d hd hx
      unfold yieldedV
      rw [hd]
      cases d with
      | none => rfl
      | some x => simp only [hD x (hx x rfl)]
    cases hd : (ops[j]?).bind (·.dst) with
    | none => rw [hd] at h; rw [key none hd (by simp)]; exact h
    | some d =>
      rw [hd] at h
      simp only at h
      cases hc : D.contains d with
      | true => rw [hc] at h; simp at h
      | false =>
        simp only [hc, Bool.false_eq_true, if_false] at h
        rw [key (some d) hd (by intro x hx; cases hx; exact hc)]
        exact h

theorem lendAllD_args {D : List Nat} {σ σ' : Slots} (hD : Off D σ σ') : ∀ (xs : List Operand) (us : List AV), lendAllD D σ xs = some us →
    takeArgs (xs.map fun _ => Mode.val) xs [] σ' = some (xs.map fun _ => .gone, xs.map fun _ => none, σ') ∧ lendArgs σ' (xs.map fun _ => Mode.val) xs (xs.map fun _ => .gone) = some us ∧ us.length = xs.length
  | [], us, h => by
    simp only [lendAllD, Option.some.injEq] at h
    subst h
    exact ⟨rfl, rfl, rfl⟩
  | x :: xs, us, h => by
    simp only [lendAllD] at h
    replace h := bind_some_inv h
    obtain ⟨u, hu, h⟩ := h
    replace h := bind_some_inv h
    obtain ⟨l, hl, h⟩ := h
    simp only [Option.some.injEq] at h
    subst h
    obtain ⟨h1, h2, h3⟩ := lendAllD_args hD xs l hl
    have h4 : (lendQ x).run σ' = some u := Q.runD_agree hD _ _ hu
    refine ⟨?_, ?_, by simp [h3]⟩
    · simp [takeArgs, argQ, Q.run, pinsOk, putAll, backOf, h1]
    · simp [lendArgs, h4, h2]

theorem restore_none : ∀ (xs : List Operand) (os : List AV) (σ : Slots), os.length = xs.length → restore (xs.map fun _ => none) os σ = some σ
  | [], [], σ, _ => rfl
  | x :: xs, o :: os, σ, h => by simp only [List.map_cons, restore]; exact restore_none xs os σ (by simpa using h)
  | [], _ :: _, _, h => by simp at h
  | _ :: _, [], _, h => by simp at h

theorem vstill_mono {E : Env} {ops : Array Oper} {pol : Pol} {D : List Nat} {i : Nat} {o : Oper} {σ : Slots} {K K' : AV → Prop} (hK : ∀ v, K v → K' v) (h : vstill E ops pol D i o σ K) : vstill E ops pol D i o σ K' := by
  unfold vstill at h ⊢
  cases hw : wantedD D ops σ o with
  | none => rw [hw] at h; exact h
  | some b =>
    rw [hw] at h
    cases b with
    | false => exact hK _ h
    | true =>
      simp only at h ⊢
      split at h
      · obtain ⟨g, us, outs, res, h1, h2, h3, h4, h5, h6, h7, h8⟩ := h
        exact ⟨g, us, outs, res, h1, h2, h3, h4, h5, h6, h7, hK _ h8⟩
      · obtain ⟨v, h1, h2⟩ := h
        exact ⟨v, h1, hK _ h2⟩

theorem vstill_exists {E : Env} {ops : Array Oper} {pol : Pol} {D : List Nat} {i : Nat} {o : Oper} {σ : Slots} {K : AV → Prop} (h : vstill E ops pol D i o σ K) : ∃ v, vstill E ops pol D i o σ (fun u => u = v) ∧ K v := by
  unfold vstill at h
  cases hw : wantedD D ops σ o with
  | none => rw [hw] at h; exact h.elim
  | some b =>
    rw [hw] at h
    cases b with
    | false => exact ⟨_, by unfold vstill; rw [hw], h⟩
    | true =>
      simp only at h
      split at h
      · rename_i hc
        obtain ⟨g, us, outs, res, h1, h2, h3, h4, h5, h6, h7, h8⟩ := h
        refine ⟨_, ?_, h8⟩
        unfold vstill; rw [hw]; simp only; rw [hc]
        exact ⟨g, us, outs, res, h1, h2, h3, h4, h5, h6, h7, rfl⟩
      · rename_i hc
        obtain ⟨v, h1, h2⟩ := h
        refine ⟨v, ?_, h2⟩
        unfold vstill; rw [hw]; simp only; rw [hc]
        exact ⟨v, h1, rfl⟩

theorem vop_mono {E : Env} {ops : Array Oper} {pol : Pol} {i : Nat} {o : Oper} {σ : Slots} {K K' : Slots → Prop} (hK : ∀ σ, K σ → K' σ) (h : vop E ops pol i o σ K) : vop E ops pol i o σ K' := by
  unfold vop at *
  split
  · rename_i hw; rw [hw] at h; exact h
  · rename_i hw; rw [hw] at h; obtain ⟨σ', h1, h2⟩ := h; exact ⟨σ', h1, hK _ h2⟩
  · rename_i hw
    rw [hw] at h
    simp only at h
    split at h
    · rename_i hc
      obtain ⟨g, ms, as, bs, σ1, as', res, outs, σ2, σ3, h1, h2, h3, h4, h5, h6, h7, h8, h9, h10, h11⟩ := h
      exact ⟨g, ms, as, bs, σ1, as', res, outs, σ2, σ3, h1, h2, h3, h4, h5, h6, h7, h8, h9, h10, hK _ h11⟩
    · rename_i hc; obtain ⟨σ', h1, h2⟩ := h; exact ⟨σ', h1, hK _ h2⟩

theorem vop_exists {E : Env} {ops : Array Oper} {pol : Pol} {i : Nat} {o : Oper} {σ : Slots} {K : Slots → Prop} (h : vop E ops pol i o σ K) : ∃ σ', vop E ops pol i o σ (fun u => u = σ') ∧ K σ' := by
  unfold vop at h
  cases hw : wantedV ops σ o with
  | none => rw [hw] at h; exact h.elim
  | some b =>
    rw [hw] at h
    cases b with
    | false =>
      obtain ⟨σ', h1, h2⟩ := h
      exact ⟨σ', by unfold vop; rw [hw]; exact ⟨σ', h1, rfl⟩, h2⟩
    | true =>
      simp only at h
      split at h
      · rename_i hc
        obtain ⟨g, ms, as, bs, σ1, as', res, outs, σ2, σ3, h1, h2, h3, h4, h5, h6, h7, h8, h9, h10, h11⟩ := h
        refine ⟨σ3, ?_, h11⟩
        unfold vop; rw [hw]; simp only; rw [hc]
        exact ⟨g, ms, as, bs, σ1, as', res, outs, σ2, σ3, h1, h2, h3, h4, h5, h6, h7, h8, h9, h10, rfl⟩
      · rename_i hc
        obtain ⟨σ', h1, h2⟩ := h
        refine ⟨σ', ?_, h2⟩
        unfold vop; rw [hw]; simp only; rw [hc]
        exact ⟨σ', h1, rfl⟩

theorem vstill_vop {E : Env} {ops : Array Oper} {pol : Pol} {D : List Nat} {i : Nat} {o : Oper} {σ σ' : Slots} {v : AV} (hD : Off D σ σ') (hf : ∀ d, o.dst = some d → (pk σ' d).node = false) (h : vstill E ops pol D i o σ (fun u => u = v)) :
    vop E ops pol i o σ' (fun u => u = setD o v σ') := by
  have hset : setDst o v σ' = some (setD o v σ') := by
    unfold setDst setD
    cases hd : o.dst with
    | none => rfl
    | some d => simp [Put.to, AV.get, AV.owned, AV.put, hf d hd]
  unfold vstill at h
  cases hw : wantedD D ops σ o with
  | none => rw [hw] at h; exact h.elim
  | some b =>
    rw [hw] at h
    unfold vop
    rw [wantedD_agree hD hw]
    cases b with
    | false => simp only at h ⊢; subst h; exact ⟨_, hset, rfl⟩
    | true =>
      simp only at h ⊢
      split at h
      · rename_i f args hc
        obtain ⟨g, us, outs, res, h1, h2, h3, h4, h5, h6, h7, h8⟩ := h
        subst h8
        obtain ⟨e1, e2, e3⟩ := lendAllD_args hD args us h3
        refine ⟨g, args.map fun _ => Mode.val, args.map fun _ => .gone, args.map fun _ => none, σ', us, res, outs, σ', _, Q.runD_agree hD _ _ h1, by rw [h2]; rfl, e1, e2, h4, h5, fun _ => h6, h7, restore_none args outs σ' (by omega), hset, rfl⟩
      · rename_i hc
        obtain ⟨v', h1, h2⟩ := h
        subst h2
        refine ⟨_, ?_, rfl⟩
        simp only [stepF, M.runD_run hD _ _ h1, Option.bind_some, hset]

/-! operations that write: what they do to each slot -/

theorem kill_node (a : AV) (r : Nat) (hs : Hops) : (a.kill r hs).node = a.node := by
  cases a <;> simp only [AV.kill] <;> first | rfl | (split <;> rfl)

/-- what an operation does to the slots, slot by slot. -/
structure Pointwise (D : List Nat) (σ σ' : Slots) (g : Nat → AV → AV) : Prop where
  at_ : ∀ t, pk σ' t = g t (pk σ t)
  node : ∀ t x, D.contains t = true → x.node = false → (g t x).node = false

theorem put_point {D : List Nat} {p : Put} {σ σ' : Slots} (hr : D.contains p.r = false) (h : p.to σ = some σ') :
    ∃ g, Pointwise D σ σ' g ∧ ∀ σ₂, Off D σ σ₂ → ∃ σ₂', p.to σ₂ = some σ₂' ∧ ∀ t, pk σ₂' t = g t (pk σ₂ t) := by
  unfold Put.to at h
  replace h := bind_some_inv h
  obtain ⟨old, h1, h⟩ := h
  split at h
  · rename_i hown
    split at h
    · rename_i hn
      simp only [Option.some.injEq] at h
      subst h
      refine ⟨fun t x => if p.r = t then x.put p.hs (p.v.kill p.r p.hs) else x.kill p.r p.hs, ⟨fun t => ?_, fun t x ht hx => ?_⟩, fun σ₂ hoff => ?_⟩
      · simp only [pk]; split
        · rename_i ht; subst ht; rfl
        · exact pk_killAll p.r p.hs σ t
      · have : ¬ p.r = t := fun e => by subst e; rw [hr] at ht; cases ht
        simp only [this, if_false, kill_node, hx]
      · have e := hoff p.r hr
        refine ⟨_, by unfold Put.to; rw [e, h1]; simp only [Option.bind_some, hown, if_true, hn]; rfl, fun t => ?_⟩
        simp only [pk]; split
        · rename_i ht; subst ht; rw [e]
        · exact pk_killAll p.r p.hs σ₂ t
    · rename_i hn
      simp only [Option.some.injEq] at h
      subst h
      refine ⟨fun t x => if p.r = t then x.put p.hs p.v else x, ⟨fun t => ?_, fun t x ht hx => ?_⟩, fun σ₂ hoff => ?_⟩
      · simp only [pk]; split
        · rename_i ht; subst ht; rfl
        · rfl
      · have : ¬ p.r = t := fun e => by subst e; rw [hr] at ht; cases ht
        simp only [this, if_false, hx]
      · have e := hoff p.r hr
        refine ⟨_, by unfold Put.to; rw [e, h1]; simp only [Option.bind_some, hown, if_true, hn]; rfl, fun t => ?_⟩
        simp only [pk]; split
        · rename_i ht; subst ht; rw [e]
        · rfl
  · cases h

theorem Pointwise.comp {D : List Nat} {σ σ₁ σ' : Slots} {g g' : Nat → AV → AV} (h : Pointwise D σ σ₁ g) (h' : Pointwise D σ₁ σ' g') : Pointwise D σ σ' fun t x => g' t (g t x) :=
  ⟨fun t => by rw [h'.at_, h.at_], fun t x ht hx => h'.node t _ ht (h.node t x ht hx)⟩

theorem Pointwise.same (D : List Nat) (σ : Slots) : Pointwise D σ σ fun _ x => x := ⟨fun _ => rfl, fun _ _ _ h => h⟩

theorem Off.step {D : List Nat} {σ σ' σ₂ σ₂' : Slots} {g : Nat → AV → AV} (h : Off D σ σ₂) (hg : Pointwise D σ σ' g) (h2 : ∀ t, pk σ₂' t = g t (pk σ₂ t)) : Off D σ' σ₂' :=
  fun t ht => by rw [h2, hg.at_, h t ht]

theorem putAll_point {D : List Nat} : ∀ (ps : List Put) (σ σ' : Slots), (ps.all fun p => !D.contains p.r) = true → putAll ps σ = some σ' →
    ∃ g, Pointwise D σ σ' g ∧ ∀ σ₂, Off D σ σ₂ → ∃ σ₂', putAll ps σ₂ = some σ₂' ∧ ∀ t, pk σ₂' t = g t (pk σ₂ t)
  | [], σ, σ', _, h => by
    simp only [putAll, Option.some.injEq] at h
    subst h
    exact ⟨fun _ x => x, .same D σ, fun σ₂ _ => ⟨σ₂, rfl, fun _ => rfl⟩⟩
  | p :: ps, σ, σ', hD, h => by
    simp only [List.all_cons, Bool.and_eq_true, Bool.not_eq_true'] at hD
    simp only [putAll] at h
    replace h := bind_some_inv h
    obtain ⟨σ₁, h1, h2⟩ := h
    obtain ⟨g, g1, g2⟩ := put_point hD.1 h1
    obtain ⟨g', g3, g4⟩ := putAll_point ps σ₁ σ' hD.2 h2
    refine ⟨_, g1.comp g3, fun σ₂ hoff => ?_⟩
    obtain ⟨τ₁, e1, e2⟩ := g2 σ₂ hoff
    obtain ⟨τ', e3, e4⟩ := g4 τ₁ (hoff.step g1 e2)
    exact ⟨τ', by simp only [putAll, e1, Option.bind_some, e3], fun t => by rw [e4, e2]⟩

theorem M.runP_point {α : Type} {D : List Nat} : ∀ (m : M α) (σ : Slots) (r : α × Slots), m.runP D σ = some r →
    ∃ g, Pointwise D σ r.2 g ∧ ∀ σ₂, Off D σ σ₂ → ∃ σ₂', m.run σ₂ = some (r.1, σ₂') ∧ ∀ t, pk σ₂' t = g t (pk σ₂ t)
  | .ret a, σ, r, h => by
    simp only [M.runP, Option.some.injEq] at h
    subst h
    exact ⟨fun _ x => x, .same D σ, fun σ₂ _ => ⟨σ₂, rfl, fun _ => rfl⟩⟩
  | .fail, σ, r, h => by cases h
  | .step q k, σ, r, h => by
    simp only [M.runP] at h
    replace h := bind_some_inv h
    obtain ⟨x, hx, h⟩ := h
    split at h
    · rename_i hps
      replace h := bind_some_inv h
      obtain ⟨σ₁, h1, h2⟩ := h
      obtain ⟨g, g1, g2⟩ := putAll_point x.2 σ σ₁ hps h1
      obtain ⟨g', g3, g4⟩ := M.runP_point (k x.1) σ₁ r h2
      refine ⟨_, g1.comp g3, fun σ₂ hoff => ?_⟩
      obtain ⟨τ₁, e1, e2⟩ := g2 σ₂ hoff
      obtain ⟨τ', e3, e4⟩ := g4 τ₁ (hoff.step g1 e2)
      exact ⟨τ', by simp only [M.run, Q.runD_agree hoff q x hx, Option.bind_some, e1, e3], fun t => by rw [e4, e2]⟩
    · cases h

theorem setDst_point {D : List Nat} {o : Oper} {v : AV} {σ σ' : Slots} (hD : dstOff D o = true) (h : setDst o v σ = some σ') :
    ∃ g, Pointwise D σ σ' g ∧ ∀ σ₂, Off D σ σ₂ → ∃ σ₂', setDst o v σ₂ = some σ₂' ∧ ∀ t, pk σ₂' t = g t (pk σ₂ t) := by
  unfold setDst at h
  unfold dstOff at hD
  unfold setDst
  cases hd : o.dst with
  | none =>
    rw [hd] at h
    simp only [Option.some.injEq] at h
    subst h
    exact ⟨fun _ x => x, .same D σ, fun σ₂ _ => ⟨σ₂, rfl, fun _ => rfl⟩⟩
  | some d =>
    rw [hd] at h hD
    exact put_point (by simpa using hD) h

theorem takeArgsD_point {D : List Nat} : ∀ (ms : List Mode) (xs : List Operand) (pins : List (Nat × Hops)) (σ : Slots) (r : List AV × List (Option (Nat × Hops)) × Slots), takeArgsD D ms xs pins σ = some r →
    ∃ g, Pointwise D σ r.2.2 g ∧ ∀ σ₂, Off D σ σ₂ → ∃ σ₂', takeArgs ms xs pins σ₂ = some (r.1, r.2.1, σ₂') ∧ ∀ t, pk σ₂' t = g t (pk σ₂ t)
  | [], [], pins, σ, r, h => by
    simp only [takeArgsD, Option.some.injEq] at h
    subst h
    exact ⟨fun _ x => x, .same D σ, fun σ₂ _ => ⟨σ₂, rfl, fun _ => rfl⟩⟩
  | m :: ms, x :: xs, pins, σ, r, h => by
    simp only [takeArgsD] at h
    replace h := bind_some_inv h
    obtain ⟨v, hv, h⟩ := h
    split at h
    · rename_i hc
      replace h := bind_some_inv h
      obtain ⟨σ₁, h1, h⟩ := h
      replace h := bind_some_inv h
      obtain ⟨q, h2, h3⟩ := h
      simp only [Option.some.injEq] at h3
      subst h3
      obtain ⟨g, g1, g2⟩ := putAll_point v.2 σ σ₁ hc.2 h1
      obtain ⟨g', g3, g4⟩ := takeArgsD_point ms xs _ σ₁ q h2
      refine ⟨_, g1.comp g3, fun σ₂ hoff => ?_⟩
      obtain ⟨τ₁, e1, e2⟩ := g2 σ₂ hoff
      obtain ⟨τ', e3, e4⟩ := g4 τ₁ (hoff.step g1 e2)
      exact ⟨τ', by simp only [takeArgs, Q.runD_agree hoff _ v hv, Option.bind_some, hc.1, if_true, e1, e3], fun t => by rw [e4, e2]⟩
    · cases h
  | [], _ :: _, _, _, _, h => by simp [takeArgsD] at h
  | _ :: _, [], _, _, _, h => by simp [takeArgsD] at h

theorem lendArgsD_agree {D : List Nat} {σ σ' : Slots} (hD : Off D σ σ') : ∀ (ms : List Mode) (xs : List Operand) (vs us : List AV), lendArgsD D σ ms xs vs = some us → lendArgs σ' ms xs vs = some us
  | [], [], [], us, h => h
  | m :: ms, x :: xs, v :: vs, us, h => by
    simp only [lendArgsD] at h
    replace h := bind_some_inv h
    obtain ⟨u, hu, h⟩ := h
    replace h := bind_some_inv h
    obtain ⟨l, hl, h⟩ := h
    simp only [lendArgs]
    have : (if m = .val then (lendQ x).run σ' else some v) = some u := by
      split at hu
      · rename_i hm; rw [if_pos hm]; exact Q.runD_agree hD _ u hu
      · rename_i hm; rw [if_neg hm]; exact hu
    rw [this]
    simp only [Option.bind_some, lendArgsD_agree hD ms xs vs l hl]
    exact h
  | [], _ :: _, _, _, h => by simp [lendArgsD] at h
  | [], [], _ :: _, _, h => by simp [lendArgsD] at h
  | _ :: _, [], _, _, h => by simp [lendArgsD] at h
  | _ :: _, _ :: _, [], _, h => by simp [lendArgsD] at h

theorem restore_point {D : List Nat} : ∀ (bs : List (Option (Nat × Hops))) (os : List AV) (σ σ' : Slots), offBacks D bs = true → restore bs os σ = some σ' →
    ∃ g, Pointwise D σ σ' g ∧ ∀ σ₂, Off D σ σ₂ → ∃ σ₂', restore bs os σ₂ = some σ₂' ∧ ∀ t, pk σ₂' t = g t (pk σ₂ t)
  | [], [], σ, σ', _, h => by
    simp only [restore, Option.some.injEq] at h
    subst h
    exact ⟨fun _ x => x, .same D σ, fun σ₂ _ => ⟨σ₂, rfl, fun _ => rfl⟩⟩
  | none :: bs, o :: os, σ, σ', hD, h => by
    simp only [offBacks, List.all_cons, Bool.true_and] at hD
    simp only [restore] at h ⊢
    exact restore_point bs os σ σ' hD h
  | some b :: bs, o :: os, σ, σ', hD, h => by
    simp only [offBacks, List.all_cons, Bool.and_eq_true, Bool.not_eq_true'] at hD
    simp only [restore] at h
    split at h
    · rename_i hc
      replace h := bind_some_inv h
      obtain ⟨σ₁, h1, h2⟩ := h
      obtain ⟨g, g1, g2⟩ := put_point (p := ⟨b.1, b.2, o⟩) hD.1 h1
      obtain ⟨g', g3, g4⟩ := restore_point bs os σ₁ σ' hD.2 h2
      refine ⟨_, g1.comp g3, fun σ₂ hoff => ?_⟩
      obtain ⟨τ₁, e1, e2⟩ := g2 σ₂ hoff
      obtain ⟨τ', e3, e4⟩ := g4 τ₁ (hoff.step g1 e2)
      refine ⟨τ', ?_, fun t => by rw [e4, e2]⟩
      simp only [restore, hoff b.1 hD.1, hc.1, hc.2, and_self, if_true, e1, Option.bind_some, e3]
    · cases h
  | [], _ :: _, _, _, _, h => by simp [restore] at h
  | none :: _, [], _, _, _, h => by simp [restore] at h
  | some _ :: _, [], _, _, _, h => by simp [restore] at h

theorem vput_exists {E : Env} {ops : Array Oper} {pol : Pol} {D : List Nat} {i : Nat} {o : Oper} {σ : Slots} {K : Slots → Prop} (h : vput E ops pol D i o σ K) : ∃ σ', vput E ops pol D i o σ (fun u => u = σ') ∧ K σ' := by
  unfold vput at h ⊢
  cases hw : wantedD D ops σ o with
  | none => rw [hw] at h; exact h.elim
  | some b =>
    rw [hw] at h
    cases b with
    | false => obtain ⟨h1, σ', h2, h3⟩ := h; exact ⟨σ', ⟨h1, σ', h2, rfl⟩, h3⟩
    | true =>
      simp only at h ⊢
      cases hc : isCall o.op with
      | none => rw [hc] at h; obtain ⟨h1, v, σ₁, σ', h2, h3, h4⟩ := h; exact ⟨σ', ⟨h1, v, σ₁, σ', h2, h3, rfl⟩, h4⟩
      | some q =>
        rw [hc] at h
        obtain ⟨h0, g, ms, as, bs, σ1, as', res, outs, σ2, σ3, h1, h2, h3, h4, h5, h6, h7, h8, h9, h10, h11, h12⟩ := h
        exact ⟨σ3, ⟨h0, g, ms, as, bs, σ1, as', res, outs, σ2, σ3, h1, h2, h3, h4, h5, h6, h7, h8, h9, h10, h11, rfl⟩, h12⟩

theorem vput_mono {E : Env} {ops : Array Oper} {pol : Pol} {D : List Nat} {i : Nat} {o : Oper} {σ : Slots} {K K' : Slots → Prop} (hK : ∀ σ, K σ → K' σ) (h : vput E ops pol D i o σ K) : vput E ops pol D i o σ K' := by
  obtain ⟨σ', h1, h2⟩ := vput_exists h
  have h3 := hK _ h2
  unfold vput at h1 ⊢
  cases hw : wantedD D ops σ o with
  | none => rw [hw] at h1; exact h1.elim
  | some b =>
    rw [hw] at h1
    cases b with
    | false => obtain ⟨h1, σ', h9, rfl⟩ := h1; exact ⟨h1, _, h9, h3⟩
    | true =>
      simp only at h1 ⊢
      cases hc : isCall o.op with
      | none => rw [hc] at h1; obtain ⟨h1, v, σ₁, σ', h9, h4, rfl⟩ := h1; exact ⟨h1, v, σ₁, _, h9, h4, h3⟩
      | some q =>
        rw [hc] at h1
        obtain ⟨h0, g, ms, as, bs, σ1, as', res, outs, σ2, σ4, h1, h20, h4, h5, h6, h7, h8, h9, h10, h11, h12, rfl⟩ := h1
        exact ⟨h0, g, ms, as, bs, σ1, as', res, outs, σ2, _, h1, h20, h4, h5, h6, h7, h8, h9, h10, h11, h12, h3⟩

theorem vput_point {E : Env} {ops : Array Oper} {pol : Pol} {D : List Nat} {i : Nat} {o : Oper} {σ σ' : Slots} (h : vput E ops pol D i o σ (fun u => u = σ')) :
    ∃ g, Pointwise D σ σ' g ∧ ∀ σ₂, Off D σ σ₂ → vop E ops pol i o σ₂ fun σ₂' => ∀ t, pk σ₂' t = g t (pk σ₂ t) := by
  unfold vput at h
  cases hw : wantedD D ops σ o with
  | none => rw [hw] at h; exact h.elim
  | some b =>
    rw [hw] at h
    cases b with
    | false =>
      obtain ⟨h1, τ, h2, rfl⟩ := h
      obtain ⟨g, g1, g2⟩ := setDst_point h1 h2
      refine ⟨g, g1, fun σ₂ hoff => ?_⟩
      obtain ⟨τ', e1, e2⟩ := g2 σ₂ hoff
      unfold vop
      rw [wantedD_agree hoff hw]
      exact ⟨τ', e1, e2⟩
    | true =>
      simp only at h
      cases hc : isCall o.op with
      | none =>
        rw [hc] at h
        obtain ⟨h1, v, σ₁, τ, h2, h3, rfl⟩ := h
        obtain ⟨g, g1, g2⟩ := M.runP_point _ _ _ h2
        obtain ⟨g', g3, g4⟩ := setDst_point h1 h3
        refine ⟨_, g1.comp g3, fun σ₂ hoff => ?_⟩
        obtain ⟨τ₁, e1, e2⟩ := g2 σ₂ hoff
        obtain ⟨τ', e3, e4⟩ := g4 τ₁ (hoff.step g1 e2)
        unfold vop
        rw [wantedD_agree hoff hw, hc]
        exact ⟨τ', by simp only [stepF, e1, Option.bind_some, e3], fun t => by rw [e4, e2]⟩
      | some q =>
        rw [hc] at h
        obtain ⟨h0, g, ms, as, bs, σ1, as', res, outs, σ2, σ3, h1, h2, h3, h4, h5, h6, h7, h8, h9, h10, h11, rfl⟩ := h
        obtain ⟨ga, a1, a2⟩ := takeArgsD_point _ _ _ _ _ h3
        obtain ⟨gb, b1, b2⟩ := restore_point _ _ _ _ h9 h10
        obtain ⟨gc, c1, c2⟩ := setDst_point h0 h11
        refine ⟨_, (a1.comp b1).comp c1, fun σ₂ hoff => ?_⟩
        obtain ⟨τ1, e1, e2⟩ := a2 σ₂ hoff
        have hoff1 := hoff.step a1 e2
        obtain ⟨τ2, e3, e4⟩ := b2 τ1 hoff1
        have hoff2 := hoff1.step b1 e4
        obtain ⟨τ3, e5, e6⟩ := c2 τ2 hoff2
        unfold vop
        rw [wantedD_agree hoff hw, hc]
        exact ⟨g, ms, as, bs, τ1, as', res, outs, τ2, τ3, Q.runD_agree hoff _ _ h1, h2, e1, lendArgsD_agree hoff1 _ _ _ _ h4, h5, h6, h7, h8, e3, e5, fun t => by rw [e6, e4, e2]⟩

theorem vdops_mono {E : Env} {ops : Array Oper} {pol : Pol} {K K' : Slots → Prop} (hK : ∀ σ, K σ → K' σ) : ∀ (is : List Nat) (done : List (Nat × AV)) (σ : Slots), vdops E ops pol is done σ K → vdops E ops pol is done σ K'
  | [], _, σ, h => hK σ h
  | i :: is, done, σ, h => by
    simp only [vdops] at h ⊢
    cases ho : ops[i]? with
    | none => rw [ho] at h; exact h
    | some o =>
      rw [ho] at h
      simp only at h ⊢
      split at h
      · rename_i hb; rw [if_pos hb]; exact vop_mono (fun σ h => vdops_mono hK is done σ h) h
      · rename_i hb
        rw [if_neg hb]
        split at h
        · rename_i hp; rw [if_pos hp]; exact vput_mono (fun σ h => ⟨h.1, vdops_mono hK is done σ h.2⟩) h
        · rename_i hp; rw [if_neg hp]; exact vstill_mono (fun v h => ⟨h.1, vdops_mono hK is _ _ h.2⟩) h

/-- one step of the walk; 's': the states, 'v': the values. -/
def DStep (E : Env) (ops : Array Oper) (pol : Pol) (v : Nat → AV) (p i : Nat) (o : Oper) (seen : Nat × AV → Prop) (σ σ' : Slots) : Prop :=
  (bar pol i = true ∧ vop E ops pol i o σ fun u => u = σ') ∨
  (bar pol i = false ∧ isPut pol i = false ∧ (vstill E ops pol (near ops pol i) i o σ fun u => u = v p) ∧ freeDst (near ops pol i) o σ = true ∧ σ' = setD o (v p) σ) ∨
  (bar pol i = false ∧ isPut pol i = true ∧ (vput E ops pol (near ops pol i) i o σ fun u => u = σ') ∧ ∀ x, seen x → Again E ops pol i x.1 x.2 σ σ')

/-- is it an operation that only gives a value? -/
def isStill (pol : Pol) (i : Nat) : Bool := !bar pol i && !isPut pol i

theorem DStep.mono {E : Env} {ops : Array Oper} {pol : Pol} {v : Nat → AV} {p i : Nat} {o : Oper} {seen seen' : Nat × AV → Prop} {σ σ' : Slots} (h : DStep E ops pol v p i o seen σ σ') (hs : ∀ x, seen' x → seen x) : DStep E ops pol v p i o seen' σ σ' := by
  rcases h with h | h | ⟨h1, h2, h3, h4⟩
  · exact .inl h
  · exact .inr (.inl h)
  · exact .inr (.inr ⟨h1, h2, h3, fun x hx => h4 x (hs x hx)⟩)

theorem vdops_trace {E : Env} {ops : Array Oper} {pol : Pol} {K : Slots → Prop} : ∀ (is : List Nat) (p : Nat) (done : List (Nat × AV)) (σ : Slots), vdops E ops pol is done σ K →
    ∃ (s : Nat → Slots) (v : Nat → AV), s p = σ ∧ K (s (p + is.length)) ∧ ∀ q i, is[q]? = some i → ∃ o, ops[i]? = some o ∧
      DStep E ops pol v (p + q) i o (fun x => x ∈ done ∨ ∃ r < q, ∃ j, is[r]? = some j ∧ isStill pol j = true ∧ x = (j, v (p + r))) (s (p + q)) (s (p + q + 1))
  | [], p, done, σ, h => ⟨fun _ => σ, fun _ => .gone, rfl, h, fun q i hq => by simp at hq⟩
  | i :: is, p, done, σ, h => by
    simp only [vdops] at h
    cases ho : ops[i]? with
    | none => rw [ho] at h; exact h.elim
    | some o =>
      rw [ho] at h
      simp only at h
      have key : ∃ (u : AV) (σ' : Slots) (done' : List (Nat × AV)), (∀ x ∈ done, x ∈ done') ∧ (isStill pol i = true → (i, u) ∈ done') ∧
          DStep E ops pol (fun _ => u) p i o (fun x => x ∈ done) σ σ' ∧ vdops E ops pol is done' σ' K := by
        split at h
        · rename_i hb
          obtain ⟨σ', h1, h2⟩ := vop_exists h
          exact ⟨.gone, σ', done, fun _ h => h, fun hs => by simp [isStill, hb] at hs, .inl ⟨hb, h1⟩, h2⟩
        · rename_i hb
          have hb' : bar pol i = false := by simpa using hb
          split at h
          · rename_i hp
            obtain ⟨σ', h1, h2, h3⟩ := vput_exists h
            exact ⟨.gone, σ', done, fun _ h => h, fun hs => by simp [isStill, hp] at hs, .inr (.inr ⟨hb', hp, h1, h2⟩), h3⟩
          · rename_i hp
            have hp' : isPut pol i = false := by simpa using hp
            obtain ⟨u, h1, h2, h3⟩ := vstill_exists h
            exact ⟨u, _, (i, u) :: done, fun _ h => List.mem_cons_of_mem _ h, fun _ => List.mem_cons_self .., .inr (.inl ⟨hb', hp', h1, h2, rfl⟩), h3⟩
      obtain ⟨u, σ', done', d1, d2, h1, h2⟩ := key
      obtain ⟨s, v, e1, e2, e3⟩ := vdops_trace is (p + 1) done' σ' h2
      refine ⟨fun q => if q = p then σ else s q, fun q => if q = p then u else v q, by simp, ?_, ?_⟩
      · have h' : ¬ (p + 1 + is.length = p) := by omega
        simp only [List.length_cons]
        rw [show p + (is.length + 1) = p + 1 + is.length by omega, if_neg h']; exact e2
      · intro q j hq
        cases q with
        | zero =>
          simp only [List.getElem?_cons_zero, Option.some.injEq] at hq
          subst hq
          refine ⟨o, ho, ?_⟩
          have h' : ¬ (p + 1 = p) := by omega
          simp only [Nat.add_zero, if_true, h', if_false, e1]
          have h1' : DStep E ops pol (fun q => if q = p then u else v q) p i o (fun x => x ∈ done) σ σ' := by
            rcases h1 with h | h | h
            · exact .inl h
            · exact .inr (.inl (by simpa using h))
            · exact .inr (.inr h)
          exact h1'.mono fun x hx => by
            rcases hx with hx | ⟨r, hr, _⟩
            · exact hx
            · omega
        | succ q =>
          simp only [List.getElem?_cons_succ] at hq
          obtain ⟨o', ho', g⟩ := e3 q j hq
          refine ⟨o', ho', ?_⟩
          have n1 : ¬ (p + (q + 1) = p) := by omega
          have n2 : ¬ (p + (q + 1) + 1 = p) := by omega
          simp only [n1, n2, if_false]
          have g' : DStep E ops pol (fun q => if q = p then u else v q) (p + (q + 1)) j o' (fun x => x ∈ done' ∨ ∃ r < q, ∃ j, is[r]? = some j ∧ isStill pol j = true ∧ x = (j, v (p + 1 + r))) (s (p + (q + 1))) (s (p + (q + 1) + 1)) := by
            rw [show p + (q + 1) = p + 1 + q by omega]
            have n3 : ¬ (p + 1 + q = p) := by omega
            rcases g with h | h | h
            · exact .inl h
            · exact .inr (.inl (by simpa only [n3, if_false] using h))
            · exact .inr (.inr h)
          refine g'.mono fun x hx => ?_
          rcases hx with hx | ⟨r, hr, j', hj', hst, rfl⟩
          · exact .inl (d1 x hx)
          · cases r with
            | zero =>
              simp only [List.getElem?_cons_zero, Option.some.injEq] at hj'
              subst hj'
              refine .inl ?_
              simpa using d2 hst
            | succ r =>
              simp only [List.getElem?_cons_succ] at hj'
              refine .inr ⟨r, by omega, j', hj', hst, ?_⟩
              have n4 : ¬ (p + (r + 1) = p) := by omega
              simp only [n4, if_false]
              rw [show p + (r + 1) = p + 1 + r by omega]

end Go.V
