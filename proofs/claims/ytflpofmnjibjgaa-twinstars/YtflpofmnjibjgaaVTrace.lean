/- V: running code and writing down which calls it made; a world that has only grown. -/
import Derived.Test.YtflpofmnjibjgaaVTab
import Derived.RowKit3
set_option linter.unusedVariables false
set_option linter.unusedSimpArgs false
namespace Go.V
open Go

abbrev Tr := List (FuncId × List AV × AV × List AV)

def ycall (c : CallF) (pol : Pol) (i : Nat) (o : Oper) (f : Operand) (args : List Operand) (σ : Slots) : Option (Slots × Tr) :=
  match (opnd f).run σ with
  | some (.clo g []) =>
    (takeArgs ((pol.modes.lookup i).getD (args.map fun _ => .val)) args [] σ).bind fun r =>
    (lendArgs r.2.2 ((pol.modes.lookup i).getD (args.map fun _ => .val)) args r.1).bind fun as' =>
    (c g as').bind fun q =>
    if q.2.length = as'.length ∧ (((pol.modes.lookup i).getD (args.map fun _ => .val)).contains .val = true → q.1.lone = true ∧ loneL q.2 = true) ∧ (pol.res i q.1).pure = true then
      (restore r.2.1 q.2 r.2.2).bind fun σ2 => (setDst o (pol.res i q.1) σ2).bind fun σ3 => some (σ3, [(g, as', q.1, q.2)])
    else none
  | _ => none

def yop (P : Program) (T : TypeId → TI) (c : CallF) (ops : Array Oper) (pol : Pol) (i : Nat) (o : Oper) (σ : Slots) : Option (Slots × Tr) :=
  match wantedV ops σ o with
  | none => none
  | some false => (setDst o (.lit undef) σ).bind fun σ' => some (σ', [])
  | some true =>
    match isCall o.op with
    | some (f, args) => ycall c pol i o f args σ
    | none => ((evM P T (pol.share.contains i) o.op).run σ).bind fun r => (setDst o r.1 r.2).bind fun σ' => some (σ', [])

def yops (P : Program) (T : TypeId → TI) (c : CallF) (ops : Array Oper) (pol : Pol) : Nat → List Oper → Slots → Option (Slots × Tr)
  | _, [], σ => some (σ, [])
  | i, o :: os, σ => (yop P T c ops pol i o σ).bind fun r => (yops P T c ops pol (i + 1) os r.1).bind fun q => some (q.1, r.2 ++ q.2)

def yloop (step : Slots → Option (Ex × Slots × Tr)) : Nat → Slots → Option (Ex × Slots × Tr)
  | 0, _ => none
  | n + 1, σ => (step σ).bind fun r => match r.1 with | .normal => (yloop step n r.2.1).bind fun q => some (q.1, q.2.1, r.2.2 ++ q.2.2) | x => some (x, r.2)

/-- only regions in the text's order. -/
def ywp (P : Program) (T : TypeId → TI) (c : CallF) (pols : Nat → Pol) (keep : List Nat) (n : Nat) : Code → Slots → Option (Ex × Slots × Tr)
  | .skip, σ => some (.normal, σ, [])
  | .label _, σ => some (.normal, σ, [])
  | .region id ops false, σ => (yops P T c ops (pols id) 0 ops.toList σ).bind fun r => some (.normal, clean keep r.1, r.2)
  | .seq a b, σ => (ywp P T c pols keep n a σ).bind fun r => match r.1 with | .normal => (ywp P T c pols keep n b r.2.1).bind fun q => some (q.1, q.2.1, r.2.2 ++ q.2.2) | x => some (x, r.2)
  | .cond x a b, σ =>
    match (opnd x).run σ with
    | some (.lit (.bool true)) => ywp P T c pols keep n a σ
    | some (.lit (.bool false)) => ywp P T c pols keep n b σ
    | _ => none
  | .block id b, σ => (ywp P T c pols keep n b σ).bind fun r => match r.1 with | .exit j => if j = id then some (.normal, r.2) else some (.exit j, r.2) | x => some (x, r.2)
  | .loop b, σ => yloop (ywp P T c pols keep n b) n σ
  | .scope b, σ => ywp P T c pols keep n b σ
  | .exit id, σ => some (.exit id, σ, [])
  | .ret, σ => some (.ret, σ, [])
  | _, _ => none

section
variable {E : Env} {c : CallF} {ops : Array Oper} {pol : Pol}

theorem yop_vop {i : Nat} {o : Oper} {σ : Slots} {r : Slots × Tr} {K : Slots → Prop} (h : yop E.P E.T c ops pol i o σ = some r) (ht : ∀ t ∈ r.2, E.C t.1 t.2.1 t.2.2.1 t.2.2.2) (hK : K r.1) : vop E ops pol i o σ K := by
  unfold yop at h
  unfold vop
  cases hw : wantedV ops σ o with
  | none => rw [hw] at h; cases h
  | some b =>
    rw [hw] at h
    cases b with
    | false =>
      simp only at h
      replace h := bind_some_inv h
      obtain ⟨σ', h1, h2⟩ := h
      simp only [Option.some.injEq] at h2
      subst h2
      exact ⟨σ', h1, hK⟩
    | true =>
      simp only at h ⊢
      cases hcall : isCall o.op with
      | none =>
        rw [hcall] at h
        simp only at h ⊢
        replace h := bind_some_inv h
        obtain ⟨q, h0, h⟩ := h
        replace h := bind_some_inv h
        obtain ⟨σ', h1, h2⟩ := h
        simp only [Option.some.injEq] at h2
        subst h2
        exact ⟨σ', by simp only [stepF, h0, Option.bind_some, h1], hK⟩
      | some q =>
        obtain ⟨f, args⟩ := q
        rw [hcall] at h
        simp only [ycall] at h
        simp only
        split at h
        · rename_i g hf
          replace h := bind_some_inv h
          obtain ⟨r', h1, h⟩ := h
          replace h := bind_some_inv h
          obtain ⟨as', h2, h⟩ := h
          replace h := bind_some_inv h
          obtain ⟨q, h3, h⟩ := h
          split at h
          · rename_i hcond
            replace h := bind_some_inv h
            obtain ⟨σ2, h4, h⟩ := h
            replace h := bind_some_inv h
            obtain ⟨σ3, h5, h6⟩ := h
            simp only [Option.some.injEq] at h6
            subst h6
            exact ⟨g, _, r'.1, r'.2.1, r'.2.2, as', q.1, q.2, σ2, σ3, hf, rfl, h1, h2, ht _ (List.mem_singleton.2 rfl), hcond.1, hcond.2.1, hcond.2.2, h4, h5, hK⟩
          · cases h
        · cases h

theorem yops_vops {K : Slots → Prop} : ∀ (os : List Oper) (i : Nat) (σ : Slots) (r : Slots × Tr), yops E.P E.T c ops pol i os σ = some r → (∀ t ∈ r.2, E.C t.1 t.2.1 t.2.2.1 t.2.2.2) → K r.1 → vops E ops pol i os σ K
  | [], i, σ, r, h, _, hK => by
    simp only [yops, Option.some.injEq] at h
    subst h; exact hK
  | o :: os, i, σ, r, h, ht, hK => by
    simp only [yops] at h
    replace h := bind_some_inv h
    obtain ⟨r1, h1, h⟩ := h
    replace h := bind_some_inv h
    obtain ⟨r2, h2, h3⟩ := h
    simp only [Option.some.injEq] at h3
    subst h3
    exact yop_vop h1 (fun t hm => ht t (List.mem_append_left _ hm)) (yops_vops os (i + 1) r1.1 r2 h2 (fun t hm => ht t (List.mem_append_right _ hm)) hK)

theorem yloop_vloop {step : Slots → Option (Ex × Slots × Tr)} {vstep : (Ex → Slots → Prop) → Slots → Prop} {C : FuncId → List AV → AV → List AV → Prop}
    (hs : ∀ (σ : Slots) (r : Ex × Slots × Tr) (Q : Ex → Slots → Prop), step σ = some r → (∀ t ∈ r.2.2, C t.1 t.2.1 t.2.2.1 t.2.2.2) → Q r.1 r.2.1 → vstep Q σ) :
    ∀ (n : Nat) (σ : Slots) (r : Ex × Slots × Tr) (Q : Ex → Slots → Prop), yloop step n σ = some r → (∀ t ∈ r.2.2, C t.1 t.2.1 t.2.2.1 t.2.2.2) → Q r.1 r.2.1 → vloop vstep Q n σ
  | 0, _, _, _, h, _, _ => by cases h
  | n + 1, σ, r, Q, h, ht, hQ => by
    simp only [yloop] at h
    replace h := bind_some_inv h
    obtain ⟨⟨y, σ1, t1⟩, h1, h2⟩ := h
    simp only [vloop]
    cases y with
    | normal =>
      simp only at h2
      replace h2 := bind_some_inv h2
      obtain ⟨q, h3, h4⟩ := h2
      simp only [Option.some.injEq] at h4
      subst h4
      exact hs σ _ _ h1 (fun t hm => ht t (List.mem_append_left _ hm)) (yloop_vloop hs n σ1 q Q h3 (fun t hm => ht t (List.mem_append_right _ hm)) hQ)
    | exit j => simp only [Option.some.injEq] at h2; subst h2; exact hs σ _ _ h1 ht hQ
    | ret => simp only [Option.some.injEq] at h2; subst h2; exact hs σ _ _ h1 ht hQ

theorem ywp_vwp {pols : Nat → Pol} {keep : List Nat} {n : Nat} : ∀ (b : Code) (σ : Slots) (r : Ex × Slots × Tr) (Q : Ex → Slots → Prop), ywp E.P E.T c pols keep n b σ = some r →
    (∀ t ∈ r.2.2, E.C t.1 t.2.1 t.2.2.1 t.2.2.2) → Q r.1 r.2.1 → vwp E pols keep b Q σ := by
  intro b
  induction b with
  | skip => intro σ r Q h _ hQ; simp only [ywp, Option.some.injEq] at h; subst h; exact hQ
  | label l => intro σ r Q h _ hQ; simp only [ywp, Option.some.injEq] at h; subst h; exact hQ
  | exit id => intro σ r Q h _ hQ; simp only [ywp, Option.some.injEq] at h; subst h; exact hQ
  | ret => intro σ r Q h _ hQ; simp only [ywp, Option.some.injEq] at h; subst h; exact hQ
  | region id ops d =>
    intro σ r Q h ht hQ
    cases d with
    | false =>
      simp only [ywp] at h
      replace h := bind_some_inv h
      obtain ⟨q, h1, h⟩ := h
      simp only [Option.some.injEq] at h; subst h
      exact yops_vops _ _ _ _ h1 ht hQ
    | true => simp only [ywp] at h; cases h
  | seq a b iha ihb =>
    intro σ r Q h ht hQ
    simp only [ywp] at h
    replace h := bind_some_inv h
    obtain ⟨⟨y, σ1, t1⟩, h1, h2⟩ := h
    cases y with
    | normal =>
      simp only at h2
      replace h2 := bind_some_inv h2
      obtain ⟨q, h3, h4⟩ := h2
      simp only [Option.some.injEq] at h4
      subst h4
      exact iha σ _ _ h1 (fun t hm => ht t (List.mem_append_left _ hm)) (ihb σ1 q Q h3 (fun t hm => ht t (List.mem_append_right _ hm)) hQ)
    | exit j => simp only [Option.some.injEq] at h2; subst h2; exact iha σ _ _ h1 ht hQ
    | ret => simp only [Option.some.injEq] at h2; subst h2; exact iha σ _ _ h1 ht hQ
  | cond y a b iha ihb =>
    intro σ r Q h ht hQ
    simp only [ywp] at h
    split at h
    · rename_i hy; exact ⟨true, hy, iha σ r Q h ht hQ⟩
    · rename_i hy; exact ⟨false, hy, ihb σ r Q h ht hQ⟩
    · cases h
  | block id b ih =>
    intro σ r Q h ht hQ
    simp only [ywp] at h
    replace h := bind_some_inv h
    obtain ⟨⟨y, σ1, t1⟩, h1, h2⟩ := h
    cases y with
    | normal => simp only [Option.some.injEq] at h2; subst h2; exact ih σ _ _ h1 ht hQ
    | ret => simp only [Option.some.injEq] at h2; subst h2; exact ih σ _ _ h1 ht hQ
    | exit j =>
      simp only at h2
      split at h2
      · rename_i hj
        simp only [Option.some.injEq] at h2; subst h2
        exact ih σ _ _ h1 ht (by simp only [hj, if_true]; exact hQ)
      · rename_i hj
        simp only [Option.some.injEq] at h2; subst h2
        exact ih σ _ _ h1 ht (by simp only [hj, if_false]; exact hQ)
  | scope b ih => intro σ r Q h ht hQ; exact ih σ r Q h ht hQ
  | loop b ih =>
    intro σ r Q h ht hQ
    simp only [ywp] at h
    exact ⟨n, yloop_vloop (fun σ r Q h1 h2 h3 => ih σ r Q h1 h2 h3) n σ r Q h ht hQ⟩
  | _ => intro σ r Q h; simp only [ywp] at h; cases h

/-! every call that was written down was answered so -/

theorem yop_tr {P : Program} {T : TypeId → TI} {i : Nat} {o : Oper} {σ : Slots} {r : Slots × Tr} (h : yop P T c ops pol i o σ = some r) : ∀ t ∈ r.2, c t.1 t.2.1 = some (t.2.2.1, t.2.2.2) := by
  unfold yop at h
  split at h
  · cases h
  · replace h := bind_some_inv h
    obtain ⟨σ', _, h2⟩ := h
    simp only [Option.some.injEq] at h2
    subst h2
    intro t ht; cases ht
  · split at h
    · simp only [ycall] at h
      split at h
      · replace h := bind_some_inv h
        obtain ⟨r', h1, h⟩ := h
        replace h := bind_some_inv h
        obtain ⟨as', h2, h⟩ := h
        replace h := bind_some_inv h
        obtain ⟨q, h3, h⟩ := h
        split at h
        · replace h := bind_some_inv h
          obtain ⟨σ2, h4, h⟩ := h
          replace h := bind_some_inv h
          obtain ⟨σ3, h5, h6⟩ := h
          simp only [Option.some.injEq] at h6
          subst h6
          intro t ht
          simp only [List.mem_singleton] at ht
          subst ht
          exact h3
        · cases h
      · cases h
    · replace h := bind_some_inv h
      obtain ⟨q, h0, h⟩ := h
      replace h := bind_some_inv h
      obtain ⟨σ', h1, h2⟩ := h
      simp only [Option.some.injEq] at h2
      subst h2
      intro t ht; cases ht

theorem yops_tr {P : Program} {T : TypeId → TI} : ∀ (os : List Oper) (i : Nat) (σ : Slots) (r : Slots × Tr), yops P T c ops pol i os σ = some r → ∀ t ∈ r.2, c t.1 t.2.1 = some (t.2.2.1, t.2.2.2)
  | [], i, σ, r, h => by
    simp only [yops, Option.some.injEq] at h
    subst h; intro t ht; cases ht
  | o :: os, i, σ, r, h => by
    simp only [yops] at h
    replace h := bind_some_inv h
    obtain ⟨r1, h1, h⟩ := h
    replace h := bind_some_inv h
    obtain ⟨r2, h2, h3⟩ := h
    simp only [Option.some.injEq] at h3
    subst h3
    intro t ht
    rcases List.mem_append.1 ht with ht | ht
    · exact yop_tr h1 t ht
    · exact yops_tr os (i + 1) r1.1 r2 h2 t ht

theorem yloop_tr {step : Slots → Option (Ex × Slots × Tr)} (hs : ∀ (σ : Slots) (r : Ex × Slots × Tr), step σ = some r → ∀ t ∈ r.2.2, c t.1 t.2.1 = some (t.2.2.1, t.2.2.2)) :
    ∀ (n : Nat) (σ : Slots) (r : Ex × Slots × Tr), yloop step n σ = some r → ∀ t ∈ r.2.2, c t.1 t.2.1 = some (t.2.2.1, t.2.2.2)
  | 0, _, _, h => by cases h
  | n + 1, σ, r, h => by
    simp only [yloop] at h
    replace h := bind_some_inv h
    obtain ⟨⟨y, σ1, t1⟩, h1, h2⟩ := h
    cases y with
    | normal =>
      simp only at h2
      replace h2 := bind_some_inv h2
      obtain ⟨q, h3, h4⟩ := h2
      simp only [Option.some.injEq] at h4
      subst h4
      intro t ht
      rcases List.mem_append.1 ht with ht | ht
      · exact hs σ _ h1 t ht
      · exact yloop_tr hs n σ1 q h3 t ht
    | exit j => simp only [Option.some.injEq] at h2; subst h2; exact hs σ _ h1
    | ret => simp only [Option.some.injEq] at h2; subst h2; exact hs σ _ h1

theorem ywp_tr {P : Program} {T : TypeId → TI} {pols : Nat → Pol} {keep : List Nat} {n : Nat} : ∀ (b : Code) (σ : Slots) (r : Ex × Slots × Tr), ywp P T c pols keep n b σ = some r → ∀ t ∈ r.2.2, c t.1 t.2.1 = some (t.2.2.1, t.2.2.2) := by
  intro b
  induction b with
  | skip => intro σ r h; simp only [ywp, Option.some.injEq] at h; subst h; intro t ht; cases ht
  | label l => intro σ r h; simp only [ywp, Option.some.injEq] at h; subst h; intro t ht; cases ht
  | exit id => intro σ r h; simp only [ywp, Option.some.injEq] at h; subst h; intro t ht; cases ht
  | ret => intro σ r h; simp only [ywp, Option.some.injEq] at h; subst h; intro t ht; cases ht
  | region id ops d =>
    intro σ r h
    cases d with
    | false =>
      simp only [ywp] at h
      replace h := bind_some_inv h
      obtain ⟨q, h1, h⟩ := h
      simp only [Option.some.injEq] at h; subst h
      exact fun t ht => yops_tr _ _ _ q h1 t ht
    | true => simp only [ywp] at h; cases h
  | seq a b iha ihb =>
    intro σ r h
    simp only [ywp] at h
    replace h := bind_some_inv h
    obtain ⟨⟨y, σ1, t1⟩, h1, h2⟩ := h
    cases y with
    | normal =>
      simp only at h2
      replace h2 := bind_some_inv h2
      obtain ⟨q, h3, h4⟩ := h2
      simp only [Option.some.injEq] at h4
      subst h4
      intro t ht
      rcases List.mem_append.1 ht with ht | ht
      · exact iha σ _ h1 t ht
      · exact ihb σ1 q h3 t ht
    | exit j => simp only [Option.some.injEq] at h2; subst h2; exact iha σ _ h1
    | ret => simp only [Option.some.injEq] at h2; subst h2; exact iha σ _ h1
  | cond y a b iha ihb =>
    intro σ r h
    simp only [ywp] at h
    split at h
    · exact iha σ r h
    · exact ihb σ r h
    · cases h
  | block id b ih =>
    intro σ r h
    simp only [ywp] at h
    replace h := bind_some_inv h
    obtain ⟨⟨y, σ1, t1⟩, h1, h2⟩ := h
    have key := ih σ _ h1
    cases y with
    | normal => simp only [Option.some.injEq] at h2; subst h2; exact key
    | ret => simp only [Option.some.injEq] at h2; subst h2; exact key
    | exit j =>
      simp only at h2
      split at h2 <;> (simp only [Option.some.injEq] at h2; subst h2; exact key)
  | scope b ih => intro σ r h; exact ih σ r h
  | loop b ih =>
    intro σ r h
    simp only [ywp] at h
    exact yloop_tr (fun σ r h1 => ih σ r h1) n σ r h
  | _ => intro σ r h; simp only [ywp] at h; cases h

end

theorem vwp_seq {E : Env} {pols : Nat → Pol} {keep : List Nat} {a b : Code} {Q : Ex → Slots → Prop} {σ : Slots} (h : vwp E pols keep a (fun x σ' => match x with | .normal => vwp E pols keep b Q σ' | x => Q x σ') σ) : vwp E pols keep (.seq a b) Q σ := h

/-- code up to a function's end: what is returned, what is handed back, the calls. -/
def yend (P : Program) (T : TypeId → TI) (c : CallF) (i : Info) (fuel n : Nat) (b : Code) (σ : Slots) : Option ((AV × List AV) × Tr) :=
  (ywp P T c i.pol i.keep fuel b σ).bind fun r => match r.1 with
    | .exit _ => none
    | _ => (finish T i.fn.results.toList i.io n r.2.1).map fun q => (q, r.2.2)

theorem yend_vwp {E : Env} {c : CallF} {i : Info} {fuel n : Nat} {b : Code} {σ : Slots} {q : (AV × List AV) × Tr} (h : yend E.P E.T c i fuel n b σ = some q) (ht : ∀ t ∈ q.2, E.C t.1 t.2.1 t.2.2.1 t.2.2.2) :
    vwp E i.pol i.keep b (fun x σ' => (x = .normal ∨ x = .ret) ∧ finish E.T i.fn.results.toList i.io n σ' = some (q.1.1, q.1.2)) σ := by
  unfold yend at h
  replace h := bind_some_inv h
  obtain ⟨⟨x, σ', tr⟩, h1, h2⟩ := h
  cases x with
  | exit j => cases h2
  | normal =>
    simp only [Option.map_eq_some_iff] at h2
    obtain ⟨z, h3, rfl⟩ := h2
    exact ywp_vwp b σ _ _ h1 ht ⟨.inl rfl, h3⟩
  | ret =>
    simp only [Option.map_eq_some_iff] at h2
    obtain ⟨z, h3, rfl⟩ := h2
    exact ywp_vwp b σ _ _ h1 ht ⟨.inr rfl, h3⟩

theorem yend_tr {P : Program} {T : TypeId → TI} {c : CallF} {i : Info} {fuel n : Nat} {b : Code} {σ : Slots} {q : (AV × List AV) × Tr} (h : yend P T c i fuel n b σ = some q) : ∀ t ∈ q.2, c t.1 t.2.1 = some (t.2.2.1, t.2.2.2) := by
  unfold yend at h
  replace h := bind_some_inv h
  obtain ⟨⟨x, σ', tr⟩, h1, h2⟩ := h
  have key := ywp_tr b σ _ h1
  cases x with
  | exit j => cases h2
  | normal =>
    simp only [Option.map_eq_some_iff] at h2
    obtain ⟨z, h3, rfl⟩ := h2
    exact key
  | ret =>
    simp only [Option.map_eq_some_iff] at h2
    obtain ⟨z, h3, rfl⟩ := h2
    exact key

/-- what was there is as it was. -/
theorem grown_of {w w' : World} (hs : Step w w') (h : ∀ x y, x < w.heap.size → Same w w' x y) : RowKit.Grown w w' := by
  refine ⟨⟨hs.os, hs.out, fun i hi => ?_⟩, fun a => ?_, hs.size⟩
  · have hk := hs.blk i hi
    unfold kin at hk
    split at hk
    · rename_i c t fr c' t' fr' h1 h2
      rw [h1, h2]
      refine ⟨hk.1, hk.2.1, hk.2.2, fun j _ => ?_⟩
      have := (h i j hi).cell
      simpa [World.cell?, h1, h2] using this
    · rename_i es cl es' cl' h1 h2
      rw [h1, h2]
      have := (h i 0 hi).map es cl h1
      rw [h2] at this
      cases this
      exact .inr ⟨rfl, rfl⟩
    · rename_i h1 h2 
      rw [hk]
      cases ho : w.heap[i]? with
      | none => rfl
      | some o => cases o <;> first | rfl | simp
  · by_cases ha : w.heap.size ≤ a.block
    · rw [hs.new a ha, frozen_out w a ha]
    · exact kin.frozen (hs.blk a.block (by omega))

/-- a contract at words: what it says of the world. -/
theorem VCalls.words {P : Program} {g : FuncId} {xs : List Value} {x : Value} {outs : List AV} (h : VCalls P g (xs.map .lit) (.lit x) outs) (hp : ∀ v ∈ xs, plain v = true) (w : World) :
    Calls P g xs.toArray w fun e w' => e = .returned x ∧ RowKit.Grown w w' := by
  refine Calls.mono (h xs.toArray w no (fun _ => no) (by simp) (fun i v hv => ?_) (fun i j x y q => q.elim) (fun i x y q => q.elim) (fun x y q => q.elim)) ?_
  · rw [List.getElem?_map] at hv
    cases hx : xs[i]? with
    | none => rw [hx] at hv; cases hv
    | some u =>
      rw [hx] at hv
      simp only [Option.map_some, Option.some.injEq] at hv
      subst hv
      have : xs.toArray.getD i undef = u := by simp [Array.getD_eq_getD_getElem?, hx]
      rw [this]
      exact ⟨fun _ => undef, .lit (hp u (List.mem_of_getElem? hx))⟩
  · rintro e w' ⟨v, rfl, Z', Fr, Fo, h1, _, _, h4, ⟨Gr, h5⟩, _⟩
    have hv : v = x := by
      generalize ha : AV.lit x = a at h5
      cases h5 with
      | lit h => cases ha; rfl
      | arr q o e rows b off m val Fc hq => subst ha; simp [AV.arr] at hq
      | _ => cases ha
    subst hv
    exact ⟨rfl, grown_of h1 fun x y hx => h4 x y hx (fun ⟨_, q⟩ => q)⟩

end Go.V
