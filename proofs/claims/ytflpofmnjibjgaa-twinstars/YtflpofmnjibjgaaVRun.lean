/- V: a program that runs code over trees; what it comes to is so. -/
import Derived.Test.YtflpofmnjibjgaaVLoop
set_option linter.unusedVariables false
set_option linter.unusedSimpArgs false
namespace Go.V
open Go

/-! are two trees the same? -/

def sameV : Value → Value → Bool
  | .bool a, .bool b => a == b
  | .int k a, .int k' b => decide (k = k') && a == b
  | .string a, .string b => decide (a = b)
  | .pointer none, .pointer none => true
  | .slice none n m, .slice none n' m' => n == n' && m == m'
  | .map none, .map none => true
  | .nilFunc, .nilFunc => true
  | .tuple a, .tuple b => a.toList.isEmpty && b.toList.isEmpty
  | _, _ => false

theorem sameV_eq {a b : Value} (h : sameV a b = true) : a = b := by
  unfold sameV at h
  split at h <;> simp_all

mutual
def AV.same : AV → AV → Bool
  | .lit x, .lit y => sameV x y
  | .slc o e r, .slc o' e' r' => o == o' && e == e' && sameR r r'
  | .box o r, .box o' r' => o == o' && sameL r r'
  | .agg r, .agg r' => sameL r r'
  | .tup r, .tup r' => sameL r r'
  | .clo f r, .clo f' r' => f == f' && sameL r r'
  | .ref r hs i c, .ref r' hs' i' c' => r == r' && hs == hs' && i == i' && c == c'
  | .view r hs lo len e, .view r' hs' lo' len' e' => r == r' && hs == hs' && lo == lo' && len == len' && e == e'
  | .mref r hs, .mref r' hs' => r == r' && hs == hs'
  | .dead, .dead => true
  | .gone, .gone => true
  | .held, .held => true
  | _, _ => false
def sameL : List AV → List AV → Bool
  | [], [] => true
  | a :: as, b :: bs => a.same b && sameL as bs
  | _, _ => false
def sameR : List (List AV) → List (List AV) → Bool
  | [], [] => true
  | a :: as, b :: bs => sameL a b && sameR as bs
  | _, _ => false
end

mutual
theorem AV.same_eq : ∀ (a b : AV), a.same b = true → a = b
  | .lit x, b, h => by cases b <;> simp [AV.same] at h; rw [sameV_eq h]
  | .slc o e r, b, h => by
    cases b <;> simp [AV.same] at h
    obtain ⟨⟨rfl, rfl⟩, h⟩ := h
    rw [sameR_eq r _ h]
  | .box o r, b, h => by
    cases b <;> simp [AV.same] at h
    obtain ⟨rfl, h⟩ := h
    rw [sameL_eq r _ h]
  | .map o r, b, h => by cases b <;> simp [AV.same] at h
  | .agg r, b, h => by cases b <;> simp [AV.same] at h; rw [sameL_eq r _ h]
  | .tup r, b, h => by cases b <;> simp [AV.same] at h; rw [sameL_eq r _ h]
  | .clo f r, b, h => by
    cases b <;> simp [AV.same] at h
    obtain ⟨rfl, h⟩ := h
    rw [sameL_eq r _ h]
  | .ref r hs i c, b, h => by
    cases b <;> simp [AV.same] at h
    obtain ⟨⟨⟨rfl, rfl⟩, rfl⟩, rfl⟩ := h; rfl
  | .view r hs lo len e, b, h => by
    cases b <;> simp [AV.same] at h
    obtain ⟨⟨⟨⟨rfl, rfl⟩, rfl⟩, rfl⟩, rfl⟩ := h; rfl
  | .mref r hs, b, h => by
    cases b <;> simp [AV.same] at h
    obtain ⟨rfl, rfl⟩ := h; rfl
  | .dead, b, h => by cases b <;> simp [AV.same] at h; rfl
  | .gone, b, h => by cases b <;> simp [AV.same] at h; rfl
  | .held, b, h => by cases b <;> simp [AV.same] at h; rfl
theorem sameL_eq : ∀ (a b : List AV), sameL a b = true → a = b
  | [], b, h => by cases b <;> simp [sameL] at h; rfl
  | a :: as, b, h => by
    cases b with
    | nil => simp [sameL] at h
    | cons b bs =>
      simp only [sameL, Bool.and_eq_true] at h
      rw [AV.same_eq a b h.1, sameL_eq as bs h.2]
theorem sameR_eq : ∀ (a b : List (List AV)), sameR a b = true → a = b
  | [], b, h => by cases b <;> simp [sameR] at h; rfl
  | a :: as, b, h => by
    cases b with
    | nil => simp [sameR] at h
    | cons b bs =>
      simp only [sameR, Bool.and_eq_true] at h
      rw [sameL_eq a b h.1, sameR_eq as bs h.2]
end

/-- what calls come to. -/
abbrev CallF := FuncId → List AV → Option (AV × List AV)

/-- a call's arguments, its answer, what is laid back. -/
def xcall (c : CallF) (pol : Pol) (i : Nat) (o : Oper) (f : Operand) (args : List Operand) (σ : Slots) : Option Slots :=
  match (opnd f).run σ with
  | some (.clo g []) =>
    (takeArgs ((pol.modes.lookup i).getD (args.map fun _ => .val)) args [] σ).bind fun r =>
    (lendArgs r.2.2 ((pol.modes.lookup i).getD (args.map fun _ => .val)) args r.1).bind fun as' =>
    (c g as').bind fun q =>
    if q.2.length = as'.length ∧ (((pol.modes.lookup i).getD (args.map fun _ => .val)).contains .val = true → q.1.lone = true ∧ loneL q.2 = true) ∧ (pol.res i q.1).pure = true then
      (restore r.2.1 q.2 r.2.2).bind fun σ2 => setDst o (pol.res i q.1) σ2
    else none
  | _ => none

def xop (P : Program) (T : TypeId → TI) (c : CallF) (ops : Array Oper) (pol : Pol) (i : Nat) (o : Oper) (σ : Slots) : Option Slots :=
  match wantedV ops σ o with
  | none => none
  | some false => setDst o (.lit undef) σ
  | some true =>
    match isCall o.op with
    | some (f, args) => xcall c pol i o f args σ
    | none => ((evM P T (pol.share.contains i) o.op).run σ).bind fun r => setDst o r.1 r.2

def xops (P : Program) (T : TypeId → TI) (c : CallF) (ops : Array Oper) (pol : Pol) : Nat → List Oper → Slots → Option Slots
  | _, [], σ => some σ
  | i, o :: os, σ => (xop P T c ops pol i o σ).bind fun σ' => xops P T c ops pol (i + 1) os σ'

def xstill (P : Program) (T : TypeId → TI) (c : CallF) (ops : Array Oper) (pol : Pol) (D : List Nat) (i : Nat) (o : Oper) (σ : Slots) : Option AV :=
  match wantedD D ops σ o with
  | none => none
  | some false => some (.lit undef)
  | some true =>
    match isCall o.op with
    | some (f, args) =>
      match (opnd f).runD D σ, pol.modes.lookup i with
      | some (.clo g []), none => (lendAllD D σ args).bind fun us => (c g us).bind fun q =>
        if q.2.length = us.length ∧ (q.1.lone = true ∧ loneL q.2 = true) ∧ (pol.res i q.1).pure = true then some (pol.res i q.1) else none
      | _, _ => none
    | none => (evM P T (pol.share.contains i) o.op).runD D σ

def xput (P : Program) (T : TypeId → TI) (c : CallF) (ops : Array Oper) (pol : Pol) (D : List Nat) (i : Nat) (o : Oper) (σ : Slots) : Option Slots :=
  match wantedD D ops σ o with
  | none => none
  | some false => if dstOff D o = true then setDst o (.lit undef) σ else none
  | some true =>
    match isCall o.op with
    | some (f, args) =>
      if dstOff D o = true then
        match (opnd f).runD D σ with
        | some (.clo g []) =>
          (takeArgsD D ((pol.modes.lookup i).getD (args.map fun _ => .val)) args [] σ).bind fun r =>
          (lendArgsD D r.2.2 ((pol.modes.lookup i).getD (args.map fun _ => .val)) args r.1).bind fun as' =>
          (c g as').bind fun q =>
          if q.2.length = as'.length ∧ (((pol.modes.lookup i).getD (args.map fun _ => .val)).contains .val = true → q.1.lone = true ∧ loneL q.2 = true) ∧ (pol.res i q.1).pure = true ∧ offBacks D r.2.1 = true then
            (restore r.2.1 q.2 r.2.2).bind fun σ2 => setDst o (pol.res i q.1) σ2
          else none
        | _ => none
      else none
    | none => if dstOff D o = true then ((evM P T (pol.share.contains i) o.op).runP D σ).bind fun r => setDst o r.1 r.2 else none

def holds (x : Option AV) (v : AV) : Bool := match x with | some u => u.same v | none => false

def xagain (P : Program) (T : TypeId → TI) (c : CallF) (ops : Array Oper) (pol : Pol) (i : Nat) (done : List (Nat × AV)) (σ σ' : Slots) : Bool :=
  done.all fun x => !un pol i x.1 || match ops[x.1]? with
    | none => false
    | some o => (match o.dst with | some d => (pk σ d).same x.2 && (pk σ' d).same x.2 | none => true) && holds (xstill P T c ops pol (wide ops pol x.1) x.1 o σ') x.2

def xdops (P : Program) (T : TypeId → TI) (c : CallF) (ops : Array Oper) (pol : Pol) : List Nat → List (Nat × AV) → Slots → Option Slots
  | [], _, σ => some σ
  | i :: is, done, σ =>
    match ops[i]? with
    | none => none
    | some o =>
      if bar pol i = true then (xop P T c ops pol i o σ).bind fun σ' => xdops P T c ops pol is done σ'
      else if isPut pol i = true then (xput P T c ops pol (near ops pol i) i o σ).bind fun σ' => if xagain P T c ops pol i done σ σ' = true then xdops P T c ops pol is done σ' else none
      else (xstill P T c ops pol (near ops pol i) i o σ).bind fun v => if freeDst (near ops pol i) o σ = true then xdops P T c ops pol is ((i, v) :: done) (setD o v σ) else none

def xloop (step : Slots → Option (Ex × Slots)) : Nat → Slots → Option (Ex × Slots)
  | 0, _ => none
  | n + 1, σ => (step σ).bind fun r => match r.1 with | .normal => xloop step n r.2 | x => some (x, r.2)

def xwp (P : Program) (T : TypeId → TI) (c : CallF) (pols : Nat → Pol) (keep : List Nat) (n : Nat) : Code → Slots → Option (Ex × Slots)
  | .skip, σ => some (.normal, σ)
  | .label _, σ => some (.normal, σ)
  | .region id ops false, σ => (xops P T c ops (pols id) 0 ops.toList σ).bind fun σ' => some (.normal, clean keep σ')
  | .region id ops true, σ => (xdops P T c ops (pols id) (pols id).ord [] σ).bind fun σ' => some (.normal, clean keep σ')
  | .seq a b, σ => (xwp P T c pols keep n a σ).bind fun r => match r.1 with | .normal => xwp P T c pols keep n b r.2 | x => some (x, r.2)
  | .cond x a b, σ =>
    match (opnd x).run σ with
    | some (.lit (.bool true)) => xwp P T c pols keep n a σ
    | some (.lit (.bool false)) => xwp P T c pols keep n b σ
    | _ => none
  | .block id b, σ => (xwp P T c pols keep n b σ).bind fun r => match r.1 with | .exit j => if j = id then some (.normal, r.2) else some (.exit j, r.2) | x => some (x, r.2)
  | .loop b, σ => xloop (xwp P T c pols keep n b) n σ
  | .scope b, σ => xwp P T c pols keep n b σ
  | .exit id, σ => some (.exit id, σ)
  | .ret, σ => some (.ret, σ)
  | _, _ => none

/-- are all regions that draw their order fit for the walk? -/
def ordAll (pols : Nat → Pol) : Code → Bool
  | .region id ops true => ordOk ops (pols id)
  | .seq a b => ordAll pols a && ordAll pols b
  | .cond _ a b => ordAll pols a && ordAll pols b
  | .block _ b => ordAll pols b
  | .loop b => ordAll pols b
  | .scope b => ordAll pols b
  | _ => true

section
variable {E : Env} {c : CallF} {ops : Array Oper} {pol : Pol}

theorem xop_vop (hc : ∀ g as r, c g as = some r → E.C g as r.1 r.2) {i : Nat} {o : Oper} {σ σ' : Slots} {K : Slots → Prop} (h : xop E.P E.T c ops pol i o σ = some σ') (hK : K σ') : vop E ops pol i o σ K := by
  unfold xop at h
  unfold vop
  cases hw : wantedV ops σ o with
  | none => rw [hw] at h; cases h
  | some b =>
    rw [hw] at h
    cases b with
    | false => exact ⟨σ', h, hK⟩
    | true =>
      simp only at h ⊢
      cases hcall : isCall o.op with
      | none =>
        rw [hcall] at h
        exact ⟨σ', h, hK⟩
      | some q =>
        obtain ⟨f, args⟩ := q
        rw [hcall] at h
        simp only [xcall] at h
        simp only
        split at h
        · rename_i g hf
          replace h := bind_some_inv h
          obtain ⟨r, h1, h⟩ := h
          replace h := bind_some_inv h
          obtain ⟨as', h2, h⟩ := h
          replace h := bind_some_inv h
          obtain ⟨q, h3, h⟩ := h
          split at h
          · rename_i hcond
            replace h := bind_some_inv h
            obtain ⟨σ2, h4, h5⟩ := h
            exact ⟨g, _, r.1, r.2.1, r.2.2, as', q.1, q.2, σ2, σ', hf, rfl, h1, h2, hc _ _ _ h3, hcond.1, hcond.2.1, hcond.2.2, h4, h5, hK⟩
          · cases h
        · cases h

theorem xops_vops (hc : ∀ g as r, c g as = some r → E.C g as r.1 r.2) {K : Slots → Prop} : ∀ (os : List Oper) (i : Nat) (σ σ' : Slots), xops E.P E.T c ops pol i os σ = some σ' → K σ' → vops E ops pol i os σ K
  | [], i, σ, σ', h, hK => by
    simp only [xops, Option.some.injEq] at h
    subst h; exact hK
  | o :: os, i, σ, σ', h, hK => by
    simp only [xops] at h
    replace h := bind_some_inv h
    obtain ⟨σ1, h1, h2⟩ := h
    exact xop_vop hc h1 (xops_vops hc os (i + 1) σ1 σ' h2 hK)

theorem xstill_vstill (hc : ∀ g as r, c g as = some r → E.C g as r.1 r.2) {D : List Nat} {i : Nat} {o : Oper} {σ : Slots} {v : AV} {K : AV → Prop} (h : xstill E.P E.T c ops pol D i o σ = some v) (hK : K v) : vstill E ops pol D i o σ K := by
  unfold xstill at h
  unfold vstill
  cases hw : wantedD D ops σ o with
  | none => rw [hw] at h; cases h
  | some b =>
    rw [hw] at h
    cases b with
    | false => simp only [Option.some.injEq] at h; subst h; exact hK
    | true =>
      simp only at h ⊢
      cases hcall : isCall o.op with
      | none =>
        rw [hcall] at h
        exact ⟨v, h, hK⟩
      | some q =>
        obtain ⟨f, args⟩ := q
        rw [hcall] at h
        simp only at h ⊢
        split at h
        · rename_i g hf hm
          replace h := bind_some_inv h
          obtain ⟨us, h1, h⟩ := h
          replace h := bind_some_inv h
          obtain ⟨q, h2, h⟩ := h
          split at h
          · rename_i hcond
            simp only [Option.some.injEq] at h
            subst h
            exact ⟨g, us, q.2, q.1, hf, hm, h1, hc _ _ _ h2, hcond.1, hcond.2.1, hcond.2.2, hK⟩
          · cases h
        · cases h

theorem xput_vput (hc : ∀ g as r, c g as = some r → E.C g as r.1 r.2) {D : List Nat} {i : Nat} {o : Oper} {σ σ' : Slots} {K : Slots → Prop} (h : xput E.P E.T c ops pol D i o σ = some σ') (hK : K σ') : vput E ops pol D i o σ K := by
  unfold xput at h
  unfold vput
  cases hw : wantedD D ops σ o with
  | none => rw [hw] at h; cases h
  | some b =>
    rw [hw] at h
    cases b with
    | false =>
      simp only at h ⊢
      split at h
      · rename_i hd; exact ⟨hd, σ', h, hK⟩
      · cases h
    | true =>
      simp only at h ⊢
      cases hcall : isCall o.op with
      | none =>
        rw [hcall] at h
        simp only at h ⊢
        split at h
        · rename_i hd
          replace h := bind_some_inv h
          obtain ⟨r, h1, h2⟩ := h
          exact ⟨hd, r.1, r.2, σ', h1, h2, hK⟩
        · cases h
      | some q =>
        obtain ⟨f, args⟩ := q
        rw [hcall] at h
        simp only at h ⊢
        split at h
        · rename_i hd
          split at h
          · rename_i g hf
            replace h := bind_some_inv h
            obtain ⟨r, h1, h⟩ := h
            replace h := bind_some_inv h
            obtain ⟨as', h2, h⟩ := h
            replace h := bind_some_inv h
            obtain ⟨q, h3, h⟩ := h
            split at h
            · rename_i hcond
              replace h := bind_some_inv h
              obtain ⟨σ2, h4, h5⟩ := h
              exact ⟨hd, g, _, r.1, r.2.1, r.2.2, as', q.1, q.2, σ2, σ', hf, rfl, h1, h2, hc _ _ _ h3, hcond.1, hcond.2.1, hcond.2.2.1, hcond.2.2.2, h4, h5, hK⟩
            · cases h
          · cases h
        · cases h

theorem xagain_again (hc : ∀ g as r, c g as = some r → E.C g as r.1 r.2) {i : Nat} {done : List (Nat × AV)} {σ σ' : Slots} (h : xagain E.P E.T c ops pol i done σ σ' = true) : ∀ x ∈ done, Again E ops pol i x.1 x.2 σ σ' := by
  intro x hx hu
  have := List.all_eq_true.1 h x hx
  simp only [hu, Bool.not_true, Bool.false_or] at this
  cases ho : ops[x.1]? with
  | none => rw [ho] at this; cases this
  | some o =>
    rw [ho] at this
    simp only [Bool.and_eq_true] at this
    refine ⟨o, rfl, fun d hd => ?_, ?_⟩
    · have h1 := this.1
      rw [hd] at h1
      simp only [Bool.and_eq_true] at h1
      exact ⟨AV.same_eq _ _ h1.1, AV.same_eq _ _ h1.2⟩
    · have h2 := this.2
      unfold holds at h2
      split at h2
      · rename_i u hu'
        exact xstill_vstill hc hu' (AV.same_eq _ _ h2)
      · cases h2

theorem xdops_vdops (hc : ∀ g as r, c g as = some r → E.C g as r.1 r.2) {K : Slots → Prop} : ∀ (is : List Nat) (done : List (Nat × AV)) (σ σ' : Slots), xdops E.P E.T c ops pol is done σ = some σ' → K σ' → vdops E ops pol is done σ K
  | [], _, σ, σ', h, hK => by
    simp only [xdops, Option.some.injEq] at h
    subst h; simp only [vdops]; exact hK
  | i :: is, done, σ, σ', h, hK => by
    simp only [xdops] at h
    simp only [vdops]
    cases ho : ops[i]? with
    | none => rw [ho] at h; cases h
    | some o =>
      rw [ho] at h
      simp only at h ⊢
      split at h
      · rename_i hb
        rw [if_pos hb]
        replace h := bind_some_inv h
        obtain ⟨σ1, h1, h2⟩ := h
        exact xop_vop hc h1 (xdops_vdops hc is done σ1 σ' h2 hK)
      · rename_i hb
        rw [if_neg hb]
        split at h
        · rename_i hp
          rw [if_pos hp]
          replace h := bind_some_inv h
          obtain ⟨σ1, h1, h⟩ := h
          split at h
          · rename_i ha
            exact xput_vput hc h1 ⟨xagain_again hc ha, xdops_vdops hc is done σ1 σ' h hK⟩
          · cases h
        · rename_i hp
          rw [if_neg hp]
          replace h := bind_some_inv h
          obtain ⟨v, h1, h⟩ := h
          split at h
          · rename_i hf
            exact xstill_vstill hc h1 ⟨hf, xdops_vdops hc is _ _ σ' h hK⟩
          · cases h

theorem xloop_vloop {step : Slots → Option (Ex × Slots)} {vstep : (Ex → Slots → Prop) → Slots → Prop} (hs : ∀ σ x σ' (Q : Ex → Slots → Prop), step σ = some (x, σ') → Q x σ' → vstep Q σ) :
    ∀ (n : Nat) (σ σ' : Slots) (x : Ex) (Q : Ex → Slots → Prop), xloop step n σ = some (x, σ') → Q x σ' → vloop vstep Q n σ
  | 0, _, _, _, _, h, _ => by cases h
  | n + 1, σ, σ', x, Q, h, hQ => by
    simp only [xloop] at h
    replace h := bind_some_inv h
    obtain ⟨⟨y, σ1⟩, h1, h2⟩ := h
    simp only [vloop]
    refine hs σ y σ1 _ h1 ?_
    cases y with
    | normal => exact xloop_vloop hs n σ1 σ' x Q h2 hQ
    | exit j => simp only [Option.some.injEq, Prod.mk.injEq] at h2; obtain ⟨rfl, rfl⟩ := h2; exact hQ
    | ret => simp only [Option.some.injEq, Prod.mk.injEq] at h2; obtain ⟨rfl, rfl⟩ := h2; exact hQ

theorem xwp_vwp (hc : ∀ g as r, c g as = some r → E.C g as r.1 r.2) {pols : Nat → Pol} {keep : List Nat} {n : Nat} : ∀ (b : Code) (σ σ' : Slots) (x : Ex) (Q : Ex → Slots → Prop), ordAll pols b = true → xwp E.P E.T c pols keep n b σ = some (x, σ') → Q x σ' → vwp E pols keep b Q σ := by
  intro b
  induction b with
  | skip => intro σ σ' x Q _ h hQ; simp only [xwp, Option.some.injEq, Prod.mk.injEq] at h; obtain ⟨rfl, rfl⟩ := h; exact hQ
  | label l => intro σ σ' x Q _ h hQ; simp only [xwp, Option.some.injEq, Prod.mk.injEq] at h; obtain ⟨rfl, rfl⟩ := h; exact hQ
  | exit id => intro σ σ' x Q _ h hQ; simp only [xwp, Option.some.injEq, Prod.mk.injEq] at h; obtain ⟨rfl, rfl⟩ := h; exact hQ
  | ret => intro σ σ' x Q _ h hQ; simp only [xwp, Option.some.injEq, Prod.mk.injEq] at h; obtain ⟨rfl, rfl⟩ := h; exact hQ
  | region id ops d =>
    intro σ σ' x Q ho h hQ
    cases d with
    | false =>
      simp only [xwp] at h
      replace h := bind_some_inv h
      obtain ⟨σ1, h1, h⟩ := h
      simp only [Option.some.injEq, Prod.mk.injEq] at h; obtain ⟨rfl, rfl⟩ := h
      exact xops_vops hc _ _ _ _ h1 hQ
    | true =>
      simp only [xwp] at h
      replace h := bind_some_inv h
      obtain ⟨σ1, h1, h⟩ := h
      simp only [Option.some.injEq, Prod.mk.injEq] at h; obtain ⟨rfl, rfl⟩ := h
      exact ⟨ho, xdops_vdops hc _ _ _ _ h1 hQ⟩
  | seq a b iha ihb =>
    intro σ σ' x Q ho h hQ
    simp only [ordAll, Bool.and_eq_true] at ho
    simp only [xwp] at h
    replace h := bind_some_inv h
    obtain ⟨⟨y, σ1⟩, h1, h2⟩ := h
    refine iha σ σ1 y _ ho.1 h1 ?_
    cases y with
    | normal => exact ihb σ1 σ' x Q ho.2 h2 hQ
    | exit j => simp only [Option.some.injEq, Prod.mk.injEq] at h2; obtain ⟨rfl, rfl⟩ := h2; exact hQ
    | ret => simp only [Option.some.injEq, Prod.mk.injEq] at h2; obtain ⟨rfl, rfl⟩ := h2; exact hQ
  | cond y a b iha ihb =>
    intro σ σ' x Q ho h hQ
    simp only [ordAll, Bool.and_eq_true] at ho
    simp only [xwp] at h
    split at h
    · rename_i hy; exact ⟨true, hy, iha σ σ' x Q ho.1 h hQ⟩
    · rename_i hy; exact ⟨false, hy, ihb σ σ' x Q ho.2 h hQ⟩
    · cases h
  | block id b ih =>
    intro σ σ' x Q ho h hQ
    simp only [xwp] at h
    replace h := bind_some_inv h
    obtain ⟨⟨y, σ1⟩, h1, h2⟩ := h
    refine ih σ σ1 y _ ho h1 ?_
    cases y with
    | normal => simp only [Option.some.injEq, Prod.mk.injEq] at h2; obtain ⟨rfl, rfl⟩ := h2; exact hQ
    | ret => simp only [Option.some.injEq, Prod.mk.injEq] at h2; obtain ⟨rfl, rfl⟩ := h2; exact hQ
    | exit j =>
      simp only at h2 ⊢
      split at h2
      · rename_i hj; rw [if_pos hj]; simp only [Option.some.injEq, Prod.mk.injEq] at h2; obtain ⟨rfl, rfl⟩ := h2; exact hQ
      · rename_i hj; rw [if_neg hj]; simp only [Option.some.injEq, Prod.mk.injEq] at h2; obtain ⟨rfl, rfl⟩ := h2; exact hQ
  | scope b ih => intro σ σ' x Q ho h hQ; exact ih σ σ' x Q ho h hQ
  | loop b ih =>
    intro σ σ' x Q ho h hQ
    simp only [xwp] at h
    exact ⟨n, xloop_vloop (fun σ x σ' Q h1 h2 => ih σ σ' x Q ho h1 h2) n σ σ' x Q h hQ⟩
  | _ => intro σ σ' x Q _ h; simp only [xwp] at h; cases h

end

/-- what the walk is told of a function. -/
structure Info where
  fn : Func
  pols : List (Nat × Pol) := []
  keep : List Nat := []
  io : List Nat := []
  deriving Inhabited

def Info.pol (i : Info) (id : Nat) : Pol := (i.pols.lookup id).getD {}

/-- is all in order that does not hang on the arguments? -/
def Info.ok (i : Info) : Bool :=
  match i.fn.body with
  | some c => codeOk i.fn.ntmps i.io c && ordAll i.pol c && !(i.fn.name == "runtime.NumGoroutine")
  | none => false

def xbody (P : Program) (T : TypeId → TI) (c : CallF) (fuel : Nat) (i : Info) (as : List AV) : Option (AV × List AV) :=
  match i.fn.body with
  | some b =>
    if as.length ≤ i.fn.ntmps ∧ pureL as = true then
      (xwp P T c i.pol i.keep fuel b (initS as)).bind fun r =>
        match r.1 with
        | .exit _ => none
        | _ => finish T i.fn.results.toList i.io as.length r.2
    else none
  | none => none

/-- running: 'base' is asked first. -/
def xrun (P : Program) (T : TypeId → TI) (I : FuncId → Option Info) (base : CallF) (fuel : Nat) : Nat → CallF
  | 0 => fun _ _ => none
  | n + 1 => fun g as =>
    match base g as with
    | some r => some r
    | none => match I g with
      | some i => xbody P T (xrun P T I base fuel n) fuel i as
      | none => none

/-- what is told of the functions is so. -/
structure InfoOk (P : Program) (T : TypeId → TI) (I : FuncId → Option Info) (base : CallF) : Prop where
  types : TOk P T
  mixed : P.follows .mixedOrders = true
  info : ∀ g i, I g = some i → P.funcs[g]? = some i.fn ∧ i.ok = true
  base : ∀ g as r, base g as = some r → Enters P g ∧ VCalls P g as r.1 r.2

theorem xrun_calls {P : Program} {T : TypeId → TI} {I : FuncId → Option Info} {base : CallF} (hI : InfoOk P T I base) {fuel : Nat} : ∀ (n : Nat) (g : FuncId) (as : List AV) (r : AV × List AV), xrun P T I base fuel n g as = some r → Enters P g ∧ VCalls P g as r.1 r.2
  | 0, _, _, _, h => by cases h
  | n + 1, g, as, r, h => by
    simp only [xrun] at h
    split at h
    · rename_i hb
      simp only [Option.some.injEq] at h
      subst h
      exact hI.base _ _ _ hb
    · split at h
      · rename_i i hi
        obtain ⟨hf, hok⟩ := hI.info g i hi
        unfold xbody at h
        unfold Info.ok at hok
        cases hbody : i.fn.body with
        | none => rw [hbody] at h; cases h
        | some b =>
          rw [hbody] at h hok
          simp only [Bool.and_eq_true, Bool.not_eq_true'] at hok
          obtain ⟨⟨hok1, hok2⟩, hok3⟩ := hok
          simp only at h
          split at h
          · rename_i hcond
            replace h := bind_some_inv h
            obtain ⟨⟨x, σ'⟩, h1, h2⟩ := h
            refine ⟨⟨i.fn, hf, hok3, by rw [hbody]; rfl⟩, ?_⟩
            let E : Env := ⟨P, T, fun g as res outs => xrun P T I base fuel n g as = some (res, outs)⟩
            have hE : E.Good := ⟨hI.types, hI.mixed, fun g as res outs hc => xrun_calls hI n g as (res, outs) hc⟩
            refine vcalls_of hE (fn := i.fn) (c := b) hf hbody hcond.1 i.io hok1 hcond.2 i.pol i.keep ?_
            refine xwp_vwp (E := E) (c := xrun P T I base fuel n) (n := fuel) (fun g as r hr => hr) b (initS as) σ' x _ hok2 h1 ?_
            cases x with
            | exit j => cases h2
            | normal => exact ⟨.inl rfl, h2⟩
            | ret => exact ⟨.inr rfl, h2⟩
          · cases h
      · cases h

end Go.V
