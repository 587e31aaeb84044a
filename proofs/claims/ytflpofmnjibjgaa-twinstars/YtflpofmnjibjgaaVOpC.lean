/- V: the operations that make nothing and write nothing. -/
import Derived.Test.YtflpofmnjibjgaaVOpB
set_option linter.unusedVariables false
set_option linter.unusedSimpArgs false
namespace Go.V
open Go

section
variable {P : Program} {T : TypeId → TI} {w0 : World} {F0 Z0 X : Foot} {σ σ' : Slots} {w : World} {Z : Foot} {Fs : Nat → Foot} {G : Nat → Hops → Value} {a : Act}
  {o : Oper} {v : AV} {ps : List Put} {pol : Bool}

theorem bind_some_inv {α β : Type} {x : Option α} {f : α → Option β} {b : β} (h : x.bind f = some b) : ∃ c, x = some c ∧ f c = some b := by
  cases x with
  | none => cases h
  | some c => exact ⟨c, rfl, h⟩

theorem asRef_inv {x : AV} {q : Nat × Hops × Nat × Nat} (h : (asRef x).run σ = some q) : x = .ref q.1 q.2.1 q.2.2.1 q.2.2.2 := by
  cases x <;> simp only [asRef, Q.run, Option.some.injEq] at h <;> first | cases h | skip
  rfl

theorem idx_inv {x : AV} {n : Int} (h : (idx x).run σ = some n) : ∃ k, x = .lit (.int k n) := by
  cases x with
  | lit u =>
    cases u <;> simp only [idx, Q.run, Option.some.injEq] at h <;> first | (cases h; done) | skip
    exact ⟨_, by rw [h]⟩
  | _ => cases h

theorem ok_ne {ti : TI} (h : ti.ok = true) : ti.d ≠ .other := by
  intro hd; unfold TI.ok at h; rw [hd] at h; cases h

theorem sound_load (hT : TOk P T) (k : Ok w0 F0 Z0 no (pk σ) a.tmps w Z Fs G) {t : TypeId} {x : Operand} (ho : o.op = .load t x)
    (h : (evOp P T pol (.load t x)).run σ = some (v, ps)) (hσ : putAll ps σ = some σ') : Sound P w0 F0 Z0 a w o σ' v := by
  simp only [evOp, Q.run_bind'] at h
  replace h := bind_some_inv h
  obtain ⟨u, hu, h⟩ := h
  replace h := bind_some_inv h
  obtain ⟨⟨r, hs, i, c⟩, hq, h⟩ := h
  have := asRef_inv hq
  simp only at this
  rw [this] at hu
  replace h := bind_some_inv h
  obtain ⟨_, hok, h⟩ := h
  have hok := guardQ_run hok
  simp only [Q.run] at h
  replace h := bind_some_inv h
  obtain ⟨l, hl, h⟩ := h
  obtain ⟨_, hv⟩ := opnd_ok k hu
  obtain ⟨b, off, vs, h1, h2, h3, h4, h5⟩ := cells_ok k hv hl
  -- the type is one of the table's
  have hd : (T t).d ≠ .other := ok_ne hok
  have hsz := hT.size hd w
  have hag := hT.agg hd w
  by_cases hA : aggT (T t) = true
  · rw [if_pos hA] at h
    simp only [Q.run, Option.some.injEq, Prod.mk.injEq] at h
    obtain ⟨rfl, rfl⟩ := h
    have := nil2 hσ
    subst this
    refine ⟨.agg vs.toArray, w, .inl ?_, Out.idle k ⟨fun _ => undef, ?_⟩ ?_⟩
    · have := run_loadCells_list (P := P) w ⟨b, off, none⟩ vs h4
      rw [h2] at this
      simp [execOp, ho, Instr.loadAt, h1, Instr.sureAddr, loadVar, hag, hA, hsz, this]
    · refine .agg l vs.toArray (fun i => if hi : i < l.length then (h5 i l[i] (vs[i]'(by omega)) (by simp [hi]) (by simp)).1.choose else fun _ => undef) (fun _ => no) (by simp [h2, h3]) (fun i x y q => q) (fun i j x y q => q.elim) ?_
      intro i x hx
      have hi : i < l.length := (List.getElem?_eq_some_iff.1 hx).1
      simp only [hi, dif_pos]
      have hxl : l[i] = x := (List.getElem?_eq_some_iff.1 hx).2
      have := (h5 i l[i] (vs[i]'(by omega)) (by simp [hi]) (by simp)).1.choose_spec
      rw [← hxl]
      have hg : vs.toArray.getD i undef = vs[i]'(by omega) := by simp [Array.getD_eq_getD_getElem?, List.getElem?_eq_getElem (show i < vs.length by omega)]
      rw [hg]; exact this
    · refine .agg fun i x hx => ?_
      have hi : i < l.length := (List.getElem?_eq_some_iff.1 hx).1
      have hg : vs.toArray.getD i undef = vs[i]'(by omega) := by simp [Array.getD_eq_getD_getElem?, List.getElem?_eq_getElem (show i < vs.length by omega)]
      rw [hg]
      exact (h5 i x _ hx (by simp)).2
  · rw [if_neg hA] at h
    cases l with
    | nil => cases h
    | cons x l =>
      cases l with
      | cons y l => cases h
      | nil =>
        simp only [Q.run, Option.some.injEq, Prod.mk.injEq] at h
        obtain ⟨rfl, rfl⟩ := h
        have := nil2 hσ
        subst this
        cases vs with
        | nil => simp at h2 h3; omega
        | cons u vs =>
          obtain ⟨g1, g2⟩ := h5 0 x u rfl rfl
          refine ⟨u, w, .inl ?_, Out.idle k g1 g2⟩
          have hc := h4 0 u rfl
          rw [add_none, Nat.add_zero] at hc
          simp [execOp, ho, Instr.loadAt, h1, Instr.sureAddr, loadVar, hag, hA, hc]


theorem sound_pick (k : Ok w0 F0 Z0 no (pk σ) a.tmps w Z Fs G) {c x y : Operand} (ho : o.op = .pick c x y)
    (h : (evOp P T pol (.pick c x y)).run σ = some (v, ps)) (hσ : putAll ps σ = some σ') : Sound P w0 F0 Z0 a w o σ' v := by
  simp only [evOp, Q.run_bind'] at h
  replace h := bind_some_inv h
  obtain ⟨u, hu, h⟩ := h
  cases u with
  | lit b =>
    cases b with
    | bool t =>
      have hc := lit_ok k hu
      simp only [Q.run_bind'] at h
      replace h := bind_some_inv h
      obtain ⟨z, hz, h⟩ := h
      simp only [Q.run_pure, Option.some.injEq, Prod.mk.injEq] at h
      obtain ⟨rfl, rfl⟩ := h
      have := nil2 hσ
      subst this
      obtain ⟨hr, hv⟩ := opnd_ok k hz
      refine ⟨a.eval (if t then x else y), w, .inl ?_, Out.idle k hr hv⟩
      cases t <;> simp [execOp, ho, hc, asBool]
    | _ => cases h
  | _ => cases h

theorem sound_nilCheck (k : Ok w0 F0 Z0 no (pk σ) a.tmps w Z Fs G) {x : Operand} (ho : o.op = .nilCheck x)
    (h : (evOp P T pol (.nilCheck x)).run σ = some (v, ps)) (hσ : putAll ps σ = some σ') : Sound P w0 F0 Z0 a w o σ' v := by
  simp only [evOp, Q.run_bind'] at h
  replace h := bind_some_inv h
  obtain ⟨u, hu, h⟩ := h
  obtain ⟨hr, hv⟩ := opnd_ok k hu
  cases u with
  | ref r hs i c =>
    simp only [Q.run_pure, Option.some.injEq, Prod.mk.injEq] at h
    obtain ⟨rfl, rfl⟩ := h
    have := nil2 hσ
    subst this
    refine ⟨a.eval x, w, .inl ?_, Out.idle k hr hv⟩
    generalize hq : a.eval x = q at hv
    cases hv with
    | ref => simp [execOp, ho, hq]
  | clo g cs =>
    simp only [Q.run_pure, Option.some.injEq, Prod.mk.injEq] at h
    obtain ⟨rfl, rfl⟩ := h
    have := nil2 hσ
    subst this
    refine ⟨a.eval x, w, .inl ?_, Out.idle k hr hv⟩
    obtain ⟨_, hr⟩ := hr
    generalize hq : a.eval x = q at hr
    cases hr with
    | clo g => simp [execOp, ho, hq]
    | arr q o e rows b off m val Fc ha he hm hrow hown hshr hsub hdis hcell hrep hG => simp [AV.arr] at ha
  | _ => cases h

/-- a value that is no literal nil, held against nil. -/
theorem eq_nil {f : Nat → AV} {G : Nat → Hops → Value} {u : AV} {q : Value} (hr : ∃ Gx, Rep w Z Gx u q no) (hv : Vok f G u q) (hu : (∃ r hs lo len e, u = .view r hs lo len e) ∨ ∃ o e rows, u = .slc o e rows) :
    ∃ ad n m, q = .slice (some ad) n m := by
  rcases hu with ⟨r, hs, lo, len, e, rfl⟩ | ⟨o, e, rows, rfl⟩
  · cases hv with
    | view => exact ⟨_, _, _, rfl⟩
  · obtain ⟨_, hr⟩ := hr
    obtain ⟨b, off, m, h1, _⟩ := hr.sub
    exact ⟨_, _, _, h1⟩

theorem equalIn_slice {d : Nat} {t e : TypeId} (ht : P.underlying t = some (.slice e)) (ad : Option Addr) (n m n' m' : Nat) (w : World) :
    (Op.equalIn (d + 1) t (.slice ad n m) (.slice none n' m')).run P w = .ok ad.isNone w ∧ (Op.equalIn (d + 1) t (.slice none n' m') (.slice ad n m)).run P w = .ok ad.isNone w := by
  constructor <;> (unfold Op.equalIn; rw [Sem.run_bind, run_under ht, Result.andThen_ok]; cases ad <;> rfl)

theorem nilish_inv {u : AV} (h : nilish u = true) : ∃ n m, u = .lit (.slice none n m) := by
  unfold nilish at h; split at h
  · exact ⟨_, _, rfl⟩
  · cases h

theorem slcish_inv {u : AV} (h : slcish u = true) : (∃ r hs lo len e, u = .view r hs lo len e) ∨ ∃ o e rows, u = .slc o e rows := by
  unfold slcish at h; split at h
  · exact .inl ⟨_, _, _, _, _, rfl⟩
  · exact .inr ⟨_, _, _, rfl⟩
  · cases h

theorem asLit_inv {u : AV} {q : Value} (h : (asLit u).run σ = some q) : u = .lit q := by
  cases u <;> simp only [asLit, Q.run, Option.some.injEq] at h <;> first | (cases h; done) | skip
  rw [h]

theorem word_out (k : Ok w0 F0 Z0 no (pk σ) a.tmps w Z Fs G) {x : Value} (hσ : putAll ([] : List Put) σ = some σ') (hx : plain x = true)
    (h : (execOp a.eval o).run P w = .ok (.value x) w) : Sound P w0 F0 Z0 a w o σ' (.lit x) := sound_word k rfl hσ hx h

theorem sound_binOp (hT : TOk P T) (k : Ok w0 F0 Z0 no (pk σ) a.tmps w Z Fs G) {op : BinOp} {t yt : TypeId} {x y : Operand} (ho : o.op = .binOp op t x y yt)
    (h : (evOp P T pol (.binOp op t x y yt)).run σ = some (v, ps)) (hσ : putAll ps σ = some σ') : Sound P w0 F0 Z0 a w o σ' v := by
  simp only [evOp, Q.run_bind] at h
  replace h := bind_some_inv h
  obtain ⟨u, hu, h⟩ := h
  replace h := bind_some_inv h
  obtain ⟨z, hz, h⟩ := h
  unfold evBin at h
  split at h
  · rename_i hc
    -- what both values are
    have hq : ∃ (ad : Option Addr) (n m n' m' : Nat), ((a.eval x = .slice ad n m ∧ a.eval y = .slice none n' m') ∨ (a.eval x = .slice none n' m' ∧ a.eval y = .slice ad n m)) ∧ ad.isNone = (nilish u && nilish z) := by
      obtain ⟨hru, hvu⟩ := opnd_ok k hu
      obtain ⟨hrz, hvz⟩ := opnd_ok k hz
      simp only [Bool.or_eq_true, Bool.and_eq_true] at hc
      rcases hc with ⟨h1, h2 | h2⟩ | ⟨h1, h2⟩
      · obtain ⟨n, m, rfl⟩ := nilish_inv h1
        obtain ⟨n', m', rfl⟩ := nilish_inv h2
        exact ⟨none, n, m, n', m', .inl ⟨lit_ok k hu, lit_ok k hz⟩, rfl⟩
      · obtain ⟨n, m, rfl⟩ := nilish_inv h1
        obtain ⟨ad, n', m', he⟩ := eq_nil hrz hvz (slcish_inv h2)
        refine ⟨some ad, n', m', n, m, .inr ⟨lit_ok k hu, he⟩, ?_⟩
        rcases slcish_inv h2 with ⟨_, _, _, _, _, rfl⟩ | ⟨_, _, _, rfl⟩ <;> rfl
      · obtain ⟨n, m, rfl⟩ := nilish_inv h2
        obtain ⟨ad, n', m', he⟩ := eq_nil hru hvu (slcish_inv h1)
        refine ⟨some ad, n', m', n, m, .inl ⟨he, lit_ok k hz⟩, ?_⟩
        rcases slcish_inv h1 with ⟨_, _, _, _, _, rfl⟩ | ⟨_, _, _, rfl⟩ <;> rfl
    obtain ⟨ad, n, m, n', m', hq, hb⟩ := hq
    cases hd : (T t).d with
    | slice e =>
      have ht : P.underlying t = some (.slice e) := by
        obtain ⟨d, h1, h2⟩ := hT.under (t := t) (by rw [hd]; simp)
        rw [hd] at h2
        cases d <;> simp [TDok] at h2
        subst h2; exact h1
      obtain ⟨e1, e2⟩ := equalIn_slice (P := P) (d := 9999) ht ad n m n' m' w
      rw [hd] at h
      have heq : ∀ q1 q2, a.eval x = q1 → a.eval y = q2 → ((q1 = .slice ad n m ∧ q2 = .slice none n' m') ∨ (q1 = .slice none n' m' ∧ q2 = .slice ad n m)) → (Op.equal t q1 q2).run P w = .ok ad.isNone w := by
        rintro q1 q2 _ _ (⟨rfl, rfl⟩ | ⟨rfl, rfl⟩)
        · exact e1
        · exact e2
      cases op <;> simp only [Q.run, Option.some.injEq, Prod.mk.injEq] at h <;> first | (cases h; done) | skip
      · obtain ⟨rfl, rfl⟩ := h
        refine word_out k hσ rfl ?_
        have := heq _ _ rfl rfl hq
        rcases hq with ⟨q1, q2⟩ | ⟨q1, q2⟩ <;> simp only [execOp, ho, q1, q2, eqGuard, Go.binOp, Sem.run_bind, Sem.run_pure, Result.andThen_ok] <;> rw [q1, q2] at this <;> simp [this, hb]
      · obtain ⟨rfl, rfl⟩ := h
        refine word_out k hσ rfl ?_
        have := heq _ _ rfl rfl hq
        rcases hq with ⟨q1, q2⟩ | ⟨q1, q2⟩ <;> simp only [execOp, ho, q1, q2, eqGuard, Go.binOp, Sem.run_bind, Sem.run_pure, Result.andThen_ok] <;> rw [q1, q2] at this <;> simp [this, hb]
    | _ => rw [hd] at h; cases h
  · simp only [Q.run_bind] at h
    replace h := bind_some_inv h
    obtain ⟨q1, hq1, h⟩ := h
    replace h := bind_some_inv h
    obtain ⟨q2, hq2, h⟩ := h
    replace h := bind_some_inv h
    obtain ⟨q3, hq3, h⟩ := h
    have := asLit_inv hq1; subst this
    have := asLit_inv hq2; subst this
    obtain ⟨val, rfl, hpl, hrun⟩ := ofS_ok hq3
    simp only [Q.run, Option.some.injEq, Prod.mk.injEq] at h
    obtain ⟨rfl, rfl⟩ := h
    refine word_out k hσ hpl ?_
    have := hrun w
    rw [Sem.run_bind] at this
    simp only [execOp, ho, lit_ok k hu, lit_ok k hz, Sem.run_bind, this, Result.andThen_ok, Sem.run_pure]

theorem sound_unOp (k : Ok w0 F0 Z0 no (pk σ) a.tmps w Z Fs G) {op : UnOp} {t : TypeId} {x : Operand} (ho : o.op = .unOp op t x)
    (h : (evOp P T pol (.unOp op t x)).run σ = some (v, ps)) (hσ : putAll ps σ = some σ') : Sound P w0 F0 Z0 a w o σ' v := by
  simp only [evOp, Q.run_bind'] at h
  replace h := bind_some_inv h
  obtain ⟨u, hu, h⟩ := h
  replace h := bind_some_inv h
  obtain ⟨q1, hq1, h⟩ := h
  replace h := bind_some_inv h
  obtain ⟨q3, hq3, h⟩ := h
  have := asLit_inv hq1; subst this
  obtain ⟨val, rfl, hpl, hrun⟩ := ofS_ok hq3
  simp only [Q.run_pure, Option.some.injEq, Prod.mk.injEq] at h
  obtain ⟨rfl, rfl⟩ := h
  refine word_out k hσ hpl ?_
  simp [execOp, ho, lit_ok k hu, hrun w]

theorem sound_convert (k : Ok w0 F0 Z0 no (pk σ) a.tmps w Z Fs G) {s d : TypeId} {x : Operand} (ho : o.op = .convert s d x)
    (h : (evOp P T pol (.convert s d x)).run σ = some (v, ps)) (hσ : putAll ps σ = some σ') : Sound P w0 F0 Z0 a w o σ' v := by
  simp only [evOp, Q.run_bind'] at h
  replace h := bind_some_inv h
  obtain ⟨u, hu, h⟩ := h
  replace h := bind_some_inv h
  obtain ⟨q1, hq1, h⟩ := h
  replace h := bind_some_inv h
  obtain ⟨q3, hq3, h⟩ := h
  have := asLit_inv hq1; subst this
  obtain ⟨val, rfl, hpl, hrun⟩ := ofS_ok hq3
  simp only [Q.run_pure, Option.some.injEq, Prod.mk.injEq] at h
  obtain ⟨rfl, rfl⟩ := h
  refine word_out k hσ hpl ?_
  simp [execOp, ho, lit_ok k hu, hrun w]

end
end Go.V
