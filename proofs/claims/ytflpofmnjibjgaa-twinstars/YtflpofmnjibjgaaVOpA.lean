/- V: the operations that make nothing and write nothing. -/
import Derived.Test.YtflpofmnjibjgaaVTake
set_option linter.unusedVariables false
set_option linter.unusedSimpArgs false
namespace Go.V
open Go

def TDok : TD → TypeDesc → Prop
  | .int k, .int k' => k = k'
  | .bool, .bool => True
  | .str, .string => True
  | .ptr e, .pointer e' => e = e'
  | .slice e, .slice e' => e = e'
  | .array n e, .array n' e' => n = n' ∧ e = e'
  | .struct fs, .struct fields => fields.toList.map (fun f => (f.offset, f.type)) = fs
  | .map k e, .map k' e' => k = k' ∧ e = e'
  | _, _ => False

/-- the table tells the program's types. -/
structure TOk1 (P : Program) (t : TypeId) (ti : TI) : Prop where
  ok : ∃ (i : TypeInfo) (d : TypeDesc) (z : Value), P.info? t = some i ∧ P.underlying t = some d ∧ i.size = ti.size ∧ i.bytes = ti.bytes ∧ i.zero = some z ∧
    z.cells.toList = ti.zero ∧ TDok ti.d d
  len : ti.zero.length = ti.size
  pl : ti.zero.all plain = true

def TOk (P : Program) (T : TypeId → TI) : Prop := ∀ t, (T t).d ≠ .other → TOk1 P t (T t)

section
variable {P : Program} {T : TypeId → TI} {w0 : World} {F0 Z0 X : Foot} {σ σ' : Slots} {w : World} {Z : Foot} {Fs : Nat → Foot} {G : Nat → Hops → Value} {a : Act}

theorem TOk.size (hT : TOk P T) {t : TypeId} (h : (T t).d ≠ .other) (w : World) : (sizeOf t).run P w = .ok (T t).size w := by
  obtain ⟨i, d, z, h1, h2, h3, h4, h5, h6, h7⟩ := (hT t h).ok
  simp [Go.sizeOf, typeInfo, h1, h3]

theorem TOk.bytes (hT : TOk P T) {t : TypeId} (h : (T t).d ≠ .other) : ∃ i, P.info? t = some i ∧ i.bytes = (T t).bytes ∧ i.size = (T t).size := by
  obtain ⟨i, d, z, h1, h2, h3, h4, h5, h6, h7⟩ := (hT t h).ok
  exact ⟨i, h1, h4, h3⟩

theorem TOk.zero (hT : TOk P T) {t : TypeId} (h : (T t).d ≠ .other) (w : World) : ∃ z : Value, (zeroValue t).run P w = .ok z w ∧ z.cells.toList = (T t).zero := by
  obtain ⟨i, d, z, h1, h2, h3, h4, h5, h6, h7⟩ := (hT t h).ok
  exact ⟨z, by simp [zeroValue, typeInfo, h1, h5], h6⟩

theorem TOk.under (hT : TOk P T) {t : TypeId} (h : (T t).d ≠ .other) : ∃ d, P.underlying t = some d ∧ TDok (T t).d d := by
  obtain ⟨i, d, z, h1, h2, h3, h4, h5, h6, h7⟩ := (hT t h).ok
  exact ⟨d, h2, h7⟩

theorem run_under {d : TypeDesc} {t : TypeId} (h : P.underlying t = some d) (w : World) : (underlying t).run P w = .ok d w := by
  simp [underlying, h]

theorem TOk.agg (hT : TOk P T) {t : TypeId} (h : (T t).d ≠ .other) (w : World) : (Go.isAgg t).run P w = .ok (aggT (T t)) w := by
  obtain ⟨d, h1, h2⟩ := hT.under h
  simp only [Go.isAgg, Sem.run_bind, run_under h1, Result.andThen_ok]
  unfold aggT
  cases hd : (T t).d <;> rw [hd] at h2 <;> cases d <;> simp [TDok] at h2 <;> rfl

/-- what an operation comes to. -/
def Out (w0 : World) (F0 Z0 : Foot) (f1 : Nat → AV) (ts : Array Value) (w' : World) (v : AV) (val : Value) : Prop :=
  ∃ (Z' : Foot) (Fs' : Nat → Foot) (G' : Nat → Hops → Value) (Fv : Foot) (Gv : Hops → Value), Ok w0 F0 Z0 Fv f1 ts w' Z' Fs' G' ∧ Rep w' Z' Gv v val Fv ∧ Vok f1 G' v val

theorem Out.idle (k : Ok w0 F0 Z0 no (pk σ) a.tmps w Z Fs G) {v : AV} {val : Value} (hr : ∃ Gx, Rep w Z Gx v val no) (hv : Vok (pk σ) G v val) :
    Out w0 F0 Z0 (pk σ) a.tmps w v val := by
  obtain ⟨Gx, hr⟩ := hr
  exact ⟨Z, Fs, G, no, Gx, k, hr, hv⟩

theorem Taken.out {ps : List Put} {x : AV} {val : Value} (h : Taken w0 F0 Z0 no σ σ' a.tmps w Z G ps x val) : Out w0 F0 Z0 (pk σ') a.tmps w x val := by
  obtain ⟨Z', Fs', G', Fa, Ga, _, _, h3, h4, h5, _⟩ := h
  have : (fun x y => no x y ∨ Fa x y) = Fa := by funext x y; simp [no]
  rw [this] at h3
  exact ⟨Z', Fs', G', Fa, Ga, h3, h4, h5⟩

/-- what an operation must come to, given what the trees say. -/
def Sound (P : Program) (w0 : World) (F0 Z0 : Foot) (a : Act) (w : World) (o : Oper) (σ1 : Slots) (v : AV) : Prop :=
  ∃ (val : Value) (w' : World), ((execOp a.eval o).run P w = .ok (.value val) w' ∨ ((execOp a.eval o).run P w = .ok .skip w' ∧ val = undef)) ∧ Out w0 F0 Z0 (pk σ1) a.tmps w' v val

theorem plain_one {v : Value} (h : plain v = true) : v.oneCell' = true ∨ v = undef := by
  cases v <;> simp [plain] at h <;> first | exact .inl rfl | skip
  right; simp [undef, h]

theorem nil1 {r : AV × List Put} {σ : Slots} (h : putAll ([] : List Put) σ = some σ') : σ' = σ := by
  simp only [putAll, Option.some.injEq] at h; exact h.symm

theorem nil2 {σ : Slots} (h : putAll ([] : List Put) σ = some σ') : σ' = σ := by
  simp only [putAll, Option.some.injEq] at h; exact h.symm

theorem sound_move (k : Ok w0 F0 Z0 no (pk σ) a.tmps w Z Fs G) {o : Oper} {x : Operand} {v : AV} {ps : List Put} (ho : o.op = .move x)
    (h : (evMove x).run σ = some (v, ps)) (hσ : putAll ps σ = some σ') : Sound P w0 F0 Z0 a w o σ' v := by
  refine ⟨a.eval x, w, .inl (by simp [execOp, ho]), ?_⟩
  have idle : ∀ u, (opnd x).run σ = some u → u = v → ps = [] → Out w0 F0 Z0 (pk σ') a.tmps w v (a.eval x) := by
    intro u hu he hp
    subst he; subst hp
    have := nil2 hσ
    subst this
    obtain ⟨hr, hv⟩ := opnd_ok k hu
    exact Out.idle k hr hv
  cases x with
  | tmp t =>
    have hsh : (opnd (.tmp t)).run σ = some ((pk σ t).sh t) := rfl
    simp only [evMove, Q.run] at h
    cases hs : (pk σ t).sh t with
    | gone =>
      rw [hs] at h
      simp only [Q.run, AV.get, Option.bind_some] at h
      cases hp : pk σ t with
      | tup vs =>
        rw [hp] at h
        simp only at h
        split at h
        · simp only [Q.run, Option.some.injEq, Prod.mk.injEq] at h
          obtain ⟨rfl, rfl⟩ := h
          simp only [putAll] at hσ
          cases ht : Put.to ⟨t, [], .gone⟩ σ with
          | none => rw [ht] at hσ; cases hσ
          | some τ =>
            rw [ht] at hσ
            simp only [Option.bind_some, Option.some.injEq] at hσ
            subst hσ
            obtain ⟨Fn, Fs', G', q1, q2, q3, q4⟩ := whole_ok k ht (by rw [hp]; rfl)
            rw [hp] at q1
            exact ⟨Z, Fs', G', _, G t, q3, q1.mono (fun x y q => .inr q), .tup⟩
        · rename_i hno
          simp only [Q.run, Option.some.injEq, Prod.mk.injEq] at h
          obtain ⟨rfl, rfl⟩ := h
          have := nil2 hσ
          subst this
          have hr := k.rep t
          rw [hp] at hr
          exact Out.idle k ⟨_, hr.noOwn (by simpa [AV.owns] using hno)⟩ .tup
      | _ =>
        rw [hp] at h
        simp only [Q.run, Option.some.injEq, Prod.mk.injEq] at h
        obtain ⟨rfl, rfl⟩ := h
        have := nil2 hσ
        subst this
        exact Out.idle k ⟨fun _ => undef, .gone⟩ .gone
    | _ => rw [hs] at h hsh; simp only [Q.run, Option.some.injEq, Prod.mk.injEq] at h; exact idle _ hsh h.1 h.2.symm
  | _ =>
    simp only [evMove, Q.run_bind] at h
    obtain ⟨u, hu, h⟩ := Option.bind_eq_some_iff.1 h
    simp only [Q.run, Option.some.injEq, Prod.mk.injEq] at h
    exact idle u hu h.1 h.2.symm

theorem sound_assign (k : Ok w0 F0 Z0 no (pk σ) a.tmps w Z Fs G) {o : Oper} {x : Operand} {v : AV} {ps : List Put} (ho : o.op = .assign x)
    (h : (evAssign x).run σ = some (v, ps)) (hσ : putAll ps σ = some σ') : Sound P w0 F0 Z0 a w o σ' v := by
  refine ⟨a.eval x, w, .inl (by simp [execOp, ho]), ?_⟩
  have abs : ∀ u, (opnd x).run σ = some u → (absorb false u).run σ = some (v, ps) → Out w0 F0 Z0 (pk σ') a.tmps w v (a.eval x) := by
    intro u hu ha
    obtain ⟨hr, hv⟩ := opnd_ok k hu
    exact (absorb_ok k ha hσ hr hv).out
  have idle : ∀ u, (opnd x).run σ = some u → u = v → ps = [] → Out w0 F0 Z0 (pk σ') a.tmps w v (a.eval x) := by
    intro u hu he hp
    subst he; subst hp
    have := nil2 hσ
    subst this
    obtain ⟨hr, hv⟩ := opnd_ok k hu
    exact Out.idle k hr hv
  cases x with
  | tmp t =>
    have hsh : (opnd (.tmp t)).run σ = some ((pk σ t).sh t) := rfl
    simp only [evAssign, Q.run] at h
    cases hs : (pk σ t).sh t with
    | view r hs' lo len e =>
      rw [hs] at h hsh
      simp only at h
      split at h
      · exact abs _ hsh h
      · simp only [Q.run, Option.some.injEq, Prod.mk.injEq] at h; exact idle _ hsh h.1 h.2.symm
    | ref r hs' i c =>
      rw [hs] at h hsh
      simp only at h
      split at h
      · exact abs _ hsh h
      · simp only [Q.run, Option.some.injEq, Prod.mk.injEq] at h; exact idle _ hsh h.1 h.2.symm
    | mref r hs' => rw [hs] at h hsh; exact abs _ hsh h
    | agg cs => rw [hs] at h; exact (take_ok k h hσ).out
    | _ => rw [hs] at h hsh; simp only [Q.run, Option.some.injEq, Prod.mk.injEq] at h; exact idle _ hsh h.1 h.2.symm
  | const c =>
    simp only [evAssign, Q.run_bind] at h
    cases hu : (opnd (.const c)).run σ with
    | none => rw [hu] at h; cases h
    | some u => rw [hu] at h; simp only [Option.bind_some, Q.run, Option.some.injEq, Prod.mk.injEq] at h; exact idle u hu h.1 h.2.symm
  | func c =>
    simp only [evAssign, Q.run_bind] at h
    cases hu : (opnd (.func c)).run σ with
    | none => rw [hu] at h; cases h
    | some u => rw [hu] at h; simp only [Option.bind_some, Q.run, Option.some.injEq, Prod.mk.injEq] at h; exact idle u hu h.1 h.2.symm
  | global c =>
    simp only [evAssign, Q.run_bind] at h
    cases hu : (opnd (.global c)).run σ with
    | none => rw [hu] at h; cases h
    | some u => rw [hu] at h; simp only [Option.bind_some, Q.run, Option.some.injEq, Prod.mk.injEq] at h; exact idle u hu h.1 h.2.symm

/-- a word that an operation computes. -/
theorem sound_word (k : Ok w0 F0 Z0 no (pk σ) a.tmps w Z Fs G) {o : Oper} {x : Value} {ps : List Put} (hp : ps = []) (hσ : putAll ps σ = some σ') (hx : plain x = true)
    (h : (execOp a.eval o).run P w = .ok (.value x) w) : Sound P w0 F0 Z0 a w o σ' (.lit x) := by
  subst hp
  have := nil2 hσ
  subst this
  exact ⟨x, w, .inl h, Out.idle k ⟨fun _ => undef, .lit hx⟩ .lit⟩

theorem evS_ok {s : Sem Value} {v : Value} (h : evS P s = some v) (w : World) : s.run P w = .ok v w := by
  induction s with
  | pure x => simp only [evS, Option.some.injEq] at h; subst h; rfl
  | program k ih => simp only [evS] at h; exact ih P h
  | _ => cases h

theorem ofS_ok {s : Sem Value} {x : AV} (h : (ofS P s).run σ = some x) : ∃ v, x = .lit v ∧ plain v = true ∧ ∀ w, s.run P w = .ok v w := by
  unfold ofS at h
  cases hs : evS P s with
  | none => rw [hs] at h; cases h
  | some v =>
    rw [hs] at h
    simp only at h
    split at h
    · rename_i hp
      simp only [Q.run, Option.some.injEq] at h
      exact ⟨v, h.symm, hp, evS_ok hs⟩
    · cases h

end
end Go.V
