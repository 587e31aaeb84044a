/- V: append. -/
import Derived.Test.YtflpofmnjibjgaaVOpJ
import Derived.Laws.AppendOwn
import Derived.Laws.IdiomCopy
set_option linter.unusedVariables false
set_option linter.unusedSimpArgs false
namespace Go.V
open Go

theorem setCells_size (b : Nat) : ∀ (vs : List Value) (o : Nat) (w : World), (w.setCells b o vs).heap.size = w.heap.size
  | [], _, _ => rfl
  | v :: r, o, w => by rw [World.setCells, setCells_size b r]; simp

theorem same_setCells (b : Nat) : ∀ (vs : List Value) (o : Nat) (w : World) (x y : Nat), ¬ (x = b ∧ o ≤ y ∧ y < o + vs.length) → Same w (w.setCells b o vs) x y
  | [], _, w, x, y, _ => .refl w x y
  | v :: r, o, w, x, y, h => by
    refine (same_setCell w b o v x y (fun q => h ⟨q.1, by omega, by simp; omega⟩)).trans ?_
    exact same_setCells b r (o + 1) _ x y (fun q => h ⟨q.1, by omega, by simp; omega⟩)

theorem step_setCells (b : Nat) : ∀ (vs : List Value) (o : Nat) (w : World), Step w (w.setCells b o vs)
  | [], _, w => .refl w
  | v :: r, o, w => (step_setCell w b o v).trans (step_setCells b r (o + 1) _)

section
variable {P : Program} {T : TypeId → TI} {w0 : World} {F0 Z0 X : Foot} {f : Nat → AV} {ts : Array Value} {σ σ' : Slots} {w : World} {Z : Foot} {Fs : Nat → Foot} {G : Nat → Hops → Value} {a : Act}
  {o : Oper} {v : AV} {ps : List Put} {pol : Bool}

/-- a world that holds the same but for what is held beside the frame. -/
theorem Ok.within (k : Ok w0 F0 Z0 X f ts w Z Fs G) {w' : World} (h : ∀ x y, x < w.heap.size → ¬ X x y → Same w w' x y) (hs : w'.heap.size = w.heap.size) (hstep : Step w w') : Ok w0 F0 Z0 X f ts w' Z Fs G := by
  refine ⟨fun t => (k.rep t).agree (fun x y q => q.elim (fun q => h x y (k.foot t x y q).2.2.1 (k.foot t x y q).2.1) (fun q => h x y (k.shared x y q).1 (fun u => (k.free x y u).1 q))) (fun _ _ q => q), k.vok, k.dis, ?_, ?_, k.base, ?_, ?_, ?_, k.step.trans hstep⟩
  · intro t x y q; rw [hs]; exact k.foot t x y q
  · intro x y q; rw [hs]; exact k.free x y q
  · intro x y q; rw [hs]; exact k.shared x y q
  · rw [hs]; exact k.grows
  · intro x y hx hn
    exact (k.keep x y hx hn).trans (h x y (Nat.lt_of_lt_of_le hx k.grows) (fun u => (k.free x y u).2.2.elim hn (fun u => by omega)))

/-- what is read of a row of elements. -/
theorem rows_read {Gx : Hops → Value} {own : Bool} {e : Nat} {rows : List (List AV)} {val : Value} {F : Foot} (h : Rep w Z Gx (.slc own e rows) val F) :
    ∃ (b off m : Nat) (vals : List Value) (Gc : Nat × Nat → Hops → Value) (Fc : Nat × Nat → Foot), val = .slice (some ⟨b, off, none⟩) rows.length m ∧ 0 < e ∧ rows.length ≤ m ∧ (∀ row ∈ rows, row.length = e) ∧
      vals.length = rows.length * e ∧ (∀ (j : Nat) (v : Value), vals[j]? = some v → w.cell? ((⟨b, off, none⟩ : Addr).add j) = some v) ∧
      (own = true → ∀ j, j < m * e → F b (off + j) ∧ w.frozen? ⟨b, off + j, none⟩ = false ∧ (w.cell? ⟨b, off + j, none⟩).isSome = true) ∧
      (∀ h x y, Fc h x y → own = true ∧ F x y ∧ ¬ (x = b ∧ off ≤ y ∧ y < off + m * e)) ∧ (∀ h g x y, Fc h x y → Fc g x y → h = g) ∧
      ∀ h x, cellOf rows h = some x → Rep w Z (Gc h) x (vals.getD (h.1 * e + h.2) undef) (Fc h) := by
  generalize hq : AV.slc own e rows = q at h
  cases h with
  | arr q o' e' rows' b off m val Fc ha he hm hrow hown hshr hsub hdis hcell hrep hG =>
    subst hq
    simp only [AV.arr, Option.some.injEq, Prod.mk.injEq] at ha
    obtain ⟨rfl, rfl, rfl⟩ := ha
    have hm' : rows.length ≤ m := hm
    let vals : List Value := (List.range (rows.length * e)).map fun j => val (j / e, j % e)
    have hval : ∀ j, j < rows.length * e → vals[j]? = some (val (j / e, j % e)) := by
      intro j hj; simp [vals, hj]
    refine ⟨b, off, m, vals, fun h q => Gx (h :: q), Fc, rfl, he, hm', hrow, by simp [vals], ?_, hown, hsub, hdis, ?_⟩
    · intro j v hj
      have hlt : j < rows.length * e := by have := (List.getElem?_eq_some_iff.1 hj).1; simpa [vals] using this
      rw [hval j hlt] at hj
      simp only [Option.some.injEq] at hj
      subst hj
      rw [add_none]
      have h2 : j % e < e := Nat.mod_lt _ he
      have h1 : j / e < rows.length := Nat.div_lt_of_lt_mul (by rw [Nat.mul_comm]; exact hlt)
      have hx : cellOf rows (j / e, j % e) = some ((rows[j / e]'h1)[j % e]'(by rw [hrow _ (List.getElem_mem h1)]; exact h2)) := by
        simp only [cellOf, List.getElem?_eq_getElem h1, Option.bind_some]
        rw [List.getElem?_eq_getElem]
      have := hcell _ _ hx
      simp only at this
      rw [show j / e * e + j % e = j by rw [Nat.mul_comm]; exact Nat.div_add_mod j e] at this
      exact this
    · intro h x hx
      obtain ⟨l1, l2⟩ := cellOf_lt hx hrow
      have hlt : h.1 * e + h.2 < rows.length * e := addr_lt l1 l2
      have hdm : (h.1 * e + h.2) / e = h.1 ∧ (h.1 * e + h.2) % e = h.2 := by
        constructor
        · rw [Nat.mul_comm, Nat.mul_add_div (by omega), Nat.div_eq_of_lt l2]; omega
        · rw [Nat.mul_comm, Nat.mul_add_mod, Nat.mod_eq_of_lt l2]
      have : vals.getD (h.1 * e + h.2) undef = val h := by
        simp only [List.getD, hval _ hlt, Option.getD_some, hdm.1, hdm.2]
      rw [this]
      exact hrep h x hx
  | _ => cases hq

/-- rows to be laid elsewhere: what they hold, held beside the frame. -/
structure Rows (w : World) (Z : Foot) (e : Nat) (rows : List (List AV)) (val : Value) (Fa : Foot) (vals : List Value) (Gc : Nat × Nat → Hops → Value) (Fc : Nat × Nat → Foot) : Prop where
  len : vals.length = rows.length * e
  row : ∀ row ∈ rows, row.length = e
  lenOf : ∀ (P : Program) (W : World), (Builtin.lenOf val).run P W = .ok rows.length W
  read : ∀ (P : Program) (W : World), (∀ a, W.cell? a = w.cell? a) → (Builtin.firstCells e rows.length val).run P W = .ok vals.toArray W
  sub : ∀ h x y, Fc h x y → Fa x y
  dis : ∀ h g x y, Fc h x y → Fc g x y → h = g
  rep : ∀ h x, cellOf rows h = some x → Rep w Z (Gc h) x (vals.getD (h.1 * e + h.2) undef) (Fc h)
  one : ∀ v ∈ vals, v.oneCell' = true

theorem wordRows_cell {rows : List (List AV)} (h : wordRows rows = true) {q : Nat × Nat} {x : AV} (hx : cellOf rows q = some x) : x.word = true := by
  unfold cellOf at hx
  cases hr : rows[q.1]? with
  | none => rw [hr] at hx; cases hx
  | some row =>
    rw [hr] at hx
    exact List.all_eq_true.1 (List.all_eq_true.1 h row (List.mem_of_getElem? hr)) x (List.mem_of_getElem? hx)

theorem bareRows_cell {rows : List (List AV)} (h : bareRows rows = true) {q : Nat × Nat} {x : AV} (hx : cellOf rows q = some x) : x.owns = false := by
  unfold cellOf at hx
  cases hr : rows[q.1]? with
  | none => rw [hr] at hx; cases hx
  | some row =>
    rw [hr] at hx
    have := List.all_eq_true.1 (List.all_eq_true.1 h row (List.mem_of_getElem? hr)) x (List.mem_of_getElem? hx)
    simpa using this

theorem word_one {Gx : Hops → Value} {x : AV} {u : Value} {F : Foot} (h : Rep w Z Gx x u F) (hw : x.word = true) : u.oneCell' = true := by
  obtain ⟨_, Gc, Fc, _, _, h3⟩ := cells_rep h (by
    cases x <;> simp [AV.cellsOf, AV.word] at hw ⊢
    exact hw)
  have hx : x.cellsOf[0]? = some x := by cases x <;> simp [AV.cellsOf, AV.word] at hw ⊢
  have := (h3 0 x hx).2
  have hc : u.cells = #[u] := by
    generalize hu : u = u' at h
    cases h with
    | lit hp => subst hu; cases u <;> simp [plain, AV.word, Value.oneCell'] at hp hw <;> rfl
    | agg => cases hw
    | tup => cases hw
    | gone => cases hw
    | arr q o e rows b off m val Fc ha => subst hu; cases x <;> simp [AV.arr] at ha <;> rfl
    | clo => subst hu; rfl
    | map => subst hu; rfl
    | dead h1 => subst hu; cases u <;> first | rfl | cases h1
    | ref h1 => subst hu; cases u <;> first | rfl | cases h1
    | view h1 => subst hu; cases u <;> first | rfl | cases h1
    | mref h1 => subst hu; cases u <;> first | rfl | cases h1
    | held => cases hw
  rw [hc] at this
  simpa using this

theorem rows_ones {e : Nat} {rows : List (List AV)} {vals : List Value} {Gc : Nat × Nat → Hops → Value} {Fc : Nat × Nat → Foot} (he : 0 < e) (hl : vals.length = rows.length * e) (hrow : ∀ row ∈ rows, row.length = e)
    (hw : wordRows rows = true) (hr : ∀ h x, cellOf rows h = some x → Rep w Z (Gc h) x (vals.getD (h.1 * e + h.2) undef) (Fc h)) : ∀ v ∈ vals, v.oneCell' = true := by
  intro v hv
  obtain ⟨j, hj⟩ := List.mem_iff_getElem?.1 hv
  have hlt : j < rows.length * e := by rw [← hl]; exact (List.getElem?_eq_some_iff.1 hj).1
  have h2 : j % e < e := Nat.mod_lt _ he
  have h1 : j / e < rows.length := Nat.div_lt_of_lt_mul (by rw [Nat.mul_comm]; exact hlt)
  have hx : cellOf rows (j / e, j % e) = some ((rows[j / e]'h1)[j % e]'(by rw [hrow _ (List.getElem_mem h1)]; exact h2)) := by
    simp only [cellOf, List.getElem?_eq_getElem h1, Option.bind_some]
    rw [List.getElem?_eq_getElem]
  have := word_one (hr _ _ hx) (wordRows_cell hw hx)
  simp only at this
  rw [show j / e * e + j % e = j by rw [Nat.mul_comm]; exact Nat.div_add_mod j e] at this
  simpa [List.getD, hj] using this

/-- rows of a slice that lies in memory. -/
theorem rows_of {Gx : Hops → Value} {own : Bool} {e : Nat} {rows : List (List AV)} {val : Value} {F Fa : Foot} (h : Rep w Z Gx (.slc own e rows) val F) (hw : wordRows rows = true)
    (hFa : ∀ x y, own = true → F x y → Fa x y) : ∃ vals Gc Fc, Rows w Z e rows val Fa vals Gc Fc := by
  obtain ⟨b, off, m, vals, Gc, Fc, rfl, he, hm, hrow, hl, hread, _, hsub, hdis, hrep⟩ := rows_read h
  refine ⟨vals, Gc, Fc, hl, hrow, fun P W => by simp [Builtin.lenOf], fun P W hW => ?_, fun h x y q => hFa x y (hsub h x y q).1 (hsub h x y q).2.1, hdis, hrep, rows_ones he hl hrow hw hrep⟩
  exact run_firstCells_some (P := P) W e rows.length _ _ _ vals hl (fun j v hj => by rw [hW]; exact hread j v hj)

theorem rows_bare {Gx : Hops → Value} {own : Bool} {e : Nat} {rows : List (List AV)} {val : Value} {F : Foot} (h : Rep w Z Gx (.slc own e rows) val F) (hw : wordRows rows = true)
    (hb : bareRows rows = true) : ∃ vals Gc Fc, Rows w Z e rows val no vals Gc Fc := by
  obtain ⟨vals, Gc, Fc, r⟩ := rows_of (Fa := F) h hw (fun _ _ _ q => q)
  exact ⟨vals, Gc, fun _ => no, r.len, r.row, r.lenOf, r.read, fun h x y q => q, fun h g x y q => q.elim, fun h x hx => (r.rep h x hx).noOwn (bareRows_cell hb hx), r.one⟩

/-- the source of an append or a copy. -/
theorem src_ok (k : Ok w0 F0 Z0 X (pk σ) a.tmps w Z Fs G) {move : Bool} {e : Nat} (he : 0 < e) {x : Operand} {r : AV × List Put} (h : (srcQ move e x).run σ = some r) (hp : putAll r.2 σ = some σ') :
    ∃ (own : Bool) (rows : List (List AV)) (Fs' : Nat → Foot) (G' : Nat → Hops → Value) (Fa : Foot) (vals : List Value) (Gc : Nat × Nat → Hops → Value) (Fc : Nat × Nat → Foot),
      r.1 = .slc own e rows ∧ (∀ x y, Fa x y → ¬ X x y) ∧ Ok w0 F0 Z0 (fun x y => X x y ∨ Fa x y) (pk σ') a.tmps w Z Fs' G' ∧ Rows w Z e rows (a.eval x) Fa vals Gc Fc := by
  have idle : (fun x y => X x y ∨ no x y) = X := by funext x y; simp [no]
  simp only [srcQ, Q.run_bind] at h
  replace h := bind_some_inv h
  obtain ⟨u, hu, h⟩ := h
  obtain ⟨⟨Gx, hr⟩, hv⟩ := opnd_ok k hu
  have nilk : r.2 = [] → Ok w0 F0 Z0 (fun x y => X x y ∨ no x y) (pk σ') a.tmps w Z Fs G := by
    intro h2
    rw [h2] at hp
    simp only [putAll, Option.some.injEq] at hp
    subst hp
    rw [idle]; exact k
  cases u with
  | lit l =>
    have hl : a.eval x = l ∧ plain l = true := by
      generalize a.eval x = val at hr
      cases hr with
      | lit h => exact ⟨rfl, h⟩
      | arr q o e rows b off m val Fc ha => simp [AV.arr] at ha
    cases l with
    | slice s m n =>
      cases s with
      | some s => simp [plain] at hl
      | none =>
        simp only [Q.run, Option.some.injEq] at h
        subst h
        have hm : m = 0 := by
          have := hl.2
          unfold plain at this
          split at this <;> simp_all
        refine ⟨false, [], Fs, G, no, [], fun _ _ => undef, fun _ => no, rfl, fun _ _ q => q.elim, nilk rfl, ⟨by simp, by simp, ?_, ?_, fun h x y q => q, fun h g x y q => q.elim, ?_, by simp⟩⟩
        · intro P W; rw [hl.1, hm]; simp [Builtin.lenOf]
        · intro P W _; rw [hl.1]; simp [Builtin.firstCells]
        · intro h x hx; simp [cellOf] at hx
    | string s =>
      simp only at h
      split at h
      · rename_i he1
        subst he1
        simp only [Q.run, Option.some.injEq] at h
        subst h
        have hlen : s.data.toList.length = s.size := rfl
        refine ⟨false, _, Fs, G, no, s.data.toList.map fun b => .int .u8 b.toNat, fun _ _ => undef, fun _ => no, rfl, fun _ _ q => q.elim, nilk rfl, ⟨by simp, ?_, ?_, ?_, fun h x y q => q, fun h g x y q => q.elim, ?_, ?_⟩⟩
        · intro row hr; simp only [List.mem_map] at hr; obtain ⟨b, _, rfl⟩ := hr; rfl
        · intro P W; rw [hl.1]; simp only [Builtin.lenOf, List.length_map, hlen, Sem.run_pure]
        · intro P W _
          rw [hl.1]
          simp only [Builtin.firstCells, List.length_map, Sem.run_pure, hlen]
          congr 1
          apply Array.ext'
          have : s.extract 0 s.size = s := by simp
          simp [this]
        · intro h x hx
          simp only [cellOf, List.getElem?_map] at hx
          cases hs : s.data.toList[h.1]? with
          | none => rw [hs] at hx; cases hx
          | some b =>
            rw [hs] at hx
            simp only [Option.map_some, Option.bind_some] at hx
            cases h2 : h.2 with
            | zero =>
              rw [h2] at hx
              simp only [List.getElem?_cons_zero, Option.some.injEq] at hx
              subst hx
              have : (s.data.toList.map fun b => Value.int .u8 b.toNat).getD (h.1 * 1 + 0) undef = .int .u8 b.toNat := by simp [List.getD, hs]
              rw [this]
              exact .lit rfl
            | succ n => rw [h2] at hx; simp at hx
        · intro v hv
          simp only [List.mem_map] at hv
          obtain ⟨b, _, rfl⟩ := hv
          rfl
      · cases h
    | _ => cases h
  | slc own e' rows =>
    simp only at h
    split at h
    · rename_i hc
      obtain ⟨rfl, rfl, hw⟩ := hc
      simp only [Q.run, Option.some.injEq] at h
      subst h
      obtain ⟨vals, Gc, Fc, hR⟩ := rows_of (Fa := no) hr hw (fun _ _ q => by cases q)
      exact ⟨false, rows, Fs, G, no, vals, Gc, Fc, rfl, fun _ _ q => q.elim, nilk rfl, hR⟩
    · cases h
  | view q hs lo len e' =>
    cases hv' : a.eval x with
    | slice _ _ _ =>
      rw [hv'] at hv
      cases hv with
      | view rows b off m off' hget hG hle hoff =>
        simp only [Q.run, hget, Option.bind_some] at h
        split at h
        · rename_i hc
          obtain ⟨_, rfl, hw⟩ := hc
          have hlen : ((rows.drop lo).take len).length = len := by simp; omega
          cases move with
          | true =>
            simp only [if_true, Q.run, Option.some.injEq] at h
            subst h
            simp only [putAll] at hp
            cases ht : Put.to ⟨q, hs, .dead⟩ σ with
            | none => rw [ht] at hp; cases hp
            | some τ =>
              rw [ht] at hp
              simp only [Option.bind_some, putAll, Option.some.injEq] at hp
              subst hp
              obtain ⟨n, h1, h2, h3⟩ := put_to ht
              simp only at h1 h2 h3
              rw [hget] at h1
              cases h1
              obtain ⟨vn, Fn, Fs', G', q1, q2, q3, q4, q5⟩ := k.take' hget h2 (n' := .dead) (.inr ⟨rfl, rfl⟩)
              have hh := q1.head rfl
              rw [List.append_nil, hG] at hh
              obtain ⟨b', off0, m', e1, _, e3, e4⟩ := q1.sub
              rw [← hh] at e1
              simp only [Value.slice.injEq, Option.some.injEq, Addr.mk.injEq, and_true, true_and] at e1
              obtain ⟨⟨rfl, rfl⟩, rfl⟩ := e1
              obtain ⟨G'', q6⟩ := e4 lo len off' hle (hoff.imp id (·.1))
              obtain ⟨vals, Gc, Fc, hR⟩ := rows_of (Fa := Fn) q6 hw (fun _ _ _ q => q)
              exact ⟨true, _, Fs', G', Fn, vals, Gc, Fc, rfl, fun x y q => (q2 x y q).1, by rw [h3]; exact q4, hR⟩
          | false =>
            simp only [Bool.false_eq_true, if_false] at h
            split at h
            · rename_i hb
              simp only [Q.run, Option.some.injEq] at h
              subst h
              obtain ⟨vn, q1⟩ := Rep.at hs (k.rep q) hget
              have hh := q1.head rfl
              rw [List.append_nil, hG] at hh
              obtain ⟨b', off0, m', e1, _, e3, e4⟩ := q1.sub
              rw [← hh] at e1
              simp only [Value.slice.injEq, Option.some.injEq, Addr.mk.injEq, and_true, true_and] at e1
              obtain ⟨⟨rfl, rfl⟩, rfl⟩ := e1
              obtain ⟨G'', q6⟩ := e4 lo len off' hle (hoff.imp id (·.1))
              obtain ⟨vals, Gc, Fc, hR⟩ := rows_bare q6 hw hb
              exact ⟨false, _, Fs, G, no, vals, Gc, Fc, rfl, fun _ _ q => q.elim, nilk rfl, hR⟩
            · cases h
        · cases h
    | _ => rw [hv'] at hv; cases hv
  | _ => cases h

theorem run_append_fits {t tx ty e : TypeId} {i : TypeInfo} (ht : P.underlying t = some (.slice e)) (hx : ∃ d, P.underlying tx = some d ∧ ∀ k, d ≠ .int k) (hi : P.info? e = some i)
    {base : Option Addr} {n c m : Nat} {x : Value} {vals : List Value} (hl : (Builtin.lenOf x).run P w = .ok m w) (hf : (Builtin.firstCells i.size m x).run P w = .ok vals.toArray w) (hroom : n + m ≤ c) :
    (Builtin.append_ #[t, tx] ty #[.slice base n c, x]).run P w =
      ((match base with | some a => storeCells (a.add (n * i.size)) vals | none => pure ()).run P w).andThen fun _ w' => .ok (.slice base (n + m) c) w' := by
  obtain ⟨d, hd, hk⟩ := hx
  have hz : (d matches .int _) = false := by cases d <;> first | rfl | exact absurd rfl (hk _)
  cases base <;> simp [Builtin.append_, run_under ht, run_under hd, sizeOf, typeInfo, hi, hl, hf, hroom, hz]

theorem run_append_grows {t tx ty e : TypeId} {i : TypeInfo} {z : Value} (ht : P.underlying t = some (.slice e)) (hx : ∃ d, P.underlying tx = some d ∧ ∀ k, d ≠ .int k) (hi : P.info? e = some i)
    (hz : i.zero = some z)
    {base : Option Addr} {n c m : Nat} {x : Value} {olds vals : List Value} (hl : ∀ W, (Builtin.lenOf x).run P W = .ok m W) (hf : (Builtin.firstCells i.size m x).run P w.drew = .ok vals.toArray w.drew)
    (ho : (Builtin.firstCells i.size n (.slice base n c)).run P w.drew = .ok olds.toArray w.drew)
    (hroom : ¬ n + m ≤ c) (h63 : ((n + m : Nat) : Int) ≤ 9223372036854775807) (hfit : Builtin.nextslicecap (n + m) c * i.bytes ≤ 281474976710656) :
    (Builtin.append_ #[t, tx] ty #[.slice base n c, x]).run P w = .ok (.slice (some ⟨w.heap.size, 0, none⟩) (n + m) (grownCap w (n + m) c e))
        (w.drew.alloc (.cells (olds.toArray ++ vals.toArray ++ Builtin.zeroCells z.cells (grownCap w (n + m) c e - (n + m))) e)) := by
  obtain ⟨d, hd, hk⟩ := hx
  have hzz : (d matches .int _) = false := by cases d <;> first | rfl | exact absurd rfl (hk _)
  have h63' : ¬ (9223372036854775807 < ((n : Int) + (m : Int))) := by omega
  have h48' : ¬ (281474976710656 < Builtin.nextslicecap (n + m) c * i.bytes) := by omega
  have hq : (Question.appendCap (n + m) c e).forced = false := rfl
  simp [Builtin.append_, run_under ht, run_under hd, sizeOf, typeInfo, zeroValue, hi, hz, hl, hf, ho, hroom, hzz, h63', h48', hq, newRow, grownCap]
  congr 2
  apply Array.ext'
  simp [List.append_assoc]

/-- two runs of rows, one behind the other. -/
theorem cellOf_append {r1 r2 : List (List AV)} {h : Nat × Nat} {x : AV} (hx : cellOf (r1 ++ r2) h = some x) :
    (h.1 < r1.length ∧ cellOf r1 h = some x) ∨ (r1.length ≤ h.1 ∧ cellOf r2 (h.1 - r1.length, h.2) = some x) := by
  unfold cellOf at hx ⊢
  by_cases hlt : h.1 < r1.length
  · rw [List.getElem?_append_left hlt] at hx; exact .inl ⟨hlt, hx⟩
  · rw [List.getElem?_append_right (by omega)] at hx; exact .inr ⟨by omega, hx⟩

theorem getD_append_l {l1 l2 : List Value} {j : Nat} (h : j < l1.length) : (l1 ++ l2).getD j undef = l1.getD j undef := by
  simp [List.getD, List.getElem?_append_left h]
theorem getD_append_r {l1 l2 : List Value} {j : Nat} (h : l1.length ≤ j) : (l1 ++ l2).getD j undef = l2.getD (j - l1.length) undef := by
  simp [List.getD, List.getElem?_append_right h]

/-- parts of two runs of rows. -/
theorem two_rep {e : Nat} {old new : List (List AV)} {olds vals : List Value} {Gco Gcn : Nat × Nat → Hops → Value} {Fco Fcn : Nat × Nat → Foot}
    (hol : olds.length = old.length * e) (hro : ∀ row ∈ old, row.length = e) (hrn : ∀ row ∈ new, row.length = e)
    (ho : ∀ h x, cellOf old h = some x → Rep w Z (Gco h) x (olds.getD (h.1 * e + h.2) undef) (Fco h))
    (hn : ∀ h x, cellOf new h = some x → Rep w Z (Gcn h) x (vals.getD (h.1 * e + h.2) undef) (Fcn h)) :
    ∀ h x, cellOf (old ++ new) h = some x → Rep w Z (if h.1 < old.length then Gco h else Gcn (h.1 - old.length, h.2)) x ((olds ++ vals).getD (h.1 * e + h.2) undef) (if h.1 < old.length then Fco h else Fcn (h.1 - old.length, h.2)) := by
  intro h x hx
  rcases cellOf_append hx with ⟨h1, h2⟩ | ⟨h1, h2⟩
  · simp only [h1, if_true]
    obtain ⟨_, l2⟩ := cellOf_lt h2 hro
    rw [getD_append_l (by rw [hol]; exact addr_lt h1 l2)]
    exact ho h x h2
  · have h1' : ¬ h.1 < old.length := by omega
    simp only [h1', if_false]
    have heq : h.1 * e + h.2 - olds.length = (h.1 - old.length) * e + h.2 := by
      rw [hol, Nat.sub_mul]
      have := Nat.mul_le_mul_right e h1
      omega
    rw [getD_append_r (by rw [hol]; have := Nat.mul_le_mul_right e h1; omega), heq]
    exact hn _ x h2

theorem two_dis {n : Nat} {Fco Fcn : Nat × Nat → Foot} {Fa Fb : Foot} (hdisj : ∀ x y, Fb x y → ¬ Fa x y) (so : ∀ h x y, Fco h x y → Fa x y) (sn : ∀ h x y, Fcn h x y → Fb x y)
    (dob : ∀ h g x y, Fco h x y → Fco g x y → h = g) (dn : ∀ h g x y, Fcn h x y → Fcn g x y → h = g) :
    ∀ (h g : Nat × Nat) x y, (if h.1 < n then Fco h else Fcn (h.1 - n, h.2)) x y → (if g.1 < n then Fco g else Fcn (g.1 - n, g.2)) x y → h = g := by
  intro h g x y q q'
  by_cases h1 : h.1 < n <;> by_cases h2 : g.1 < n <;> simp only [h1, h2, if_true, if_false] at q q'
  · exact dob _ _ _ _ q q'
  · exact (hdisj _ _ (sn _ _ _ q') (so _ _ _ q)).elim
  · exact (hdisj _ _ (sn _ _ _ q) (so _ _ _ q')).elim
  · have := dn _ _ _ _ q q'
    simp only [Prod.mk.injEq] at this
    exact Prod.ext (by omega) this.2

/-- what an append comes to: into room of one's own, or anew. -/
theorem append_core (hT : TOk P T) {t tx ty el : TypeId} (ht : (T t).d = .slice el) (htx : srcT T tx = true) (hsz : 0 < (T el).size) (hok : (T el).ok = true)
    {s x : Value} {av bv v : AV} {σ1 : Slots} (hrun : (appendTo (T el) av bv).run σ1 = some (v, σ'))
    {Fa Fb : Foot} (k : Ok w0 F0 Z0 (fun x y => Fa x y ∨ Fb x y) (pk σ1) a.tmps w Z Fs G) (hdisj : ∀ x y, Fb x y → ¬ Fa x y)
    {Ga : Hops → Value} (hs : Rep w Z Ga av s Fa) {own : Bool} {rows : List (List AV)} (hb : bv = .slc own (T el).size rows) {vals : List Value} {Gc : Nat × Nat → Hops → Value} {Fc : Nat × Nat → Foot}
    (hx : Rows w Z (T el).size rows x Fb vals Gc Fc) :
    ∃ (val : Value) (w' : World), (Builtin.append_ #[t, tx] ty #[s, x]).run P w = .ok val w' ∧ Out w0 F0 Z0 (pk σ') a.tmps w' v val := by
  have hunt : P.underlying t = some (.slice el) := hT.slice ht
  obtain ⟨i, hi1, hi2, hi3⟩ := hT.bytes (ok_ne hok)
  have hunx : ∃ d, P.underlying tx = some d ∧ ∀ k, d ≠ .int k := by
    unfold srcT at htx
    have hne : (T tx).d ≠ .other := by intro h; rw [h] at htx; cases htx
    obtain ⟨d, h1, h2⟩ := hT.under hne
    refine ⟨d, h1, fun k hk => ?_⟩
    subst hk
    cases hd : (T tx).d <;> rw [hd] at h2 htx <;> simp [TDok] at h2 htx
  obtain ⟨i', d', z, z1, z2, z3, z4, z5, z6, z7⟩ := (hT el (ok_ne hok)).ok
  rw [hi1] at z1
  simp only [Option.some.injEq] at z1
  subst z1
  have hzs : z.cells.size = (T el).size := by rw [← (hT el (ok_ne hok)).len, ← z6]; simp
  -- anew
  have anew : ∀ (old : List (List AV)) (olds : List Value) (Gco : Nat × Nat → Hops → Value) (Fco : Nat × Nat → Foot) (base : Option Addr) (n c : Nat), s = .slice base n c → n = old.length →
      olds.length = old.length * (T el).size → (∀ row ∈ old, row.length = (T el).size) → (∀ W, (∀ a, W.cell? a = w.cell? a) → (Builtin.firstCells (T el).size n (.slice base n c)).run P W = .ok olds.toArray W) →
      (∀ h x y, Fco h x y → Fa x y) → (∀ h g x y, Fco h x y → Fco g x y → h = g) →
      (∀ h x, cellOf old h = some x → Rep w Z (Gco h) x (olds.getD (h.1 * (T el).size + h.2) undef) (Fco h)) →
      ¬ n + rows.length ≤ c → (n + rows.length) * (T el).bytes ≤ room → 0 < (T el).bytes → v = .slc true (T el).size (old ++ rows) → σ' = σ1 →
      ∃ (val : Value) (w' : World), (Builtin.append_ #[t, tx] ty #[s, x]).run P w = .ok val w' ∧ Out w0 F0 Z0 (pk σ') a.tmps w' v val := by
    intro old olds Gco Fco base n c hsv hn hol hro hread hso hdo hrep hroom hfit hby hv hσ
    have hr32 : room = 4294967296 := rfl
    have hnb : n + rows.length ≤ (n + rows.length) * (T el).bytes := Nat.le_mul_of_pos_right _ hby
    have hrun := run_append_grows (P := P) (w := w) (ty := ty) hunt hunx hi1 z5 (base := base) (n := n) (c := c) (m := rows.length) (x := x) (olds := olds) (vals := vals) (fun W => hx.lenOf P W)
      (by rw [hi3]; exact hx.read P _ (fun _ => rfl)) (by rw [hi3]; exact hread _ (fun _ => rfl)) hroom (by omega) (by
        refine growslice_fits (by omega) ?_
        rw [hi2]; omega)
    rw [← hsv] at hrun
    have hge := grownCap_ge w (n + rows.length) c el
    generalize grownCap w (n + rows.length) c el = cap at hrun hge
    have hlast : cap - (n + rows.length) + (n + rows.length) = cap := by omega
    have kd : Ok w0 F0 Z0 (fun x y => Fa x y ∨ Fb x y) (pk σ1) a.tmps w.drew Z Fs G := k.within (fun x y _ _ => ⟨rfl, rfl, fun es c h => h⟩) rfl ⟨rfl, rfl, Nat.le_refl _, fun _ _ => .refl _, fun a h => frozen_out _ a h⟩
    have hvsz : (olds.toArray ++ vals.toArray ++ Builtin.zeroCells z.cells (cap - (n + rows.length))).size = cap * (T el).size := by
      simp only [Array.size_append, List.size_toArray, Builtin.zeroCells, Array.size_map, Array.size_range, hol, hx.len, hzs]
      rw [← Nat.add_mul, ← Nat.add_mul, ← hn]
      congr 1; omega
    have hrr : ∀ row ∈ old ++ rows, row.length = (T el).size := by
      intro row hr
      rcases List.mem_append.1 hr with h | h
      · exact hro row h
      · exact hx.row row h
    have htwo := two_rep hol hro hx.row hrep hx.rep
    obtain ⟨Gn, hnew⟩ := rep_new kd (nd := .slc true (T el).size (old ++ rows)) (e := (T el).size) (m := cap) (rows := old ++ rows)
      (vals := olds.toArray ++ vals.toArray ++ Builtin.zeroCells z.cells (cap - (n + rows.length))) (t := el) rfl hsz (by simp only [capOk, List.length_append]; omega) hrr hvsz _ _
      (fun h x y q => by
        by_cases h1 : h.1 < old.length
        · rw [if_pos h1] at q; exact .inl (hso _ _ _ q)
        · rw [if_neg h1] at q; exact .inr (hx.sub _ _ _ q)) (two_dis hdisj hso hx.sub hdo hx.dis) (fun h x' hx' => by
        have := (htwo h x' hx').agree (w' := w.drew) (fun x y _ => ⟨rfl, rfl, fun es c h => h⟩) (fun _ _ q => q)
        obtain ⟨l1, l2⟩ := cellOf_lt hx' hrr
        have hlt : h.1 * (T el).size + h.2 < (olds ++ vals).length := by
          rw [List.length_append, hol, hx.len, ← Nat.add_mul]
          exact addr_lt (by simpa using l1) l2
        have hg : (olds.toArray ++ vals.toArray ++ Builtin.zeroCells z.cells (cap - (n + rows.length))).getD (h.1 * (T el).size + h.2) undef = (olds ++ vals).getD (h.1 * (T el).size + h.2) undef := by
          rw [Array.getD_eq_getD_getElem?, List.getD]
          congr 1
          rw [Array.getElem?_append_left (by simpa using hlt)]
          simp
        rw [hg]; exact this)
    refine ⟨_, _, hrun, ?_⟩
    subst hv; subst hσ
    have := out_new kd (cs := olds.toArray ++ vals.toArray ++ Builtin.zeroCells z.cells (cap - (n + rows.length))) (et := el) ⟨Gn, hnew⟩ (fun _ _ _ => .slc)
    simpa [hdr, hn] using this
  subst hb
  simp only [appendTo] at hrun
  split at hrun
  · -- nothing yet
    have hs0 : s = .slice none 0 0 := by
      cases hs with
      | lit h => rfl
      | arr q o e rows b off m val Fc ha => simp [AV.arr] at ha
    split at hrun
    · rename_i hemp
      have hr0 : rows = [] := by simpa using hemp
      subst hr0
      simp only [M.run, Option.some.injEq, Prod.mk.injEq] at hrun
      obtain ⟨rfl, rfl⟩ := hrun
      have hv0 : vals = [] := List.length_eq_zero_iff.1 (by simpa using hx.len)
      have := run_append_fits (P := P) (w := w) (ty := ty) hunt hunx hi1 (base := none) (n := 0) (c := 0) (m := 0) (x := x) (vals := vals) (hx.lenOf P w) (by rw [hi3]; exact hx.read P w (fun _ => rfl)) (Nat.le_refl _)
      refine ⟨.slice none 0 0, w, by rw [hs0]; simpa using this, Z, Fs, G, _, fun _ => undef, k, .lit rfl, .lit⟩
    · split at hrun
      · rename_i hemp hc
        simp only [M.run, Option.some.injEq, Prod.mk.injEq] at hrun
        obtain ⟨h1, h2⟩ := hrun
        refine anew [] [] (fun _ _ => undef) (fun _ => no) none 0 0 hs0 rfl (by simp) (by simp) (fun W _ => by simp [Builtin.firstCells]) (fun _ _ _ q => q.elim) (fun _ _ _ _ q => q.elim) (fun h x hx => by simp [cellOf] at hx) ?_ (by simpa using hc.1) hc.2 (by simpa using h1.symm) h2.symm
        cases rows with
        | nil => simp at hemp
        | cons r rs => simp
      · cases hrun
  · -- a slice of one's own
    rename_i o' e' old
    split at hrun
    · rename_i hc
      obtain ⟨rfl, rfl, hc3, hc4⟩ := hc
      simp only [M.run, Option.some.injEq, Prod.mk.injEq] at hrun
      obtain ⟨h1, h2⟩ := hrun
      obtain ⟨b, off, m, olds, Gco, Fco, hsv, he, hm, hro, hol, hread, hown, hso, hdo, hrep⟩ := rows_read hs
      by_cases hroom : old.length + rows.length ≤ m
      · have hrun := run_append_fits (P := P) (w := w) (ty := ty) hunt hunx hi1 (base := some ⟨b, off, none⟩) (n := old.length) (c := m) (m := rows.length) (x := x) (vals := vals) (hx.lenOf P w) (by rw [hi3]; exact hx.read P w (fun _ => rfl)) hroom
        have hin : ∀ j, j < vals.length → old.length * (T el).size + j < m * (T el).size := by
          intro j hj
          rw [hx.len] at hj
          have := Nat.mul_le_mul_right (T el).size hroom
          rw [Nat.add_mul] at this
          omega
        have hst := run_storeCells_cells (P := P) b (off + old.length * (T el).size) vals 0 w (fun j hj => by have := (hown rfl _ (hin j hj)).2.2; rwa [← Nat.add_assoc] at this)
          (fun j hj => by have := (hown rfl _ (hin j hj)).2.1; rwa [← Nat.add_assoc] at this) hx.one
        simp only [add_none, hi3] at hrun
        simp only [Nat.add_zero] at hst
        rw [hst] at hrun
        simp only [Result.andThen_ok] at hrun
        -- the world behind it
        have hsame : ∀ x y, ¬ (x = b ∧ off + old.length * (T el).size ≤ y ∧ y < off + old.length * (T el).size + vals.length) → Same w (w.setCells b (off + old.length * (T el).size) vals) x y :=
          fun x y h => same_setCells b vals _ w x y h
        have hinX : ∀ x y, (x = b ∧ off + old.length * (T el).size ≤ y ∧ y < off + old.length * (T el).size + vals.length) → Fa x y := by
          rintro x y ⟨rfl, q1, q2⟩
          have := (hown rfl _ (hin (y - (off + old.length * (T el).size)) (by omega))).1
          rwa [show off + (old.length * (T el).size + (y - (off + old.length * (T el).size))) = y by omega] at this
        have k' := k.within (w' := w.setCells b (off + old.length * (T el).size) vals) (fun x y _ hn => hsame x y (fun q => hn (.inl (hinX x y q)))) (setCells_size _ _ _ _) (step_setCells _ _ _ _)
        refine ⟨_, _, by rw [hsv]; exact hrun, Z, Fs, G, fun x y => Fa x y ∨ Fb x y, ?_⟩
        subst h1; subst h2
        have hrr : ∀ row ∈ old ++ rows, row.length = (T el).size := by
          intro row hr
          rcases List.mem_append.1 hr with h | h
          · exact hro row h
          · exact hx.row row h
        have hfc : ∀ x y, Z x y → Same w (w.setCells b (off + old.length * (T el).size) vals) x y := fun x y q => hsame x y (fun u => (k.free x y (.inl (hinX x y u))).1 q)
        have hso' : ∀ h x y, Fco h x y → Same w (w.setCells b (off + old.length * (T el).size) vals) x y := fun h x y q => hsame x y (fun u => (hso h x y q).2.2 ⟨u.1, by omega, by
          have := hin (y - (off + old.length * (T el).size)) (by omega)
          omega⟩)
        have hsn' : ∀ h x y, Fc h x y → Same w (w.setCells b (off + old.length * (T el).size) vals) x y := fun h x y q => hsame x y (fun u => hdisj x y (hx.sub h x y q) (hinX x y u))
        have htwo := two_rep hol hro hx.row (fun h x hx' => (hrep h x hx').agree (w' := w.setCells b (off + old.length * (T el).size) vals) (fun x y q => q.elim (hso' h x y) (hfc x y)) (fun _ _ q => q))
          (fun h x hx' => (hx.rep h x hx').agree (w' := w.setCells b (off + old.length * (T el).size) vals) (fun x y q => q.elim (hsn' h x y) (hfc x y)) (fun _ _ q => q))
        have hcap : old.length + rows.length = (old ++ rows).length := by simp
        refine ⟨fun q => match q with | [] => .slice (some ⟨b, off, none⟩) (old.length + rows.length) m | h :: q => (if h.1 < old.length then Gco h else Gc (h.1 - old.length, h.2)) q, k', ?_, .slc⟩
        have hh : Value.slice (some ⟨b, off, none⟩) (old.length + rows.length) m = hdr (.slc true (T el).size (old ++ rows)) b off m := by simp [hdr]
        rw [hh]
        refine .arr _ true (T el).size (old ++ rows) b off m (fun h => (olds ++ vals).getD (h.1 * (T el).size + h.2) undef) _ rfl hsz (by simp only [capOk, List.length_append]; exact hroom) hrr ?_ (fun q => by cases q) ?_
          (two_dis (Fco := Fco) (Fcn := Fc) hdisj (fun h x y q => (hso h x y q).2.1) hx.sub hdo hx.dis) ?_ htwo rfl
        · intro _ j hj
          obtain ⟨q1, q2, q3⟩ := hown rfl j hj
          refine ⟨.inl q1, by rw [World.frozen?_setCells]; exact q2, ?_⟩
          by_cases hr : off + old.length * (T el).size ≤ off + j ∧ off + j < off + old.length * (T el).size + vals.length
          · have := World.cell?_setCells_in b vals (off + old.length * (T el).size) w (fun j hj => by have := (hown rfl _ (hin j hj)).2.2; rwa [← Nat.add_assoc] at this) (j - old.length * (T el).size) (by omega)
            rw [show off + old.length * (T el).size + (j - old.length * (T el).size) = off + j by omega] at this
            rw [this]; rfl
          · rw [(hsame b (off + j) (fun u => hr u.2)).cell]; exact q3
        · intro h x y q
          by_cases h1 : h.1 < old.length
          · simp only [h1, if_true] at q
            exact ⟨rfl, .inl (hso _ _ _ q).2.1, (hso _ _ _ q).2.2⟩
          · simp only [h1, if_false] at q
            refine ⟨rfl, .inr (hx.sub _ _ _ q), fun u => hdisj _ _ (hx.sub _ _ _ q) ?_⟩
            obtain ⟨rfl, u1, u2⟩ := u
            have := (hown rfl (y - off) (by omega)).1
            rwa [show off + (y - off) = y by omega] at this
        · intro h x' hx'
          obtain ⟨l1, l2⟩ := cellOf_lt hx' hrr
          simp only [List.length_append] at l1
          by_cases h1 : h.1 < old.length
          · have hlt : h.1 * (T el).size + h.2 < old.length * (T el).size := addr_lt h1 l2
            rw [getD_append_l (by omega)]
            rw [(hsame b _ (fun u => by omega)).cell]
            have hv : olds[h.1 * (T el).size + h.2]? = some (olds.getD (h.1 * (T el).size + h.2) undef) := by
              rw [List.getD, List.getElem?_eq_getElem (by omega)]; rfl
            have := hread _ _ hv
            rwa [add_none] at this
          · have hlt : h.1 * (T el).size + h.2 < (old.length + rows.length) * (T el).size := addr_lt l1 l2
            rw [Nat.add_mul, ← hol, ← hx.len] at hlt
            have hge : old.length * (T el).size ≤ h.1 * (T el).size := Nat.mul_le_mul_right _ (by omega)
            rw [getD_append_r (by omega)]
            have := World.cell?_setCells_in b vals (off + old.length * (T el).size) w (fun j hj => by have := (hown rfl _ (hin j hj)).2.2; rwa [← Nat.add_assoc] at this) (h.1 * (T el).size + h.2 - olds.length) (by omega)
            rw [show off + old.length * (T el).size + (h.1 * (T el).size + h.2 - olds.length) = off + (h.1 * (T el).size + h.2) by omega] at this
            rw [this, List.getD, List.getElem?_eq_getElem (by omega)]; rfl
      · exact anew old olds Gco Fco _ _ _ hsv rfl hol hro (fun W hW => run_firstCells_some (P := P) W _ _ _ _ _ olds hol (fun j v hj => by rw [hW]; exact hread j v hj)) (fun h x y q => (hso h x y q).2.1) hdo hrep hroom hc3 hc4 h1.symm h2.symm
    · cases hrun
  · cases hrun

theorem isAppend_inv {op : Op} {t t' : TypeId} {s x : Operand} (h : isAppend op = some (t, t', s, x)) : ∃ c, op = .call c ∧ c.callee = .builtin .append ∧ c.args = #[s, x] ∧ c.argTypes = #[t, t'] := by
  unfold isAppend at h
  split at h
  · rename_i args ats
    split at h
    · rename_i h1 h2
      simp only [Option.some.injEq, Prod.mk.injEq] at h
      obtain ⟨rfl, rfl, rfl, rfl⟩ := h
      exact ⟨_, rfl, rfl, by rw [← Array.toArray_toList (xs := args), h1], by rw [← Array.toArray_toList (xs := ats), h2]⟩
    · cases h
  · cases h

theorem sound_append (hT : TOk P T) (k : Ok w0 F0 Z0 no (pk σ) a.tmps w Z Fs G) {t t' : TypeId} {s x : Operand} {c : Call} (ho : o.op = .call c) (hc : c.callee = .builtin .append) (hA : c.args = #[s, x]) (hB : c.argTypes = #[t, t'])
    {move : Bool} (h : (evAppend T move t t' s x).run σ = some (v, σ')) : Sound P w0 F0 Z0 a w o σ' v := by
  have hexec : ∀ val w', (Builtin.append_ #[t, t'] o.type #[a.eval s, a.eval x]).run P w = .ok val w' → (execOp a.eval o).run P w = .ok (.value val) w' := by
    intro val w' hval
    simp [execOp, ho, resolve, hc, hA, hB, Go.invoke, Go.builtin, hval]
  unfold evAppend at h
  split at h
  · rename_i el hd
    split at h
    · rename_i hcc
      obtain ⟨c1, c2, c3⟩ := hcc
      simp only [M.run] at h
      replace h := bind_some_inv h
      obtain ⟨r1, hr1, h⟩ := h
      replace h := bind_some_inv h
      obtain ⟨σ1, hσ1, h⟩ := h
      replace h := bind_some_inv h
      obtain ⟨r2, hr2, h⟩ := h
      replace h := bind_some_inv h
      obtain ⟨σ2, hσ2, h⟩ := h
      rw [Q.run_bind] at hr1
      replace hr1 := bind_some_inv hr1
      obtain ⟨u, hu, hr1⟩ := hr1
      obtain ⟨hr, hv⟩ := opnd_ok k hu
      obtain ⟨Z', Fs', G', Fa, Ga, a1, a2, a3, a4, a5, a6⟩ := absorb_ok k hr1 hσ1 hr hv
      have idle : (fun x y => no x y ∨ Fa x y) = Fa := by funext x y; simp [no]
      rw [idle] at a3
      obtain ⟨own, rows, Fs2, G2, Fb, vals, Gc, Fc, b1, b2, b3, b4⟩ := src_ok a3 c2 hr2 hσ2
      obtain ⟨val, w', e1, e2⟩ := append_core (ty := o.type) hT hd c1 c2 c3 h b3 b2 a4 b1 b4
      exact ⟨val, w', .inl (hexec val w' e1), e2⟩
    · cases h
  · cases h

end
end Go.V
