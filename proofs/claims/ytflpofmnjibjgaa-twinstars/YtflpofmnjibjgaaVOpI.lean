/- V: a store. -/
import Derived.Test.YtflpofmnjibjgaaVOpH
set_option linter.unusedVariables false
set_option linter.unusedSimpArgs false
namespace Go.V
open Go

theorem same_setCell (w : World) (b off : Nat) (v : Value) (x y : Nat) (h : ¬ (x = b ∧ y = off)) : Same w (w.setCell ⟨b, off, none⟩ v) x y := by
  refine ⟨World.cell?_setCell_other _ _ _ _ (fun e => h ?_), World.frozen?_setCell _ _ _ _, ?_⟩
  · simp only [Addr.mk.injEq, and_true] at e; exact ⟨e.1.symm, e.2.symm⟩
  · intro es c hh
    simp only [World.setCell, Array.getElem?_modify, hh]
    split <;> simp

theorem step_setCell (w : World) (b off : Nat) (v : Value) : Step w (w.setCell ⟨b, off, none⟩ v) := by
  refine ⟨rfl, rfl, by simp, fun x hx => ?_, fun a ha => by rw [World.frozen?_setCell]; exact frozen_out w a ha⟩
  simp only [World.setCell, Array.getElem?_modify]
  split
  · cases h : w.heap[x]? with
    | none => exact rfl
    | some o => cases o <;> simp [kin]
  · exact .refl _

section
variable {P : Program} {T : TypeId → TI} {w0 : World} {F0 Z0 X : Foot} {f : Nat → AV} {ts : Array Value} {σ σ' : Slots} {w : World} {Z : Foot} {Fs : Nat → Foot} {G : Nat → Hops → Value} {a : Act}
  {o : Oper} {v : AV} {ps : List Put} {pol : Bool}

/-- one cell, stored. -/
theorem store_one (k : Ok w0 F0 Z0 X (pk σ) ts w Z Fs G) {r : Nat} {hs : Hops} {i c : Nat} {b off : Nat} (hv : Vok (pk σ) G (.ref r hs i c) (.pointer (some ⟨b, off, none⟩)))
    {j : Nat} {z : AV} {u : Value} (hp : Put.to ⟨r, hs ++ [(i, c + j)], z⟩ σ = some σ') {Fz X' : Foot} {Gz : Hops → Value} (hz : Rep w Z Gz z u Fz) (hone : u.oneCell' = true)
    (hX : ∀ x y, Fz x y → X x y) (hX' : ∀ x y, X' x y → X x y ∧ ¬ Fz x y) :
    (store ((⟨b, off, none⟩ : Addr).add j) u).run P w = .ok () (w.setCell ⟨b, off + j, none⟩ u) ∧ ∃ Fs' G', Ok w0 F0 Z0 X' (pk σ') ts (w.setCell ⟨b, off + j, none⟩ u) Z Fs' G' ∧
      Vok (pk σ') G' (.ref r hs i c) (.pointer (some ⟨b, off, none⟩)) ∧ (∀ x y, X x y → Same w (w.setCell ⟨b, off + j, none⟩ u) x y) ∧ (∀ x y, Z x y → Same w (w.setCell ⟨b, off + j, none⟩ u) x y) := by
  obtain ⟨n, h1, h2, h3⟩ := put_to hp
  simp only at h1 h2 h3
  -- the place is a cell's
  obtain ⟨g, hs', hgs⟩ : ∃ g hs', hs ++ [(i, c + j)] = g :: hs' := by cases hs <;> exact ⟨_, _, rfl⟩
  rw [hgs] at h1 h2 h3
  obtain ⟨b', off', vn, F1, F2, k1, k2, k3, k4, k5, k6, k7, kat, k8⟩ := k.mem h1 h2
  obtain ⟨a', o', e', rows', off0, m', q1, q2, q3, q4⟩ := kat hs (i, c + j) hgs.symm
  have haddr : b' = b ∧ off' = off + j := by
    cases hv with
    | ref nd o e rows b off m hget ha hG =>
      rw [q1] at hget
      simp only [Option.some.injEq] at hget
      subst hget
      rw [q2] at ha
      simp only [Option.some.injEq, Prod.mk.injEq] at ha
      obtain ⟨_, rfl, _⟩ := ha
      rw [q3] at hG
      obtain ⟨e1, e2⟩ := hdr_inj hG
      subst e1; subst e2
      exact ⟨rfl, by rw [q4]; simp only; omega⟩
  obtain ⟨rfl, rfl⟩ := haddr
  have hlt := (k.foot r _ _ (k1 _ _ k4)).2.2.1
  refine ⟨?_, ?_⟩
  · rw [add_none, run_store P w _ u _ hone, k5]
    simp [k6]
  · have hsame : ∀ x y, ¬ (x = b' ∧ y = off + j) → Same w (w.setCell ⟨b', off + j, none⟩ u) x y := fun x y h => same_setCell w _ _ u x y h
    have hXs : ∀ x y, X x y → Same w (w.setCell ⟨b', off + j, none⟩ u) x y := fun x y h => hsame x y (fun e => by
      obtain ⟨rfl, rfl⟩ := e; exact (k.foot r _ _ (k1 _ _ k4)).2.1 h)
    have hZs : ∀ x y, Z x y → Same w (w.setCell ⟨b', off + j, none⟩ u) x y := fun x y h => hsame x y (fun e => by
      obtain ⟨rfl, rfl⟩ := e; exact (k.foot r _ _ (k1 _ _ k4)).1 h)
    have hok := k8 (w.setCell ⟨b', off + j, none⟩ u) Z X' z u Fz Gz (fun x y _ h => hsame x y h) (by simp) (step_setCell _ _ _ _) (World.cell?_setCell_same _ _ _ k5) (by rw [World.frozen?_setCell]; exact k6)
      (fun _ _ q => q) (fun x y q => by rw [World.size_setCell]; exact k.shared x y q) ?_ ?_ ?_ (hz.agree (fun x y q => q.elim (fun q => hXs x y (hX x y q)) (fun q => hZs x y q)) (fun _ _ q => q))
    · refine ⟨_, _, by rw [h3]; exact hok, ?_, hXs, hZs⟩
      have := k.names z Gz h1 hv
      rw [h3]
      cases hnn : n.node with
      | false => rw [hnn] at this; exact this
      | true =>
        rw [hnn] at this
        simp only [if_true] at this
        rw [kill_far rfl (by intro f cs h; cases h) (fun q hq hth => by
          simp only [AV.place, Option.some.injEq] at hq
          subst hq
          have := hth.2
          simp only at this
          -- a longer place does not run through a shorter one
          have hlen : ∀ (p q : Hops), Hops.through p q = true → p.length ≤ q.length := by
            intro p
            induction p with
            | nil => intro q _; simp
            | cons x p ih =>
              intro q hq
              cases q with
              | nil => simp [Hops.through] at hq
              | cons y q => simp only [Hops.through, Bool.and_eq_true] at hq; have := ih q hq.2; simp; exact this
          have := hlen _ _ this
          rw [← hgs] at this
          simp only [List.length_append, List.length_cons, List.length_nil] at this
          omega)] at this
        exact this
    · intro t x y q u'
      have q' := k.foot t x y q
      exact ⟨q'.1, fun h => q'.2.1 (hX' x y h).1, fun h => q'.2.1 (hX x y h)⟩
    · intro x y q
      have q' := k.free x y (hX x y q)
      exact ⟨q'.1, fun h => (hX' x y h).2 q, by rw [World.size_setCell]; exact q'.2.1, q'.2.2⟩
    · intro x y q
      have q' := k.free x y (hX' x y q).1
      exact ⟨q'.1, by rw [World.size_setCell]; exact q'.2.1, q'.2.2⟩

/-- a row of cells, stored one after the other. -/
theorem store_cells {r : Nat} {hs : Hops} {i c : Nat} {b off : Nat} {Gc : Nat → Hops → Value} {Fc : Nat → Foot} (hdis : ∀ i j x y, Fc i x y → Fc j x y → i = j) :
    ∀ (zs : List AV) (us : List Value) (j : Nat) (σ σ' : Slots) (w : World) (X : Foot) (Fs : Nat → Foot) (G : Nat → Hops → Value),
      (X = fun x y => ∃ i, j ≤ i ∧ Fc i x y) → Ok w0 F0 Z0 X (pk σ) ts w Z Fs G → Vok (pk σ) G (.ref r hs i c) (.pointer (some ⟨b, off, none⟩)) → zs.length = us.length →
      (∀ (l : Nat) (z : AV) (u : Value), zs[l]? = some z → us[l]? = some u → Rep w Z (Gc (j + l)) z u (Fc (j + l)) ∧ u.oneCell' = true) →
      putAll ((zs.zipIdx j).map fun z => ⟨r, hs ++ [(i, c + z.2)], z.1⟩) σ = some σ' →
      ∃ w' X' Fs' G', (storeCells ⟨b, off, none⟩ us j).run P w = .ok () w' ∧ Ok w0 F0 Z0 X' (pk σ') ts w' Z Fs' G'
  | [], us, j, σ, σ', w, X, Fs, G, hX, k, hv, hl, hall, hp => by
    cases us with
    | cons u us => simp at hl
    | nil =>
      simp only [List.zipIdx_nil, List.map_nil, putAll, Option.some.injEq] at hp
      subst hp
      exact ⟨w, X, Fs, G, by simp [storeCells], k⟩
  | z :: zs, us, j, σ, σ', w, X, Fs, G, hX, k, hv, hl, hall, hp => by
    cases us with
    | nil => simp at hl
    | cons u us =>
      simp only [List.zipIdx_cons, List.map_cons, putAll] at hp
      cases ht : Put.to ⟨r, hs ++ [(i, c + j)], z⟩ σ with
      | none => rw [ht] at hp; cases hp
      | some τ =>
        rw [ht] at hp
        simp only [Option.bind_some] at hp
        obtain ⟨hz, hone⟩ := hall 0 z u rfl rfl
        simp only [Nat.add_zero] at hz
        obtain ⟨hrun, Fs', G', hk, hv', hXs, hZs⟩ := store_one (P := P) k hv ht (X' := fun x y => ∃ i, j + 1 ≤ i ∧ Fc i x y) hz hone (fun x y q => by rw [hX]; exact ⟨j, Nat.le_refl _, q⟩)
          (fun x y ⟨i', h1, h2⟩ => ⟨by rw [hX]; exact ⟨i', by omega, h2⟩, fun q => by have := hdis _ _ _ _ h2 q; omega⟩)
        obtain ⟨w', X', Fs'', G'', e1, e2⟩ := store_cells hdis zs us (j + 1) τ σ' _ _ Fs' G' rfl hk hv' (by simpa using hl)
          (fun l z' u' hz' hu' => by
            obtain ⟨q1, q2⟩ := hall (l + 1) z' u' hz' hu'
            rw [show j + 1 + l = j + (l + 1) by omega]
            exact ⟨q1.agree (fun x y q => q.elim (fun q => hXs x y (by rw [hX]; exact ⟨j + (l + 1), by omega, q⟩)) (fun q => hZs x y q)) (fun _ _ q => q), q2⟩) hp
        refine ⟨w', X', Fs'', G'', ?_, e2⟩
        simp only [storeCells, Sem.run_bind, hrun, Result.andThen_ok]
        exact e1

theorem sound_store (hT : TOk P T) (k : Ok w0 F0 Z0 no (pk σ) a.tmps w Z Fs G) {t : TypeId} {x y : Operand} (ho : o.op = .store t x y)
    (h : (evOp P T pol (.store t x y)).run σ = some (v, ps)) (hσ : putAll ps σ = some σ') : Sound P w0 F0 Z0 a w o σ' v := by
  simp only [evOp, Q.run_bind] at h
  replace h := bind_some_inv h
  obtain ⟨u, hu, h⟩ := h
  replace h := bind_some_inv h
  obtain ⟨q, hq, h⟩ := h
  replace h := bind_some_inv h
  obtain ⟨z, hz, h⟩ := h
  have hre := asRef_inv hq
  rw [hre] at hu
  split at h
  · rename_i hc
    obtain ⟨c1, c2, c3, c4⟩ := hc
    simp only [Q.run, Option.some.injEq, Prod.mk.injEq] at h
    obtain ⟨rfl, rfl⟩ := h
    rw [putAll_append] at hσ
    replace hσ := bind_some_inv hσ
    obtain ⟨σ1, hσ1, hσ⟩ := hσ
    obtain ⟨_, hv⟩ := opnd_ok k hu
    obtain ⟨Z', Fs', G', Fa, Ga, a1, a2, a3, a4, a5, a6⟩ := take_ok k hz hσ1
    have hv1 := a6 _ _ rfl (by intro f cs h; cases h) (fun p hp q' hq' => by
      simp only [AV.place, Option.some.injEq] at hq'
      subst hq'
      have := List.all_eq_true.1 c4 p hp
      simp only [Bool.not_eq_true', Bool.and_eq_false_iff, beq_eq_false_iff_ne, ne_eq] at this
      rintro ⟨e1, e2⟩
      rcases this with h | h
      · exact h e1.symm
      · rw [e2] at h; cases h) hv
    obtain ⟨d1, Gc, Fc, d2, d3, d4⟩ := cells_rep a4 c2
    have hptr : ∃ b off, a.eval x = .pointer (some ⟨b, off, none⟩) := by
      generalize a.eval x = val at hv
      cases hv with
      | ref => exact ⟨_, _, rfl⟩
    obtain ⟨b, off, hptr⟩ := hptr
    rw [hptr] at hv1
    have hX : Ok w0 F0 Z0 (fun x y => ∃ i, 0 ≤ i ∧ Fc i x y) (pk σ1) a.tmps w Z' Fs' G' := by
      refine ⟨a3.rep, a3.vok, a3.dis, ?_, ?_, a3.base, a3.shared, a3.grows, a3.keep, a3.step⟩
      · intro t x y q
        have q' := a3.foot t x y q
        exact ⟨q'.1, fun ⟨i, _, u⟩ => q'.2.1 (.inr (d2 _ _ _ u)), q'.2.2⟩
      · rintro x y ⟨i, _, q⟩
        exact a3.free x y (.inr (d2 _ _ _ q))
    have hlen : z.1.cellsOf.length = (a.eval y).cells.toList.length := by simpa using d1
    obtain ⟨w', X', Fs'', G'', e1, e2⟩ := store_cells (P := P) (Gc := Gc) d3 z.1.cellsOf (a.eval y).cells.toList 0 σ1 σ' w _ Fs' G' rfl hX hv1 hlen
      (fun l z' u' hz' hu' => by
        have := d4 l z' hz'
        have hg : (a.eval y).cells.getD l undef = u' := getD_eq (by rw [← Array.getElem?_toList]; exact hu')
        rw [hg] at this
        rw [Nat.zero_add]; exact this) hσ
    have hsz := hT.size (ok_ne c3) w
    refine ⟨undef, w', .inr ⟨?_, rfl⟩, Z', Fs'', G'', X', fun _ => undef, e2, .lit (by rfl), .lit⟩
    have hcs : (a.eval y).cells.size = (T t).size := by omega
    simp only [execOp, ho, Instr.storeAt, hptr, Instr.sureAddr, storeVar, Sem.run_bind, Sem.run_pure, Result.andThen_ok, hsz]
    rw [if_neg (by simp [hcs])]
    simp [e1]
  · cases h

end
end Go.V
