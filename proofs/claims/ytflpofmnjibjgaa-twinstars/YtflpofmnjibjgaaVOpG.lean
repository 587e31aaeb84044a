/- V: what makes memory. -/
import Derived.Test.YtflpofmnjibjgaaVOpF
set_option linter.unusedVariables false
set_option linter.unusedSimpArgs false
namespace Go.V
open Go

theorem same_alloc (w : World) (ob : Obj) {x : Nat} (y : Nat) (h : x < w.heap.size) : Same w (w.alloc ob) x y := by
  refine ⟨World.cell?_alloc_lt _ _ _ (by simpa using h), ?_, ?_⟩
  · exact World.frozen?_alloc_old _ _ _ (by simp; omega)
  · intro es c hh
    simp only [World.alloc, Array.getElem?_push]
    rw [if_neg (by omega)]; exact hh

theorem step_alloc (w : World) (ob : Obj) (hob : ∀ c t fr, ob = .cells c t fr → fr = (0, 0)) : Step w (w.alloc ob) := by
  refine ⟨rfl, rfl, by simp, fun x hx => ?_, fun a ha => ?_⟩
  · simp only [World.alloc, Array.getElem?_push]
    rw [if_neg (by omega)]; exact .refl _
  · by_cases h : a.block = w.heap.size
    · have e1 : (w.alloc ob).heap[a.block]? = some ob := by simp only [World.alloc, Array.getElem?_push, h, if_true]
      simp only [World.frozen?, e1]
      cases ob with
      | cells c t fr => have := hob c t fr rfl; subst this; simp
      | _ => rfl
    · have e1 : (w.alloc ob).heap[a.block]? = none := by
        simp only [World.alloc, Array.getElem?_push, h, if_false]
        rw [Array.getElem?_eq_none_iff]; exact ha
      simp only [World.frozen?, e1]

section
variable {P : Program} {T : TypeId → TI} {w0 : World} {F0 Z0 X : Foot} {f : Nat → AV} {ts : Array Value} {σ σ' : Slots} {w : World} {Z : Foot} {Fs : Nat → Foot} {G : Nat → Hops → Value} {a : Act}
  {o : Oper} {v : AV} {ps : List Put} {pol : Bool}

def withNew (X : Foot) (w : World) : Foot := fun x y => X x y ∨ x = w.heap.size

/-- a new row of cells. -/
theorem Ok.alloc (k : Ok w0 F0 Z0 X f ts w Z Fs G) (ob : Obj) (hob : ∀ c t fr, ob = .cells c t fr → fr = (0, 0)) : Ok w0 F0 Z0 (withNew X w) f ts (w.alloc ob) Z Fs G := by
  have hs : ∀ x y, x < w.heap.size → Same w (w.alloc ob) x y := fun x y h => same_alloc w ob y h
  have hsz : (w.alloc ob).heap.size = w.heap.size + 1 := by simp
  refine ⟨fun t => (k.rep t).agree (fun x y q => q.elim (fun q => hs x y (k.foot t x y q).2.2.1) (fun q => hs x y (k.shared x y q).1)) (fun _ _ q => q), k.vok, k.dis, ?_, ?_, k.base, ?_, ?_, ?_, k.step.trans (step_alloc w ob hob)⟩
  · intro t x y q
    have q' := k.foot t x y q
    exact ⟨q'.1, fun u => u.elim q'.2.1 (fun u => by omega), by omega, q'.2.2.2⟩
  · rintro x y (q | rfl)
    · have q' := k.free x y q; exact ⟨q'.1, by omega, q'.2.2⟩
    · exact ⟨fun u => by have := (k.shared _ _ u).1; omega, by omega, .inr k.grows⟩
  · intro x y q; have q' := k.shared x y q; exact ⟨by omega, q'.2⟩
  · have := k.grows; omega
  · intro x y hx hn; exact (k.keep x y hx hn).trans (hs x y (by have := k.grows; omega))

theorem rep_new (k : Ok w0 F0 Z0 X f ts w Z Fs G) {nd : AV} {e m : Nat} {rows : List (List AV)} {vals : Array Value} {t : TypeId} (ha : nd.arr = some (true, e, rows)) (he : 0 < e) (hm : capOk nd m)
    (hrow : ∀ row ∈ rows, row.length = e) (hsz : vals.size = m * e) (Gc : Nat × Nat → Hops → Value) (Fc : Nat × Nat → Foot) (hsub : ∀ h x y, Fc h x y → X x y)
    (hdis : ∀ h g x y, Fc h x y → Fc g x y → h = g) (hrep : ∀ h x, cellOf rows h = some x → Rep w Z (Gc h) x (vals.getD (h.1 * e + h.2) undef) (Fc h)) :
    ∃ Gn, Rep (w.alloc (.cells vals t)) Z Gn nd (hdr nd w.heap.size 0 m) (withNew X w) := by
  have hle := rows_le ha hm
  refine ⟨fun q => match q with | [] => hdr nd w.heap.size 0 m | h :: q => Gc h q, .arr nd true e rows w.heap.size 0 m (fun h => vals.getD (h.1 * e + h.2) undef) Fc ha he hm hrow ?_ (fun q => by cases q) ?_ hdis ?_ ?_ rfl⟩
  · intro _ j hj
    refine ⟨.inr rfl, by simp, ?_⟩
    have : j < vals.size := by omega
    simp [this]
  · intro h x y q
    have q' := k.free x y (hsub h x y q)
    exact ⟨rfl, .inl (hsub h x y q), fun u => by omega⟩
  · intro h x hx
    obtain ⟨l1, l2⟩ := cellOf_lt hx hrow
    have hlt : h.1 * e + h.2 < vals.size := by rw [hsz]; exact addr_lt (by omega) l2
    obtain ⟨u, hu1, hu2⟩ := getD_lt hlt
    rw [hu2]
    simp [hu1]
  · intro h x hx
    exact (hrep h x hx).agree (fun x' y' q => q.elim (fun q => same_alloc w _ y' (k.free x' y' (hsub _ _ _ q)).2.1) (fun q => same_alloc w _ y' (k.shared x' y' q).1)) (fun _ _ q => q)

/-- a value's cells, each by itself. -/
theorem cells_rep {val : Value} {F : Foot} {Gx : Hops → Value} (hr : Rep w Z Gx v val F) (hw : v.cellsOf.all AV.word = true) :
    v.cellsOf.length = val.cells.size ∧ ∃ (Gc : Nat → Hops → Value) (Fc : Nat → Foot), (∀ i x y, Fc i x y → F x y) ∧ (∀ i j x y, Fc i x y → Fc j x y → i = j) ∧
      ∀ (i : Nat) (x : AV), v.cellsOf[i]? = some x → Rep w Z (Gc i) x (val.cells.getD i undef) (Fc i) ∧ (val.cells.getD i undef).oneCell' = true := by
  have word_one : ∀ {Gx : Hops → Value} {x : AV} {u : Value} {F : Foot}, Rep w Z Gx x u F → x.word = true → u.oneCell' = true := by
    intro Gx x u F hr hw
    rcases hr.one (by cases x <;> first | rfl | cases hw) (fun q => by subst q; cases hw) with h | ⟨z, rfl⟩
    · exact h
    · cases hr with
      | lit _ => exact hw
      | arr q o e rows b off m val Fc ha he hm hrow hown hshr hsub hdis hcell hrep hG => simp [AV.arr] at ha
  have single : v.cellsOf = [v] → v.cellsOf.length = val.cells.size ∧ ∃ (Gc : Nat → Hops → Value) (Fc : Nat → Foot), (∀ i x y, Fc i x y → F x y) ∧ (∀ i j x y, Fc i x y → Fc j x y → i = j) ∧
      ∀ (i : Nat) (x : AV), v.cellsOf[i]? = some x → Rep w Z (Gc i) x (val.cells.getD i undef) (Fc i) ∧ (val.cells.getD i undef).oneCell' = true := by
    intro h1
    rw [h1] at hw ⊢
    simp only [List.all_cons, List.all_nil, Bool.and_true] at hw
    have hone := word_one hr hw
    have hcells : val.cells = #[val] := by cases val <;> first | rfl | cases hone
    rw [hcells]
    refine ⟨rfl, fun _ => Gx, fun i x y => i = 0 ∧ F x y, fun i x y q => q.2, fun i j x y q q' => q.1.trans q'.1.symm, ?_⟩
    intro i x hx
    cases i with
    | zero =>
      simp only [List.getElem?_cons_zero, Option.some.injEq] at hx
      subst hx
      exact ⟨by simpa using hr, by simpa using hone⟩
    | succ i => simp at hx
  cases v with
  | agg cs =>
    cases hr with
    | agg _ vs Gc Fc hl hsub hdis hrep =>
      refine ⟨by simp [AV.cellsOf, Value.cells, hl], Gc, Fc, hsub, hdis, ?_⟩
      intro i x hx
      simp only [AV.cellsOf] at hx hw
      have := hrep i x hx
      exact ⟨this, word_one this (List.all_eq_true.1 hw x (List.mem_of_getElem? hx))⟩
    | arr q o e rows b off m val Fc ha he hm hrow hown hshr hsub hdis hcell hrep hG => simp [AV.arr] at ha
  | _ => exact single rfl

theorem out_new (k : Ok w0 F0 Z0 X (pk σ') a.tmps w Z Fs G) {nd : AV} {cs : Array Value} {et : TypeId} {m : Nat} (hr : ∃ Gn, Rep (w.alloc (.cells cs et)) Z Gn nd (hdr nd w.heap.size 0 m) (withNew X w)) (hv : ∀ f G u, Vok f G nd u) :
    Out w0 F0 Z0 (pk σ') a.tmps (w.alloc (.cells cs et)) nd (hdr nd w.heap.size 0 m) := by
  obtain ⟨Gn, hr⟩ := hr
  exact ⟨Z, Fs, G, withNew X w, Gn, k.alloc _ (fun c t fr h => by cases h; rfl), hr, hv _ _ _⟩

theorem sound_alloc (hT : TOk P T) (k : Ok w0 F0 Z0 no (pk σ) a.tmps w Z Fs G) {t : TypeId} (ho : o.op = .alloc t)
    (h : (evOp P T pol (.alloc t)).run σ = some (v, ps)) (hσ : putAll ps σ = some σ') : Sound P w0 F0 Z0 a w o σ' v := by
  simp only [evOp, Q.run_bind'] at h
  replace h := bind_some_inv h
  obtain ⟨_, hg0, h⟩ := h
  have hg := guardQ_run hg0
  clear hg0
  simp only [Bool.and_eq_true, decide_eq_true_eq] at hg
  simp only [Q.run_pure, Option.some.injEq, Prod.mk.injEq] at h
  obtain ⟨rfl, rfl⟩ := h
  have := nil2 hσ
  subst this
  have h1 := hT t (ok_ne hg.2)
  obtain ⟨z, hz1, hz2⟩ := hT.zero (ok_ne hg.2) w
  have hlen : ((T t).zero.map AV.lit).length = (T t).size := by simp [h1.len]
  have hsz : z.cells.size = (T t).size := by rw [← h1.len, ← hz2]; simp
  refine ⟨.pointer (some ⟨w.heap.size, 0, none⟩), w.alloc (.cells z.cells t), .inl ?_, ?_⟩
  · simp [execOp, ho, Instr.alloc, hz1, newVar, newRow]
  · refine out_new (nd := .box true ((T t).zero.map .lit)) (m := 1) k (rep_new k (e := (T t).size) (rows := [(T t).zero.map AV.lit]) (by simp only [AV.arr, hlen]) hg.1 rfl (fun row hr => by simp only [List.mem_singleton] at hr; rw [hr, hlen]) (by omega) (fun _ _ => undef) (fun _ => no) (fun h x y q => q.elim) (fun h g x y q => q.elim) ?_) (fun _ _ _ => .box)
    intro h x hx
    obtain ⟨l1, l2⟩ := cellOf_lt hx (e := (T t).size) (fun row hr => by simp only [List.mem_singleton] at hr; rw [hr, hlen])
    have h0 : h.1 = 0 := by simpa using l1
    simp only [cellOf, h0, List.getElem?_cons_zero, Option.bind_some, List.getElem?_map] at hx
    cases hq : (T t).zero[h.2]? with
    | none => rw [hq] at hx; cases hx
    | some u =>
      rw [hq] at hx
      simp only [Option.map_some, Option.some.injEq] at hx
      subst hx
      have : z.cells.getD (h.1 * (T t).size + h.2) undef = u := by
        rw [h0, Nat.zero_mul, Nat.zero_add]
        refine getD_eq ?_
        rw [← Array.getElem?_toList, hz2]; exact hq
      rw [this]
      exact .lit (List.all_eq_true.1 h1.pl u (List.mem_of_getElem? hq))

theorem sound_box (k : Ok w0 F0 Z0 no (pk σ) a.tmps w Z Fs G) {t : TypeId} {x : Operand} (ho : o.op = .box t x)
    (h : (evOp P T pol (.box t x)).run σ = some (v, ps)) (hσ : putAll ps σ = some σ') : Sound P w0 F0 Z0 a w o σ' v := by
  simp only [evOp, Q.run_bind'] at h
  replace h := bind_some_inv h
  obtain ⟨y, hy, h⟩ := h
  replace h := bind_some_inv h
  obtain ⟨_, hg0, h⟩ := h
  have hg := guardQ_run hg0
  clear hg0
  simp only [Bool.and_eq_true, decide_eq_true_eq, beq_iff_eq] at hg
  obtain ⟨⟨⟨g1, g2⟩, g3⟩, g4⟩ := hg
  simp only [Q.run_pure, Option.some.injEq, Prod.mk.injEq] at h
  obtain ⟨rfl, rfl⟩ := h
  obtain ⟨Z', Fs', G', Fa, Ga, a1, a2, a3, a4, a5, a6⟩ := take_ok k hy hσ
  obtain ⟨c1, Gc, Fc, c2, c3, c4⟩ := cells_rep a4 g3
  refine ⟨.pointer (some ⟨w.heap.size, 0, none⟩), w.alloc (.cells (a.eval x).cells t), .inl ?_, ?_⟩
  · simp [execOp, ho, Instr.box, newVar, newRow]
  · refine out_new (nd := .box true y.1.cellsOf) (m := 1) a3 (rep_new a3 (e := (T t).size) (rows := [y.1.cellsOf]) (by simp only [AV.arr, g1]) g2 rfl (fun row hr => by simp only [List.mem_singleton] at hr; rw [hr, g1]) (by omega) (fun h => Gc h.2) (fun h x y => h.1 = 0 ∧ Fc h.2 x y) (fun h x y q => .inr (c2 _ _ _ q.2)) (fun h g x y q q' => Prod.ext (q.1.trans q'.1.symm) (c3 _ _ _ _ q.2 q'.2)) ?_) (fun _ _ _ => .box)
    intro h x' hx
    obtain ⟨l1, l2⟩ := cellOf_lt hx (e := (T t).size) (fun row hr => by simp only [List.mem_singleton] at hr; rw [hr, g1])
    have h0 : h.1 = 0 := by simpa using l1
    simp only [cellOf, h0, List.getElem?_cons_zero, Option.bind_some] at hx
    have := (c4 h.2 x' hx).1
    rw [h0, Nat.zero_mul, Nat.zero_add]
    exact this.mono (fun x y q => ⟨rfl, q⟩)

end
end Go.V
