/- V: literals of structs, arrays, slices; make. -/
import Derived.Test.YtflpofmnjibjgaaVOpG
set_option linter.unusedVariables false
set_option linter.unusedSimpArgs false
namespace Go.V
open Go

section
variable {P : Program} {T : TypeId → TI} {w0 : World} {F0 Z0 X : Foot} {f : Nat → AV} {ts : Array Value} {σ σ' : Slots} {w : World} {Z : Foot} {Fs : Nat → Foot} {G : Nat → Hops → Value} {a : Act}
  {o : Oper} {v : AV} {ps : List Put} {pol : Bool}

/-- a row of words, each with what it holds. -/
structure Cells (w : World) (Z : Foot) (X : Foot) (cs : List AV) (vs : Array Value) (Gc : Nat → Hops → Value) (Fc : Nat → Foot) : Prop where
  len : cs.length = vs.size
  sub : ∀ i x y, Fc i x y → X x y
  dis : ∀ i j x y, Fc i x y → Fc j x y → i = j
  rep : ∀ (i : Nat) (x : AV), cs[i]? = some x → Rep w Z (Gc i) x (vs.getD i undef) (Fc i)

theorem foldl_set (pv : List Value) : ∀ (off b : Nat) (vs : Array Value) (i : Nat), off + b + pv.length ≤ vs.size →
    (((pv.zipIdx b).foldl (fun cs x => cs.setIfInBounds (off + x.2) x.1) vs)[i]? = if off + b ≤ i ∧ i < off + b + pv.length then pv[i - (off + b)]? else vs[i]?) ∧
    ((pv.zipIdx b).foldl (fun cs x => cs.setIfInBounds (off + x.2) x.1) vs).size = vs.size := by
  induction pv with
  | nil => intro off b vs i h; refine ⟨?_, rfl⟩; rw [if_neg (by simp)]; rfl
  | cons p pv ih =>
    intro off b vs i h
    simp only [List.length_cons] at h
    simp only [List.zipIdx_cons, List.foldl_cons]
    obtain ⟨h1, h2⟩ := ih off (b + 1) (vs.setIfInBounds (off + b) p) i (by simp; omega)
    refine ⟨?_, by rw [h2]; simp⟩
    rw [h1]
    simp only [List.length_cons]
    by_cases hi : i = off + b
    · subst hi
      rw [if_neg (by omega), if_pos (by omega), Array.getElem?_setIfInBounds, if_pos rfl, Nat.sub_self, List.getElem?_cons_zero, if_pos (by omega)]
    · by_cases hr : off + (b + 1) ≤ i ∧ i < off + (b + 1) + pv.length
      · rw [if_pos hr, if_pos (by omega)]
        rw [show i - (off + b) = (i - (off + (b + 1))) + 1 by omega]
        simp
      · rw [if_neg hr, if_neg (by omega)]
        rw [Array.getElem?_setIfInBounds]
        rw [if_neg (by omega)]

theorem fold_get (pv vs : Array Value) (off i : Nat) (h : off + pv.size ≤ vs.size) :
    ((pv.zipIdx.foldl (fun cs x => cs.setIfInBounds (off + x.2) x.1) vs)[i]? = if off ≤ i ∧ i < off + pv.size then pv[i - off]? else vs[i]?) ∧
    (pv.zipIdx.foldl (fun cs x => cs.setIfInBounds (off + x.2) x.1) vs).size = vs.size := by
  have e : pv.zipIdx.foldl (fun cs x => cs.setIfInBounds (off + x.2) x.1) vs = (pv.toList.zipIdx 0).foldl (fun cs x => cs.setIfInBounds (off + x.2) x.1) vs := by
    rw [← Array.foldl_toList, Array.toList_zipIdx]
  rw [e]
  have := foldl_set pv.toList off 0 vs i (by simpa using h)
  simpa using this

/-- a part laid into a row. -/
theorem Cells.lay {X1 X2 : Foot} {cs : List AV} {vs : Array Value} {Gc : Nat → Hops → Value} {Fc : Nat → Foot} (h : Cells w Z X1 cs vs Gc Fc) {pcs : List AV} {pvs : Array Value}
    {Gp : Nat → Hops → Value} {Fp : Nat → Foot} (hp : Cells w Z X2 pcs pvs Gp Fp) (hX : ∀ x y, X1 x y → X2 x y → False) {off : Nat} (hoff : off + pcs.length ≤ cs.length) :
    ∃ Gc' Fc', Cells w Z (fun x y => X1 x y ∨ X2 x y) (cs.take off ++ pcs ++ cs.drop (off + pcs.length)) (pvs.zipIdx.foldl (fun cs x => cs.setIfInBounds (off + x.2) x.1) vs) Gc' Fc' := by
  have hl := h.len
  have hpl := hp.len
  have hle : off + pvs.size ≤ vs.size := by omega
  refine ⟨fun i => if off ≤ i ∧ i < off + pcs.length then Gp (i - off) else Gc i, fun i => if off ≤ i ∧ i < off + pcs.length then Fp (i - off) else Fc i, ?_, ?_, ?_, ?_⟩
  · rw [(fold_get pvs vs off 0 hle).2]; simp; omega
  · intro i x y q
    split at q
    · exact .inr (hp.sub _ _ _ q)
    · exact .inl (h.sub _ _ _ q)
  · intro i j x y q q'
    split at q <;> split at q'
    · have := hp.dis _ _ _ _ q q'; omega
    · exact (hX x y (h.sub _ _ _ q') (hp.sub _ _ _ q)).elim
    · exact (hX x y (h.sub _ _ _ q) (hp.sub _ _ _ q')).elim
    · exact h.dis _ _ _ _ q q'
  · intro i x hx
    have hlen : (cs.take off).length = off := by simp; omega
    by_cases hi : off ≤ i ∧ i < off + pcs.length
    · have hx' : pcs[i - off]? = some x := by
        rw [List.append_assoc, List.getElem?_append_right (by omega), hlen, List.getElem?_append_left (by omega)] at hx; exact hx
      simp only [hi, and_self, if_true]
      have := hp.rep _ x hx'
      have hv : (pvs.zipIdx.foldl (fun cs x => cs.setIfInBounds (off + x.2) x.1) vs).getD i undef = pvs.getD (i - off) undef := by
        rw [Array.getD_eq_getD_getElem?, Array.getD_eq_getD_getElem?, (fold_get pvs vs off i hle).1, if_pos (by omega)]
      rw [hv]; exact this
    · have hx' : cs[i]? = some x := by
        by_cases h1 : i < off
        · rw [List.append_assoc, List.getElem?_append_left (by omega), List.getElem?_take, if_pos h1] at hx; exact hx
        · rw [List.getElem?_append_right (by simp; omega), List.getElem?_drop] at hx
          rw [← hx]; congr 1; simp; omega
      rw [if_neg hi, if_neg hi]
      have := h.rep _ x hx'
      have hv : (pvs.zipIdx.foldl (fun cs x => cs.setIfInBounds (off + x.2) x.1) vs).getD i undef = vs.getD i undef := by
        rw [Array.getD_eq_getD_getElem?, Array.getD_eq_getD_getElem?, (fold_get pvs vs off i hle).1, if_neg (by omega)]
      rw [hv]; exact this

/-- several things, taken one after the other. -/
structure Pieces (w : World) (Z X : Foot) (l : List AV) (vals : List Value) (Fa : Nat → Foot) (Ga : Nat → Hops → Value) : Prop where
  len : l.length = vals.length
  sub : ∀ i x y, Fa i x y → X x y
  dis : ∀ i j x y, Fa i x y → Fa j x y → i = j
  rep : ∀ (i : Nat) (x : AV) (u : Value), l[i]? = some x → vals[i]? = some u → Rep w Z (Ga i) x u (Fa i)

theorem takesM_ok : ∀ (xs : List Operand) (σ : Slots) (X Z : Foot) (Fs : Nat → Foot) (G : Nat → Hops → Value) (kk : List AV → M AV) (r : AV × Slots),
    Ok w0 F0 Z0 X (pk σ) a.tmps w Z Fs G → (takesM pol xs kk).run σ = some r →
    ∃ (l : List AV) (σ' : Slots) (Z' : Foot) (Fs' : Nat → Foot) (G' : Nat → Hops → Value) (X' : Foot) (Fa : Nat → Foot) (Ga : Nat → Hops → Value),
      (kk l).run σ' = some r ∧ (∀ x y, Z x y → Z' x y) ∧ Ok w0 F0 Z0 (fun x y => X x y ∨ X' x y) (pk σ') a.tmps w Z' Fs' G' ∧ (∀ x y, X' x y → ¬ X x y) ∧ Pieces w Z' X' l (xs.map a.eval) Fa Ga
  | [], σ, X, Z, Fs, G, kk, r, k, h => by
    refine ⟨[], σ, Z, Fs, G, no, fun _ => no, fun _ _ => undef, h, fun _ _ q => q, ?_, fun _ _ q => q.elim, ⟨rfl, fun _ _ _ q => q.elim, fun _ _ _ _ q => q.elim, fun i x u hx => by simp at hx⟩⟩
    have : (fun x y => X x y ∨ no x y) = X := by funext x y; simp [no]
    rw [this]; exact k
  | x :: xs, σ, X, Z, Fs, G, kk, r, k, h => by
    simp only [takesM, M.run] at h
    replace h := bind_some_inv h
    obtain ⟨y, hy, h⟩ := h
    replace h := bind_some_inv h
    obtain ⟨σ1, hσ, h⟩ := h
    obtain ⟨Z1, Fs1, G1, Fa, Ga, a1, a2, a3, a4, a5, a6⟩ := take_ok k hy hσ
    obtain ⟨l, σ', Z', Fs', G', X', Fb, Gb, b1, b2, b3, b4, b5⟩ := takesM_ok xs σ1 _ Z1 Fs1 G1 (fun l => kk (y.1 :: l)) r a3 h
    refine ⟨y.1 :: l, σ', Z', Fs', G', fun x y => Fa x y ∨ X' x y, fun i => match i with | 0 => Fa | i + 1 => Fb i, fun i => match i with | 0 => Ga | i + 1 => Gb i, b1, fun x y q => b2 _ _ (a1 _ _ q), ?_, ?_, ?_, ?_, ?_, ?_⟩
    · have : (fun x y => X x y ∨ (Fa x y ∨ X' x y)) = fun x y => (X x y ∨ Fa x y) ∨ X' x y := by funext x y; apply propext; constructor <;> (intro h; rcases h with h | h <;> first | exact .inl (.inl h) | (rcases h with h | h <;> first | exact .inl (.inr h) | exact .inr h | exact .inl h | exact .inr (.inl h)) | exact .inr (.inr h))
      rw [this]; exact b3
    · rintro x y (q | q)
      · exact a2 x y q
      · exact fun u => b4 x y q (.inl u)
    · simp [b5.len]
    · intro i x y q
      cases i with
      | zero => exact .inl q
      | succ i => exact .inr (b5.sub i x y q)
    · intro i j x y q u
      cases i <;> cases j
      · rfl
      · exact (b4 x y (b5.sub _ _ _ u) (.inr q)).elim
      · exact (b4 x y (b5.sub _ _ _ q) (.inr u)).elim
      · exact congrArg _ (b5.dis _ _ x y q u)
    · intro i z u hz hu
      cases i with
      | zero =>
        simp only [List.getElem?_cons_zero, Option.some.injEq, List.map_cons] at hz hu
        subst hz; subst hu
        exact a4.agree (fun x y _ => .refl w x y) b2
      | succ i =>
        simp only [List.getElem?_cons_succ, List.map_cons] at hz hu
        exact b5.rep i z u hz hu


/-- words at nothing. -/
theorem cells_plain {vs : List Value} (h : vs.all plain = true) {z : Array Value} (hz : z.toList = vs) : Cells w Z no (vs.map .lit) z (fun _ _ => undef) (fun _ => no) := by
  refine ⟨by rw [← hz]; simp, fun _ _ _ q => q, fun _ _ _ _ q => q.elim, ?_⟩
  intro i x hx
  rw [List.getElem?_map] at hx
  cases hq : vs[i]? with
  | none => rw [hq] at hx; cases hx
  | some u =>
    rw [hq] at hx
    simp only [Option.map_some, Option.some.injEq] at hx
    subst hx
    rw [getD_eq (u := u) (by rw [← Array.getElem?_toList, hz]; exact hq)]
    exact .lit (List.all_eq_true.1 h u (List.mem_of_getElem? hq))

theorem cells_of_rep {val : Value} {F : Foot} {Gx : Hops → Value} (hr : Rep w Z Gx v val F) (hw : v.cellsOf.all AV.word = true) : ∃ Gc Fc, Cells w Z F v.cellsOf val.cells Gc Fc := by
  obtain ⟨h1, Gc, Fc, h2, h3, h4⟩ := cells_rep hr hw
  exact ⟨Gc, Fc, h1, h2, h3, fun i x hx => (h4 i x hx).1⟩

/-- 'fill' does to cells what 'fillAt' does to trees. -/
theorem fill_ok (place : Nat → Option (Nat × Nat)) : ∀ (parts : List (Nat × AV)) (vals : List Value) (X1 X2 : Foot) (cs : List AV) (vs : Array Value) (Gc : Nat → Hops → Value) (Fc : Nat → Foot) (Fa : Nat → Foot) (Ga : Nat → Hops → Value) (out : List AV),
    Cells w Z X1 cs vs Gc Fc → Pieces w Z X2 (parts.map (·.2)) vals Fa Ga → (∀ x y, X1 x y → X2 x y → False) →
    fillAt cs (parts.map fun x => (place x.1, x.2)) = some out →
    ∃ vs', Instr.fill place vs ((parts.map (·.1)).zip vals) = some vs' ∧ ∃ Gc' Fc', Cells w Z (fun x y => X1 x y ∨ X2 x y) out vs' Gc' Fc'
  | [], vals, X1, X2, cs, vs, Gc, Fc, Fa, Ga, out, h, hp, _, hf => by
    simp only [List.map_nil, fillAt, Option.some.injEq] at hf
    subst hf
    exact ⟨vs, by simp [Instr.fill], Gc, Fc, h.len, fun i x y q => .inl (h.sub _ _ _ q), h.dis, h.rep⟩
  | (i, v) :: parts, vals, X1, X2, cs, vs, Gc, Fc, Fa, Ga, out, h, hp, hX, hf => by
    cases vals with
    | nil => have := hp.len; simp at this
    | cons u vals =>
      simp only [List.map_cons] at hf
      cases hpl : place i with
      | none => rw [hpl] at hf; simp [fillAt] at hf
      | some q =>
        obtain ⟨off, n⟩ := q
        rw [hpl] at hf
        simp only [fillAt] at hf
        split at hf
        · rename_i hc
          obtain ⟨c1, c2, c3⟩ := hc
          have h0 := hp.rep 0 v u rfl rfl
          obtain ⟨Gp, Fp, hcp⟩ := cells_of_rep h0 c3
          obtain ⟨Gc', Fc', hl⟩ := h.lay (X2 := Fa 0) hcp (fun x y q q' => hX x y q (hp.sub _ _ _ q')) (off := off) (by omega)
          have hp' : Pieces w Z (fun x y => ∃ j, Fa (j + 1) x y) (parts.map (·.2)) vals (fun j => Fa (j + 1)) (fun j => Ga (j + 1)) :=
            ⟨by have := hp.len; simpa using this, fun j x y q => ⟨j, q⟩, fun i j x y q q' => by have := hp.dis _ _ _ _ q q'; omega, fun j x u hx hu => hp.rep (j + 1) x u hx hu⟩
          obtain ⟨vs', e1, Gc'', Fc'', e2⟩ := fill_ok place parts vals _ _ _ _ Gc' Fc' _ _ out hl hp' (by
            rintro x y (q | q) ⟨j, q'⟩
            · exact hX x y q (hp.sub _ _ _ q')
            · have := hp.dis _ _ _ _ q q'; omega) (by rw [c1] ; exact hf)
          refine ⟨vs', ?_, Gc'', Fc'', e2.len, ?_, e2.dis, e2.rep⟩
          · simp only [List.map_cons, List.zip_cons_cons, Instr.fill, hpl]
            have hsz : u.cells.size = n := by have := hcp.len; omega
            rw [if_neg (by have := h.len; simp [hsz]; omega)]
            exact e1
          · intro j x y q
            rcases e2.sub _ _ _ q with (q | q) | ⟨j', q⟩
            · exact .inl q
            · exact .inr (hp.sub _ _ _ q)
            · exact .inr (hp.sub _ _ _ q)
        · cases hf

theorem zip_eval (parts : List (Nat × Operand)) (g : Operand → Value) : parts.map (fun x => (x.1, g x.2)) = (parts.map (·.1)).zip ((parts.map (·.2)).map g) := by
  induction parts with
  | nil => rfl
  | cons p parts ih => simp [ih]

theorem zip_map1 {α β : Type} : ∀ (l : List α) (m : List β), l.length = m.length → (l.zip m).map (·.1) = l
  | [], [], _ => rfl
  | x :: l, y :: m, h => by simp [zip_map1 l m (by simpa using h)]
theorem zip_map2 {α β : Type} : ∀ (l : List α) (m : List β), l.length = m.length → (l.zip m).map (·.2) = m
  | [], [], _ => rfl
  | x :: l, y :: m, h => by simp [zip_map2 l m (by simpa using h)]

theorem run_mapM {α β : Type} (g : α → Sem β) (h : α → β) (w : World) : ∀ (l : List α), (∀ x ∈ l, (g x).run P w = .ok (h x) w) → (l.mapM g).run P w = .ok (l.map h) w
  | [], _ => by simp
  | x :: l, hl => by
    simp only [List.mapM_cons, Sem.run_bind, hl x (List.mem_cons_self ..), Result.andThen_ok, run_mapM g h w l (fun y hy => hl y (List.mem_cons_of_mem _ hy)), Sem.run_pure, List.map_cons]

theorem TOk.struct' (hT : TOk P T) {t : TypeId} {fs : List (Nat × TypeId)} (h : (T t).d = .struct fs) :
    ∃ fields : Array Field, P.underlying t = some (.struct fields) ∧ fields.toList.map (fun f => (f.offset, f.type)) = fs := by
  obtain ⟨d, h1, h2⟩ := hT.under (t := t) (by rw [h]; simp)
  rw [h] at h2
  cases d <;> simp [TDok] at h2
  rename_i fields
  exact ⟨fields, h1, h2⟩

theorem build_finish (hT : TOk P T) (k : Ok w0 F0 Z0 X (pk σ') a.tmps w Z Fs G) {t : TypeId} {parts : Array (Nat × Operand)} {l : List AV} {Fa : Nat → Foot} {Ga : Nat → Hops → Value}
    (h5 : Pieces w Z X l ((parts.toList.map (·.2)).map a.eval) Fa Ga) (place : Nat → Option (Nat × Nat)) (out : List AV) (hok : (T t).ok = true)
    (hf : fillAt ((T t).zero.map .lit) (((parts.toList.map (·.1)).zip l).map fun x => (place x.1, x.2)) = some out)
    (hex : ∀ z : Value, z.cells.toList = (T t).zero → ∀ vs', Instr.fill place z.cells (parts.toList.map fun x => (x.1, a.eval x.2)) = some vs' → (zeroValue t).run P w = .ok z w → (execOp a.eval o).run P w = .ok (.value (.agg vs')) w)
    (hfree : out.all AV.free = true) : Sound P w0 F0 Z0 a w o σ' (.agg out) := by
  have hlen : (parts.toList.map (·.1)).length = l.length := by have := h5.len; simp at this ⊢; omega
  have hm1 := zip_map1 _ _ hlen
  have hm2 := zip_map2 _ _ hlen
  obtain ⟨z, hz1, hz2⟩ := hT.zero (ok_ne hok) w
  obtain ⟨vs', e1, Gc, Fc, e2⟩ := fill_ok (w := w) (Z := Z) place ((parts.toList.map (·.1)).zip l) (parts.toList.map (·.2) |>.map a.eval) no X _ z.cells _ _ Fa Ga out
    (cells_plain (hT t (ok_ne hok)).pl hz2) (by rw [hm2]; exact h5) (fun x y q => q.elim) hf
  rw [hm1, ← zip_eval] at e1
  have hX : (fun x y => no x y ∨ X x y) = X := by funext x y; simp [no]
  rw [hX] at e2
  refine ⟨.agg vs', w, .inl (hex z hz2 vs' e1 hz1), Z, Fs, G, X, fun _ => undef, k, .agg out vs' Gc Fc e2.len e2.sub e2.dis e2.rep, ?_⟩
  exact .agg fun i x hx => free_vok (List.all_eq_true.1 hfree x (List.mem_of_getElem? hx)) _

theorem sound_build (hT : TOk P T) (k : Ok w0 F0 Z0 no (pk σ) a.tmps w Z Fs G) {t : TypeId} {parts : Array (Nat × Operand)} (ho : o.op = .build t parts)
    (h : (evM P T pol (.build t parts)).run σ = some (v, σ')) : Sound P w0 F0 Z0 a w o σ' v := by
  simp only [evM] at h
  obtain ⟨l, σ1, Z', Fs', G', X', Fa, Ga, h1, h2, h3, h4, h5⟩ := takesM_ok _ σ no Z Fs G _ _ k h
  have hX : (fun x y => no x y ∨ X' x y) = X' := by funext x y; simp [no]
  rw [hX] at h3
  unfold evBuild at h1
  have hparts : (parts.map fun x => (x.1, a.eval x.2)).toList = parts.toList.map fun x => (x.1, a.eval x.2) := by simp
  cases hd : (T t).d with
  | struct fs =>
    rw [hd] at h1
    simp only at h1
    split at h1
    · rename_i out hf
      split at h1
      · rename_i hc
        simp only [Bool.and_eq_true] at hc
        obtain ⟨⟨c1, c2⟩, c3⟩ := hc
        simp only [M.run, Option.some.injEq, Prod.mk.injEq] at h1
        obtain ⟨rfl, rfl⟩ := h1
        obtain ⟨fields, e1, e2⟩ := hT.struct' hd
        refine build_finish hT h3 h5 (fun i => (fs[i]?).map fun (f : Nat × TypeId) => (f.1, (T f.2).size)) out c3 hf ?_ c2
        intro z hz vs' hfill hzr
        have hmap : (fields.mapM fun f => do pure (f.offset, ← sizeOf f.type) : Sem (Array (Nat × Nat))).run P w = .ok (fields.map fun f => (f.offset, (T f.type).size)) w := by
          rw [Array.mapM_eq_mapM_toList, Sem.run_map, run_mapM _ (fun f : Field => (f.offset, (T f.type).size)) w]
          · simp only [Result.andThen_ok]; congr 1; apply Array.ext'; simp
          · intro fd hfd
            have : (T fd.type).ok = true := by
              have := List.all_eq_true.1 c1 (fd.offset, fd.type) (by rw [← e2]; exact List.mem_map.2 ⟨fd, hfd, rfl⟩)
              exact this
            simp [hT.size (ok_ne this) w]
        have hpl : (fun (i : Nat) => (fields.map fun (f : Field) => (f.offset, (T f.type).size))[i]?) = fun i => (fs[i]?).map fun (f : Nat × TypeId) => (f.1, (T f.2).size) := by
          funext i
          rw [← e2]
          simp only [Array.getElem?_map, List.getElem?_map, Array.getElem?_toList]
          cases fields[i]? <;> rfl
        simp only [execOp, ho, Instr.build, Sem.run_bind, hzr, Result.andThen_ok, run_under e1, hmap, hpl, hparts, hfill, Sem.run_pure]
      · cases h1
    · cases h1
  | array n e =>
    rw [hd] at h1
    simp only at h1
    split at h1
    · rename_i out hf
      split at h1
      · rename_i hc
        simp only [Bool.and_eq_true] at hc
        obtain ⟨⟨c1, c2⟩, c3⟩ := hc
        simp only [M.run, Option.some.injEq, Prod.mk.injEq] at h1
        obtain ⟨rfl, rfl⟩ := h1
        have e1 := hT.array hd
        refine build_finish hT h3 h5 (fun i => some (i * (T e).size, (T e).size)) out c3 hf ?_ c2
        intro z hz vs' hfill hzr
        have hsz := hT.size (ok_ne c1) w
        simp only [execOp, ho, Instr.build, Sem.run_bind, hzr, Result.andThen_ok, run_under e1, hsz, hparts, hfill, Sem.run_pure]
      · cases h1
    · cases h1
  | _ => rw [hd] at h1; cases h1

end
end Go.V
