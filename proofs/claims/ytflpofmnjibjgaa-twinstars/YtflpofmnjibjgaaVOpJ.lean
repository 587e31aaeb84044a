/- V: literals of slices; make; append. -/
import Derived.Test.YtflpofmnjibjgaaVOpI
set_option linter.unusedVariables false
set_option linter.unusedSimpArgs false
namespace Go.V
open Go

theorem flatten_get : ∀ (rows : List (List AV)) (e : Nat) (h : Nat × Nat) (x : AV), (∀ row ∈ rows, row.length = e) → cellOf rows h = some x → rows.flatten[h.1 * e + h.2]? = some x
  | [], e, h, x, _, hx => by simp [cellOf] at hx
  | r :: rs, e, (0, c), x, hr, hx => by
    simp only [cellOf, List.getElem?_cons_zero, Option.bind_some] at hx
    have hl := hr r (List.mem_cons_self ..)
    have hc : c < r.length := (List.getElem?_eq_some_iff.1 hx).1
    simp only [List.flatten_cons, Nat.zero_mul, Nat.zero_add]
    rw [List.getElem?_append_left hc]; exact hx
  | r :: rs, e, (i + 1, c), x, hr, hx => by
    have hl := hr r (List.mem_cons_self ..)
    have := flatten_get rs e (i, c) x (fun row h => hr row (List.mem_cons_of_mem _ h)) (by simpa [cellOf] using hx)
    simp only [List.flatten_cons]
    rw [List.getElem?_append_right (by rw [hl, Nat.add_mul]; omega), hl]
    rw [show (i + 1) * e + c - e = i * e + c by rw [Nat.add_mul]; omega]
    exact this

theorem flatten_length : ∀ (rows : List (List AV)) (e : Nat), (∀ row ∈ rows, row.length = e) → rows.flatten.length = rows.length * e
  | [], e, _ => by simp
  | r :: rs, e, hr => by
    have hl := hr r (List.mem_cons_self ..)
    simp only [List.flatten_cons, List.length_append, List.length_cons, hl, flatten_length rs e (fun row h => hr row (List.mem_cons_of_mem _ h)), Nat.add_mul]
    omega

theorem range0 {α : Type} (f : Nat → α) : (Array.range 0).map f = #[] := Array.eq_empty_of_size_eq_zero (by simp)

section
variable {P : Program} {T : TypeId → TI} {w0 : World} {F0 Z0 X : Foot} {f : Nat → AV} {ts : Array Value} {σ σ' : Slots} {w : World} {Z : Foot} {Fs : Nat → Foot} {G : Nat → Hops → Value} {a : Act}
  {o : Oper} {v : AV} {ps : List Put} {pol : Bool}

/-- parts that cover a row. -/
theorem fillAt_cover (e : Nat) : ∀ (l : List AV) (s : Nat) (pre rest : List AV), pre.length = s * e → rest.length = l.length * e →
    (∀ v ∈ l, v.cellsOf.length = e ∧ v.cellsOf.all AV.word = true) →
    fillAt (pre ++ rest) ((List.range' s l.length).zip l |>.map fun x => (some (x.1 * e, e), x.2)) = some (pre ++ (l.map AV.cellsOf).flatten)
  | [], s, pre, rest, _, hr, _ => by
    have : rest = [] := by simpa using hr
    simp [fillAt, this]
  | v :: l, s, pre, rest, hp, hr, hv => by
    obtain ⟨h1, h2⟩ := hv v (List.mem_cons_self ..)
    simp only [List.length_cons, List.range'_succ, List.zip_cons_cons, List.map_cons, fillAt]
    simp only [List.length_cons, Nat.add_mul, Nat.one_mul] at hr
    rw [if_pos ⟨h1, by simp [hp]; omega, h2⟩]
    have e1 : (pre ++ rest).take (s * e) = pre := by rw [← hp]; simp
    have e2 : (pre ++ rest).drop (s * e + e) = rest.drop e := by rw [← hp, List.drop_append]; simp
    rw [e1, e2]
    rw [fillAt_cover e l (s + 1) (pre ++ v.cellsOf) (rest.drop e) (by simp [hp, h1, Nat.add_mul]) (by simp; omega) (fun u hu => hv u (List.mem_cons_of_mem _ hu))]
    simp

theorem sound_buildSlice (hT : TOk P T) (k : Ok w0 F0 Z0 no (pk σ) a.tmps w Z Fs G) {t : TypeId} {n : Nat} {parts : Array (Nat × Operand)} (ho : o.op = .buildSlice t n parts)
    (h : (evM P T pol (.buildSlice t n parts)).run σ = some (v, σ')) : Sound P w0 F0 Z0 a w o σ' v := by
  simp only [evM] at h
  obtain ⟨l, σ1, Z', Fs', G', X', Fa, Ga, h1, h2, h3, h4, h5⟩ := takesM_ok _ σ no Z Fs G _ _ k h
  have hX : (fun x y => no x y ∨ X' x y) = X' := by funext x y; simp [no]
  rw [hX] at h3
  have hlen : (parts.toList.map (·.1)).length = l.length := by have := h5.len; simp at this ⊢; omega
  have hm1 := zip_map1 _ _ hlen
  have hm2 := zip_map2 _ _ hlen
  unfold evBuildSlice at h1
  cases hd : (T t).d with
  | slice el =>
    rw [hd] at h1
    simp only at h1
    split at h1
    · rename_i hc
      obtain ⟨c1, c2, c3, c4, c5⟩ := hc
      simp only [M.run, Option.some.injEq, Prod.mk.injEq] at h1
      obtain ⟨rfl, rfl⟩ := h1
      rw [hm1] at c1
      have hnl : l.length = n := by rw [← hlen, c1]; simp
      have hrows : (((parts.toList.map (·.1)).zip l).map fun x => x.2.cellsOf) = l.map AV.cellsOf := by
        have := congrArg (List.map AV.cellsOf) hm2
        rw [List.map_map] at this; exact this
      rw [hrows]
      have hv : ∀ v ∈ l, v.cellsOf.length = (T el).size ∧ v.cellsOf.all AV.word = true := by
        intro v hv
        rw [← hm2] at hv
        obtain ⟨x, hx, rfl⟩ := List.mem_map.1 hv
        have := List.all_eq_true.1 c2 x hx
        simpa using this
      have hrow : ∀ row ∈ l.map AV.cellsOf, row.length = (T el).size := by
        intro row hr
        obtain ⟨x, hx, rfl⟩ := List.mem_map.1 hr
        exact (hv x hx).1
      have e1 := hT.slice hd
      have hsz := hT.size (ok_ne c5) w
      obtain ⟨z, hz1, hz2⟩ := hT.zero (ok_ne c5) w
      have hzs : z.cells.size = (T el).size := by rw [← (hT el (ok_ne c5)).len, ← hz2]; simp
      -- the cells to begin with
      let vs0 : Array Value := (Array.range (n * (T el).size)).map (z.cells[· % z.cells.size]!)
      have hpl : vs0.toList.all plain = true := by
        rw [List.all_eq_true]
        intro u hu
        simp only [vs0, Array.toList_map, List.mem_map] at hu
        obtain ⟨i, _, rfl⟩ := hu
        have hlt : i % z.cells.size < z.cells.size := Nat.mod_lt _ (by omega)
        rw [getElem!_pos z.cells _ hlt]
        refine List.all_eq_true.1 (hT el (ok_ne c5)).pl _ ?_
        rw [← hz2]; simp
      have hcov := fillAt_cover (T el).size l 0 [] (vs0.toList.map AV.lit) (by simp) (by simp [vs0, hnl]) hv
      simp only [List.nil_append] at hcov
      obtain ⟨vs', f1, Gc, Fc, f2⟩ := fill_ok (w := w) (Z := Z') (fun i => some (i * (T el).size, (T el).size)) ((parts.toList.map (·.1)).zip l) (parts.toList.map (·.2) |>.map a.eval) no X' _ vs0 _ _ Fa Ga _
        (cells_plain hpl rfl) (by rw [hm2]; exact h5) (fun x y q => q.elim) (by
          rw [c1, ← hnl]
          rw [show List.range l.length = List.range' 0 l.length from List.range_eq_range']
          exact hcov)
      rw [hm1, ← zip_eval] at f1
      rw [hX] at f2
      have hvsz : vs'.size = n * (T el).size := by rw [← f2.len, flatten_length _ _ hrow]; simp [hnl]
      refine ⟨hdr (.slc true (T el).size (l.map AV.cellsOf)) w.heap.size 0 n, w.alloc (.cells vs' el), .inl ?_, out_new h3 (rep_new h3 (e := (T el).size) (m := n) rfl c3 (by simp [capOk, hnl]) hrow hvsz (fun h => Gc (h.1 * (T el).size + h.2)) (fun h x y => h.2 < (T el).size ∧ Fc (h.1 * (T el).size + h.2) x y) (fun h x y q => f2.sub _ _ _ q.2) ?_ ?_) (fun _ _ _ => .slc)⟩
      · have hbound : ¬ n * (T el).size > 2 ^ 24 := by
          have : (2 : Nat) ^ 24 = 16777216 := by decide
          omega
        have hparts : (parts.map fun x => (x.1, a.eval x.2)).toList = parts.toList.map fun x => (x.1, a.eval x.2) := by simp
        simp only [execOp, ho, Instr.buildSlice, Sem.run_bind, run_under e1, Result.andThen_ok, hsz, if_neg hbound]
        by_cases hz0 : n * (T el).size = 0
        · have hn0 : n = 0 := by
            rcases Nat.mul_eq_zero.1 hz0 with h | h
            · exact h
            · omega
          subst hn0
          have hl0 : l = [] := List.length_eq_zero_iff.1 hnl
          have hp0 : parts.toList = [] := by
            rw [hl0] at hlen; simpa using hlen
          subst hl0
          rw [hp0] at f1
          simp only [List.map_nil, Instr.fill, Option.some.injEq] at f1
          have hv0 : vs' = #[] := by rw [← f1]; simp [vs0]
          subst hv0
          have hpe : parts = #[] := by rw [← Array.toArray_toList (xs := parts), hp0]
          simp only [hpe, Instr.fill, newRow, hdr, range0]
          simp [hpe, Instr.fill, newRow, hdr, range0]
        · rw [if_neg hz0]
          simp only [Sem.run_bind, hz1, Result.andThen_ok, Sem.run_pure, hparts]
          rw [show (Array.range (n * (T el).size)).map (z.cells[· % z.cells.size]!) = vs0 from rfl, f1]
          simp [newRow, hdr, hnl]
      · intro h g x y q q'
        have := f2.dis _ _ _ _ q.2 q'.2
        obtain ⟨u1, u2⟩ := addr_inj q.1 q'.1 this
        exact Prod.ext u1 u2
      · intro h x hx
        obtain ⟨l1, l2⟩ := cellOf_lt hx hrow
        exact (f2.rep _ x (flatten_get _ _ h x hrow hx)).mono (fun x y q => ⟨l2, q⟩)
    · cases h1
  | _ => rw [hd] at h1; cases h1

theorem wrap_id {n : Int} (h0 : 0 ≤ n) (h1 : n < 9223372036854775808) : IntKind.i64.wrap n = n := by
  unfold IntKind.wrap
  simp only [IntKind.bits, IntKind.signed]
  have : n % (2 ^ 64 : Int) = n := Int.emod_eq_of_lt h0 (by omega)
  simp only [this]
  rw [if_neg]
  simp
  omega

theorem sound_makeSlice (hT : TOk P T) (k : Ok w0 F0 Z0 no (pk σ) a.tmps w Z Fs G) {t : TypeId} {x y : Operand} (ho : o.op = .makeSlice t x y)
    (h : (evOp P T pol (.makeSlice t x y)).run σ = some (v, ps)) (hσ : putAll ps σ = some σ') : Sound P w0 F0 Z0 a w o σ' v := by
  simp only [evOp, Q.run_bind] at h
  replace h := bind_some_inv h
  obtain ⟨u1, hu1, h⟩ := h
  replace h := bind_some_inv h
  obtain ⟨n, hn, h⟩ := h
  replace h := bind_some_inv h
  obtain ⟨u2, hu2, h⟩ := h
  replace h := bind_some_inv h
  obtain ⟨m, hm, h⟩ := h
  obtain ⟨k1, e1⟩ := idx_inv hn
  obtain ⟨k2, e2⟩ := idx_inv hm
  rw [e1] at hu1
  rw [e2] at hu2
  have hx := lit_ok k hu1
  have hy := lit_ok k hu2
  cases hd : (T t).d with
  | slice el =>
    rw [hd] at h
    simp only at h
    split at h
    · rename_i hc
      obtain ⟨c1, c2, c3, c4, c5⟩ := hc
      simp only [Q.run, Option.some.injEq, Prod.mk.injEq] at h
      obtain ⟨rfl, rfl⟩ := h
      have := nil2 hσ
      subst this
      obtain ⟨i, hi1, hi2, hi3⟩ := hT.bytes (ok_ne c5)
      obtain ⟨z, hz1, hz2⟩ := hT.zero (ok_ne c5) w
      have hzs : z.cells.size = (T el).size := by rw [← (hT el (ok_ne c5)).len, ← hz2]; simp
      have hun := hT.slice hd
      have hsz := hT.size (ok_ne c5) w
      have hroom : (room : Int) = 4294967296 := rfl
      have hb1 : 1 ≤ (T el).bytes := c4.2
      have hmle : m ≤ 4294967296 := by
        have : m * 1 ≤ m * ((T el).bytes : Int) := Int.mul_le_mul_of_nonneg_left (by omega) (by omega)
        omega
      have hwm : IntKind.i64.wrap m = m := wrap_id (by omega) (by omega)
      have hwn : IntKind.i64.wrap n = n := wrap_id (by omega) (by omega)
      have hlen : ((T el).zero.map AV.lit).length = (T el).size := by simp [(hT el (ok_ne c5)).len]
      have hrow : ∀ row ∈ List.replicate n.toNat ((T el).zero.map AV.lit), row.length = (T el).size := by
        intro row hr
        rw [List.mem_replicate] at hr
        rw [hr.2, hlen]
      let vals : Array Value := (Array.range (m.toNat * (T el).size)).map (z.cells[· % z.cells.size]!)
      refine ⟨hdr (.slc true (T el).size (List.replicate n.toNat ((T el).zero.map AV.lit))) w.heap.size 0 m.toNat, w.alloc (.cells vals el), .inl ?_,
        out_new k (rep_new k (e := (T el).size) (m := m.toNat) rfl c4.1 (by simp [capOk]; omega) hrow (by simp [vals]) (fun _ _ => undef) (fun _ => no) (fun h x y q => q.elim) (fun h g x y q => q.elim) ?_) (fun _ _ _ => .slc)⟩
      · have hlarge : ∀ q : Int, 0 ≤ q → q ≤ m → ¬ (q < 0 ∨ ((T el).bytes : Int) * q > 2 ^ 48) := by
          intro q h0 h1 h
          rcases h with h | h
          · omega
          · have hle : ((T el).bytes : Int) * q ≤ ((T el).bytes : Int) * m := Int.mul_le_mul_of_nonneg_left h1 (by omega)
            rw [Int.mul_comm _ m] at hle
            have : (2 : Int) ^ 48 = 281474976710656 := by decide
            omega
        have ht1 : (decide (m < 0) || decide (((T el).bytes : Int) * m > 2 ^ 48)) = false := by
          have := hlarge m (by omega) (Int.le_refl m)
          simp only [not_or] at this
          simp only [Bool.or_eq_false_iff, decide_eq_false_iff_not]
          exact this
        simp only [execOp, ho, Instr.makeSlice, Sem.run_bind, run_under hun, Result.andThen_ok, hx, hy, asInt, asIntOf, Sem.run_pure, typeInfo, run_program, hi1, hi2, hwm, hwn]
        rw [if_neg (by
          rw [ht1]
          simp
          omega)]
        by_cases hm0 : m.toNat * (T el).size = 0
        · have : m.toNat = 0 := by
            rcases Nat.mul_eq_zero.1 hm0 with h | h
            · exact h
            · have := c4.1; omega
          have hn0 : n.toNat = 0 := by omega
          simp [hsz, this, newRow, hdr, hn0, vals, range0]
        · simp only [run_askRoom, Result.andThen_ok, hsz, Sem.run_pure, if_neg hm0, Sem.run_bind, hz1]
          simp [newRow, hdr, vals]
      · intro h x hx'
        unfold cellOf at hx'
        rw [List.getElem?_replicate] at hx'
        split at hx'
        · rename_i hlt
          simp only [Option.bind_some, List.getElem?_map] at hx'
          cases hq : (T el).zero[h.2]? with
          | none => rw [hq] at hx'; cases hx'
          | some u =>
            rw [hq] at hx'
            simp only [Option.map_some, Option.some.injEq] at hx'
            subst hx'
            have h2 : h.2 < (T el).size := by have := (List.getElem?_eq_some_iff.1 hq).1; rw [(hT el (ok_ne c5)).len] at this; exact this
            have : vals.getD (h.1 * (T el).size + h.2) undef = u := by
              refine getD_eq ?_
              have hb : h.1 * (T el).size + h.2 < m.toNat * (T el).size := addr_lt (by omega) h2
              have hmod : (h.1 * (T el).size + h.2) % z.cells.size = h.2 := by rw [hzs, Nat.mul_comm, Nat.mul_add_mod, Nat.mod_eq_of_lt h2]
              have hget : z.cells[h.2]? = some u := by rw [← Array.getElem?_toList, hz2]; exact hq
              simp only [vals, Array.getElem?_map, Array.getElem?_range, hb, if_true, Option.map_some, hmod]
              rw [getElem!_pos z.cells _ (by omega)]
              rw [Array.getElem?_eq_getElem (by omega)] at hget
              exact hget
            rw [this]
            exact .lit (List.all_eq_true.1 (hT el (ok_ne c5)).pl u (List.mem_of_getElem? hq))
        · cases hx'
    · cases h
  | _ => rw [hd] at h; cases h

end
end Go.V
