/- V: addresses and parts. -/
import Derived.Test.YtflpofmnjibjgaaVOpC
set_option linter.unusedVariables false
set_option linter.unusedSimpArgs false
namespace Go.V
open Go

section
variable {P : Program} {T : TypeId → TI} {w0 : World} {F0 Z0 X : Foot} {σ σ' : Slots} {w : World} {Z : Foot} {Fs : Nat → Foot} {G : Nat → Hops → Value} {a : Act}
  {o : Oper} {v : AV} {ps : List Put} {pol : Bool}

theorem TOk.slice (hT : TOk P T) {t e : TypeId} (h : (T t).d = .slice e) : P.underlying t = some (.slice e) := by
  obtain ⟨d, h1, h2⟩ := hT.under (t := t) (by rw [h]; simp)
  rw [h] at h2
  cases d <;> simp [TDok] at h2
  subst h2; exact h1

theorem TOk.array (hT : TOk P T) {t e : TypeId} {n : Nat} (h : (T t).d = .array n e) : P.underlying t = some (.array n e) := by
  obtain ⟨d, h1, h2⟩ := hT.under (t := t) (by rw [h]; simp)
  rw [h] at h2
  cases d <;> simp [TDok] at h2
  obtain ⟨rfl, rfl⟩ := h2; exact h1

theorem TOk.str (hT : TOk P T) {t : TypeId} (h : (T t).d = .str) : P.underlying t = some .string := by
  obtain ⟨d, h1, h2⟩ := hT.under (t := t) (by rw [h]; simp)
  rw [h] at h2
  cases d <;> simp [TDok] at h2
  exact h1

theorem TOk.struct (hT : TOk P T) {t : TypeId} {fs : List (Nat × TypeId)} (h : (T t).d = .struct fs) :
    ∃ fields, P.underlying t = some (.struct fields) ∧ ∀ (f : Nat) (ft : Nat × TypeId), fs[f]? = some ft → ∃ fd : Field, fields[f]? = some fd ∧ fd.offset = ft.1 ∧ fd.type = ft.2 := by
  obtain ⟨d, h1, h2⟩ := hT.under (t := t) (by rw [h]; simp)
  rw [h] at h2
  cases d <;> simp [TDok] at h2
  rename_i fields
  refine ⟨fields, h1, ?_⟩
  intro f ft hf
  rw [← h2, List.getElem?_map] at hf
  cases hq : fields.toList[f]? with
  | none => rw [hq] at hf; cases hf
  | some fd =>
    rw [hq] at hf
    simp only [Option.map_some, Option.some.injEq] at hf
    exact ⟨fd, by rw [Array.getElem?_toList] at hq; exact hq, by rw [← hf], by rw [← hf]⟩

theorem sound_fieldAddr (hT : TOk P T) (k : Ok w0 F0 Z0 no (pk σ) a.tmps w Z Fs G) {s : TypeId} {x : Operand} {f : Nat} (ho : o.op = .fieldAddr s x f)
    (h : (evOp P T pol (.fieldAddr s x f)).run σ = some (v, ps)) (hσ : putAll ps σ = some σ') : Sound P w0 F0 Z0 a w o σ' v := by
  simp only [evOp, Q.run_bind] at h
  replace h := bind_some_inv h
  obtain ⟨u, hu, h⟩ := h
  replace h := bind_some_inv h
  obtain ⟨q, hq, h⟩ := h
  have := asRef_inv hq
  rw [this] at hu
  obtain ⟨_, hv⟩ := opnd_ok k hu
  cases hd : (T s).d with
  | struct fs =>
    rw [hd] at h
    simp only at h
    cases hf : fs[f]? with
    | none => rw [hf] at h; cases h
    | some ft =>
      rw [hf] at h
      simp only at h
      split at h
      · rename_i hc
        simp only [Q.run, Option.some.injEq, Prod.mk.injEq] at h
        obtain ⟨rfl, rfl⟩ := h
        have := nil2 hσ
        subst this
        obtain ⟨fields, h1, h2⟩ := hT.struct hd
        obtain ⟨fd, h3, h4, h5⟩ := h2 f ft hf
        have hsz := hT.size (t := fd.type) (by rw [h5]; exact ok_ne hc.2) w
        generalize hval : a.eval x = val at hv
        cases hv with
        | ref nd o' e rows b off m hget ha hG =>
          refine ⟨.pointer (some ⟨b, off + (q.2.2.1 * e + (q.2.2.2 + ft.1)), none⟩), w, .inl ?_, Out.idle k ⟨fun _ => undef, .ref rfl⟩ (.ref nd o' e rows b off m hget ha hG)⟩
          have hne : (T fd.type).size ≠ 0 := by rw [h5]; omega
          simp [execOp, ho, hval, Instr.fieldAt, run_under h1, h3, Instr.sureAddr, fieldPlace, hsz, hne, h4, add_none, Nat.add_assoc]
      · cases h
  | _ => rw [hd] at h; cases h

theorem getD_eq {vs : Array Value} {i : Nat} {u : Value} (h : vs[i]? = some u) : vs.getD i undef = u := by
  simp [Array.getD_eq_getD_getElem?, h]

theorem getD_lt {vs : Array Value} {i : Nat} (h : i < vs.size) : ∃ u, vs[i]? = some u ∧ vs.getD i undef = u :=
  ⟨vs[i], by simp [h], by simp [Array.getD_eq_getD_getElem?, h]⟩

/-- an aggregate's parts, as they are told. -/
theorem agg_parts {Z : Foot} {G : Nat → Hops → Value} {f : Nat → AV} {cs : List AV} {val : Value} (hr : ∃ Gx, Rep w Z Gx (.agg cs) val no) (hv : Vok f G (.agg cs) val) :
    ∃ vs : Array Value, val = .agg vs ∧ cs.length = vs.size ∧ ∀ (i : Nat) (x : AV), cs[i]? = some x → (∃ Gx, Rep w Z Gx x (vs.getD i undef) no) ∧ Vok f G x (vs.getD i undef) := by
  obtain ⟨_, hr⟩ := hr
  cases hr with
  | agg _ vs Gc Fc hl hsub hdis hrep =>
    cases hv with
    | agg hv => exact ⟨vs, rfl, hl, fun i x hx => ⟨⟨Gc i, (hrep i x hx).mono (fun x y q => hsub i x y q)⟩, hv i x hx⟩⟩
  | arr q o e rows b off m val Fc ha he hm hrow hown hshr hsub hdis hcell hrep hG => simp [AV.arr] at ha

theorem parts_agg {Z : Foot} {G : Nat → Hops → Value} {f : Nat → AV} {cs : List AV} {vs : Array Value} (hl : cs.length = vs.size)
    (h : ∀ (i : Nat) (x : AV), cs[i]? = some x → (∃ Gx, Rep w Z Gx x (vs.getD i undef) no) ∧ Vok f G x (vs.getD i undef)) :
    (∃ Gx, Rep w Z Gx (.agg cs) (.agg vs) no) ∧ Vok f G (.agg cs) (.agg vs) := by
  refine ⟨⟨fun _ => undef, .agg cs vs (fun i => if hi : i < cs.length then (h i cs[i] (List.getElem?_eq_getElem hi)).1.choose else fun _ => undef) (fun _ => no) hl (fun i x y q => q) (fun i j x y q => q.elim) ?_⟩, .agg fun i x hx => (h i x hx).2⟩
  intro i x hx
  have hi : i < cs.length := (List.getElem?_eq_some_iff.1 hx).1
  have hxl : cs[i] = x := (List.getElem?_eq_some_iff.1 hx).2
  simp only [hi, dif_pos]
  have := (h i cs[i] (List.getElem?_eq_getElem hi)).1.choose_spec
  rw [← hxl]; exact this

theorem sound_field (hT : TOk P T) (k : Ok w0 F0 Z0 no (pk σ) a.tmps w Z Fs G) {s : TypeId} {x : Operand} {f : Nat} (ho : o.op = .field s x f)
    (h : (evOp P T pol (.field s x f)).run σ = some (v, ps)) (hσ : putAll ps σ = some σ') : Sound P w0 F0 Z0 a w o σ' v := by
  simp only [evOp, Q.run_bind] at h
  replace h := bind_some_inv h
  obtain ⟨u, hu, h⟩ := h
  obtain ⟨hr, hv⟩ := opnd_ok k hu
  cases hd : (T s).d with
  | struct fs =>
    rw [hd] at h
    simp only at h
    cases u with
    | agg cs =>
      simp only at h
      cases hf : fs[f]? with
      | none => rw [hf] at h; cases h
      | some ft =>
        rw [hf] at h
        simp only at h
        split at h
        · rename_i hc
          obtain ⟨vs, hval, hl, hp⟩ := agg_parts hr hv
          obtain ⟨fields, h1, h2⟩ := hT.struct hd
          obtain ⟨fd, h3, h4, h5⟩ := h2 f ft hf
          have hne : (T fd.type).d ≠ .other := by rw [h5]; exact ok_ne hc.2
          have hsz := hT.size hne w
          have hag := hT.agg hne w
          rw [h5] at hsz hag
          by_cases hA : aggT (T ft.2) = true
          · rw [if_pos hA] at h
            simp only [Q.run, Option.some.injEq, Prod.mk.injEq] at h
            obtain ⟨rfl, rfl⟩ := h
            have := nil2 hσ
            subst this
            obtain ⟨g1, g2⟩ := parts_agg (w := w) (Z := Z) (G := G) (f := pk σ') (cs := (cs.drop ft.1).take (T ft.2).size) (vs := vs.extract ft.1 (ft.1 + (T ft.2).size)) (by simp; omega) (by
              intro i y hy
              simp only [List.getElem?_take, List.getElem?_drop] at hy
              by_cases hi : i < (T ft.2).size
              · simp only [hi, if_true] at hy
                have := hp _ y hy
                have hgd : (vs.extract ft.1 (ft.1 + (T ft.2).size)).getD i undef = vs.getD (ft.1 + i) undef := by
                  have hlt : ft.1 + i < vs.size := by have := (List.getElem?_eq_some_iff.1 hy).1; omega
                  have hlt' : i < min (ft.1 + (T ft.2).size) vs.size - ft.1 := by omega
                  rw [Array.getD_eq_getD_getElem?, Array.getD_eq_getD_getElem?, Array.getElem?_extract, if_pos hlt']
                rw [hgd]; exact this
              · simp only [hi, if_false] at hy; cases hy)
            refine ⟨.agg (vs.extract ft.1 (ft.1 + (T ft.2).size)), w, .inl ?_, Out.idle k g1 g2⟩
            simp [execOp, ho, hval, Instr.field, run_under h1, h3, h4, h5, part, hag, hA, asAgg, hsz]
          · rw [if_neg hA] at h
            cases hy : cs[ft.1]? with
            | none => rw [hy] at h; cases h
            | some y =>
              rw [hy] at h
              simp only [Q.run, Option.some.injEq, Prod.mk.injEq] at h
              obtain ⟨rfl, rfl⟩ := h
              have := nil2 hσ
              subst this
              obtain ⟨g1, g2⟩ := hp _ _ hy
              have hlt : ft.1 < vs.size := by have := (List.getElem?_eq_some_iff.1 hy).1; omega
              obtain ⟨z, hz1, hz2⟩ := getD_lt hlt
              rw [hz2] at g1 g2
              refine ⟨z, w, .inl ?_, Out.idle k g1 g2⟩
              simp [execOp, ho, hval, Instr.field, run_under h1, h3, h4, h5, part, hag, hA, asAgg, hz1]
        · cases h
    | _ => cases h
  | _ => rw [hd] at h; cases h

theorem sound_indexAddr (hT : TOk P T) (k : Ok w0 F0 Z0 no (pk σ) a.tmps w Z Fs G) {t : TypeId} {x i : Operand} (ho : o.op = .indexAddr t x i)
    (h : (evOp P T pol (.indexAddr t x i)).run σ = some (v, ps)) (hσ : putAll ps σ = some σ') : Sound P w0 F0 Z0 a w o σ' v := by
  simp only [evOp, Q.run_bind] at h
  replace h := bind_some_inv h
  obtain ⟨u, hu, h⟩ := h
  replace h := bind_some_inv h
  obtain ⟨j, hj, h⟩ := h
  replace h := bind_some_inv h
  obtain ⟨n, hn, h⟩ := h
  obtain ⟨kk, hje⟩ := idx_inv hn
  rw [hje] at hj
  have hi := lit_ok k hj
  obtain ⟨hr, hv⟩ := opnd_ok k hu
  cases hd : (T t).d with
  | slice el =>
    have hun := hT.slice hd
    rw [hd] at h
    simp only at h
    cases u with
    | view r hs lo len e =>
      simp only at h
      split at h
      · rename_i hc
        obtain ⟨c1, c2, rfl, c4⟩ := hc
        simp only [Q.run, Option.some.injEq, Prod.mk.injEq] at h
        obtain ⟨rfl, rfl⟩ := h
        have := nil2 hσ
        subst this
        have hsz := hT.size (ok_ne c4) w
        generalize hval : a.eval x = val at hv
        cases hv with
        | view rows b off m off' hget hG hle hoff =>
          have hoff' : off' = off + lo * (T el).size := (hoff.imp id (·.1)).resolve_right (fun q => by
            obtain ⟨vn, hrr⟩ := Rep.at hs (k.rep r) hget
            obtain ⟨b', off2, m', e1, e2, e3, _⟩ := hrr.sub
            simp only [List.append_nil] at e2
            rw [← e2, hG] at e1
            simp only [Value.slice.injEq] at e1
            omega)
          refine ⟨.pointer (some ⟨b, off + ((lo + n.toNat) * (T el).size + 0), none⟩), w, .inl ?_, Out.idle k ⟨fun _ => undef, .ref rfl⟩ (.ref (.slc true (T el).size rows) true (T el).size rows b off m hget rfl (by rw [hG]; rfl))⟩
          have : off' + n.toNat * (T el).size = off + (lo + n.toNat) * (T el).size := by rw [hoff', Nat.add_mul]; omega
          simp [execOp, ho, hval, hi, Instr.indexAt, asIntOf, run_under hun, c1, c2, hsz, add_none, this]
      · cases h
    | slc o2 e rows =>
      simp only at h
      cases x with
      | tmp s =>
        simp only at h
        split at h
        · rename_i hc
          obtain ⟨c1, c2, rfl, c4⟩ := hc
          simp only [Q.run, Option.some.injEq, Prod.mk.injEq] at h
          obtain ⟨rfl, rfl⟩ := h
          have := nil2 hσ
          subst this
          have hsz := hT.size (ok_ne c4) w
          simp only [opnd, Q.run, Option.some.injEq] at hu
          -- the slot itself holds it
          have hpk : pk σ' s = .slc false (T el).size rows ∧ o2 = false := by
            cases hp : pk σ' s with
            | slc o3 e3 rows3 => rw [hp] at hu; cases o3 <;> simp [AV.sh, AV.sh1] at hu; obtain ⟨rfl, rfl, rfl⟩ := hu; exact ⟨rfl, rfl⟩
            | box o3 cs => rw [hp] at hu; cases o3 <;> simp [AV.sh, AV.sh1] at hu
            | map o3 cs => rw [hp] at hu; cases o3 <;> simp [AV.sh, AV.sh1] at hu
            | _ => rw [hp] at hu; simp [AV.sh, AV.sh1] at hu
          obtain ⟨hpk, rfl⟩ := hpk
          have hrs := k.rep s
          rw [hpk] at hrs
          obtain ⟨b, off, m, e1, e2, e3, _⟩ := hrs.sub
          have hval : a.eval (.tmp s) = .slice (some ⟨b, off, none⟩) rows.length m := e1
          refine ⟨.pointer (some ⟨b, off + (n.toNat * (T el).size + 0), none⟩), w, .inl ?_, Out.idle k ⟨fun _ => undef, .ref rfl⟩ (.ref (.slc false (T el).size rows) false (T el).size rows b off m (by rw [hpk]; rfl) rfl (by rw [e2, e1]; rfl))⟩
          simp [execOp, ho, hval, hi, Instr.indexAt, asIntOf, run_under hun, c1, c2, hsz, add_none]
        · cases h
      | _ => cases h
    | _ => cases h
  | array len el =>
    have hun := hT.array hd
    rw [hd] at h
    simp only at h
    cases u with
    | ref r hs a' c =>
      simp only at h
      split at h
      · rename_i hc
        obtain ⟨c1, c2, c4⟩ := hc
        simp only [Q.run, Option.some.injEq, Prod.mk.injEq] at h
        obtain ⟨rfl, rfl⟩ := h
        have := nil2 hσ
        subst this
        have hsz := hT.size (ok_ne c4) w
        generalize hval : a.eval x = val at hv
        cases hv with
        | ref nd o' e rows b off m hget ha hG =>
          refine ⟨.pointer (some ⟨b, off + (a' * e + (c + n.toNat * (T el).size)), none⟩), w, .inl ?_, Out.idle k ⟨fun _ => undef, .ref rfl⟩ (.ref nd o' e rows b off m hget ha hG)⟩
          simp [execOp, ho, hval, hi, Instr.indexAt, asIntOf, run_under hun, c1, c2, hsz, add_none, Instr.sureAddr, Nat.add_assoc]
      · cases h
    | _ => cases h
  | _ => rw [hd] at h; cases h

theorem sound_index (hT : TOk P T) (k : Ok w0 F0 Z0 no (pk σ) a.tmps w Z Fs G) {t : TypeId} {x i : Operand} (ho : o.op = .index t x i)
    (h : (evOp P T pol (.index t x i)).run σ = some (v, ps)) (hσ : putAll ps σ = some σ') : Sound P w0 F0 Z0 a w o σ' v := by
  simp only [evOp, Q.run_bind] at h
  replace h := bind_some_inv h
  obtain ⟨u, hu, h⟩ := h
  replace h := bind_some_inv h
  obtain ⟨j, hj, h⟩ := h
  replace h := bind_some_inv h
  obtain ⟨n, hn, h⟩ := h
  obtain ⟨kk, hje⟩ := idx_inv hn
  rw [hje] at hj
  have hi := lit_ok k hj
  obtain ⟨hr, hv⟩ := opnd_ok k hu
  cases hd : (T t).d with
  | array len el =>
    have hun := hT.array hd
    rw [hd] at h
    simp only at h
    cases u with
    | agg cs =>
      simp only at h
      split at h
      · rename_i hc
        obtain ⟨c1, c2, c3, c4, c5⟩ := hc
        obtain ⟨vs, hval, hl, hp⟩ := agg_parts hr hv
        cases hy : cs[n.toNat]? with
        | none => rw [hy] at h; cases h
        | some y =>
          rw [hy] at h
          simp only [Q.run, Option.some.injEq, Prod.mk.injEq] at h
          obtain ⟨rfl, rfl⟩ := h
          have := nil2 hσ
          subst this
          obtain ⟨g1, g2⟩ := hp _ _ hy
          have hlt : n.toNat < vs.size := by have := (List.getElem?_eq_some_iff.1 hy).1; omega
          have hsz := hT.size (ok_ne c4) w
          have hag := hT.agg (ok_ne c4) w
          obtain ⟨z, hz1, hz2⟩ := getD_lt hlt
          rw [hz2] at g1 g2
          refine ⟨z, w, .inl ?_, Out.idle k g1 g2⟩
          simp [execOp, ho, hval, hi, Instr.index, asIntOf, run_under hun, c1, c2, hsz, c3, part, hag, c5, hz1]
      · cases h
    | _ => cases h
  | str =>
    have hun := hT.str hd
    rw [hd] at h
    simp only at h
    cases u with
    | lit q =>
      cases q with
      | string s =>
        simp only at h
        split at h
        · rename_i hc
          cases hy : s[n.toNat]? with
          | none => rw [hy] at h; cases h
          | some y =>
            rw [hy] at h
            simp only [Q.run, Option.some.injEq, Prod.mk.injEq] at h
            obtain ⟨rfl, rfl⟩ := h
            refine word_out k hσ rfl ?_
            simp [execOp, ho, lit_ok k hu, hi, Instr.index, asIntOf, run_under hun, hc, hy]
        · cases h
      | _ => cases h
    | _ => cases h
  | _ => rw [hd] at h; cases h

end
end Go.V
