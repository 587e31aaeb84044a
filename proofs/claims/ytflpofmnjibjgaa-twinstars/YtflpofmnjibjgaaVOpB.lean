/- V: loads; addresses. -/
import Derived.Test.YtflpofmnjibjgaaVOpA
set_option linter.unusedVariables false
set_option linter.unusedSimpArgs false
namespace Go.V
open Go

theorem Rep.at {w : World} {Z : Foot} : ∀ (hs : Hops) {G : Hops → Value} {a : AV} {v : Value} {F : Foot} {n : AV}, Rep w Z G a v F → a.get hs = some n →
    ∃ vn, Rep w Z (fun q => G (hs ++ q)) n vn F
  | [], G, a, v, F, n, h, hn => by
    simp only [AV.get, Option.some.injEq] at hn
    subst hn
    exact ⟨v, h⟩
  | g :: hs, G, a, v, F, n, h, hn => by
    cases h with
    | arr a o e rows b off m val Fc ha he hm hrow hown hshr hsub hdis hcell hrep hG =>
      simp only [AV.get, AV.kid, ha, Option.bind_some] at hn
      cases hx : cellOf rows g with
      | none => rw [hx] at hn; cases hn
      | some x =>
        rw [hx] at hn
        obtain ⟨vn, hr⟩ := Rep.at hs (hrep g x hx) hn
        exact ⟨vn, hr.mono (fun x y q => (hsub _ _ _ q).2.1)⟩
    | _ => simp [AV.get, AV.kid, AV.arr] at hn

theorem hdr_inj {a : AV} {b off m b' off' m' : Nat} (h : hdr a b off m = hdr a b' off' m') : b = b' ∧ off = off' := by
  unfold hdr at h
  split at h
  · simp only [Value.slice.injEq, Option.some.injEq, Addr.mk.injEq, and_true, true_and] at h; exact h.1
  · simp only [Value.pointer.injEq, Option.some.injEq, Addr.mk.injEq, and_true] at h; exact h

theorem get_append : ∀ (hs : Hops) (h : Nat × Nat) (a : AV), a.get (hs ++ [h]) = (a.get hs).bind (·.kid h)
  | [], h, a => by simp only [List.nil_append, AV.get, Option.bind_some]; cases a.kid h <;> rfl
  | g :: hs, h, a => by
    simp only [List.cons_append, AV.get]
    cases a.kid g with
    | none => rfl
    | some x => simp only [Option.bind_some]; exact get_append hs h x

section
variable {P : Program} {T : TypeId → TI} {w0 : World} {F0 Z0 X : Foot} {σ σ' : Slots} {w : World} {Z : Foot} {Fs : Nat → Foot} {G : Nat → Hops → Value} {a : Act} {ts : Array Value}

/-- what a cell holds, and how it is told. -/
theorem cell_ok (k : Ok w0 F0 Z0 X (pk σ) ts w Z Fs G) {r : Nat} {hs : Hops} {nd : AV} {o : Bool} {e : Nat} {rows : List (List AV)} {b off m : Nat}
    (hget : (pk σ r).get hs = some nd) (ha : nd.arr = some (o, e, rows)) (hG : G r hs = hdr nd b off m) {h : Nat × Nat} {x : AV} (hx : cellOf rows h = some x) :
    ∃ val, w.cell? ⟨b, off + (h.1 * e + h.2), none⟩ = some val ∧ (∃ Gx, Rep w Z Gx (x.shm r (hs ++ [h])) val no) ∧ Vok (pk σ) G (x.shm r (hs ++ [h])) val := by
  obtain ⟨vn, hr⟩ := Rep.at hs (k.rep r) hget
  have hxat : (pk σ r).get (hs ++ [h]) = some x := by rw [get_append, hget]; simp [AV.kid, ha, hx]
  have hlook : ∃ val, w.cell? ⟨b, off + (h.1 * e + h.2), none⟩ = some val ∧ ∃ F', Rep w Z (fun q => G r (hs ++ [h] ++ q)) x val F' := by
    cases hr with
    | arr _ o' e' rows' b' off' m' val Fc ha' he hm hrow hown hshr hsub hdis hcell hrep hG' =>
      rw [ha] at ha'
      simp only [Option.some.injEq, Prod.mk.injEq] at ha'
      obtain ⟨rfl, rfl, rfl⟩ := ha'
      simp only [List.append_nil] at hG'
      rw [hG] at hG'
      obtain ⟨rfl, rfl⟩ := hdr_inj hG'
      refine ⟨val h, hcell h x hx, Fc h, ?_⟩
      have := hrep h x hx
      simpa [List.append_assoc] using this
    | _ => simp [AV.arr] at ha
  obtain ⟨val, hc, F', hrx⟩ := hlook
  refine ⟨val, hc, ?_⟩
  cases hxc : x with
  | slc o2 e2 rows2 =>
    subst hxc
    cases o2 with
    | true =>
      simp only [AV.shm, if_true]
      refine ⟨⟨fun _ => undef, .view (hrx.memOne rfl)⟩, ?_⟩
      obtain ⟨b2, off2, m2, h1, h2, h3, _⟩ := hrx.sub
      rw [h1]
      exact Vok.view rows2 b2 off2 m2 off2 hxat (by simp only [List.append_nil] at h2; rw [h2, h1]) (by omega) (.inl (by omega))
    | false =>
      simp only [AV.shm, Bool.false_eq_true, if_false]
      exact ⟨⟨_, hrx.shrNo (by simp [AV.arr]) (by simp) rfl⟩, .slc⟩
  | box o2 cs2 =>
    subst hxc
    cases o2 with
    | true =>
      simp only [AV.shm, if_true]
      refine ⟨⟨fun _ => undef, .ref (hrx.memOne rfl)⟩, ?_⟩
      generalize hq : AV.box true cs2 = q at hrx
      cases hrx with
      | arr q o3 e3 rows3 b3 off3 m3 val3 Fc3 ha3 he3 hm3 hrow3 hown3 hshr3 hsub3 hdis3 hcell3 hrep3 hG3 =>
        subst hq
        have := Vok.ref (f := pk σ) (G := G) (r := r) (hs := hs ++ [h]) (i := 0) (c := 0) (.box true cs2) o3 e3 rows3 b3 off3 m3 hxat ha3 (by simpa using hG3)
        simpa [hdr] using this
      | _ => cases hq
    | false =>
      simp only [AV.shm, Bool.false_eq_true, if_false]
      exact ⟨⟨_, hrx.shrNo (by simp [AV.arr]) (by simp) rfl⟩, .box⟩
  | map o2 es2 =>
    subst hxc
    cases o2 with
    | true =>
      simp only [AV.shm, if_true]
      refine ⟨⟨fun _ => undef, .mref (hrx.memOne rfl)⟩, ?_⟩
      have := hrx.head rfl
      simp only [List.append_nil] at this
      rw [← this]
      exact Vok.mref _ hxat (.inr ⟨_, _, rfl⟩)
    | false =>
      simp only [AV.shm, Bool.false_eq_true, if_false]
      exact ⟨⟨_, hrx.shrNo (by simp [AV.arr]) (by simp) rfl⟩, .map⟩
  | lit u => subst hxc; exact ⟨⟨_, hrx.shrNo (by simp [AV.arr]) (by simp) rfl⟩, .lit⟩
  | dead => subst hxc; exact ⟨⟨_, hrx.shrNo (by simp [AV.arr]) (by simp) rfl⟩, .dead⟩
  | clo g cs =>
    subst hxc
    cases hrx with
    | clo g => exact ⟨⟨fun _ => undef, .clo g⟩, .clo⟩
    | arr q o3 e3 rows3 b3 off3 m3 val3 Fc3 ha3 he3 hm3 hrow3 hown3 hshr3 hsub3 hdis3 hcell3 hrep3 hG3 => simp [AV.arr] at ha3
  | _ => exact ⟨⟨fun _ => undef, .gone⟩, .gone⟩

theorem add_none (b off j : Nat) : (⟨b, off, none⟩ : Addr).add j = ⟨b, off + j, none⟩ := by
  unfold Addr.add; split
  · subst_vars; simp
  · rfl

theorem shmL_get (r : Nat) (hs : Hops) (i : Nat) : ∀ (l : List AV) (c j : Nat), (shmL r hs i c l)[j]? = (l[j]?).map (·.shm r (hs ++ [(i, c + j)]))
  | [], c, j => by simp [shmL]
  | x :: l, c, 0 => by simp [shmL]
  | x :: l, c, j + 1 => by simp only [shmL, List.getElem?_cons_succ]; rw [shmL_get r hs i l (c + 1) j, show c + 1 + j = c + (j + 1) by omega]

theorem shmL_length (r : Nat) (hs : Hops) (i : Nat) : ∀ (l : List AV) (c : Nat), (shmL r hs i c l).length = l.length
  | [], c => rfl
  | x :: l, c => by simp [shmL, shmL_length r hs i l]

/-- the cells that an address leads to. -/
theorem cells_ok (k : Ok w0 F0 Z0 X (pk σ) ts w Z Fs G) {r : Nat} {hs : Hops} {i c n : Nat} {val : Value} {l : List AV} (hv : Vok (pk σ) G (.ref r hs i c) val)
    (hl : cellsAt σ r hs i c n = some l) : ∃ (b off : Nat) (vs : List Value), val = .pointer (some ⟨b, off, none⟩) ∧ vs.length = n ∧ l.length = n ∧
      (∀ (j : Nat) (v : Value), vs[j]? = some v → w.cell? ((⟨b, off, none⟩ : Addr).add j) = some v) ∧
      (∀ (j : Nat) (x : AV) (v : Value), l[j]? = some x → vs[j]? = some v → (∃ Gx, Rep w Z Gx x v no) ∧ Vok (pk σ) G x v) := by
  cases hv with
  | ref nd o e rows b off m hget ha hG =>
    unfold cellsAt at hl
    rw [hget] at hl
    simp only [Option.bind_some, AV.row, ha] at hl
    cases hrow : rows[i]? with
    | none => rw [hrow] at hl; cases hl
    | some row =>
      rw [hrow] at hl
      simp only [Option.bind_some] at hl
      split at hl
      · rename_i hle
        simp only [Option.some.injEq] at hl
        subst hl
        have hcell : ∀ j, j < n → ∃ v, w.cell? ((⟨b, off + (i * e + c), none⟩ : Addr).add j) = some v ∧
            (∀ x, (shmL r hs i c ((row.drop c).take n))[j]? = some x → (∃ Gx, Rep w Z Gx x v no) ∧ Vok (pk σ) G x v) := by
          intro j hj
          have hx : cellOf rows (i, c + j) = some row[c + j] := by simp [cellOf, hrow]
          obtain ⟨v, h1, h2, h3⟩ := cell_ok k hget ha hG hx
          refine ⟨v, ?_, ?_⟩
          · rw [add_none]
            simp only at h1
            rw [show off + (i * e + c) + j = off + (i * e + (c + j)) by omega]; exact h1
          · intro x hxl
            rw [shmL_get, List.getElem?_take, List.getElem?_drop] at hxl
            simp only [hj, if_true] at hxl
            have : row[c + j]? = some row[c + j] := List.getElem?_eq_getElem (by omega)
            rw [this] at hxl
            simp only [Option.map_some, Option.some.injEq] at hxl
            rw [← hxl]; exact ⟨h2, h3⟩
        have hvs : ∃ vs : List Value, vs.length = n ∧ ∀ (j : Nat) (v : Value), vs[j]? = some v → w.cell? ((⟨b, off + (i * e + c), none⟩ : Addr).add j) = some v ∧
            (∀ x, (shmL r hs i c ((row.drop c).take n))[j]? = some x → (∃ Gx, Rep w Z Gx x v no) ∧ Vok (pk σ) G x v) := by
          refine ⟨(List.range n).map fun j => (w.cell? ((⟨b, off + (i * e + c), none⟩ : Addr).add j)).getD undef, by simp, ?_⟩
          intro j v hjv
          rw [List.getElem?_map] at hjv
          by_cases hj : j < n
          · rw [List.getElem?_range hj] at hjv
            simp only [Option.map_some, Option.some.injEq] at hjv
            obtain ⟨u, h1, h2⟩ := hcell j hj
            rw [h1] at hjv
            simp only [Option.getD_some] at hjv
            subst hjv; exact ⟨h1, h2⟩
          · rw [List.getElem?_eq_none (by simpa using Nat.le_of_not_lt hj)] at hjv; cases hjv
        obtain ⟨vs, hvl, hvs⟩ := hvs
        exact ⟨b, _, vs, rfl, hvl, by rw [shmL_length]; simp; omega, fun j v hj => (hvs j v hj).1, fun j x v hx hj => (hvs j v hj).2 x hx⟩
      · cases hl

end
end Go.V
