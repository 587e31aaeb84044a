/- V: how the state of a frame is turned: a slot set, a cell written, a part taken or made common. -/
import Derived.Test.YtflpofmnjibjgaaVSt
set_option linter.unusedVariables false
set_option linter.unusedSimpArgs false
namespace Go.V
open Go

section
variable {w0 : World} {F0 Z0 X : Foot} {f : Nat → AV} {ts : Array Value} {w : World} {Z : Foot} {Fs : Nat → Foot} {G : Nat → Hops → Value}

open Classical in
noncomputable def updG (G : Nat → Hops → Value) (r : Nat) (hs : Hops) (Gn : Hops → Value) : Nat → Hops → Value :=
  fun t q => if t = r ∧ hs <+: q then Gn (q.drop hs.length) else G t q

theorem updG_stays {G : Nat → Hops → Value} {r : Nat} {hs : Hops} {Gn : Hops → Value} {r' : Nat} {hv : Hops} (h : Stays r hs r' hv) : updG G r hs Gn r' hv = G r' hv := by
  unfold updG; rw [if_neg]; rintro ⟨h1, h2⟩; exact h h1 h2

theorem updG_self {G : Nat → Hops → Value} {r : Nat} {hs : Hops} {Gn : Hops → Value} (q : Hops) : updG G r hs Gn r (hs ++ q) = Gn q := by
  unfold updG; rw [if_pos ⟨rfl, List.prefix_append hs q⟩]; simp

theorem putF_like {f : Nat → AV} {r : Nat} {hs : Hops} {n' : AV} {kill : Bool} (r' : Nat) (hv : Hops) (x : AV) (hst : Stays r hs r' hv)
    (hm : x.mem = true) (hx : (f r').get hv = some x) : ∃ x', (putF f r hs n' kill r').get hv = some x' ∧ Like x x' := by
  unfold putF
  by_cases h : r' = r
  · subst h
    simp only [if_true]
    exact get_put _ _ _ _ _ (hst rfl) hx
  · simp only [h, if_false]
    cases kill with
    | false => exact ⟨x, hx, .refl x⟩
    | true =>
      simp only [if_true]
      have : (f r').mem = true := by
        cases hv with
        | nil => simp only [AV.get, Option.some.injEq] at hx; rw [hx]; exact hm
        | cons g hv =>
          simp only [AV.get] at hx
          cases ha : (f r').arr with
          | none => simp [AV.kid, ha] at hx
          | some y => exact arr_mem ha
      rw [mem_kill this]
      exact ⟨x, hx, .refl x⟩

/-- what names something stands behind a write. -/
theorem Ok.names (_k : Ok w0 F0 Z0 X f ts w Z Fs G) {r : Nat} {hs : Hops} {n : AV} (n' : AV) (Gn : Hops → Value) (hn : (f r).get hs = some n)
    {a : AV} {v : Value} (h : Vok f G a v) :
    Vok (putF f r hs n' n.node) (updG G r hs Gn) (if n.node then a.kill r hs else a) v := by
  cases hnn : n.node with
  | true => exact h.turn (fun r' hv x a b c => putF_like r' hv x a b c) (fun r' hv a => updG_stays a)
  | false => exact h.turn' hn hnn (fun r' hv x a b c => putF_like r' hv x a b c) (fun r' hv a => updG_stays a)

theorem putF_other {f : Nat → AV} {r : Nat} {hs : Hops} {n' : AV} {kill : Bool} {t : Nat} (h : t ≠ r) : putF f r hs n' kill t = if kill then (f t).kill r hs else f t := by
  simp [putF, h]

/-- a cell of one's own is written (or only seen otherwise). -/
theorem Ok.mem (k : Ok w0 F0 Z0 X f ts w Z Fs G) {r : Nat} {g : Nat × Nat} {hs : Hops} {n : AV} (hget : (f r).get (g :: hs) = some n) (hown : (f r).owned (g :: hs) = true) :
    ∃ (b off : Nat) (vn : Value) (F1 F2 : Foot), (∀ x y, F1 x y → Fs r x y) ∧ (∀ x y, F2 x y → Fs r x y) ∧ (∀ x y, F1 x y → F2 x y → False) ∧
      F1 b off ∧ w.cell? ⟨b, off, none⟩ = some vn ∧ w.frozen? ⟨b, off, none⟩ = false ∧ Rep w Z (fun q => G r (g :: hs ++ q)) n vn F2 ∧
      (∀ (pre : Hops) (h : Nat × Nat), g :: hs = pre ++ [h] → ∃ (a' : AV) (o : Bool) (e : Nat) (rows : List (List AV)) (off0 m : Nat),
        (f r).get pre = some a' ∧ a'.arr = some (o, e, rows) ∧ G r pre = hdr a' b off0 m ∧ off = off0 + (h.1 * e + h.2)) ∧
      ∀ (w' : World) (Z' X' : Foot) (n' : AV) (vn' : Value) (F2' : Foot) (Gn : Hops → Value),
        (∀ x y, x < w.heap.size → ¬ (x = b ∧ y = off) → Same w w' x y) → w.heap.size ≤ w'.heap.size → Step w w' →
        w'.cell? ⟨b, off, none⟩ = some vn' → w'.frozen? ⟨b, off, none⟩ = false →
        (∀ x y, Z x y → Z' x y) → (∀ x y, Z' x y → x < w'.heap.size ∧ (Z0 x y ∨ F0 x y ∨ w0.heap.size ≤ x)) →
        (∀ t x y, Fs t x y → (t = r → F1 x y) → ¬ Z' x y ∧ ¬ X' x y ∧ ¬ F2' x y) →
        (∀ x y, F2' x y → ¬ Z' x y ∧ ¬ X' x y ∧ x < w'.heap.size ∧ (F0 x y ∨ w0.heap.size ≤ x)) →
        (∀ x y, X' x y → ¬ Z' x y ∧ x < w'.heap.size ∧ (F0 x y ∨ w0.heap.size ≤ x)) →
        Rep w' Z' Gn n' vn' F2' →
        Ok w0 F0 Z0 X' (putF f r (g :: hs) n' n.node) ts w' Z' (fun t x y => if t = r then F1 x y ∨ F2' x y else Fs t x y) (updG G r (g :: hs) Gn) := by
  obtain ⟨b, off, vn, F1, F2, k1, k2, k3, k4, k5, k6, k7, kat, k8⟩ := (k.rep r).focus g hs n hget hown
  refine ⟨b, off, vn, F1, F2, k1, k2, k3, k4, k5, k6, k7, kat, ?_⟩
  intro w' Z' X' n' vn' F2' Gn hsame hsize hstep hc hf hz hz' hF hF2 hX hr
  have hlt := (k.foot r _ _ (k1 _ _ k4))
  have same1 : ∀ t x y, Fs t x y → (t = r → F1 x y ∧ ¬ (x = b ∧ y = off)) → Same w w' x y := fun t x y q u =>
    hsame _ _ (k.foot t x y q).2.2.1 (fun e => by
      obtain ⟨rfl, rfl⟩ := e
      have : t = r := k.dis _ _ _ _ q (k1 _ _ k4)
      exact (u this).2 ⟨rfl, rfl⟩)
  have sameZ : ∀ x y, Z x y → Same w w' x y := fun x y q => hsame _ _ (k.shared x y q).1 (fun e => by
      obtain ⟨rfl, rfl⟩ := e; exact hlt.1 q)
  refine ⟨?_, ?_, ?_, ?_, hX, fun x y q => hz _ _ (k.base x y q), hz', Nat.le_trans k.grows hsize, ?_, k.step.trans hstep⟩
  · intro t
    by_cases ht : t = r
    · subst ht
      have hr' : Rep w' Z' (fun q => updG G t (g :: hs) Gn t (g :: hs ++ q)) (if n.node then n'.kill t (g :: hs) else n') vn' F2' := by
        have : (fun q => updG G t (g :: hs) Gn t (g :: hs ++ q)) = Gn := by funext q; exact updG_self q
        rw [this]
        cases n.node with
        | true => exact hr.kill _ _
        | false => exact hr
      have := k8 w' Z' (fun q => updG G t (g :: hs) Gn t q) _ vn' F2' (fun x y q u => same1 t x y (k1 _ _ q) (fun _ => ⟨q, u⟩)) sameZ hz hc hf
        (fun q hq => updG_stays (fun _ => hq)) hr' (fun x y q u => (hF t x y (k1 _ _ q) (fun _ => q)).2.2 u)
      simpa [putF] using this
    · rw [putF_other ht]
      simp only [ht, if_false]
      have hG : updG G r (g :: hs) Gn t = G t := by funext q; exact updG_stays (fun e => absurd e ht)
      rw [hG]
      have := (k.rep t).agree (w' := w') (Z' := Z') (fun x y q => q.elim (fun q => same1 t x y q (fun e => absurd e ht)) (fun q => sameZ x y q)) hz
      cases n.node with
      | true => exact this.kill _ _
      | false => exact this
  · intro t
    by_cases ht : t = r
    · subst ht
      -- a slot that has parts names nothing
      have : (putF f t (g :: hs) n' n.node t).mem = true := by
        simp only [putF, if_true, AV.put]
        cases ha : (f t).arr with
        | none => simp [AV.get, AV.kid, ha] at hget
        | some y =>
          obtain ⟨o, e, rows⟩ := y
          exact arr_mem (arr_modKid _ g ha).1
      cases hm : putF f t (g :: hs) n' n.node t <;> rw [hm] at this <;> simp [AV.mem] at this
      · exact .slc
      · exact .box
      · exact .map
      · exact .held
    · rw [putF_other ht]; exact k.names n' Gn hget (k.vok t)
  · intro t u x y ht hu
    by_cases h1 : t = r <;> by_cases h2 : u = r
    · rw [h1, h2]
    · simp only [h1, if_true, h2, if_false] at ht hu
      rcases ht with ht | ht
      · exact (h2 (k.dis _ _ _ _ hu (k1 _ _ ht))).elim
      · exact ((hF u x y hu (fun e => absurd e h2)).2.2 ht).elim
    · simp only [h1, if_false, h2, if_true] at ht hu
      rcases hu with hu | hu
      · exact (h1 (k.dis _ _ _ _ ht (k1 _ _ hu))).elim
      · exact ((hF t x y ht (fun e => absurd e h1)).2.2 hu).elim
    · simp only [h1, if_false, h2, if_false] at ht hu; exact k.dis _ _ _ _ ht hu
  · intro t x y ht
    by_cases h1 : t = r
    · simp only [h1, if_true] at ht
      rcases ht with ht | ht
      · have q := hF r x y (k1 _ _ ht) (fun _ => ht)
        have q' := k.foot r x y (k1 _ _ ht)
        exact ⟨q.1, q.2.1, by omega, q'.2.2.2⟩
      · exact hF2 x y ht
    · simp only [h1, if_false] at ht
      have q := hF t x y ht (fun e => absurd e h1)
      have q' := k.foot t x y ht
      exact ⟨q.1, q.2.1, by omega, q'.2.2.2⟩
  · intro x y hx hn
    refine (k.keep x y hx hn).trans (hsame _ _ (by have := k.grows; omega) (fun e => ?_))
    obtain ⟨rfl, rfl⟩ := e
    rcases hlt.2.2.2 with q | q
    · exact hn q
    · omega

/-- a slot is set. -/
theorem Ok.slot (k : Ok w0 F0 Z0 X f ts w Z Fs G) (d : Nat) {ts' : Array Value} {w' : World} {Z' X' : Foot} {a : AV} {v : Value} {Fd : Foot} {Gd : Hops → Value}
    (hts : ∀ t, ts'.getD t undef = if t = d then v else ts.getD t undef)
    (hsame : ∀ x y, x < w.heap.size → Same w w' x y) (hsize : w.heap.size ≤ w'.heap.size) (hstep : Step w w')
    (hz : ∀ x y, Z x y → Z' x y) (hz' : ∀ x y, Z' x y → x < w'.heap.size ∧ (Z0 x y ∨ F0 x y ∨ w0.heap.size ≤ x))
    (hF : ∀ t x y, t ≠ d → Fs t x y → ¬ Z' x y ∧ ¬ X' x y ∧ ¬ Fd x y)
    (hFd : ∀ x y, Fd x y → ¬ Z' x y ∧ ¬ X' x y ∧ x < w'.heap.size ∧ (F0 x y ∨ w0.heap.size ≤ x))
    (hX : ∀ x y, X' x y → ¬ Z' x y ∧ x < w'.heap.size ∧ (F0 x y ∨ w0.heap.size ≤ x))
    (hr : Rep w' Z' Gd a v Fd) (hv : Vok f G a v) :
    Ok w0 F0 Z0 X' (putF f d [] a (f d).node) ts' w' Z' (fun t => if t = d then Fd else Fs t) (updG G d [] Gd) := by
  have hget : (f d).get [] = some (f d) := rfl
  refine ⟨?_, ?_, ?_, ?_, hX, fun x y q => hz _ _ (k.base x y q), hz', Nat.le_trans k.grows hsize, ?_, k.step.trans hstep⟩
  · intro t
    by_cases ht : t = d
    · subst ht
      simp only [putF, if_true, AV.put, hts]
      have : updG G t [] Gd t = Gd := by funext q; exact updG_self (hs := []) q
      rw [this]
      cases (f t).node with
      | true => exact hr.kill _ _
      | false => exact hr
    · rw [putF_other ht, hts]
      simp only [ht, if_false]
      have hG : updG G d [] Gd t = G t := by funext q; exact updG_stays (fun e => absurd e ht)
      rw [hG]
      have := (k.rep t).agree (w' := w') (Z' := Z') (fun x y q => q.elim (fun q => hsame _ _ (k.foot t x y q).2.2.1) (fun q => hsame _ _ (k.shared x y q).1)) hz
      cases (f d).node with
      | true => exact this.kill _ _
      | false => exact this
  · intro t
    by_cases ht : t = d
    · subst ht
      have := k.names a Gd hget hv
      simp only [hts, if_true]
      simp only [putF, if_true, AV.put]
      cases hn : (f t).node with
      | true => rw [hn] at this; simpa using this
      | false => rw [hn] at this; simpa using this
    · rw [putF_other ht, hts]; simp only [ht, if_false]; exact k.names a Gd hget (k.vok t)
  · intro t u x y ht hu
    by_cases h1 : t = d <;> by_cases h2 : u = d
    · rw [h1, h2]
    · simp only [h1, if_true, h2, if_false] at ht hu; exact ((hF u x y h2 hu).2.2 ht).elim
    · simp only [h1, if_false, h2, if_true] at ht hu; exact ((hF t x y h1 ht).2.2 hu).elim
    · simp only [h1, if_false, h2, if_false] at ht hu; exact k.dis _ _ _ _ ht hu
  · intro t x y ht
    by_cases h1 : t = d
    · simp only [h1, if_true] at ht; exact hFd x y ht
    · simp only [h1, if_false] at ht
      have q := hF t x y h1 ht
      have q' := k.foot t x y ht
      exact ⟨q.1, q.2.1, by omega, q'.2.2.2⟩
  · intro x y hx hn
    exact (k.keep x y hx hn).trans (hsame _ _ (by have := k.grows; omega))

theorem cellOf_shrRows (rows : List (List AV)) (h : Nat × Nat) : cellOf (shrRows rows) h = (cellOf rows h).map AV.shr := by
  have h1 : ∀ (l : List AV) (i : Nat), (shrCells l)[i]? = (l[i]?).map AV.shr := by
    intro l; induction l with
    | nil => intro i; simp [shrCells]
    | cons c l ih => intro i; cases i <;> simp [shrCells, ih]
  have h2 : ∀ (l : List (List AV)) (i : Nat), (shrRows l)[i]? = (l[i]?).map shrCells := by
    intro l; induction l with
    | nil => intro i; simp [shrRows]
    | cons c l ih => intro i; cases i <;> simp [shrRows, ih]
  unfold cellOf
  rw [h2]
  cases rows[h.1]? with
  | none => rfl
  | some row => simp [h1]

theorem shrCells_length : ∀ (l : List AV), (shrCells l).length = l.length
  | [] => rfl
  | c :: l => by simp [shrCells, shrCells_length l]

theorem shrRows_length : ∀ (l : List (List AV)), (shrRows l).length = l.length
  | [] => rfl
  | c :: l => by simp [shrRows, shrRows_length l]

theorem shrRows_mem {rows : List (List AV)} {e : Nat} (h : ∀ row ∈ rows, row.length = e) : ∀ row ∈ shrRows rows, row.length = e := by
  induction rows with
  | nil => intro row hr; simp [shrRows] at hr
  | cons c l ih =>
    intro row hr
    simp only [shrRows, List.mem_cons] at hr
    rcases hr with rfl | hr
    · rw [shrCells_length]; exact h c (List.mem_cons_self ..)
    · exact ih (fun r hr => h r (List.mem_cons_of_mem _ hr)) row hr

/-- what is one's own, made common. -/
theorem Rep.shr {w : World} {Z Z' : Foot} {G : Hops → Value} {a : AV} {v : Value} {F : Foot} (h : Rep w Z G a v F) :
    (∀ x y, F x y → Z' x y) → (∀ x y, Z x y → Z' x y) → Rep w Z' G a.shr v no := by
  have hcells : ∀ (l : List AV) (i : Nat), (shrCells l)[i]? = (l[i]?).map AV.shr := by
    intro l; induction l with
    | nil => intro i; simp [shrCells]
    | cons c l ih => intro i; cases i <;> simp [shrCells, ih]
  induction h with
  | lit h => intro _ _; exact .lit h
  | gone => intro _ _; exact .gone
  | dead h => intro _ _; exact .dead h
  | ref h => intro _ _; exact .dead h
  | view h => intro _ _; exact .dead h
  | mref h => intro _ _; exact .dead h
  | held h hG => intro _ _; exact .dead h
  | @arr G F a o e rows b off m val Fc ha he hm hrow hown hshr hsub hdis hcell hrep hG ih =>
    intro hF hZ
    have hle := rows_le ha hm
    have ha' : a.shr.arr = some (false, e, shrRows rows) ∧ (hdr a.shr b off m = hdr a b off m) ∧ capOk a.shr m := by
      cases a <;> simp [AV.arr] at ha
      · obtain ⟨rfl, rfl, rfl⟩ := ha; exact ⟨rfl, by simp [AV.shr, hdr, shrRows_length], by simp only [AV.shr, capOk, shrRows_length]; exact hm⟩
      · obtain ⟨rfl, rfl, rfl⟩ := ha; exact ⟨by simp [AV.shr, AV.arr, shrCells_length, shrRows], by simp [AV.shr, hdr], hm⟩
    rw [← ha'.2.1]
    refine .arr _ false e (shrRows rows) b off m val (fun _ => no) ha'.1 he ha'.2.2 (shrRows_mem hrow) (fun q => by cases q) ?_ (fun h x y q => q.elim) (fun h g x y q => q.elim) ?_ ?_ (by rw [hG, ha'.2.1])
    · intro _ j hj
      rw [shrRows_length] at hj
      cases o with
      | true => exact hF _ _ (hown rfl j (Nat.lt_of_lt_of_le hj (Nat.mul_le_mul_right e hle))).1
      | false => exact hZ _ _ (hshr rfl j hj)
    · intro h x hx
      rw [cellOf_shrRows] at hx
      cases hq : cellOf rows h with
      | none => rw [hq] at hx; cases hx
      | some y => exact hcell h y hq
    · intro h x hx
      rw [cellOf_shrRows] at hx
      cases hq : cellOf rows h with
      | none => rw [hq] at hx; cases hx
      | some y =>
        rw [hq] at hx
        simp only [Option.map_some, Option.some.injEq] at hx
        rw [← hx]
        exact ih h y hq (fun x y q => hF _ _ (hsub _ _ _ q).2.1) hZ
  | agg cs vs Gc Fc hl hsub hdis hrep ih =>
    intro hF hZ
    simp only [AV.shr]
    refine .agg _ vs Gc (fun _ => no) (by rw [shrCells_length, hl]) (fun i x y q => q) (fun i j x y q => q.elim) fun i x hx => ?_
    rw [hcells] at hx
    cases hq : cs[i]? with
    | none => rw [hq] at hx; cases hx
    | some y => rw [hq] at hx; simp only [Option.map_some, Option.some.injEq] at hx; rw [← hx]; exact ih i y hq (fun x y q => hF _ _ (hsub _ _ _ q)) hZ
  | tup cs vs Gc Fc hl hsub hdis hrep ih =>
    intro hF hZ
    simp only [AV.shr]
    refine .tup _ vs Gc (fun _ => no) (by rw [shrCells_length, hl]) (fun i x y q => q) (fun i j x y q => q.elim) fun i x hx => ?_
    rw [hcells] at hx
    cases hq : cs[i]? with
    | none => rw [hq] at hx; cases hx
    | some y => rw [hq] at hx; simp only [Option.map_some, Option.some.injEq] at hx; rw [← hx]; exact ih i y hq (fun x y q => hF _ _ (hsub _ _ _ q)) hZ
  | clo f => intro _ _; exact .clo f
  | map o es b entries clock hw hes hp hF' hZ' hG => intro _ _; exact .dead rfl

/-- a run of a slice's rows. -/
theorem Rep.sub {w : World} {Z : Foot} {G : Hops → Value} {o : Bool} {e : Nat} {rows : List (List AV)} {v : Value} {F : Foot}
    (h : Rep w Z G (.slc o e rows) v F) : ∃ b off m, v = .slice (some ⟨b, off, none⟩) rows.length m ∧ G [] = v ∧ rows.length ≤ m ∧
      ∀ (lo len off' : Nat), lo + len ≤ rows.length → (off' = off + lo * e ∨ m = lo) →
        ∃ G', Rep w Z G' (.slc o e ((rows.drop lo).take len)) (.slice (some ⟨b, off', none⟩) len (m - lo)) F := by
  generalize ha : AV.slc o e rows = a at h
  cases h with
  | arr a o' e' rows' b off m val Fc ha' he hm hrow hown hshr hsub hdis hcell hrep hG =>
    subst ha
    simp only [AV.arr, Option.some.injEq, Prod.mk.injEq] at ha'
    obtain ⟨rfl, rfl, rfl⟩ := ha'
    refine ⟨b, off, m, rfl, hG, hm, ?_⟩
    intro lo len off' hle hoff
    have hlen : ((rows.drop lo).take len).length = len := by simp; omega
    have hcellOf : ∀ h x, cellOf ((rows.drop lo).take len) h = some x → cellOf rows (h.1 + lo, h.2) = some x := by
      intro h x hx
      unfold cellOf at hx ⊢
      simp only [List.getElem?_take, List.getElem?_drop] at hx
      by_cases hlt : h.1 < len
      · simp only [hlt, if_true] at hx; rw [Nat.add_comm]; exact hx
      · simp only [hlt, if_false] at hx; cases hx
    have hm' : rows.length ≤ m := hm
    refine ⟨fun q => match q with | [] => .slice (some ⟨b, off', none⟩) len (m - lo) | h :: q => G ((h.1 + lo, h.2) :: q), ?_⟩
    have hh : hdr (.slc o e ((rows.drop lo).take len)) b off' (m - lo) = .slice (some ⟨b, off', none⟩) len (m - lo) := by simp only [hdr, hlen]
    rw [← hh]
    have hmul : ∀ j, j < (m - lo) * e → lo * e + j < m * e := by
      intro j hj
      have : (m - lo) * e + lo * e = m * e := by rw [← Nat.add_mul, Nat.sub_add_cancel (by omega)]
      omega
    have hoff1 : ∀ j, j < (m - lo) * e → off' + j = off + (lo * e + j) := by
      intro j hj
      rcases hoff with rfl | rfl
      · omega
      · simp at hj
    refine .arr _ o e _ b off' (m - lo) (fun h => val (h.1 + lo, h.2)) (fun h => Fc (h.1 + lo, h.2)) rfl he (by simp only [capOk, hlen]; omega) ?_ ?_ ?_ ?_ ?_ ?_ ?_ (by rw [hh])
    · intro row hr; exact hrow row (List.mem_of_mem_drop (List.mem_of_mem_take hr))
    · intro ho j hj
      have q := hown ho (lo * e + j) (hmul j hj)
      rw [hoff1 j hj]; exact q
    · intro ho j hj
      rw [hlen] at hj
      have hj' : j < (m - lo) * e := Nat.lt_of_lt_of_le hj (Nat.mul_le_mul_right e (by omega))
      rw [hoff1 j hj']
      refine hshr ho _ ?_
      have : lo * e + len * e ≤ rows.length * e := by rw [← Nat.add_mul]; exact Nat.mul_le_mul_right e hle
      omega
    · intro h x y q
      obtain ⟨q1, q2, q3⟩ := hsub _ _ _ q
      refine ⟨q1, q2, fun u => q3 ⟨u.1, ?_, ?_⟩⟩
      · have := hoff1 (y - off') (by omega); omega
      · have := hoff1 (y - off') (by omega); have := hmul (y - off') (by omega); omega
    · intro h g x y q q'
      have := hdis _ _ _ _ q q'
      simp only [Prod.mk.injEq] at this
      exact Prod.ext (by omega) this.2
    · intro h x hx
      have hx' := hcellOf h x hx
      obtain ⟨l1, l2⟩ := cellOf_lt hx (fun row hr => hrow row (List.mem_of_mem_drop (List.mem_of_mem_take hr)))
      rw [hlen] at l1
      have hlt : h.1 * e + h.2 < (m - lo) * e := addr_lt (by omega) l2
      rw [hoff1 _ hlt, show lo * e + (h.1 * e + h.2) = (h.1 + lo) * e + h.2 by rw [Nat.add_mul]; omega]
      exact hcell _ x hx'
    · intro h x hx; exact hrep _ x (hcellOf h x hx)
  | _ => cases ha

end
end Go.V
