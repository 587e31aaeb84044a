/- V: what it means that memory holds a tree. -/
import Derived.Test.YtflpofmnjibjgaaVWp
set_option linter.unusedVariables false
set_option linter.unusedSimpArgs false
namespace Go.V
open Go

abbrev Foot := Nat → Nat → Prop
def no : Foot := fun _ _ => False

/-- one place of memory holds in the second world what it held in the first. -/
structure Same (w w' : World) (x y : Nat) : Prop where
  cell : w'.cell? ⟨x, y, none⟩ = w.cell? ⟨x, y, none⟩
  frozen : w'.frozen? ⟨x, y, none⟩ = w.frozen? ⟨x, y, none⟩
  map : ∀ es c, w.heap[x]? = some (.map es c) → w'.heap[x]? = some (.map es c)

theorem Same.refl (w : World) (x y : Nat) : Same w w x y := ⟨rfl, rfl, fun _ _ h => h⟩
theorem Same.trans {w w' w'' : World} {x y : Nat} (h : Same w w' x y) (h' : Same w' w'' x y) : Same w w'' x y :=
  ⟨h'.cell.trans h.cell, h'.frozen.trans h.frozen, fun es c e => h'.map es c (h.map es c e)⟩

/-- two objects of one kind: only what they hold may differ. -/
def kin : Option Obj → Option Obj → Prop
  | some (.cells c t fr), some (.cells c' t' fr') => t' = t ∧ fr' = fr ∧ c'.size = c.size
  | some (.map _ _), some (.map _ _) => True
  | o, o' => o' = o

theorem kin.refl (o : Option Obj) : kin o o := by
  cases o with
  | none => rfl
  | some o => cases o <;> simp [kin]

theorem kin.trans {o o' o'' : Option Obj} (h : kin o o') (h' : kin o' o'') : kin o o'' := by
  unfold kin at h h' ⊢
  split at h
  · split at h' <;> simp_all
  · split at h' <;> simp_all
  · subst h; exact h'

/-- a world that has come of another one: only what memory holds has changed, and new memory has come. -/
structure Step (w w' : World) : Prop where
  os : w'.os = w.os
  out : w'.output = w.output
  size : w.heap.size ≤ w'.heap.size
  blk : ∀ x, x < w.heap.size → kin w.heap[x]? w'.heap[x]?
  new : ∀ a : Addr, w.heap.size ≤ a.block → w'.frozen? a = false

theorem frozen_out (w : World) (a : Addr) (h : w.heap.size ≤ a.block) : w.frozen? a = false := by
  have : w.heap[a.block]? = none := by rw [Array.getElem?_eq_none_iff]; exact h
  simp only [World.frozen?, this]

theorem kin.frozen {w w' : World} {a : Addr} (h : kin w.heap[a.block]? w'.heap[a.block]?) : w'.frozen? a = w.frozen? a := by
  unfold kin at h
  simp only [World.frozen?]
  split at h
  · rename_i h1 h2; rw [h1, h2]; simp only [h.2.1]
  · rename_i h1 h2; rw [h1, h2]
  · rw [h]

theorem Step.refl (w : World) : Step w w := ⟨rfl, rfl, Nat.le_refl _, fun _ _ => .refl _, fun a h => frozen_out w a h⟩
theorem Step.trans {w w' w'' : World} (h : Step w w') (h' : Step w' w'') : Step w w'' := by
  refine ⟨h'.os.trans h.os, h'.out.trans h.out, Nat.le_trans h.size h'.size, fun x hx => (h.blk x hx).trans (h'.blk x (Nat.lt_of_lt_of_le hx h.size)), fun a ha => ?_⟩
  by_cases hb : w'.heap.size ≤ a.block
  · exact h'.new a hb
  · rw [kin.frozen (h'.blk a.block (by omega))]; exact h.new a ha

def hdr (a : AV) (b off m : Nat) : Value :=
  match a with
  | .slc _ _ rows => .slice (some ⟨b, off, none⟩) rows.length m
  | _ => .pointer (some ⟨b, off, none⟩)

def capOk (a : AV) (m : Nat) : Prop :=
  match a with
  | .slc _ _ rows => rows.length ≤ m
  | _ => m = 1

inductive Rep (w : World) (Z : Foot) : (Hops → Value) → AV → Value → Foot → Prop
  | lit {G : Hops → Value} {x : Value} {F : Foot} (h : plain x = true) : Rep w Z G (.lit x) x F
  | gone {G : Hops → Value} {v : Value} {F : Foot} : Rep w Z G .gone v F
  | dead {G : Hops → Value} {v : Value} {F : Foot} (h : v.oneCell' = true) : Rep w Z G .dead v F
  | ref {G : Hops → Value} {r : Nat} {hs : Hops} {i c : Nat} {v : Value} {F : Foot} (h : v.oneCell' = true) : Rep w Z G (.ref r hs i c) v F
  | view {G : Hops → Value} {r : Nat} {hs : Hops} {lo len e : Nat} {v : Value} {F : Foot} (h : v.oneCell' = true) : Rep w Z G (.view r hs lo len e) v F
  | mref {G : Hops → Value} {r : Nat} {hs : Hops} {v : Value} {F : Foot} (h : v.oneCell' = true) : Rep w Z G (.mref r hs) v F
  | held {G : Hops → Value} {v : Value} {F : Foot} (h : v.oneCell' = true) (hG : G [] = v) : Rep w Z G .held v F
  | arr {G : Hops → Value} {F : Foot} (a : AV) (o : Bool) (e : Nat) (rows : List (List AV)) (b off m : Nat) (val : Nat × Nat → Value) (Fc : Nat × Nat → Foot)
      (ha : a.arr = some (o, e, rows)) (he : 0 < e) (hm : capOk a m)
      (hrow : ∀ row ∈ rows, row.length = e)
      (hown : o = true → ∀ j, j < m * e → F b (off + j) ∧ w.frozen? ⟨b, off + j, none⟩ = false ∧ (w.cell? ⟨b, off + j, none⟩).isSome = true)
      (hshr : o = false → ∀ j, j < rows.length * e → Z b (off + j))
      (hsub : ∀ h x y, Fc h x y → o = true ∧ F x y ∧ ¬ (x = b ∧ off ≤ y ∧ y < off + m * e))
      (hdis : ∀ h g x y, Fc h x y → Fc g x y → h = g)
      (hcell : ∀ h x, cellOf rows h = some x → w.cell? ⟨b, off + (h.1 * e + h.2), none⟩ = some (val h))
      (hrep : ∀ h x, cellOf rows h = some x → Rep w Z (fun hs => G (h :: hs)) x (val h) (Fc h))
      (hG : G [] = hdr a b off m) : Rep w Z G a (hdr a b off m) F
  | agg {G : Hops → Value} {F : Foot} (cs : List AV) (vs : Array Value) (Gc : Nat → Hops → Value) (Fc : Nat → Foot) (hl : cs.length = vs.size)
      (hsub : ∀ i x y, Fc i x y → F x y) (hdis : ∀ i j x y, Fc i x y → Fc j x y → i = j)
      (hrep : ∀ i x, cs[i]? = some x → Rep w Z (Gc i) x (vs.getD i undef) (Fc i)) : Rep w Z G (.agg cs) (.agg vs) F
  | tup {G : Hops → Value} {F : Foot} (cs : List AV) (vs : Array Value) (Gc : Nat → Hops → Value) (Fc : Nat → Foot) (hl : cs.length = vs.size)
      (hsub : ∀ i x y, Fc i x y → F x y) (hdis : ∀ i j x y, Fc i x y → Fc j x y → i = j)
      (hrep : ∀ i x, cs[i]? = some x → Rep w Z (Gc i) x (vs.getD i undef) (Fc i)) : Rep w Z G (.tup cs) (.tuple vs) F
  | clo {G : Hops → Value} {F : Foot} (f : FuncId) : Rep w Z G (.clo f []) (.func (.func f) #[] #[]) F
  | map {G : Hops → Value} {F : Foot} (o : Bool) (es : List (Value × AV)) (b : Nat) (entries : Array MapEntry) (clock : Nat)
      (hw : w.heap[b]? = some (.map entries clock)) (hes : entries.toList.map (fun e => (e.key, AV.lit e.val)) = es)
      (hp : ∀ e ∈ entries.toList, plain e.val = true) (hF : o = true → F b 0) (hZ : o = false → Z b 0) (hG : G [] = .map (some b)) :
      Rep w Z G (.map o es) (.map (some b)) F

theorem Rep.mono {w : World} {Z : Foot} {G : Hops → Value} {a : AV} {v : Value} {F F' : Foot} (h : Rep w Z G a v F) (hF : ∀ x y, F x y → F' x y) :
    Rep w Z G a v F' := by
  cases h with
  | lit h => exact .lit h
  | gone => exact .gone
  | dead h => exact .dead h
  | ref h => exact .ref h
  | view h => exact .view h
  | mref h => exact .mref h
  | held h hG => exact .held h hG
  | arr a o e rows b off m val Fc ha he hm hrow hown hshr hsub hdis hcell hrep hG =>
    exact .arr _ o e rows b off m val Fc ha he hm hrow (fun ho j hj => ⟨hF _ _ (hown ho j hj).1, (hown ho j hj).2⟩) hshr
      (fun h x y hx => ⟨(hsub h x y hx).1, hF _ _ (hsub h x y hx).2.1, (hsub h x y hx).2.2⟩) hdis hcell hrep hG
  | agg cs vs Gc Fc hl hsub hdis hrep => exact .agg cs vs Gc Fc hl (fun i x y hx => hF _ _ (hsub i x y hx)) hdis hrep
  | tup cs vs Gc Fc hl hsub hdis hrep => exact .tup cs vs Gc Fc hl (fun i x y hx => hF _ _ (hsub i x y hx)) hdis hrep
  | clo f => exact .clo f
  | map o es b entries clock hw hes hp hF' hZ hG => exact .map o es b entries clock hw hes hp (fun ho => hF _ _ (hF' ho)) hZ hG

theorem cellOf_lt {rows : List (List AV)} {h : Nat × Nat} {x : AV} {e : Nat} (hx : cellOf rows h = some x) (hrow : ∀ row ∈ rows, row.length = e) :
    h.1 < rows.length ∧ h.2 < e := by
  unfold cellOf at hx
  cases hr : rows[h.1]? with
  | none => rw [hr] at hx; cases hx
  | some row =>
    rw [hr] at hx
    have hi := (List.getElem?_eq_some_iff.1 hr)
    obtain ⟨hi, hi'⟩ := hi
    have hj := (List.getElem?_eq_some_iff.1 hx)
    obtain ⟨hj, _⟩ := hj
    exact ⟨hi, by rw [← hrow row (by rw [← hi']; exact List.getElem_mem hi)]; exact hj⟩

theorem addr_inj {e i c j d : Nat} (hc : c < e) (hd : d < e) (h : i * e + c = j * e + d) : i = j ∧ c = d := by
  have h1 : (i * e + c) / e = i := by rw [Nat.mul_comm, Nat.mul_add_div (by omega), Nat.div_eq_of_lt hc]; omega
  have h2 : (j * e + d) / e = j := by rw [Nat.mul_comm, Nat.mul_add_div (by omega), Nat.div_eq_of_lt hd]; omega
  have : i = j := by rw [← h1, h, h2]
  subst this
  exact ⟨rfl, by omega⟩

theorem addr_lt {e i c m : Nat} (hi : i < m) (hc : c < e) : i * e + c < m * e := by
  have : (i + 1) * e ≤ m * e := Nat.mul_le_mul_right e hi
  rw [Nat.add_mul] at this; omega

theorem rows_le {a : AV} {o : Bool} {e m : Nat} {rows : List (List AV)} (ha : a.arr = some (o, e, rows)) (hm : capOk a m) : rows.length ≤ m := by
  cases a <;> simp [AV.arr] at ha
  · obtain ⟨_, _, rfl⟩ := ha; exact hm
  · obtain ⟨_, _, rfl⟩ := ha; simp [capOk] at hm; simp [hm]

/-- memory that stays lets a tree stand. -/
theorem Rep.agree {w w' : World} {Z Z' : Foot} {G : Hops → Value} {a : AV} {v : Value} {F : Foot} (h : Rep w Z G a v F) :
    (∀ x y, F x y ∨ Z x y → Same w w' x y) → (∀ x y, Z x y → Z' x y) → Rep w' Z' G a v F := by
  induction h with
  | lit h => intro _ _; exact .lit h
  | gone => intro _ _; exact .gone
  | dead h => intro _ _; exact .dead h
  | ref h => intro _ _; exact .ref h
  | view h => intro _ _; exact .view h
  | mref h => intro _ _; exact .mref h
  | held h hG => intro _ _; exact .held h hG
  | @arr G F a o e rows b off m val Fc ha he hm hrow hown hshr hsub hdis hcell hrep hG ih =>
    intro hs hz
    have hle := rows_le ha hm
    refine .arr a o e rows b off m val Fc ha he hm hrow ?_ (fun ho j hj => hz _ _ (hshr ho j hj)) hsub hdis ?_ ?_ hG
    · intro ho j hj
      obtain ⟨h1, h2, h3⟩ := hown ho j hj
      have s := hs b (off + j) (.inl h1)
      exact ⟨h1, by rw [s.frozen]; exact h2, by rw [s.cell]; exact h3⟩
    · intro h x hx
      obtain ⟨l1, l2⟩ := cellOf_lt hx hrow
      have s : Same w w' b (off + (h.1 * e + h.2)) := by
        cases o with
        | true => exact hs _ _ (.inl (hown rfl _ (addr_lt (by omega) l2)).1)
        | false => exact hs _ _ (.inr (hshr rfl _ (addr_lt l1 l2)))
      rw [s.cell]; exact hcell h x hx
    · intro h x hx
      exact ih h x hx (fun x y hxy => hxy.elim (fun q => hs _ _ (.inl (hsub _ _ _ q).2.1)) (fun q => hs _ _ (.inr q))) hz
  | agg cs vs Gc Fc hl hsub hdis hrep ih =>
    intro hs hz
    exact .agg cs vs Gc Fc hl hsub hdis fun i x hx => ih i x hx (fun x y hxy => hxy.elim (fun q => hs _ _ (.inl (hsub _ _ _ q))) (fun q => hs _ _ (.inr q))) hz
  | tup cs vs Gc Fc hl hsub hdis hrep ih =>
    intro hs hz
    exact .tup cs vs Gc Fc hl hsub hdis fun i x hx => ih i x hx (fun x y hxy => hxy.elim (fun q => hs _ _ (.inl (hsub _ _ _ q))) (fun q => hs _ _ (.inr q))) hz
  | clo f => intro _ _; exact .clo f
  | map o es b entries clock hw hes hp hF hZ hG =>
    intro hs hz
    refine .map o es b entries clock ?_ hes hp hF (fun ho => hz _ _ (hZ ho)) hG
    cases o with
    | true => exact (hs b 0 (.inl (hF rfl))).map _ _ hw
    | false => exact (hs b 0 (.inr (hZ rfl))).map _ _ hw

theorem cellOf_modCell (f : AV → AV) (h g : Nat × Nat) (rows : List (List AV)) :
    cellOf (modCell f h rows) g = if g = h then (cellOf rows g).map f else cellOf rows g := by
  unfold cellOf modCell
  rw [List.getElem?_modify, Option.map_eq_map]
  by_cases h1 : h.1 = g.1
  · cases hr : rows[g.1]? with
    | none => simp
    | some row =>
      simp only [Option.map_some, Option.bind_some, h1, if_true]
      rw [List.getElem?_modify, Option.map_eq_map]
      by_cases h2 : h.2 = g.2
      · have : g = h := Prod.ext h1.symm h2.symm
        simp [h2, this]
      · have : g ≠ h := fun q => h2 (by rw [q])
        simp [h2, this]
  · have : g ≠ h := fun q => h1 (by rw [q])
    simp [h1, this]

theorem length_modCell (f : AV → AV) (h : Nat × Nat) (rows : List (List AV)) : (modCell f h rows).length = rows.length := by
  unfold modCell; simp

theorem mem_modCell {f : AV → AV} {h : Nat × Nat} {rows : List (List AV)} {e : Nat} (hrow : ∀ row ∈ rows, row.length = e) :
    ∀ row ∈ modCell f h rows, row.length = e := by
  intro row hr
  obtain ⟨i, hi⟩ := List.mem_iff_getElem?.1 hr
  unfold modCell at hi
  rw [List.getElem?_modify, Option.map_eq_map] at hi
  cases hq : rows[i]? with
  | none => rw [hq] at hi; simp at hi
  | some r =>
    rw [hq] at hi
    have hm : r ∈ rows := List.mem_of_getElem? hq
    by_cases h1 : h.1 = i
    · simp only [Option.map_some, h1, if_true, Option.some.injEq] at hi; rw [← hi]; simp [hrow r hm]
    · simp only [Option.map_some, h1, if_false, Option.some.injEq] at hi; rw [← hi]; exact hrow r hm

theorem arr_modKid {a : AV} {o : Bool} {e : Nat} {rows : List (List AV)} (f : AV → AV) (h : Nat × Nat) (ha : a.arr = some (o, e, rows)) :
    (a.modKid f h).arr = some (o, e, modCell f h rows) ∧ (∀ b off m, hdr (a.modKid f h) b off m = hdr a b off m) ∧ (∀ m, capOk (a.modKid f h) m = capOk a m) := by
  cases a <;> simp [AV.arr] at ha
  · obtain ⟨rfl, rfl, rfl⟩ := ha
    refine ⟨rfl, ?_, ?_⟩ <;> intros <;> simp [AV.modKid, hdr, capOk, length_modCell]
  · obtain ⟨rfl, rfl, rfl⟩ := ha
    refine ⟨?_, ?_, ?_⟩
    · simp only [AV.modKid, AV.arr, modCell]
      by_cases h0 : h.1 = 0
      · simp [h0]
      · obtain ⟨n, hn⟩ : ∃ n, h.1 = n + 1 := ⟨h.1 - 1, by omega⟩
        simp [hn]
    · intros; simp [AV.modKid, hdr]
    · intros; simp [AV.modKid, capOk]

/-- what lies at a place of one's own can be looked at by itself, and another thing laid there. -/
theorem Rep.focus {w : World} {Z : Foot} {G : Hops → Value} {a : AV} {v : Value} {F : Foot} (h : Rep w Z G a v F) :
    ∀ (g : Nat × Nat) (hs : Hops) (n : AV), a.get (g :: hs) = some n → a.owned (g :: hs) = true →
    ∃ (b off : Nat) (vn : Value) (F1 F2 : Foot), (∀ x y, F1 x y → F x y) ∧ (∀ x y, F2 x y → F x y) ∧ (∀ x y, F1 x y → F2 x y → False) ∧
      F1 b off ∧ w.cell? ⟨b, off, none⟩ = some vn ∧ w.frozen? ⟨b, off, none⟩ = false ∧ Rep w Z (fun q => G (g :: hs ++ q)) n vn F2 ∧
      (∀ (pre : Hops) (h : Nat × Nat), g :: hs = pre ++ [h] → ∃ (a' : AV) (o : Bool) (e : Nat) (rows : List (List AV)) (off0 m : Nat),
        a.get pre = some a' ∧ a'.arr = some (o, e, rows) ∧ G pre = hdr a' b off0 m ∧ off = off0 + (h.1 * e + h.2)) ∧
      ∀ (w' : World) (Z' : Foot) (G' : Hops → Value) (n' : AV) (vn' : Value) (F2' : Foot),
        (∀ x y, F1 x y → ¬ (x = b ∧ y = off) → Same w w' x y) → (∀ x y, Z x y → Same w w' x y) → (∀ x y, Z x y → Z' x y) →
        w'.cell? ⟨b, off, none⟩ = some vn' → w'.frozen? ⟨b, off, none⟩ = false → (∀ q, ¬ (g :: hs) <+: q → G' q = G q) →
        Rep w' Z' (fun q => G' (g :: hs ++ q)) n' vn' F2' → (∀ x y, F1 x y → F2' x y → False) →
        Rep w' Z' G' (a.put (g :: hs) n') v (fun x y => F1 x y ∨ F2' x y) := by
  induction h with
  | @arr G F a o e rows b off m val Fc ha he hm hrow hown hshr hsub hdis hcell hrep hG ih =>
    intro g hs n hget howned
    have hle := rows_le ha hm
    simp only [AV.get, AV.kid, ha, Option.bind_some] at hget
    simp only [AV.owned, AV.kid, ha, Option.bind_some, Bool.and_eq_true] at howned
    obtain ⟨ho, howned⟩ := howned
    have ho : o = true := ho
    subst ho
    cases hx : cellOf rows g with
    | none => rw [hx] at hget; cases hget
    | some x =>
      rw [hx] at hget howned
      simp only [Option.bind_some] at hget
      simp only at howned
      obtain ⟨l1, l2⟩ := cellOf_lt hx hrow
      have hlt : g.1 * e + g.2 < m * e := addr_lt (by omega) l2
      obtain ⟨hFb, hfz, _⟩ := hown rfl _ hlt
      -- what is common to both cases: the node rebuilt about a new part
      have rebuild : ∀ (w' : World) (Z' : Foot) (G' : Hops → Value) (f : AV → AV) (vn' : Value) (Fk : Foot) (F1 : Foot),
          (∀ p, p < m * e → F1 b (off + p)) → (∀ q x y, q ≠ g → Fc q x y → F1 x y) → (∀ x y, Fk x y → ¬ (x = b ∧ off ≤ y ∧ y < off + m * e)) →
          (∀ q x y, q ≠ g → Fc q x y → Fk x y → False) →
          (∀ p, p < m * e → p ≠ g.1 * e + g.2 → Same w w' b (off + p)) → (∀ q x y, q ≠ g → Fc q x y → Same w w' x y) → (∀ x y, Z x y → Same w w' x y) → (∀ x y, Z x y → Z' x y) →
          w'.cell? ⟨b, off + (g.1 * e + g.2), none⟩ = some vn' → w'.frozen? ⟨b, off + (g.1 * e + g.2), none⟩ = false →
          (∀ q, ¬ [g] <+: q → G' q = G q) → Rep w' Z' (fun q => G' (g :: q)) (f x) vn' Fk →
          Rep w' Z' G' (a.modKid f g) (hdr a b off m) (fun x y => F1 x y ∨ Fk x y) := by
        intro w' Z' G' f vn' Fk F1 hb hother hk hkd s1 s2 s3 hz hc hf hg' hr
        obtain ⟨ha', hh', hm'⟩ := arr_modKid f g ha
        rw [← hh' b off m]
        refine .arr _ true e (modCell f g rows) b off m (fun q => if q = g then vn' else val q) (fun q => if q = g then Fk else Fc q) ha' he (by rw [hm']; exact hm) (mem_modCell hrow) ?_ (fun q => by cases q) ?_ ?_ ?_ ?_ ?_
        · intro _ j hj
          obtain ⟨q1, q2, q3⟩ := hown rfl j hj
          by_cases hjg : j = g.1 * e + g.2
          · subst hjg; exact ⟨.inl (hb _ hj), hf, by rw [hc]; rfl⟩
          · have s := s1 j hj hjg
            exact ⟨.inl (hb _ hj), by rw [s.frozen]; exact q2, by rw [s.cell]; exact q3⟩
        · intro q x' y' hq
          by_cases hqg : q = g
          · simp only [hqg, if_true] at hq
            exact ⟨rfl, .inr hq, hk _ _ hq⟩
          · simp only [hqg, if_false] at hq
            exact ⟨rfl, .inl (hother _ _ _ hqg hq), (hsub _ _ _ hq).2.2⟩
        · intro q q' x' y' hq hq'
          by_cases hqg : q = g <;> by_cases hqg' : q' = g
          · rw [hqg, hqg']
          · simp only [hqg, if_true, hqg', if_false] at hq hq'; exact (hkd _ _ _ hqg' hq' hq).elim
          · simp only [hqg, if_false, hqg', if_true] at hq hq'; exact (hkd _ _ _ hqg hq hq').elim
          · simp only [hqg, if_false, hqg', if_false] at hq hq'; exact hdis _ _ _ _ hq hq'
        · intro q z hz'
          rw [cellOf_modCell] at hz'
          by_cases hqg : q = g
          · simp only [hqg, if_true]; exact hc
          · simp only [hqg, if_false] at hz' ⊢
            obtain ⟨r1, r2⟩ := cellOf_lt hz' hrow
            have s := s1 (q.1 * e + q.2) (addr_lt (by omega) r2) (fun heq => hqg (by obtain ⟨u1, u2⟩ := addr_inj r2 l2 heq; exact Prod.ext u1 u2))
            rw [s.cell]; exact hcell q z hz'
        · intro q z hz'
          rw [cellOf_modCell] at hz'
          by_cases hqg : q = g
          · simp only [hqg, if_true, hx, Option.map_some, Option.some.injEq] at hz' ⊢
            rw [← hz']; exact hr
          · simp only [hqg, if_false] at hz' ⊢
            have hrq := hrep q z hz'
            have : (fun hs => G' (q :: hs)) = fun hs => G (q :: hs) := by
              funext hs'
              exact hg' _ (fun hp => hqg (by obtain ⟨t, ht⟩ := hp; simp only [List.cons_append, List.nil_append, List.cons.injEq] at ht; exact ht.1.symm))
            rw [this]
            exact hrq.agree (fun x' y' hxy => hxy.elim (fun u => s2 _ _ _ hqg u) (fun u => s3 _ _ u)) hz
        · rw [hg' [] (fun hp => by simp at hp), hG, hh']
      cases hs with
      | nil =>
        simp only [AV.get, Option.some.injEq] at hget
        subst hget
        refine ⟨b, off + (g.1 * e + g.2), val g, fun x y => F x y ∧ ¬ Fc g x y, Fc g, fun _ _ q => q.1, fun _ _ q => (hsub _ _ _ q).2.1, fun _ _ q q' => q.2 q', ⟨hFb, fun q => (hsub _ _ _ q).2.2 ⟨rfl, by omega, by omega⟩⟩, hcell g x hx, hfz, hrep g x hx, ?_, ?_⟩
        · intro pre h hp
          cases pre with
          | nil => simp only [List.nil_append, List.cons.injEq, and_true] at hp; subst hp; exact ⟨_, true, e, rows, off, m, rfl, ha, hG, rfl⟩
          | cons p pre => simp at hp
        intro w' Z' G' n' vn' F2' s1 s3 hz hc hf hg' hr hd
        refine rebuild w' Z' G' (fun x => x.put [] n') vn' F2' _ ?_ ?_ ?_ ?_ ?_ ?_ s3 hz hc hf hg' (by simpa [AV.put] using hr)
        · intro p hp; exact ⟨(hown rfl p hp).1, fun q => (hsub _ _ _ q).2.2 ⟨rfl, by omega, by omega⟩⟩
        · intro q x' y' hq hfq; exact ⟨(hsub _ _ _ hfq).2.1, fun u => hq (hdis _ _ _ _ hfq u)⟩
        · intro x' y' hk hrange
          obtain ⟨rfl, h1, h2⟩ := hrange
          have := (hown rfl (y' - off) (by omega)).1
          rw [show off + (y' - off) = y' by omega] at this
          exact hd _ _ ⟨this, fun u => (hsub _ _ _ u).2.2 ⟨rfl, h1, h2⟩⟩ hk
        · intro q x' y' hq hfq hk; exact hd _ _ ⟨(hsub _ _ _ hfq).2.1, fun u => hq (hdis _ _ _ _ hfq u)⟩ hk
        · intro p hp hne
          exact s1 b (off + p) ⟨(hown rfl p hp).1, fun u => (hsub _ _ _ u).2.2 ⟨rfl, by omega, by omega⟩⟩ (fun u => hne (by omega))
        · intro q x' y' hq hfq
          refine s1 _ _ ⟨(hsub _ _ _ hfq).2.1, fun u => hq (hdis _ _ _ _ hfq u)⟩ (fun u => ?_)
          obtain ⟨rfl, rfl⟩ := u
          exact (hsub _ _ _ hfq).2.2 ⟨rfl, by omega, by omega⟩
      | cons g' hs' =>
        obtain ⟨b', off', vn, F1, F2, k1, k2, k3, k4, k5, k6, k7, kat, k8⟩ := ih g x hx g' hs' n hget howned
        refine ⟨b', off', vn, fun x y => (F x y ∧ ¬ Fc g x y) ∨ F1 x y, F2, ?_, fun x y q => (hsub _ _ _ (k2 _ _ q)).2.1, ?_, .inr k4, k5, k6, k7, ?_, ?_⟩
        · rintro x' y' (q | q)
          · exact q.1
          · exact (hsub _ _ _ (k1 _ _ q)).2.1
        · rintro x' y' (q | q) u
          · exact q.2 (k2 _ _ u)
          · exact k3 _ _ q u
        · intro pre h hp
          cases pre with
          | nil => simp at hp
          | cons p pre =>
            simp only [List.cons_append, List.cons.injEq] at hp
            obtain ⟨rfl, hp⟩ := hp
            obtain ⟨a', o', e', rows', off0, m', q1, q2, q3, q4⟩ := kat pre h hp
            exact ⟨a', o', e', rows', off0, m', by simp only [AV.get, AV.kid, ha, Option.bind_some, hx]; exact q1, q2, q3, q4⟩
        · intro w' Z' G' n' vn' F2' s1 s3 hz hc hf hg' hr hd
          have hnot : ¬ (b' = b ∧ off ≤ off' ∧ off' < off + m * e) := (hsub _ _ _ (k1 _ _ k4)).2.2
          have s0 : ∀ p, p < m * e → Same w w' b (off + p) := fun p hp =>
            s1 _ _ (.inl ⟨(hown rfl p hp).1, fun u => (hsub _ _ _ u).2.2 ⟨rfl, by omega, by omega⟩⟩) (fun u => hnot ⟨u.1.symm, by omega, by omega⟩)
          have hrk := k8 w' Z' (fun q => G' (g :: q)) n' vn' F2' (fun x' y' q u => s1 _ _ (.inr q) u) s3 hz hc hf
            (fun q hq => hg' _ (fun hp => hq (by
              obtain ⟨t, ht⟩ := hp
              simp only [List.cons_append, List.cons.injEq, true_and] at ht
              exact ⟨t, by simpa using ht⟩))) hr (fun x' y' q u => hd _ _ (.inr q) u)
          have := rebuild w' Z' G' (fun x => x.put (g' :: hs') n') (val g) (fun x y => F1 x y ∨ F2' x y) (fun x y => F x y ∧ ¬ Fc g x y) ?_ ?_ ?_ ?_ ?_ ?_ s3 hz ?_ ?_ ?_ hrk
          · refine Rep.mono this ?_
            rintro x' y' (q | q | q)
            · exact .inl (.inl q)
            · exact .inl (.inr q)
            · exact .inr q
          · intro p hp; exact ⟨(hown rfl p hp).1, fun u => (hsub _ _ _ u).2.2 ⟨rfl, by omega, by omega⟩⟩
          · intro q x' y' hq hfq; exact ⟨(hsub _ _ _ hfq).2.1, fun u => hq (hdis _ _ _ _ hfq u)⟩
          · rintro x' y' (hk | hk) hrange
            · exact (hsub _ _ _ (k1 _ _ hk)).2.2 hrange
            · obtain ⟨rfl, h1, h2⟩ := hrange
              have := (hown rfl (y' - off) (by omega)).1
              rw [show off + (y' - off) = y' by omega] at this
              exact hd _ _ (.inl ⟨this, fun u => (hsub _ _ _ u).2.2 ⟨rfl, h1, h2⟩⟩) hk
          · rintro q x' y' hq hfq (hk | hk)
            · exact hq (hdis _ _ _ _ hfq (k1 _ _ hk))
            · exact hd _ _ (.inl ⟨(hsub _ _ _ hfq).2.1, fun u => hq (hdis _ _ _ _ hfq u)⟩) hk
          · intro p hp _; exact s0 p hp
          · intro q x' y' hq hfq
            refine s1 _ _ (.inl ⟨(hsub _ _ _ hfq).2.1, fun u => hq (hdis _ _ _ _ hfq u)⟩) (fun u => ?_)
            obtain ⟨rfl, rfl⟩ := u
            exact hq (hdis _ _ _ _ hfq (k1 _ _ k4))
          · rw [(s0 _ hlt).cell]; exact hcell g x hx
          · rw [(s0 _ hlt).frozen]; exact hfz
          · intro q hq
            exact hg' q (fun hp => hq (by obtain ⟨t, ht⟩ := hp; exact ⟨g' :: hs' ++ t, by simpa using ht⟩))
  | _ => intro g hs n hget _; simp [AV.get, AV.kid, AV.arr] at hget

end Go.V
