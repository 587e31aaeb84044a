/- V: the state of a frame, and how it turns. -/
import Derived.Test.YtflpofmnjibjgaaVRep
set_option linter.unusedVariables false
set_option linter.unusedSimpArgs false
namespace Go.V
open Go

/-- two nodes of one shape. -/
inductive Like : AV → AV → Prop
  | refl (a : AV) : Like a a
  | slc {o : Bool} {e : Nat} {rows rows' : List (List AV)} (h : rows'.length = rows.length) : Like (.slc o e rows) (.slc o e rows')
  | box {o : Bool} {cs cs' : List AV} (h : cs'.length = cs.length) : Like (.box o cs) (.box o cs')

theorem Like.arr {a a' : AV} (h : Like a a') {o : Bool} {e : Nat} {rows : List (List AV)} (ha : a.arr = some (o, e, rows)) :
    ∃ rows', a'.arr = some (o, e, rows') ∧ ∀ b off m, hdr a' b off m = hdr a b off m := by
  cases h with
  | refl => exact ⟨rows, ha, fun _ _ _ => rfl⟩
  | slc h => simp [AV.arr] at ha; obtain ⟨rfl, rfl, rfl⟩ := ha; exact ⟨_, rfl, fun _ _ _ => by simp [hdr, h]⟩
  | @box o cs cs' h => simp [AV.arr] at ha; obtain ⟨rfl, rfl, rfl⟩ := ha; exact ⟨[cs'], by simp [AV.arr, h], fun _ _ _ => by simp [hdr]⟩

theorem like_modKid (f : AV → AV) (g : Nat × Nat) (a : AV) : Like a (a.modKid f g) := by
  cases a <;> simp only [AV.modKid] <;> first | exact .refl _ | skip
  · exact .slc (length_modCell f g _)
  · exact .box (by split <;> simp)

theorem kid_modKid (f : AV → AV) (g h : Nat × Nat) (a : AV) : (a.modKid f g).kid h = if h = g then (a.kid h).map f else a.kid h := by
  unfold AV.kid
  cases ha : a.arr with
  | none =>
    have : (a.modKid f g).arr = none := by cases a <;> simp [AV.arr, AV.modKid] at ha ⊢
    rw [this]; simp
  | some x =>
    obtain ⟨o, e, rows⟩ := x
    rw [(arr_modKid f g ha).1]
    simp only [Option.bind_some]
    exact cellOf_modCell f g h rows

/-- what does not lie behind a place that is laid anew keeps its shape. -/
theorem get_put (n' : AV) : ∀ (hs hv : Hops) (a x : AV), ¬ hs <+: hv → a.get hv = some x → ∃ x', (a.put hs n').get hv = some x' ∧ Like x x'
  | [], hv, a, x, hn, _ => (hn ⟨hv, rfl⟩).elim
  | g :: hs, [], a, x, _, hx => by
    simp only [AV.get, Option.some.injEq] at hx
    subst hx
    exact ⟨_, rfl, like_modKid _ _ _⟩
  | g :: hs, h :: hv, a, x, hn, hx => by
    simp only [AV.get] at hx ⊢
    simp only [AV.put]
    rw [kid_modKid]
    by_cases hg : h = g
    · subst hg
      simp only [if_true]
      cases hk : a.kid h with
      | none => rw [hk] at hx; cases hx
      | some y =>
        rw [hk] at hx
        simp only [Option.bind_some] at hx
        simp only [Option.map_some, Option.bind_some]
        exact get_put n' hs hv y x (fun hp => hn (by obtain ⟨t, ht⟩ := hp; exact ⟨t, by simp [ht]⟩)) hx
    · simp only [hg, if_false]
      exact ⟨x, hx, .refl x⟩

theorem get_put_self (n' : AV) : ∀ (hs : Hops) (a n : AV), a.get hs = some n → (a.put hs n').get hs = some n'
  | [], _, _, _ => rfl
  | g :: hs, a, n, hx => by
    simp only [AV.get] at hx ⊢
    simp only [AV.put]
    rw [kid_modKid]
    simp only [if_true]
    cases hk : a.kid g with
    | none => rw [hk] at hx; cases hx
    | some y =>
      rw [hk] at hx
      simp only [Option.bind_some] at hx
      simp only [Option.map_some, Option.bind_some]
      exact get_put_self n' hs y n hx

/-- a place behind another one: what lies there is a node. -/
theorem node_of_get : ∀ (hs hv : Hops) (a n x : AV), hs <+: hv → a.get hs = some n → a.get hv = some x → x.node = true → n.node = true
  | [], [], a, n, x, _, hn, hx, hxn => by simp only [AV.get, Option.some.injEq] at hn hx; rw [← hn, hx]; exact hxn
  | [], h :: hv, a, n, x, _, hn, hx, _ => by
    simp only [AV.get, Option.some.injEq] at hn hx
    subst hn
    cases a <;> simp [AV.kid, AV.arr] at hx <;> rfl
  | g :: hs, [], a, n, x, hp, _, _, _ => by simp at hp
  | g :: hs, h :: hv, a, n, x, hp, hn, hx, hxn => by
    rw [List.cons_prefix_cons] at hp
    obtain ⟨rfl, hp⟩ := hp
    simp only [AV.get] at hn hx
    cases hk : a.kid g with
    | none => rw [hk] at hn; cases hn
    | some y =>
      rw [hk] at hn hx
      exact node_of_get hs hv y n x hp hn hx hxn

theorem through_of_prefix : ∀ (hs hv : Hops), hs <+: hv → Hops.through hs hv = true
  | [], _, _ => by simp [Hops.through]
  | g :: hs, [], hp => by simp at hp
  | g :: hs, h :: hv, hp => by
    rw [List.cons_prefix_cons] at hp
    obtain ⟨rfl, hp⟩ := hp
    simp [Hops.through, through_of_prefix hs hv hp]

/-- what a value that names a place is, by what lies there. -/
inductive Vok (f : Nat → AV) (G : Nat → Hops → Value) : AV → Value → Prop
  | ref {r : Nat} {hs : Hops} {i c : Nat} (a : AV) (o : Bool) (e : Nat) (rows : List (List AV)) (b off m : Nat) (hget : (f r).get hs = some a)
      (ha : a.arr = some (o, e, rows)) (hG : G r hs = hdr a b off m) : Vok f G (.ref r hs i c) (.pointer (some ⟨b, off + (i * e + c), none⟩))
  | view {r : Nat} {hs : Hops} {lo len e : Nat} (rows : List (List AV)) (b off m off' : Nat) (hget : (f r).get hs = some (.slc true e rows))
      (hG : G r hs = .slice (some ⟨b, off, none⟩) rows.length m) (hle : lo + len ≤ rows.length) (hoff : off' = off + lo * e ∨ (m = lo ∧ lo ≠ 0)) :
      Vok f G (.view r hs lo len e) (.slice (some ⟨b, off', none⟩) len (m - lo))
  | mref {r : Nat} {hs : Hops} (x : AV) (hget : (f r).get hs = some x) (hx : x = .held ∨ ∃ o es, x = .map o es) : Vok f G (.mref r hs) (G r hs)
  | held {v : Value} : Vok f G .held v
  | agg {cs : List AV} {vs : Array Value} (h : ∀ i x, cs[i]? = some x → Vok f G x (vs.getD i undef)) : Vok f G (.agg cs) (.agg vs)
  | lit {x v : Value} : Vok f G (.lit x) v
  | slc {o : Bool} {e : Nat} {rows : List (List AV)} {v : Value} : Vok f G (.slc o e rows) v
  | box {o : Bool} {cs : List AV} {v : Value} : Vok f G (.box o cs) v
  | map {o : Bool} {es : List (Value × AV)} {v : Value} : Vok f G (.map o es) v
  | tup {cs : List AV} {v : Value} : Vok f G (.tup cs) v
  | clo {g : FuncId} {cs : List AV} {v : Value} : Vok f G (.clo g cs) v
  | dead {v : Value} : Vok f G .dead v
  | gone {v : Value} : Vok f G .gone v

def AV.mem : AV → Bool
  | .slc .. | .box .. | .map .. | .held => true
  | _ => false

theorem arr_mem {a : AV} {x : Bool × Nat × List (List AV)} (h : a.arr = some x) : a.mem = true := by cases a <;> simp [AV.arr] at h <;> rfl

theorem mem_kill {a : AV} (h : a.mem = true) (r : Nat) (hs : Hops) : a.kill r hs = a := by cases a <;> simp [AV.mem] at h <;> rfl

/-- may a value stay, when a place is laid anew? -/
def Stays (r : Nat) (hs : Hops) (r' : Nat) (hv : Hops) : Prop := r' = r → ¬ hs <+: hv

/-- values that name nothing behind the place stand as before. -/
theorem Vok.turn {f f' : Nat → AV} {G G' : Nat → Hops → Value} {r : Nat} {hs : Hops} (hlike : ∀ r' hv x, Stays r hs r' hv → x.mem = true → (f r').get hv = some x → ∃ x', (f' r').get hv = some x' ∧ Like x x')
    (hG : ∀ r' hv, Stays r hs r' hv → G' r' hv = G r' hv) {a : AV} {v : Value} (h : Vok f G a v) : Vok f' G' (a.kill r hs) v := by
  have stays : ∀ r' hv, (r' == r && Hops.through hs hv) = false → Stays r hs r' hv := by
    intro r' hv hb he hp
    subst he
    simp [through_of_prefix hs hv hp] at hb
  induction h with
  | @ref r' hv i c a o e rows b off m hget ha hG' =>
    simp only [AV.kill]
    cases hb : (r' == r && Hops.through hs hv) with
    | true => simp only [if_true]; exact .dead
    | false =>
      simp only [Bool.false_eq_true, if_false]
      have hst := stays _ _ hb
      obtain ⟨x', hx', hl⟩ := hlike _ _ _ hst (arr_mem ha) hget
      obtain ⟨rows', hr', hh⟩ := hl.arr ha
      exact .ref x' o e rows' b off m hx' hr' (by rw [hG _ _ hst, hG', hh])
  | @view r' hv lo len e rows b off m off' hget hG' hle hoff =>
    simp only [AV.kill]
    cases hb : (r' == r && Hops.through hs hv) with
    | true => simp only [if_true]; exact .dead
    | false =>
      simp only [Bool.false_eq_true, if_false]
      have hst := stays _ _ hb
      obtain ⟨x', hx', hl⟩ := hlike _ _ _ hst rfl hget
      cases hl with
      | refl => exact .view rows b off m off' hx' (by rw [hG _ _ hst, hG']) hle hoff
      | slc hl => exact .view _ b off m off' hx' (by rw [hG _ _ hst, hG', hl]) (by omega) hoff
  | held => exact .held
  | @mref r' hv x hget hx =>
    have hxm : x.mem = true := by rcases hx with rfl | ⟨_, _, rfl⟩ <;> rfl
    simp only [AV.kill]
    cases hb : (r' == r && Hops.through hs hv) with
    | true => simp only [if_true]; exact .dead
    | false =>
      simp only [Bool.false_eq_true, if_false]
      have hst := stays _ _ hb
      obtain ⟨x', hx', hl⟩ := hlike _ _ _ hst hxm hget
      cases hl with
      | refl => rw [← hG _ _ hst]; exact .mref x hx' hx
      | slc => rcases hx with h | ⟨_, _, h⟩ <;> cases h
      | box => rcases hx with h | ⟨_, _, h⟩ <;> cases h
  | @agg cs vs h ih =>
    simp only [AV.kill]
    refine .agg fun i x hx => ?_
    have hkl : ∀ (l : List AV) (i : Nat), (killL r hs l)[i]? = (l[i]?).map (·.kill r hs) := by
      intro l
      induction l with
      | nil => intro i; simp [killL]
      | cons c l ihl => intro i; cases i <;> simp [killL, ihl]
    rw [hkl] at hx
    cases hc : cs[i]? with
    | none => rw [hc] at hx; cases hx
    | some y => rw [hc] at hx; simp only [Option.map_some, Option.some.injEq] at hx; rw [← hx]; exact ih i y hc
  | lit => exact .lit
  | slc => exact .slc
  | box => exact .box
  | map => exact .map
  | tup => exact .tup
  | clo => simp only [AV.kill]; exact .clo
  | dead => exact .dead
  | gone => exact .gone

/-- the same where what lay there was no node: nothing named it. -/
theorem Vok.turn' {f f' : Nat → AV} {G G' : Nat → Hops → Value} {r : Nat} {hs : Hops} {n : AV} (hn : (f r).get hs = some n) (hnn : n.node = false)
    (hlike : ∀ r' hv x, Stays r hs r' hv → x.mem = true → (f r').get hv = some x → ∃ x', (f' r').get hv = some x' ∧ Like x x')
    (hG : ∀ r' hv, Stays r hs r' hv → G' r' hv = G r' hv) {a : AV} {v : Value} (h : Vok f G a v) : Vok f' G' a v := by
  have stays : ∀ r' hv x, (f r').get hv = some x → x.node = true → Stays r hs r' hv := by
    intro r' hv x hx hxn he hp
    subst he
    have := node_of_get hs hv _ n x hp hn hx hxn
    rw [hnn] at this; cases this
  have arrnode : ∀ (a : AV) (x : Bool × Nat × List (List AV)), a.arr = some x → a.node = true := by
    intro a x h; cases a <;> simp [AV.arr] at h <;> rfl
  induction h with
  | @ref r' hv i c a o e rows b off m hget ha hG' =>
    have hst := stays _ _ _ hget (arrnode _ _ ha)
    obtain ⟨x', hx', hl⟩ := hlike _ _ _ hst (arr_mem ha) hget
    obtain ⟨rows', hr', hh⟩ := hl.arr ha
    exact .ref x' o e rows' b off m hx' hr' (by rw [hG _ _ hst, hG', hh])
  | @view r' hv lo len e rows b off m off' hget hG' hle hoff =>
    have hst := stays _ _ _ hget rfl
    obtain ⟨x', hx', hl⟩ := hlike _ _ _ hst rfl hget
    cases hl with
    | refl => exact .view rows b off m off' hx' (by rw [hG _ _ hst, hG']) hle hoff
    | slc hl => exact .view _ b off m off' hx' (by rw [hG _ _ hst, hG', hl]) (by omega) hoff
  | held => exact .held
  | @mref r' hv x hget hx =>
    have hxm : x.mem = true := by rcases hx with rfl | ⟨_, _, rfl⟩ <;> rfl
    have hst := stays _ _ _ hget (by rcases hx with rfl | ⟨_, _, rfl⟩ <;> rfl)
    obtain ⟨x', hx', hl⟩ := hlike _ _ _ hst hxm hget
    cases hl with
    | refl => rw [← hG _ _ hst]; exact .mref x hx' hx
    | slc => rcases hx with h | ⟨_, _, h⟩ <;> cases h
    | box => rcases hx with h | ⟨_, _, h⟩ <;> cases h
  | agg h ih => exact .agg ih
  | lit => exact .lit
  | slc => exact .slc
  | box => exact .box
  | map => exact .map
  | tup => exact .tup
  | clo => exact .clo
  | dead => exact .dead
  | gone => exact .gone

theorem Rep.kill {w : World} {Z : Foot} {G : Hops → Value} {a : AV} {v : Value} {F : Foot} (r : Nat) (hs : Hops) (h : Rep w Z G a v F) : Rep w Z G (a.kill r hs) v F := by
  have hkl : ∀ (l : List AV) (i : Nat), (killL r hs l)[i]? = (l[i]?).map (·.kill r hs) := by
    intro l
    induction l with
    | nil => intro i; simp [killL]
    | cons c l ihl => intro i; cases i <;> simp [killL, ihl]
  have hlen : ∀ (l : List AV), (killL r hs l).length = l.length := by
    intro l; induction l with
    | nil => rfl
    | cons c l ihl => simp [killL, ihl]
  induction h with
  | lit h => exact .lit h
  | gone => exact .gone
  | dead h => exact .dead h
  | ref h => simp only [AV.kill]; split <;> first | exact .dead h | exact .ref h
  | view h => simp only [AV.kill]; split <;> first | exact .dead h | exact .view h
  | mref h => simp only [AV.kill]; split <;> first | exact .dead h | exact .mref h
  | held h hG => exact .held h hG
  | arr a o e rows b off m val Fc ha he hm hrow hown hshr hsub hdis hcell hrep hG ih =>
    have : a.kill r hs = a := by cases a <;> simp [AV.arr] at ha <;> rfl
    rw [this]
    exact .arr a o e rows b off m val Fc ha he hm hrow hown hshr hsub hdis hcell hrep hG
  | agg cs vs Gc Fc hl hsub hdis hrep ih =>
    simp only [AV.kill]
    refine .agg _ vs Gc Fc (by rw [hlen, hl]) hsub hdis fun i x hx => ?_
    rw [hkl] at hx
    cases hc : cs[i]? with
    | none => rw [hc] at hx; cases hx
    | some y => rw [hc] at hx; simp only [Option.map_some, Option.some.injEq] at hx; rw [← hx]; exact ih i y hc
  | tup cs vs Gc Fc hl hsub hdis hrep ih =>
    simp only [AV.kill]
    refine .tup _ vs Gc Fc (by rw [hlen, hl]) hsub hdis fun i x hx => ?_
    rw [hkl] at hx
    cases hc : cs[i]? with
    | none => rw [hc] at hx; cases hx
    | some y => rw [hc] at hx; simp only [Option.map_some, Option.some.injEq] at hx; rw [← hx]; exact ih i y hc
  | clo f => exact .clo f
  | map o es b entries clock hw hes hp hF hZ hG => exact .map o es b entries clock hw hes hp hF hZ hG

/-- a frame's state: what its slots hold, by trees; 'X': what is held beside them. -/
structure Ok (w0 : World) (F0 Z0 X : Foot) (f : Nat → AV) (ts : Array Value) (w : World) (Z : Foot) (Fs : Nat → Foot) (G : Nat → Hops → Value) : Prop where
  rep : ∀ t, Rep w Z (G t) (f t) (ts.getD t undef) (Fs t)
  vok : ∀ t, Vok f G (f t) (ts.getD t undef)
  dis : ∀ t u x y, Fs t x y → Fs u x y → t = u
  foot : ∀ t x y, Fs t x y → ¬ Z x y ∧ ¬ X x y ∧ x < w.heap.size ∧ (F0 x y ∨ w0.heap.size ≤ x)
  free : ∀ x y, X x y → ¬ Z x y ∧ x < w.heap.size ∧ (F0 x y ∨ w0.heap.size ≤ x)
  base : ∀ x y, Z0 x y → Z x y
  shared : ∀ x y, Z x y → x < w.heap.size ∧ (Z0 x y ∨ F0 x y ∨ w0.heap.size ≤ x)
  grows : w0.heap.size ≤ w.heap.size
  keep : ∀ x y, x < w0.heap.size → ¬ F0 x y → Same w0 w x y
  step : Step w0 w

def putF (f : Nat → AV) (r : Nat) (hs : Hops) (n' : AV) (kill : Bool) : Nat → AV :=
  fun t => if t = r then (f r).put hs (if kill then n'.kill r hs else n') else if kill then (f t).kill r hs else f t

theorem pk_killAll (r : Nat) (hs : Hops) : ∀ (σ : Slots) (t : Nat), pk (killAll r hs σ) t = (pk σ t).kill r hs
  | [], _ => rfl
  | (u, v) :: σ, t => by
    simp only [killAll, pk]
    split
    · rfl
    · exact pk_killAll r hs σ t

theorem put_to {p : Put} {σ σ' : Slots} (h : p.to σ = some σ') :
    ∃ n, (pk σ p.r).get p.hs = some n ∧ (pk σ p.r).owned p.hs = true ∧ pk σ' = putF (pk σ) p.r p.hs p.v n.node := by
  unfold Put.to at h
  cases hn : (pk σ p.r).get p.hs with
  | none => rw [hn] at h; cases h
  | some n =>
    rw [hn] at h
    simp only [Option.bind_some] at h
    by_cases ho : (pk σ p.r).owned p.hs = true
    · rw [if_pos ho] at h
      refine ⟨n, rfl, ho, ?_⟩
      cases hnn : n.node with
      | true =>
        rw [hnn] at h
        simp only [if_true, Option.some.injEq] at h
        subst h
        funext t
        simp only [pk, putF, if_true]
        by_cases ht : t = p.r
        · simp [ht]
        · have ht' : ¬ p.r = t := fun h => ht h.symm
          simp [ht, ht', pk_killAll]
      | false =>
        rw [hnn] at h
        simp only [Bool.false_eq_true, if_false, Option.some.injEq] at h
        subst h
        funext t
        simp only [pk, putF, Bool.false_eq_true, if_false]
        by_cases ht : t = p.r
        · simp [ht]
        · have ht' : ¬ p.r = t := fun h => ht h.symm
          simp [ht, ht']
    · rw [if_neg ho] at h; cases h

end Go.V
