/- V: whatever order a region draws, it comes to what its walk comes to. -/
import Derived.Test.YtflpofmnjibjgaaVDraw
set_option linter.unusedVariables false
set_option linter.unusedSimpArgs false
namespace Go.V
open Go

def cnt (L : Nat → Bool) : Nat → Nat
  | 0 => 0
  | k + 1 => cnt L k + (if L k then 0 else 1)

def upd (L : Nat → Bool) (i : Nat) : Nat → Bool := fun k => if k = i then true else L k

theorem cnt_upd {L : Nat → Bool} {i : Nat} (hi : L i = false) : ∀ n, cnt (upd L i) n + (if i < n then 1 else 0) = cnt L n
  | 0 => by simp [cnt]
  | k + 1 => by
    have ih := cnt_upd hi k
    simp only [cnt, upd]
    by_cases hk : k = i
    · subst hk
      simp only [if_true, hi, Bool.false_eq_true, if_false]
      have h1 : ¬ k < k := by omega
      have h2 : k < k + 1 := by omega
      simp only [h1, h2, if_false, if_true] at ih ⊢
      omega
    · simp only [hk, if_false]
      by_cases h : i < k
      · have h2 : i < k + 1 := by omega
        simp only [h, h2, if_true] at ih ⊢
        omega
      · have h2 : ¬ i < k + 1 := by omega
        simp only [h, h2, if_false] at ih ⊢
        omega

theorem cnt_zero {L : Nat → Bool} : ∀ {n : Nat}, cnt L n = 0 → ∀ k < n, L k = true
  | 0, _, k, hk => by omega
  | n + 1, h, k, hk => by
    simp only [cnt] at h
    by_cases he : k = n
    · subst he
      cases hl : L k with
      | true => rfl
      | false => rw [hl] at h; simp at h
    · exact cnt_zero (n := n) (by omega) k (by omega)

theorem pk_setD (o : Oper) (v : AV) (σ : Slots) (t : Nat) : pk (setD o v σ) t = if o.dst = some t then v else pk σ t := by
  unfold setD
  cases hd : o.dst with
  | none => simp
  | some d => simp only [pk, Option.some.injEq]

/-- an operation that is ready. -/
structure Ready (ops : Array Oper) (L : Nat → Bool) (i : Nat) (o : Oper) : Prop where
  at_ : ops[i]? = some o
  new : L i = false
  edges : ∀ e ∈ o.after.toList, Region.binds .any e = true → L e.on = true

def Closed (ops : Array Oper) (L : Nat → Bool) : Prop := ∀ i o, ops[i]? = some o → L i = true → ∀ e ∈ o.after.toList, Region.binds .any e = true → L e.on = true

theorem pairAll_get {r : Nat → Nat → Bool} : ∀ (l : List Nat), pairAll r l = true → ∀ (p q a b : Nat), p < q → l[p]? = some a → l[q]? = some b → r a b = true
  | [], _, p, q, a, b, _, h, _ => by simp at h
  | x :: l, h, p, q, a, b, hpq, ha, hb => by
    simp only [pairAll, Bool.and_eq_true] at h
    cases q with
    | zero => omega
    | succ q =>
      simp only [List.getElem?_cons_succ] at hb
      cases p with
      | zero =>
        simp only [List.getElem?_cons_zero, Option.some.injEq] at ha
        subst ha
        exact List.all_eq_true.1 h.1 b (List.mem_of_getElem? hb)
      | succ p =>
        simp only [List.getElem?_cons_succ] at ha
        exact pairAll_get l h.2 p q a b (by omega) ha hb

theorem lt_size {ops : Array Oper} {i : Nat} {o : Oper} (ho : ops[i]? = some o) : i < ops.size := by
  rw [Array.getElem?_eq_some_iff] at ho; exact ho.1
theorem at_size {ops : Array Oper} {i : Nat} (hi : i < ops.size) : ∃ o, ops[i]? = some o := ⟨_, Array.getElem?_eq_getElem hi⟩

section
variable {E : Env} {ops : Array Oper} {pol : Pol} {s : Nat → Slots} {v : Nat → AV} {L : Nat → Bool}

theorem un_bar {i j : Nat} (h : un pol i j = true) : bar pol i = false := by
  unfold un at h; unfold bar
  cases hu : pol.us.getD i [] with
  | nil => rw [hu] at h; simp at h
  | cons a b => rfl

structure Facts (ops : Array Oper) (pol : Pol) : Prop where
  on : ∀ (i : Nat) (o : Oper), ops[i]? = some o → ∀ e ∈ o.after.toList, Region.binds .any e = true → e.on < i
  sym : ∀ i j, i < ops.size → j < ops.size → un pol i j = un pol j i
  anc : ∀ (i : Nat) (o : Oper), ops[i]? = some o → ∀ j < i, un pol i j = false → ∃ e ∈ o.after.toList, Region.binds .any e = true ∧ (e.on = j ∨ j < e.on ∧ un pol e.on j = false)
  len : pol.ord.length = ops.size
  lt : ∀ (p i : Nat), pol.ord[p]? = some i → i < ops.size
  has : ∀ i < ops.size, ∃ p, p < ops.size ∧ pol.ord[p]? = some i
  pair : ∀ (p q a b : Nat), p < q → pol.ord[p]? = some a → pol.ord[q]? = some b → a ≠ b ∧ (a < b ∨ un pol a b = true) ∧ (isPut pol a = true → un pol a b = false)
  puts : ∀ a b, isPut pol a = true → un pol a b = true → isPut pol b = false

theorem facts (h : ordOk ops pol = true) : Facts ops pol := by
  simp only [ordOk, Bool.and_eq_true, List.all_eq_true, List.mem_range, beq_iff_eq] at h
  obtain ⟨⟨⟨⟨⟨h1, h2⟩, h6⟩, h3⟩, h4⟩, h5⟩ := h
  have hsym : ∀ i j, i < ops.size → j < i → un pol i j = un pol j i := by
    intro i j hi hj
    obtain ⟨o, ho⟩ := at_size hi
    have := h1 i hi
    rw [ho] at this
    simp only [Bool.and_eq_true, List.all_eq_true, List.mem_range, beq_iff_eq] at this
    exact (this.2 j hj).1
  refine ⟨fun i o ho e he hb => ?_, fun i j hi hj => ?_, fun i o ho j hj hu => ?_, h2, fun p i hp => by simpa using h6 i (List.mem_of_getElem? hp), fun i hi => ?_, fun p q a b hpq ha hb => ?_, fun a b ha hu => ?_⟩
  · have := h1 i (lt_size ho)
    rw [ho] at this
    simp only [Bool.and_eq_true, List.all_eq_true] at this
    have := this.1 e he
    simpa [hb] using this
  · by_cases hlt : j < i
    · exact hsym i j hi hlt
    · by_cases hgt : i < j
      · exact (hsym j i hj hgt).symm
      · have : i = j := by omega
        rw [this]
  · have := h1 i (lt_size ho)
    rw [ho] at this
    simp only [Bool.and_eq_true, List.all_eq_true, List.mem_range, beq_iff_eq] at this
    have := (this.2 j hj).2
    rw [hu, Bool.false_or] at this
    obtain ⟨e, he, hb⟩ := List.any_eq_true.1 this
    simp only [Bool.and_eq_true, Bool.or_eq_true, beq_iff_eq, decide_eq_true_eq, Bool.not_eq_true'] at hb
    exact ⟨e, he, hb.1, hb.2⟩
  · have hm : i ∈ pol.ord := by simpa using h3 i hi
    obtain ⟨p, hp, he⟩ := List.getElem_of_mem hm
    exact ⟨p, by omega, by rw [List.getElem?_eq_getElem hp, he]⟩
  · have := pairAll_get pol.ord h4 p q a b hpq ha hb
    simp only [Bool.and_eq_true, bne_iff_ne, ne_eq, Bool.or_eq_true, decide_eq_true_eq, Bool.not_eq_true'] at this
    refine ⟨this.1.1, this.1.2, fun hp => ?_⟩
    rcases this.2 with h | h
    · rw [hp] at h; cases h
    · exact h
  · have hm : a ∈ pol.puts := by simpa [isPut] using ha
    have hb : b ∈ pol.us.getD a [] := by unfold un at hu; exact List.contains_iff_mem.1 hu
    have := h5 a hm
    have := this b hb
    simpa using this

theorem anc_listed (F : Facts ops pol) (hL : Closed ops L) : ∀ i o, ops[i]? = some o → (∀ e ∈ o.after.toList, Region.binds .any e = true → L e.on = true) → ∀ j < i, L j = false → un pol i j = true := by
  intro i
  induction i using Nat.strongRecOn with
  | _ i ih =>
    intro o ho hd j hj hl
    cases hc : un pol i j with
    | true => rfl
    | false =>
      exfalso
      obtain ⟨e, he, hb, hor⟩ := F.anc i o ho j hj hc
      have hle := hd e he hb
      rcases hor with rfl | ⟨hlt, hcc⟩
      · rw [hl] at hle; cases hle
      · have hon := F.on i o ho e he hb
        obtain ⟨o', ho'⟩ := at_size (ops := ops) (i := e.on) (by have := lt_size ho; omega)
        have := ih e.on hon _ ho' (hL e.on _ ho' hle) j hlt hl
        rw [hcc] at this; cases this

/-- one that is done, another one that is ready. -/
theorem rel_listed (F : Facts ops pol) (hL : Closed ops L) {i j : Nat} {o : Oper} (hr : Ready ops L i o) (hj : j < ops.size) (hl : L j = true) : j < i ∨ un pol i j = true := by
  by_cases h : j < i
  · exact .inl h
  · have hne : i ≠ j := fun e => by subst e; rw [hr.new] at hl; cases hl
    obtain ⟨oj, hoj⟩ := at_size hj
    have := anc_listed F hL j oj hoj (hL j oj hoj hl) i (by omega) hr.new
    rw [F.sym j i hj (lt_size hr.at_)] at this
    exact .inr this

theorem rel_unlisted (F : Facts ops pol) (hL : Closed ops L) {i j : Nat} {o : Oper} (hr : Ready ops L i o) (hl : L j = false) (hne : j ≠ i) : i < j ∨ un pol i j = true := by
  by_cases h : j < i
  · exact .inr (anc_listed F hL i o hr.at_ hr.edges j h hl)
  · exact .inl (by omega)

/-- ahead of it in the walk, not done. -/
theorem ahead_un (F : Facts ops pol) (hL : Closed ops L) {i j p q : Nat} {o : Oper} (hr : Ready ops L i o) (hp : pol.ord[p]? = some i) (hq : pol.ord[q]? = some j) (hqp : q < p) (hj : j < ops.size) (hl : L j = false) : un pol i j = true := by
  obtain ⟨h1, h2, _⟩ := F.pair q p j i hqp hq hp
  rcases h2 with h2 | h2
  · rcases rel_unlisted F hL hr hl h1 with h | h
    · omega
    · exact h
  · rw [F.sym j i hj (lt_size hr.at_)] at h2; exact h2

/-- behind it in the walk, done. -/
theorem behind_un (F : Facts ops pol) (hL : Closed ops L) {i j p q : Nat} {o : Oper} (hr : Ready ops L i o) (hp : pol.ord[p]? = some i) (hq : pol.ord[q]? = some j) (hpq : p < q) (hj : j < ops.size) (hl : L j = true) : un pol i j = true := by
  obtain ⟨h1, h2, _⟩ := F.pair p q i j hpq hp hq
  rcases h2 with h2 | h2
  · rcases rel_listed F hL hr hj hl with h | h
    · omega
    · exact h
  · exact h2

theorem mem_dsts {U : List Nat} {k : Nat} {o : Oper} {d : Nat} (hk : k ∈ U) (ho : ops[k]? = some o) (hd : o.dst = some d) : (dsts ops U).contains d = true := by
  have : d ∈ dsts ops U := List.mem_filterMap.2 ⟨k, hk, by rw [ho]; simpa using hd⟩
  exact List.contains_iff_mem.2 this

theorem mem_near {i j : Nat} {o : Oper} {d : Nat} (h : un pol i j = true) (ho : ops[j]? = some o) (hd : o.dst = some d) : (near ops pol i).contains d = true :=
  mem_dsts (by unfold un at h; exact List.contains_iff_mem.1 h) ho hd

theorem mem_wide {i j : Nat} {o : Oper} {d : Nat} (h : i ≤ j ∨ un pol i j = true) (ho : ops[j]? = some o) (hd : o.dst = some d) : (wide ops pol i).contains d = true := by
  refine mem_dsts (List.mem_filter.2 ⟨List.mem_range.2 (lt_size ho), ?_⟩) ho hd
  rcases h with h | h
  · simp [h]
  · simp [h]

/-- what each step of the walk does, slot by slot. -/
structure Eff (E : Env) (ops : Array Oper) (pol : Pol) (s : Nat → Slots) (v : Nat → AV) (e : Nat → Nat → AV → AV) (p i : Nat) (o : Oper) : Prop where
  pt : ∀ t, pk (s (p + 1)) t = e p t (pk (s p) t)
  node : ∀ t x, isPut pol i = true → (near ops pol i).contains t = true → x.node = false → (e p t x).node = false
  still : isPut pol i = false → ∀ t x, e p t x = if o.dst = some t then v p else x

structure Walk (E : Env) (ops : Array Oper) (pol : Pol) (s : Nat → Slots) (v : Nat → AV) (e : Nat → Nat → AV → AV) : Prop where
  ok : ordOk ops pol = true
  step : ∀ p i, pol.ord[p]? = some i → ∃ o, ops[i]? = some o ∧
    ((bar pol i = true ∧ vop E ops pol i o (s p) fun u => u = s (p + 1)) ∨
     (bar pol i = false ∧ isPut pol i = false ∧ Eff E ops pol s v e p i o ∧ (vstill E ops pol (near ops pol i) i o (s p) fun u => u = v p) ∧ freeDst (near ops pol i) o (s p) = true) ∨
     (bar pol i = false ∧ isPut pol i = true ∧ Eff E ops pol s v e p i o ∧
      (∀ σ, Off (near ops pol i) (s p) σ → vop E ops pol i o σ fun σ' => ∀ t, pk σ' t = e p t (pk σ t)) ∧
      ∀ q j, q < p → pol.ord[q]? = some j → isStill pol j = true → Again E ops pol i j (v q) (s p) (s (p + 1))))

theorem walk_of {K : Slots → Prop} {σ : Slots} (hok : ordOk ops pol = true) (h : vdops E ops pol pol.ord [] σ K) :
    ∃ s v e, Walk E ops pol s v e ∧ s 0 = σ ∧ K (s ops.size) := by
  obtain ⟨s, v, e1, e2, e3⟩ := vdops_trace pol.ord 0 [] σ h
  have F := facts hok
  have hex : ∀ p, ∃ g : Nat → AV → AV, ∀ i o, pol.ord[p]? = some i → ops[i]? = some o → bar pol i = false →
      (∀ t, pk (s (p + 1)) t = g t (pk (s p) t)) ∧ (∀ t x, isPut pol i = true → (near ops pol i).contains t = true → x.node = false → (g t x).node = false) ∧
      (isPut pol i = false → ∀ t x, g t x = if o.dst = some t then v p else x) ∧
      (isPut pol i = true → ∀ σ, Off (near ops pol i) (s p) σ → vop E ops pol i o σ fun σ' => ∀ t, pk σ' t = g t (pk σ t)) := by
    intro p
    cases hp : pol.ord[p]? with
    | none => exact ⟨fun _ x => x, fun i o hi => by cases hi⟩
    | some i =>
      obtain ⟨o, ho, hst⟩ := e3 p i hp
      rw [Nat.zero_add] at hst
      rcases hst with ⟨h1, _⟩ | ⟨h1, h2, h3, h4, h5⟩ | ⟨h1, h2, h3, h4⟩
      · exact ⟨fun _ x => x, fun i' o' hi _ hb => by cases hi; rw [h1] at hb; cases hb⟩
      · refine ⟨fun t x => if o.dst = some t then v p else x, fun i' o' hi ho' hb => ?_⟩
        cases hi
        rw [ho] at ho'; cases ho'
        refine ⟨fun t => by rw [h5, pk_setD], fun t x hp' => absurd hp' (by rw [h2]; simp), fun _ t x => rfl, fun hp' => absurd hp' (by rw [h2]; simp)⟩
      · obtain ⟨g, g1, g2⟩ := vput_point h3
        refine ⟨g, fun i' o' hi ho' hb => ?_⟩
        cases hi
        rw [ho] at ho'; cases ho'
        exact ⟨g1.at_, fun t x _ => g1.node t x, fun hp' => absurd hp' (by rw [h2]; simp), fun _ => g2⟩
  obtain ⟨e, he⟩ := Classical.axiomOfChoice hex
  refine ⟨s, v, e, ⟨hok, fun p i hp => ?_⟩, e1, by rw [Nat.zero_add, F.len] at e2; exact e2⟩
  obtain ⟨o, ho, hst⟩ := e3 p i hp
  rw [Nat.zero_add] at hst
  refine ⟨o, ho, ?_⟩
  rcases hst with h | ⟨h1, h2, h3, h4, h5⟩ | ⟨h1, h2, h3, h4⟩
  · exact .inl h
  · obtain ⟨a1, a2, a3, a4⟩ := he p i o hp ho h1
    exact .inr (.inl ⟨h1, h2, ⟨a1, a2, a3⟩, h3, h4⟩)
  · obtain ⟨a1, a2, a3, a4⟩ := he p i o hp ho h1
    refine .inr (.inr ⟨h1, h2, ⟨a1, a2, a3⟩, a4 h2, fun q j hq hj hs => ?_⟩)
    exact h4 (j, v q) (.inr ⟨q, hq, j, hj, hs, by rw [Nat.zero_add]⟩)

/-- the slots when just the operations 'L' among the walk's first have been done. -/
def cn (pol : Pol) (s : Nat → Slots) (e : Nat → Nat → AV → AV) (L : Nat → Bool) : Nat → Nat → AV
  | 0 => pk (s 0)
  | p + 1 =>
    match pol.ord[p]? with
    | some i => if L i then (if bar pol i then pk (s (p + 1)) else fun t => e p t (cn pol s e L p t)) else cn pol s e L p
    | none => cn pol s e L p

variable {e : Nat → Nat → AV → AV}

theorem ord_some (F : Facts ops pol) {p : Nat} (hp : p < ops.size) : ∃ i, pol.ord[p]? = some i := ⟨_, List.getElem?_eq_getElem (by rw [F.len]; exact hp)⟩
theorem ord_lt (F : Facts ops pol) {p i : Nat} (h : pol.ord[p]? = some i) : p < ops.size := by
  have := (List.getElem?_eq_some_iff.1 h).1
  rw [F.len] at this; exact this

theorem cn_skip {p i : Nat} (h : pol.ord[p]? = some i) (hl : L i = false) : cn pol s e L (p + 1) = cn pol s e L p := by
  simp only [cn, h, hl, Bool.false_eq_true, if_false]
theorem cn_bar {p i : Nat} (h : pol.ord[p]? = some i) (hl : L i = true) (hb : bar pol i = true) : cn pol s e L (p + 1) = pk (s (p + 1)) := by
  simp only [cn, h, hl, if_true, hb]
theorem cn_do {p i : Nat} (h : pol.ord[p]? = some i) (hl : L i = true) (hb : bar pol i = false) : cn pol s e L (p + 1) = fun t => e p t (cn pol s e L p t) := by
  simp only [cn, h, hl, if_true, hb, Bool.false_eq_true, if_false]

/-- up to a place in the walk: where none that is missing writes. -/
theorem cn_eq (W : Walk E ops pol s v e) {m t : Nat} (hm : m ≤ ops.size)
    (hmiss : ∀ q i o, q < m → pol.ord[q]? = some i → ops[i]? = some o → L i = false → isStill pol i = true ∧ o.dst ≠ some t) :
    ∀ q ≤ m, cn pol s e L q t = pk (s q) t
  | 0, _ => rfl
  | q + 1, hq => by
    have F := facts W.ok
    have ih := cn_eq W hm hmiss q (by omega)
    obtain ⟨i, hi⟩ := ord_some F (p := q) (by omega)
    obtain ⟨o, ho, hst⟩ := W.step q i hi
    cases hl : L i with
    | true =>
      cases hb : bar pol i with
      | true => rw [cn_bar hi hl hb]
      | false =>
        rw [cn_do hi hl hb]
        simp only
        rw [ih]
        rcases hst with ⟨h1, _⟩ | ⟨_, _, h3, _⟩ | ⟨_, _, h3, _⟩
        · rw [h1] at hb; cases hb
        · exact (h3.pt t).symm
        · exact (h3.pt t).symm
    | false =>
      obtain ⟨m1, m2⟩ := hmiss q i o (by omega) hi ho hl
      rw [cn_skip hi hl, ih]
      simp only [isStill, Bool.and_eq_true, Bool.not_eq_true'] at m1
      rcases hst with ⟨h1, _⟩ | ⟨_, h2, h3, _⟩ | ⟨_, h2, _⟩
      · rw [h1] at m1; cases m1.1
      · rw [h3.pt t, h3.still h2, if_neg m2]
      · rw [h2] at m1; cases m1.2

theorem still_of {i j : Nat} (h : un pol j i = true) (hp : isPut pol j = false) : isStill pol j = true := by
  simp [isStill, un_bar h, hp]

/-- at the place of one that is ready. -/
theorem cn_at (W : Walk E ops pol s v e) (hL : Closed ops L) {i p : Nat} {o : Oper} (hr : Ready ops L i o) (hp : pol.ord[p]? = some i) {t : Nat} (ht : (near ops pol i).contains t = false) :
    ∀ q ≤ p, cn pol s e L q t = pk (s q) t := by
  have F := facts W.ok
  refine cn_eq W (Nat.le_of_lt (ord_lt F hp)) fun q j oj hq hj hoj hl => ?_
  have hu := ahead_un F hL hr hp hj hq (lt_size hoj) hl
  have hu' : un pol j i = true := by rw [F.sym j i (lt_size hoj) (lt_size hr.at_)]; exact hu
  refine ⟨still_of hu' ?_, fun hd => ?_⟩
  · cases hput : isPut pol j with
    | false => rfl
    | true => have := (F.pair q p j i hq hj hp).2.2 hput; rw [hu'] at this; cases this
  · rw [mem_near hu hoj hd] at ht; cases ht

theorem cn_low {i p : Nat} (F : Facts ops pol) (hp : pol.ord[p]? = some i) : ∀ q ≤ p, cn pol s e (upd L i) q = cn pol s e L q
  | 0, _ => rfl
  | q + 1, hq => by
    have ih := cn_low F hp q (by omega)
    obtain ⟨j, hj⟩ := ord_some F (p := q) (by have := ord_lt F hp; omega)
    have hne : ¬ j = i := (F.pair q p j i (by omega) hj hp).1
    have : upd L i j = L j := by simp only [upd, hne, if_false]
    simp only [cn, hj, this, ih]

/-- none behind is done. -/
theorem cn_tail (F : Facts ops pol) {p : Nat} (h : ∀ q j, p ≤ q → pol.ord[q]? = some j → L j = false) : ∀ q, p ≤ q → q ≤ ops.size → cn pol s e L q = cn pol s e L p := by
  intro q hq
  induction hq with
  | refl => intro _; rfl
  | @step q hq ih =>
    intro hle
    obtain ⟨j, hj⟩ := ord_some F (p := q) (by omega)
    rw [cn_skip hj (h q j hq hj)]
    exact ih (by omega)

theorem upd_ne {i j : Nat} (h : j ≠ i) : upd L i j = L j := by simp only [upd, h, if_false]

end

section
variable {E : Env} {ops : Array Oper} {pol : Pol} {s : Nat → Slots} {v : Nat → AV} {L : Nat → Bool} {e : Nat → Nat → AV → AV}

/-- what is behind one of which all that have no order to it are ahead is not done. -/
theorem tail_free (F : Facts ops pol) (hL : Closed ops L) {i p : Nat} {o : Oper} (hr : Ready ops L i o) (hp : pol.ord[p]? = some i) (hb : ∀ q j, p < q → pol.ord[q]? = some j → un pol i j = false) :
    ∀ q j, p < q → pol.ord[q]? = some j → L j = false := by
  intro q j hq hj
  cases hl : L j with
  | false => rfl
  | true =>
    have hu := behind_un F hL hr hp hj hq (F.lt q j hj) hl
    rw [hb q j hq hj] at hu; cases hu

/-- one that waits for all. -/
theorem step_bar (W : Walk E ops pol s v e) (hL : Closed ops L) {i p : Nat} {o : Oper} (hr : Ready ops L i o) (hp : pol.ord[p]? = some i) (hb : bar pol i = true) :
    cn pol s e L ops.size = pk (s p) ∧ cn pol s e (upd L i) ops.size = pk (s (p + 1)) := by
  have F := facts W.ok
  have hun : ∀ j, un pol i j = false := by
    intro j
    cases h : un pol i j with
    | false => rfl
    | true => rw [un_bar h] at hb; cases hb
  have hnear : ∀ t, (near ops pol i).contains t = false := by
    intro t
    have : pol.us.getD i [] = [] := by unfold bar at hb; simpa using hb
    unfold near
    rw [this]; rfl
  have hfree := tail_free F hL hr hp (fun q j _ _ => hun j)
  have hlt := ord_lt F hp
  refine ⟨?_, ?_⟩
  · rw [cn_tail F (p := p) (fun q j hq hj => ?_) ops.size (by omega) (Nat.le_refl _)]
    · funext t; exact cn_at W hL hr hp (hnear t) p (Nat.le_refl _)
    · by_cases h : q = p
      · subst h; rw [hp] at hj; cases hj; exact hr.new
      · exact hfree q j (by omega) hj
  · rw [cn_tail F (p := p + 1) (fun q j hq hj => ?_) ops.size (by omega) (Nat.le_refl _)]
    · exact cn_bar hp (by simp [upd]) hb
    · rw [upd_ne]
      · exact hfree q j (by omega) hj
      · exact fun h => (F.pair p q i j (by omega) hp hj).1 h.symm

/-- one that writes. -/
theorem step_put (W : Walk E ops pol s v e) (hL : Closed ops L) {i p : Nat} {o : Oper} (hr : Ready ops L i o) (hp : pol.ord[p]? = some i) (hb : bar pol i = false) (hput : isPut pol i = true) :
    (∀ t, (near ops pol i).contains t = false → cn pol s e L ops.size t = pk (s p) t) ∧ ∀ t, cn pol s e (upd L i) ops.size t = e p t (cn pol s e L ops.size t) := by
  have F := facts W.ok
  have hfree := tail_free F hL hr hp (fun q j hq hj => (F.pair p q i j hq hp hj).2.2 hput)
  have hlt := ord_lt F hp
  have h1 : cn pol s e L ops.size = cn pol s e L p := cn_tail F (p := p) (fun q j hq hj => by
    by_cases h : q = p
    · subst h; rw [hp] at hj; cases hj; exact hr.new
    · exact hfree q j (by omega) hj) ops.size (by omega) (Nat.le_refl _)
  have h2 : cn pol s e (upd L i) ops.size = cn pol s e (upd L i) (p + 1) := cn_tail F (p := p + 1) (fun q j hq hj => by
    rw [upd_ne]
    · exact hfree q j (by omega) hj
    · exact fun h => (F.pair p q i j (by omega) hp hj).1 h.symm) ops.size (by omega) (Nat.le_refl _)
  refine ⟨fun t ht => ?_, fun t => ?_⟩
  · rw [h1]; exact cn_at W hL hr hp ht p (Nat.le_refl _)
  · rw [h2, cn_do hp (by simp [upd]) hb, h1, cn_low F hp p (Nat.le_refl _)]

/-- one that gives a value. -/
theorem step_still (W : Walk E ops pol s v e) (hL : Closed ops L) {i p : Nat} {o : Oper} (hr : Ready ops L i o) (hp : pol.ord[p]? = some i) (hb : bar pol i = false) (hput : isPut pol i = false)
    (heff : Eff E ops pol s v e p i o) (hv : vstill E ops pol (near ops pol i) i o (s p) fun u => u = v p) (hf : freeDst (near ops pol i) o (s p) = true) :
    ∀ q, p ≤ q → q ≤ ops.size →
      (∃ (σ₀ : Slots) (D₀ : List Nat), (vstill E ops pol D₀ i o σ₀ fun u => u = v p) ∧ (∀ t, D₀.contains t = false → cn pol s e L q t = pk σ₀ t) ∧ ∀ j oj d, un pol i j = true → ops[j]? = some oj → oj.dst = some d → D₀.contains d = true) ∧
      (∀ d, o.dst = some d → (cn pol s e L q d).node = false) ∧ (p < q → ∀ t, cn pol s e (upd L i) q t = if o.dst = some t then v p else cn pol s e L q t) := by
  have F := facts W.ok
  have hstill : isStill pol i = true := by simp [isStill, hb, hput]
  intro q hq
  induction hq with
  | refl =>
    intro hle
    refine ⟨⟨s p, near ops pol i, hv, fun t ht => cn_at W hL hr hp ht p (Nat.le_refl _), fun j oj d h1 h2 h3 => mem_near h1 h2 h3⟩, fun d hd => ?_, fun h => by omega⟩
    unfold freeDst at hf
    rw [hd] at hf
    simp only [Bool.and_eq_true, Bool.not_eq_true'] at hf
    rw [cn_at W hL hr hp hf.2 p (Nat.le_refl _)]; exact hf.1
  | @step q hq ih =>
    intro hle
    have hpq : p ≤ q := hq
    obtain ⟨⟨σ₀, D₀, i1, i2, i3⟩, i4, i5⟩ := ih (by omega)
    by_cases hqp : q = p
    · subst hqp
      refine ⟨⟨σ₀, D₀, i1, fun t ht => by rw [cn_skip hp hr.new]; exact i2 t ht, i3⟩, fun d hd => by rw [cn_skip hp hr.new]; exact i4 d hd, fun _ t => ?_⟩
      rw [cn_do hp (by simp [upd]) hb, cn_skip hp hr.new, cn_low F hp q (Nat.le_refl _)]
      exact heff.still hput t _
    · have hlt : p < q := by omega
      obtain ⟨j, hj⟩ := ord_some F (p := q) (by omega)
      have hne : j ≠ i := fun h => (F.pair p q i j hlt hp hj).1 h.symm
      cases hl : L j with
      | false =>
        refine ⟨⟨σ₀, D₀, i1, fun t ht => by rw [cn_skip hj hl]; exact i2 t ht, i3⟩, fun d hd => by rw [cn_skip hj hl]; exact i4 d hd, fun _ t => ?_⟩
        rw [cn_skip hj hl, cn_skip hj (by rw [upd_ne hne]; exact hl)]
        exact i5 hlt t
      | true =>
        have hjs := F.lt q j hj
        have hu := behind_un F hL hr hp hj hlt hjs hl
        have hu' : un pol j i = true := by rw [F.sym j i hjs (lt_size hr.at_)]; exact hu
        have hbj := un_bar hu'
        obtain ⟨oj, hoj, hst⟩ := W.step q j hj
        have hl' : upd L i j = true := by rw [upd_ne hne]; exact hl
        rcases hst with ⟨h1, _⟩ | ⟨_, hpj, hej, _⟩ | ⟨_, hpj, hej, _, hag⟩
        · rw [h1] at hbj; cases hbj
        · -- another one that gives a value
          have hd : ∀ d, o.dst = some d → oj.dst ≠ some d := by
            intro d hd hdj
            have := mem_near hu hoj hdj
            unfold freeDst at hf
            rw [hd] at hf
            simp only [Bool.and_eq_true, Bool.not_eq_true'] at hf
            rw [hf.2] at this; cases this
          refine ⟨⟨σ₀, D₀, i1, fun t ht => ?_, i3⟩, fun d hd' => ?_, fun _ t => ?_⟩
          · rw [cn_do hj hl hbj]
            simp only
            rw [hej.still hpj, if_neg]
            · exact i2 t ht
            · intro h; rw [i3 j oj t hu hoj h] at ht; cases ht
          · rw [cn_do hj hl hbj]
            simp only
            rw [hej.still hpj, if_neg (hd d hd')]; exact i4 d hd'
          · rw [cn_do hj hl hbj, cn_do hj hl' hbj]
            simp only
            rw [hej.still hpj, hej.still hpj, i5 hlt t]
            by_cases ht : o.dst = some t
            · rw [if_pos ht, if_neg (hd t ht), if_pos ht]
            · rw [if_neg ht, if_neg ht]
        · -- one that writes
          obtain ⟨o', ho', g1, g2⟩ := hag p i hlt hp hstill hu'
          rw [hr.at_] at ho'
          cases ho'
          refine ⟨⟨s (q + 1), wide ops pol i, g2, fun t ht => ?_, fun j oj d h1 h2 h3 => mem_wide (.inr h1) h2 h3⟩, fun d hd => ?_, fun _ t => ?_⟩
          · refine cn_eq W (m := q + 1) (by omega) (fun r k ok hrr hk hok hlk => ?_) (q + 1) (Nat.le_refl _)
            have hks := lt_size hok
            have hkj : k ≠ j := fun h => by subst h; rw [hlk] at hl; cases hl
            have hrq : r < q := by
              by_cases h : r = q
              · subst h; rw [hk] at hj; cases hj; exact absurd rfl hkj
              · omega
            have P := F.pair r q k j hrq hk hj
            -- if it had an order to the one that writes, it would be done
            have hkey : un pol j k = true := by
              cases hujk : un pol j k with
              | true => rfl
              | false =>
                have hkjlt : k < j := by
                  rcases P.2.1 with h | h
                  · exact h
                  · rw [F.sym k j hks hjs, hujk] at h; cases h
                have := anc_listed F hL j oj hoj (hL j oj hoj hl) k hkjlt hlk
                rw [hujk] at this; cases this
            have hnp : isPut pol k = false := F.puts j k hpj hkey
            refine ⟨still_of (by rw [F.sym k j hks hjs]; exact hkey) hnp, fun hd => ?_⟩
            have hw : i ≤ k ∨ un pol i k = true := by
              by_cases hki : k = i
              · exact .inl (by omega)
              · rcases rel_unlisted F hL hr hlk hki with h | h
                · exact .inl (by omega)
                · exact .inr h
            rw [mem_wide hw hok hd] at ht; cases ht
          · rw [cn_do hj hl hbj]
            exact hej.node d _ hpj (mem_near hu' hr.at_ hd) (i4 d hd)
          · rw [cn_do hj hl hbj, cn_do hj hl' hbj]
            simp only
            rw [i5 hlt t]
            by_cases ht : o.dst = some t
            · rw [if_pos ht, if_pos ht]
              obtain ⟨b1, b2⟩ := g1 t ht
              have := hej.pt t
              rw [b1, b2] at this; exact this.symm
            · rw [if_neg ht, if_neg ht]

end

section
variable {w0 : World} {F0 Z0 : Foot} {n : Nat} {fx : List Nat} {a0 : Nat → Value}

theorem St.congr {σ σ' : Slots} {a : Act} {w : World} (h : ∀ t, pk σ' t = pk σ t) (hs : St w0 F0 Z0 n fx a0 σ a w) : St w0 F0 Z0 n fx a0 σ' a w := by
  have : pk σ' = pk σ := funext h
  obtain ⟨h1, h2, h3, h4⟩ := hs
  exact ⟨by rw [this]; exact h1, h2, h3, h4⟩

theorem St.drawn {σ : Slots} {a : Act} {w : World} (hs : St w0 F0 Z0 n fx a0 σ a w) (d : Nat) : St w0 F0 Z0 n fx a0 σ a { w with drawn := d } := by
  obtain ⟨⟨Z, Fs, G, k⟩, h2, h3, h4⟩ := hs
  have hsame : ∀ x y, Same w { w with drawn := d } x y := fun x y => ⟨rfl, rfl, fun _ _ h => h⟩
  refine ⟨⟨Z, Fs, G, ?_⟩, h2, h3, h4⟩
  exact ⟨fun t => (k.rep t).agree (fun x y _ => hsame x y) (fun _ _ h => h), k.vok, k.dis, k.foot, k.free, k.base, k.shared, k.grows, fun x y h1 h2 => (k.keep x y h1 h2).trans (hsame x y), k.step.trans ⟨rfl, rfl, Nat.le_refl _, fun _ _ => .refl _, fun a h => frozen_out _ a h⟩⟩

theorem mem_ready {ops : Array Oper} {listed : Array Bool} (hsz : listed.size = ops.size) {i : Nat} : i ∈ Region.ready .any ops listed ↔ ∃ o, Ready ops (fun k => listed.getD k false) i o := by
  simp only [Region.ready, List.mem_filter, List.mem_range, Bool.and_eq_true, Bool.not_eq_true']
  constructor
  · rintro ⟨h1, h2, h3⟩
    have ho : ops[i]? = some (ops[i]'h1) := Array.getElem?_eq_getElem h1
    rw [ho] at h3
    refine ⟨_, ho, ?_, fun e he hb => ?_⟩
    · rw [Array.getD, dif_pos (by omega)] at h2 ⊢; exact h2
    · simp only [Option.map_some, Option.getD_some, Array.all_eq_true'] at h3
      have := h3 e (by simpa using he)
      simpa [hb] using this
  · rintro ⟨o, h1, h2, h3⟩
    have hi : i < ops.size := lt_size h1
    refine ⟨hi, ?_, ?_⟩
    · simp only [Array.getD] at h2 ⊢
      rw [dif_pos (by omega)] at h2 ⊢; exact h2
    · rw [h1]
      simp only [Option.map_some, Option.getD_some, Array.all_eq_true']
      intro e he
      cases hb : Region.binds .any e with
      | false => simp
      | true => simpa using h3 e (by simpa using he) hb

theorem upd_set {listed : Array Bool} {i : Nat} (hi : i < listed.size) : (fun k => (listed.setIfInBounds i true).getD k false) = upd (fun k => listed.getD k false) i := by
  funext k
  simp only [upd, Array.getD_eq_getD_getElem?, Array.getElem?_setIfInBounds]
  by_cases h : i = k
  · subst h; simp [hi]
  · have : ¬ k = i := fun e => h e.symm
    simp [h, this]

theorem ready_some {ops : Array Oper} {pol : Pol} (F : Facts ops pol) (L : Nat → Bool) : ∀ k < ops.size, L k = false → ∃ i o, Ready ops L i o := by
  intro k
  induction k using Nat.strongRecOn with
  | _ k ih =>
    intro hk hl
    by_cases hex : ∃ j, j < k ∧ L j = false
    · obtain ⟨j, hj, hlj⟩ := hex
      exact ih j hj (by omega) hlj
    · obtain ⟨o, ho⟩ := at_size hk
      refine ⟨k, o, ho, hl, fun e he hb => ?_⟩
      have := F.on k o ho e he hb
      cases hle : L e.on with
      | true => rfl
      | false => exact absurd ⟨e.on, this, hle⟩ hex

/-- one step, whichever is ready. -/
theorem any_step {E : Env} (hE : E.Good) {ops : Array Oper} {pol : Pol} {s : Nat → Slots} {v : Nat → AV} {e : Nat → Nat → AV → AV} (W : Walk E ops pol s v e) {L : Nat → Bool} (hL : Closed ops L) {i : Nat} {o : Oper} (hr : Ready ops L i o)
    {Q : Exit → Act → World → Prop} (hdst : ∀ d, o.dst = some d → d < n ∧ d ∉ fx) {next : Act → World → Prop} {σ : Slots} {a : Act} {w : World} (hσ : pk σ = cn pol s e L ops.size) (hs : St w0 F0 Z0 n fx a0 σ a w)
    (hnext : ∀ σ' a' w', pk σ' = cn pol s e (upd L i) ops.size → St w0 F0 Z0 n fx a0 σ' a' w' → next a' w') :
    if Region.wanted o (yielded ops a.tmps) then o.wp E.P a w next Q else next (a.put o.dst undef) w := by
  have F := facts W.ok
  obtain ⟨p, hplt, hp⟩ := F.has i (lt_size hr.at_)
  obtain ⟨o', ho', hst⟩ := W.step p i hp
  rw [hr.at_] at ho'
  cases ho'
  rcases hst with ⟨h1, h2⟩ | ⟨h1, h2, h3, h4, h5⟩ | ⟨h1, h2, h3, h4, _⟩
  · obtain ⟨b1, b2⟩ := step_bar W hL hr hp h1
    refine vop_ok hE h2 (hs.congr fun t => by rw [hσ, b1]) hdst fun σ' a' w' e1 e2 => ?_
    subst e1
    exact hnext _ a' w' b2.symm e2
  · obtain ⟨⟨σ₀, D₀, c1, c2, _⟩, c4, c5⟩ := step_still W hL hr hp h1 h2 h3 h4 h5 ops.size (by omega) (Nat.le_refl _)
    refine vop_ok hE (vstill_vop (σ' := σ) (fun t ht => by rw [hσ, c2 t ht]) (fun d hd => by rw [hσ]; exact c4 d hd) c1) hs hdst fun σ' a' w' e1 e2 => ?_
    subst e1
    refine hnext _ a' w' ?_ e2
    funext t
    rw [c5 hplt t, pk_setD, hσ]
  · obtain ⟨b1, b2⟩ := step_put W hL hr hp h1 h2
    refine vop_ok hE (h4 σ fun t ht => by rw [hσ, b1 t ht]) hs hdst fun σ' a' w' e1 e2 => ?_
    refine hnext σ' a' w' ?_ e2
    funext t
    rw [e1, b2, hσ]

theorem any_ok {E : Env} (hE : E.Good) {ops : Array Oper} {pol : Pol} {s : Nat → Slots} {v : Nat → AV} {e : Nat → Nat → AV → AV} (W : Walk E ops pol s v e) {Q : Exit → Act → World → Prop}
    (hdst : ∀ (i : Nat) (o : Oper), ops[i]? = some o → ∀ d, o.dst = some d → d < n ∧ d ∉ fx) (hQ : ∀ a w, St w0 F0 Z0 n fx a0 (s ops.size) a w → Q .normal a w) :
    ∀ (fuel : Nat) (listed : Array Bool) (σ : Slots) (a : Act) (w : World), listed.size = ops.size → Closed ops (fun k => listed.getD k false) → cnt (fun k => listed.getD k false) ops.size ≤ fuel →
      pk σ = cn pol s e (fun k => listed.getD k false) ops.size → St w0 F0 Z0 n fx a0 σ a w → wpAny E.P .any ops Q fuel listed a w := by
  have F := facts W.ok
  intro fuel
  have hend : ∀ (listed : Array Bool) (σ : Slots) (a : Act) (w : World), (∀ k < ops.size, listed.getD k false = true) →
      pk σ = cn pol s e (fun k => listed.getD k false) ops.size → St w0 F0 Z0 n fx a0 σ a w → Q .normal a w := by
    intro listed σ a w hall hσ hs
    refine hQ a w (hs.congr fun t => ?_)
    rw [hσ]
    exact (cn_eq W (Nat.le_refl _) (fun q i o hq hi ho hl => by have h9 := hall i (lt_size ho); rw [h9] at hl; cases hl) ops.size (Nat.le_refl _)).symm
  induction fuel with
  | zero =>
    intro listed σ a w hsz hL hc hσ hs
    have hall : ∀ k < ops.size, listed.getD k false = true := cnt_zero (L := fun k => listed.getD k false) (by omega)
    refine ⟨?_, hend listed σ a w hall hσ hs⟩
    refine List.eq_nil_iff_forall_not_mem.2 fun i hi => ?_
    obtain ⟨o, hr⟩ := (mem_ready hsz).1 hi
    have h2 := hall i (lt_size hr.at_)
    have h3 : listed.getD i false = false := hr.new
    rw [h2] at h3; cases h3
  | succ fuel ih =>
    intro listed σ a w hsz hL hc hσ hs
    refine ⟨fun hnil => ?_, fun i hi => ?_⟩
    · refine hend listed σ a w (fun k hk => ?_) hσ hs
      cases hl : listed.getD k false with
      | true => rfl
      | false =>
        obtain ⟨i, o, hr⟩ := ready_some F (fun k => listed.getD k false) k hk hl
        have := (mem_ready hsz).2 ⟨o, hr⟩
        rw [hnil] at this; cases this
    · obtain ⟨o, hr⟩ := (mem_ready hsz).1 hi
      have hio : i < ops.size := lt_size hr.at_
      have hres := any_step hE W hL hr (Q := Q) (hdst i o hr.at_) hσ hs (next := wpAny E.P .any ops Q fuel (listed.setIfInBounds i true)) fun σ' a' w' h1 h2 => by
        refine ih (listed.setIfInBounds i true) σ' a' w' (by simpa using hsz) ?_ ?_ ?_ h2
        · rw [upd_set (by omega)]
          intro k o' ho' hl x he hb
          by_cases hk : k = i
          · subst hk
            rw [hr.at_] at ho'
            cases ho'
            have := hr.edges x he hb
            unfold upd; split
            · rfl
            · exact this
          · have hl' : listed.getD k false = true := by simpa [upd, hk] using hl
            have := hL k o' ho' hl' x he hb
            unfold upd; split
            · rfl
            · exact this
        · rw [upd_set (by omega)]
          have := cnt_upd (L := fun k => listed.getD k false) (i := i) hr.new ops.size
          rw [if_pos hio] at this
          omega
        · rw [upd_set (by omega)]
          exact h1
      unfold wpOp
      rw [hr.at_]
      simp only
      split
      · rename_i hw; rw [if_pos hw] at hres; exact .inl hres
      · rename_i hw; rw [if_neg hw] at hres; exact hres

theorem draw_ok {E : Env} (hE : E.Good) (hm : E.P.follows .mixedOrders = true) {id : Nat} {ops : Array Oper} {pol : Pol} {K : Slots → Prop} {Q : Exit → Act → World → Prop}
    (hQ : ∀ σ' a' w', K σ' → St w0 F0 Z0 n fx a0 σ' a' w' → Q .normal a' w') {σ : Slots} {a : Act} {w : World}
    (hdst : ∀ o ∈ ops.toList, ∀ d, o.dst = some d → d < n ∧ d ∉ fx) (ho : ordOk ops pol = true) (h : vdops E ops pol pol.ord [] σ K) (hs : St w0 F0 Z0 n fx a0 σ a w) : (Code.region id ops true).wp E.P Q a w := by
  refine wp_region_any hm ?_
  obtain ⟨s, v, e, W, e1, e2⟩ := walk_of ho h
  have hnone : ∀ k, (Array.replicate ops.size false).getD k false = false := by
    intro k
    simp only [Array.getD_eq_getD_getElem?, Array.getElem?_replicate]; split <;> rfl
  refine any_ok hE W (fun i o hi => hdst o (by rw [Array.getElem?_eq_some_iff] at hi; obtain ⟨hlt, rfl⟩ := hi; simp)) (fun a' w' h1 => hQ _ a' w' e2 h1) ops.size _ σ a _ (by simp) ?_ ?_ ?_ (hs.drawn _)
  · intro i o _ hl
    simp only [hnone] at hl
    cases hl
  · have : ∀ (L : Nat → Bool) k, cnt L k ≤ k := by
      intro L k
      induction k with
      | zero => simp [cnt]
      | succ k ih => simp only [cnt]; split <;> omega
    exact this _ _
  · rw [cn_tail (facts W.ok) (p := 0) (fun q j _ _ => hnone j) ops.size (by omega) (Nat.le_refl _)]
    rw [← e1]; rfl

end
end Go.V
