/- V: what a function gives back; from its body to its contract. -/
import Derived.Test.YtflpofmnjibjgaaVCode
set_option linter.unusedVariables false
set_option linter.unusedSimpArgs false
namespace Go.V
open Go

def resQ (T : TypeId → TI) (r : ResultVar) : Q (AV × List Put) :=
  match r with
  | .tmp t => take false (.tmp t)
  | .cell a t => .deep a [] fun v =>
      match v with
      | .box o cs => if o = true ∧ cs.length = (T t).size ∧ (T t).ok = true ∧ (aggT (T t) = true ∨ (T t).size = 1) then .ret (if aggT (T t) then .agg cs else cs.headD .gone, [⟨a, [], .gone⟩]) else .fail
      | _ => .fail

def takeRes (T : TypeId → TI) : List ResultVar → Slots → Option (List AV × Slots)
  | [], σ => some ([], σ)
  | r :: rs, σ => ((resQ T r).run σ).bind fun v => (putAll v.2 σ).bind fun σ1 => (takeRes T rs σ1).bind fun l => some (v.1 :: l.1, l.2)

def resOf (l : List AV) : AV :=
  match l with
  | [] => .lit (.tuple #[])
  | [x] => x
  | l => .tup l

def posOf : List Nat → Nat → Option Nat
  | [], _ => none
  | x :: l, i => if x = i then some 0 else (posOf l i).map (· + 1)

def outsOf (io : List Nat) (l : List AV) (n : Nat) : List AV := (List.range n).map fun i => match posOf io i with | some j => l.getD j .gone | none => .gone

def finish (T : TypeId → TI) (rs : List ResultVar) (io : List Nat) (n : Nat) (σ : Slots) : Option (AV × List AV) :=
  (takeRes T (rs ++ io.map .tmp) σ).bind fun l => some (resOf (l.1.take rs.length), outsOf io (l.1.drop rs.length) n)

def resSem (tmps : Array Value) (r : ResultVar) : Sem Value :=
  match r with
  | .tmp t => pure (tmps.getD t undef)
  | .cell a t => do loadVar t (← asAddr (tmps.getD a undef))

section
variable {P : Program} {T : TypeId → TI} {w0 : World} {F0 Z0 X : Foot} {σ σ' : Slots} {w : World} {Z : Foot} {Fs : Nat → Foot} {G : Nat → Hops → Value} {a : Act}

theorem res_ok (hT : TOk P T) (k : Ok w0 F0 Z0 X (pk σ) a.tmps w Z Fs G) {r : ResultVar} {v : AV × List Put} (h : (resQ T r).run σ = some v) (hp : putAll v.2 σ = some σ') :
    ∃ (u : Value) (Z' : Foot) (Fs' : Nat → Foot) (G' : Nat → Hops → Value) (Fa : Foot) (Ga : Hops → Value), (resSem a.tmps r).run P w = .ok u w ∧ (∀ x y, Z x y → Z' x y) ∧ (∀ x y, Fa x y → ¬ X x y) ∧
      Ok w0 F0 Z0 (fun x y => X x y ∨ Fa x y) (pk σ') a.tmps w Z' Fs' G' ∧ Rep w Z' Ga v.1 u Fa ∧ (∀ t, r = .tmp t → u = a.tmps.getD t undef) := by
  cases r with
  | tmp t =>
    obtain ⟨Z', Fs', G', Fa, Ga, a1, a2, a3, a4, a5, a6⟩ := take_ok k (o := .tmp t) (share := false) (x := v) h hp
    exact ⟨a.tmps.getD t undef, Z', Fs', G', Fa, Ga, by simp [resSem], a1, a2, a3, a4, fun t' ht => by cases ht; rfl⟩
  | cell t ty =>
    simp only [resQ, Q.run, AV.get, Option.bind_some] at h
    cases hpk : pk σ t with
    | box o cs =>
      rw [hpk] at h
      simp only at h
      split at h
      · rename_i hc
        obtain ⟨rfl, c2, c3, c4⟩ := hc
        simp only [Q.run, Option.some.injEq] at h
        subst h
        simp only [putAll] at hp
        cases ht : Put.to ⟨t, [], .gone⟩ σ with
        | none => rw [ht] at hp; cases hp
        | some τ =>
          rw [ht] at hp
          simp only [Option.bind_some, Option.some.injEq] at hp
          subst hp
          obtain ⟨Fn, Fs', G', q1, q2, q3, q4⟩ := whole_ok k ht (by rw [hpk]; rfl)
          rw [hpk] at q1
          have hsz := hT.size (ok_ne c3) w
          have hag := hT.agg (ok_ne c3) w
          generalize hu : a.tmps.getD t undef = u at q1
          generalize hb : AV.box true cs = bx at q1
          cases q1 with
          | arr bx o e rows b off m val Fc ha he hm hrow hown hshr hsub hdis hcell hrep hG =>
            subst hb
            simp only [AV.arr, Option.some.injEq, Prod.mk.injEq] at ha
            obtain ⟨rfl, rfl, rfl⟩ := ha
            have hcs : ∀ (i : Nat) (x : AV), cs[i]? = some x → cellOf [cs] (0, i) = some x := fun i x hx => by simp [cellOf, hx]
            let vals : List Value := (List.range cs.length).map fun i => val (0, i)
            have hval : ∀ j v, vals[j]? = some v → w.cell? ((⟨b, off, none⟩ : Addr).add j) = some v := by
              intro j v hj
              have hlt : j < cs.length := by have := (List.getElem?_eq_some_iff.1 hj).1; simpa [vals] using this
              simp only [vals, List.getElem?_map, List.getElem?_range hlt, Option.map_some, Option.some.injEq] at hj
              subst hj
              rw [add_none]
              have := hcell (0, j) cs[j] (hcs j _ (List.getElem?_eq_getElem hlt))
              simpa using this
            have hl := run_loadCells_list (P := P) w ⟨b, off, none⟩ vals hval
            have hvl : vals.length = cs.length := by simp [vals]
            rw [hvl, c2] at hl
            have hrepc : ∀ (i : Nat) (x : AV), cs[i]? = some x → Rep w Z (fun q => G t ((0, i) :: q)) x (val (0, i)) (Fc (0, i)) := fun i x hx => hrep (0, i) x (hcs i x hx)
            by_cases hagg : aggT (T ty) = true
            · refine ⟨.agg vals.toArray, Z, Fs', G', Fn, fun _ => undef, ?_, fun _ _ q => q, fun x y q => (q2 x y q).1, q3, ?_, fun _ hh => by cases hh⟩
              · rw [hagg] at hag
                simp [resSem, hu, hdr, asAddr, loadVar, hag, hsz, hl]
              · simp only [hagg, if_true]
                refine .agg cs vals.toArray (fun i q => G t ((0, i) :: q)) (fun i => Fc (0, i)) (by simp [vals]) (fun i x y q => (hsub _ x y q).2.1) (fun i j x y q q' => by have := hdis _ _ x y q q'; simpa using this) fun i x hx => ?_
                have hlt := (List.getElem?_eq_some_iff.1 hx).1
                have : vals.toArray.getD i undef = val (0, i) := by simp [vals, Array.getD_eq_getD_getElem?, hlt]
                rw [this]; exact hrepc i x hx
            · have h1 : (T ty).size = 1 := c4.resolve_left hagg
              have hfalse : aggT (T ty) = false := by simpa using hagg
              rw [hfalse] at hag
              rw [h1] at c2
              cases cs with
              | nil => simp at c2
              | cons x cs =>
                have hc0 := hval 0 (val (0, 0)) (by simp [vals])
                refine ⟨val (0, 0), Z, Fs', G', Fn, fun q => G t ((0, 0) :: q), ?_, fun _ _ q => q, fun x y q => (q2 x y q).1, q3, ?_, fun _ hh => by cases hh⟩
                · rw [add_none] at hc0
                  simp only [Nat.add_zero] at hc0
                  simp [resSem, hu, hdr, asAddr, loadVar, hag, hc0]
                · simp only [hfalse, Bool.false_eq_true, if_false, List.headD_cons]
                  exact (hrepc 0 x rfl).mono (fun x y q => (hsub _ x y q).2.1)
          | _ => cases hb
      · cases h
    | _ => rw [hpk] at h; cases h

theorem takeRes_ok (hT : TOk P T) : ∀ (rs : List ResultVar) (σ : Slots) (X Z : Foot) (Fs : Nat → Foot) (G : Nat → Hops → Value) (r : List AV × Slots),
    Ok w0 F0 Z0 X (pk σ) a.tmps w Z Fs G → takeRes T rs σ = some r →
    ∃ (us : List Value) (Z' : Foot) (Fs' : Nat → Foot) (G' : Nat → Hops → Value) (X' : Foot) (Fa : Nat → Foot) (Ga : Nat → Hops → Value),
      us.length = rs.length ∧ (∀ (i : Nat) (q : ResultVar) (u : Value), rs[i]? = some q → us[i]? = some u → (resSem a.tmps q).run P w = .ok u w ∧ ∀ t, q = .tmp t → u = a.tmps.getD t undef) ∧
      (∀ x y, Z x y → Z' x y) ∧ Ok w0 F0 Z0 (fun x y => X x y ∨ X' x y) (pk r.2) a.tmps w Z' Fs' G' ∧ (∀ x y, X' x y → ¬ X x y) ∧ Pieces w Z' X' r.1 us Fa Ga
  | [], σ, X, Z, Fs, G, r, k, h => by
    simp only [takeRes, Option.some.injEq] at h
    subst h
    refine ⟨[], Z, Fs, G, no, fun _ => no, fun _ _ => undef, rfl, fun i q u hq => by simp at hq, fun _ _ q => q, ?_, fun _ _ q => q.elim, ⟨rfl, fun _ _ _ q => q.elim, fun _ _ _ _ q => q.elim, fun i x u hx => by simp at hx⟩⟩
    have : (fun x y => X x y ∨ no x y) = X := by funext x y; simp [no]
    rw [this]; exact k
  | q :: rs, σ, X, Z, Fs, G, r, k, h => by
    simp only [takeRes] at h
    replace h := bind_some_inv h
    obtain ⟨v, hv, h⟩ := h
    replace h := bind_some_inv h
    obtain ⟨σ1, hσ, h⟩ := h
    replace h := bind_some_inv h
    obtain ⟨l, hl, h⟩ := h
    simp only [Option.some.injEq] at h
    subst h
    obtain ⟨u, Z1, Fs1, G1, Fa, Ga, a0, a1, a2, a3, a4, a5⟩ := res_ok hT k hv hσ
    obtain ⟨us, Z', Fs', G', X', Fb, Gb, b0, b1, b2, b3, b4, b5⟩ := takeRes_ok hT rs σ1 _ Z1 Fs1 G1 l a3 hl
    refine ⟨u :: us, Z', Fs', G', fun x y => Fa x y ∨ X' x y, fun i => match i with | 0 => Fa | i + 1 => Fb i, fun i => match i with | 0 => Ga | i + 1 => Gb i, by simp [b0], ?_, fun x y q => b2 _ _ (a1 _ _ q), ?_, ?_, ?_, ?_, ?_, ?_⟩
    · intro i q' u' hq hu
      cases i with
      | zero => simp only [List.getElem?_cons_zero, Option.some.injEq] at hq hu; subst hq; subst hu; exact ⟨a0, a5⟩
      | succ i => simp only [List.getElem?_cons_succ] at hq hu; exact b1 i q' u' hq hu
    · have : (fun x y => X x y ∨ (Fa x y ∨ X' x y)) = fun x y => (X x y ∨ Fa x y) ∨ X' x y := by funext x y; apply propext; exact (or_assoc).symm
      rw [this]; exact b3
    · rintro x y (q | q)
      · exact a2 x y q
      · exact fun u => b4 x y q (.inl u)
    · simp [b5.len]
    · intro i x y q
      cases i with
      | zero => exact .inl q
      | succ i => exact .inr (b5.sub i x y q)
    · intro i j x y q u
      cases i <;> cases j
      · rfl
      · exact (b4 x y (b5.sub _ _ _ u) (.inr q)).elim
      · exact (b4 x y (b5.sub _ _ _ q) (.inr u)).elim
      · exact congrArg _ (b5.dis _ _ x y q u)
    · intro i z u hz hu
      cases i with
      | zero =>
        simp only [List.getElem?_cons_zero, Option.some.injEq] at hz hu
        subst hz; subst hu
        exact a4.agree (fun x y _ => .refl w x y) b2
      | succ i =>
        simp only [List.getElem?_cons_succ] at hz hu
        exact b5.rep i z u hz hu

theorem posOf_some : ∀ {io : List Nat} {i j : Nat}, posOf io i = some j → io[j]? = some i
  | [], i, j, h => by cases h
  | x :: l, i, j, h => by
    simp only [posOf] at h
    split at h
    · rename_i hx; simp only [Option.some.injEq] at h; subst h; subst hx; rfl
    · simp only [Option.map_eq_some_iff] at h
      obtain ⟨m, hm, rfl⟩ := h
      simpa using posOf_some hm

def initS (as : List AV) : Slots := as.zipIdx.map fun x => (x.2, x.1)

theorem pk_initS (as : List AV) (t : Nat) : pk (initS as) t = as.getD t .gone := by
  have : ∀ (l : List AV) (k : Nat), pk ((l.zipIdx k).map fun x => (x.2, x.1)) t = if k ≤ t then l.getD (t - k) .gone else .gone := by
    intro l
    induction l with
    | nil => intro k; simp [pk]
    | cons x l ih =>
      intro k
      simp only [List.zipIdx_cons, List.map_cons, pk]
      rw [ih]
      by_cases h : k = t
      · subst h; simp
      · rw [if_neg h]
        by_cases h1 : k + 1 ≤ t
        · rw [if_pos h1, if_pos (by omega)]
          have : t - k = (t - (k + 1)) + 1 := by omega
          rw [this]; simp
        · rw [if_neg h1, if_neg (by omega)]
  have := this as 0
  simpa [initS] using this

def retOf : List Value → Value
  | [x] => x
  | l => .tuple l.toArray

theorem results_run {fn : Func} {tmps : Array Value} {us : List Value} (hl : us.length = fn.results.toList.length) (h : ∀ (i : Nat) (q : ResultVar) (u : Value), fn.results.toList[i]? = some q → us[i]? = some u → (resSem tmps q).run P w = .ok u w) :
    (results fn tmps).run P w = .ok (retOf us) w := by
  have hm : ∀ (l : List ResultVar) (us : List Value), us.length = l.length → (∀ (i : Nat) (q : ResultVar) (u : Value), l[i]? = some q → us[i]? = some u → (resSem tmps q).run P w = .ok u w) →
      (l.mapM (resSem tmps)).run P w = .ok us w := by
    intro l
    induction l with
    | nil => intro us hl _; cases us with | nil => simp | cons u us => simp at hl
    | cons q l ih =>
      intro us hl h
      cases us with
      | nil => simp at hl
      | cons u us =>
        simp only [List.mapM_cons, Sem.run_bind, h 0 q u rfl rfl, Result.andThen_ok, ih us (by simpa using hl) (fun i q u hq hu => h (i + 1) q u hq hu), Sem.run_pure]
  have h1 := hm fn.results.toList us hl h
  have h2 : (fn.results.mapM (resSem tmps)).run P w = .ok us.toArray w := by
    rw [Array.mapM_eq_mapM_toList]
    simp only [map_eq_pure_bind, Sem.run_bind, h1, Result.andThen_ok, Sem.run_pure]
  have h3 : (results fn tmps) = (do let vs ← fn.results.mapM (resSem tmps); pure (if h : vs.size = 1 then vs[0] else .tuple vs)) := by
    unfold results
    congr 1
  rw [h3, Sem.run_bind, h2]
  simp only [Result.andThen_ok, Sem.run_pure]
  congr 1
  match us with
  | [] => rfl
  | [x] => rfl
  | x :: y :: us => simp [retOf]

/-- FROM A BODY TO ITS CONTRACT. 'io': the parameters that are handed back. -/
theorem vcalls_of {E : Env} (hE : E.Good) {g : FuncId} {fn : Func} {c : Code} (hf : E.P.funcs[g]? = some fn) (hb : fn.body = some c) {as outs : List AV} {res : AV} (hn : as.length ≤ fn.ntmps) (io : List Nat)
    (hok : codeOk fn.ntmps io c = true) (hpure : pureL as = true) (pols : Nat → Pol) (keep : List Nat)
    (h : vwp E pols keep c (fun x σ' => (x = .normal ∨ x = .ret) ∧ finish E.T fn.results.toList io as.length σ' = some (res, outs)) (initS as)) : VCalls E.P g as res outs := by
  intro args w Z Fa hsize hrep hdis hF hZ
  let Fs : Nat → Foot := fun t x y => t < as.length ∧ Fa t x y
  let tmps : Array Value := args ++ Array.replicate (fn.ntmps - args.size) undef
  have htm : ∀ t, t < as.length → tmps.getD t undef = args.getD t undef := by
    intro t ht
    rw [← hsize] at ht
    simp only [tmps, Array.getD_eq_getD_getElem?]
    rw [Array.getElem?_append_left ht]
  have hex : ∀ t, ∃ Gt, Rep w Z Gt (pk (initS as) t) (tmps.getD t undef) (Fs t) := by
    intro t
    rw [pk_initS]
    by_cases ht : t < as.length
    · have h1 : as[t]? = some as[t] := List.getElem?_eq_getElem ht
      have h2 : as.getD t .gone = as[t] := by simp [List.getD, h1]
      rw [h2, htm t ht]
      obtain ⟨Ga, hr⟩ := hrep t _ h1
      exact ⟨Ga, hr.mono (fun x y q => ⟨ht, q⟩)⟩
    · have h2 : as.getD t .gone = .gone := by simp [List.getD, List.getElem?_eq_none (Nat.le_of_not_lt ht)]
      rw [h2]; exact ⟨fun _ => undef, .gone⟩
  obtain ⟨G, hG⟩ := Classical.axiomOfChoice hex
  have hok0 : Ok w (fun x y => ∃ i, Fa i x y) Z no (pk (initS as)) tmps w Z Fs G := by
    refine ⟨hG, fun t => (hG t).pure ?_, fun t u x y q q' => hdis _ _ _ _ q.2 q'.2, fun t x y q => ⟨(hF t x y q.2).1, fun u => u, (hF t x y q.2).2, .inl ⟨t, q.2⟩⟩, fun x y q => q.elim, fun _ _ q => q, fun x y q => ⟨hZ x y q, .inl q⟩, Nat.le_refl _, fun x y _ _ => .refl w x y, .refl w⟩
    rw [pk_initS]
    cases ht : as[t]? with
    | none => simp [List.getD, ht, AV.pure]
    | some v => simp only [List.getD, ht, Option.getD_some]; exact pureL_mem hpure v (List.mem_of_getElem? ht)
  refine calls_of_wp hf hb (vwp_ok hE (fx := io) (a0 := fun t => tmps.getD t undef) (w0 := w) (F0 := fun x y => ∃ i, Fa i x y) (Z0 := Z) pols keep c _ _ (initS as) _ w hok h ⟨⟨Z, Fs, G, hok0⟩, ?_, rfl, fun _ _ => rfl⟩ ?_)
  · show tmps.size = fn.ntmps
    simp only [tmps, Array.size_append, Array.size_replicate]; omega
  · rintro x σ' a' w' ⟨hx, hfin⟩ ⟨⟨Z1, Fs1, G1, k⟩, hsz, hdf, hfx⟩
    have hpost : a'.defers = [] ∧ ∃ v, (results fn a'.tmps).run E.P w' = .ok v w' ∧ VPost args w Z Fa res outs (.returned v) w' := by
      refine ⟨hdf, ?_⟩
      unfold finish at hfin
      replace hfin := bind_some_inv hfin
      obtain ⟨l, hl, hfin⟩ := hfin
      simp only [Option.some.injEq, Prod.mk.injEq] at hfin
      obtain ⟨rfl, rfl⟩ := hfin
      obtain ⟨us, Z2, Fs2, G2, X', Fb, Gb, b0, b1, b2, b3, b4, b5⟩ := takeRes_ok (P := E.P) hE.types _ σ' no Z1 Fs1 G1 l k hl
      have hX : (fun x y => no x y ∨ X' x y) = X' := by funext x y; simp [no]
      rw [hX] at b3
      let m := fn.results.toList.length
      have hlen : us.length = m + io.length := by simp [b0, m]
      have hll : l.1.length = m + io.length := by rw [b5.len, hlen]
      have hfrom : ∀ i x y, Fb i x y → ¬ Z2 x y ∧ x < w'.heap.size ∧ ((∃ i, Fa i x y) ∨ w.heap.size ≤ x) := fun i x y q => b3.free x y (b5.sub i x y q)
      have hrun := results_run (P := E.P) (w := w') (fn := fn) (tmps := a'.tmps) (us := us.take m) (by simp [hlen, m]) (fun i q u hq hu => by
        have hi : i < m := (List.getElem?_eq_some_iff.1 hq).1
        rw [List.getElem?_take_of_lt hi] at hu
        exact (b1 i q u (by rw [List.getElem?_append_left hi]; exact hq) hu).1)
      refine ⟨_, hrun, _, rfl, Z2, fun x y => ∃ i, i < m ∧ Fb i x y, fun i => match posOf io i with | some j => Fb (m + j) | none => no, k.step, fun x y q => b3.base x y q, ?_, ?_, ?_, ?_, ?_, ?_, ?_⟩
      · intro x y q; exact b3.shared x y q
      · intro x y hx hn; exact k.keep x y hx hn
      · -- the result
        have hsh : ∀ (vs : List AV) (us : List Value), vs.length = us.length → (∀ (i : Nat) (x : AV) (u : Value), vs[i]? = some x → us[i]? = some u → Rep w' Z2 (Gb i) x u (Fb i)) →
            ∃ Gr, Rep w' Z2 Gr (resOf vs) (retOf us) (fun x y => ∃ i, i < vs.length ∧ Fb i x y) := by
          intro vs us hl hr
          match vs, us, hl with
          | [], [], _ => exact ⟨fun _ => undef, .lit rfl⟩
          | [x], [u], _ => exact ⟨Gb 0, (hr 0 x u rfl rfl).mono (fun x y q => ⟨0, by simp, q⟩)⟩
          | x :: y :: vs, u :: v :: us, hl =>
            refine ⟨fun _ => undef, ?_⟩
            simp only [resOf, retOf]
            refine .tup (x :: y :: vs) (u :: v :: us).toArray Gb (fun i x' y' => i < (x :: y :: vs).length ∧ Fb i x' y') (by simpa using hl) (fun i x y q => ⟨i, q⟩) (fun i j x y q q' => b5.dis i j x y q.2 q'.2) fun i z hz => ?_
            have hlt : i < (x :: y :: vs).length := (List.getElem?_eq_some_iff.1 hz).1
            have hlt' : i < (u :: v :: us).length := by rw [← hl]; exact hlt
            have hu : (u :: v :: us)[i]? = some (u :: v :: us)[i] := List.getElem?_eq_getElem hlt'
            have hgd : (u :: v :: us).toArray.getD i undef = (u :: v :: us)[i] := by simp only [Array.getD_eq_getD_getElem?, List.getElem?_toArray, hu, Option.getD_some]
            rw [hgd]
            exact (hr i z _ hz hu).mono (fun x y q => ⟨hlt, q⟩)
        obtain ⟨Gr, hr⟩ := hsh (l.1.take m) (us.take m) (by simp [hll, hlen]) (fun i x u hx hu => by
          have hi : i < m := by have := (List.getElem?_eq_some_iff.1 hx).1; simp at this; omega
          rw [List.getElem?_take_of_lt hi] at hx hu
          exact b5.rep i x u hx hu)
        refine ⟨Gr, ?_⟩
        have hm : (l.1.take m).length = m := by simp [hll]
        rw [hm] at hr
        exact hr
      · -- what was handed over
        intro i o ho
        unfold outsOf at ho
        rw [List.getElem?_map] at ho
        by_cases hi : i < as.length
        · rw [List.getElem?_range hi] at ho
          simp only [Option.map_some, Option.some.injEq] at ho
          cases hp : posOf io i with
          | none => rw [hp] at ho; simp only at ho; subst ho; exact ⟨fun _ => undef, .gone⟩
          | some j =>
            rw [hp] at ho
            simp only at ho
            subst ho
            have hio := posOf_some hp
            have hj : j < io.length := (List.getElem?_eq_some_iff.1 hio).1
            have hmj : m + j < us.length := by omega
            have hu : us[m + j]? = some us[m + j] := List.getElem?_eq_getElem hmj
            have hx : l.1[m + j]? = some (l.1[m + j]'(by omega)) := List.getElem?_eq_getElem (by omega)
            have hq : (fn.results.toList ++ io.map ResultVar.tmp)[m + j]? = some (.tmp i) := by
              rw [List.getElem?_append_right (by omega)]
              simp only [m, Nat.add_sub_cancel_left, List.getElem?_map, hio, Option.map_some]
            have hval := (b1 (m + j) (.tmp i) _ hq hu).2 i rfl
            rw [hfx i (List.mem_of_getElem? hio), htm i hi] at hval
            have hgd : (l.1.drop m).getD j .gone = l.1[m + j]'(by omega) := by simp only [List.getD, List.getElem?_drop, hx, Option.getD_some]
            rw [hgd, ← hval]
            refine ⟨Gb (m + j), ?_⟩
            simp only [hp]
            exact b5.rep (m + j) _ _ hx hu
        · rw [List.getElem?_eq_none (by simp; omega)] at ho; cases ho
      · rintro x y ⟨i, hi, q⟩
        obtain ⟨q1, q2, q3⟩ := hfrom i x y q
        refine ⟨q1, q2, q3, fun j u => ?_⟩
        cases hp : posOf io j with
        | none => simp only [hp] at u; exact u
        | some p => simp only [hp] at u; have := b5.dis _ _ x y q u; omega
      · intro i x y q
        cases hp : posOf io i with
        | none => simp only [hp] at q; exact q.elim
        | some p => simp only [hp] at q; exact hfrom _ x y q
      · intro i j x y q q'
        cases hp : posOf io i with
        | none => simp only [hp] at q; exact q.elim
        | some p =>
          cases hp' : posOf io j with
          | none => simp only [hp'] at q'; exact q'.elim
          | some p' =>
            simp only [hp] at q
            simp only [hp'] at q'
            have h1 := b5.dis _ _ x y q q'
            have h2 : p = p' := by omega
            subst h2
            have e1 := posOf_some hp
            have e2 := posOf_some hp'
            rw [e1] at e2
            exact Option.some.inj e2
    rcases hx with rfl | rfl
    · exact hpost
    · exact hpost

end
end Go.V
