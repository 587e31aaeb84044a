/- V: code; a function's body. -/
import Derived.Test.YtflpofmnjibjgaaVConf
import Derived.Scope
set_option linter.unusedVariables false
set_option linter.unusedSimpArgs false
namespace Go.V
open Go

/-- every slot that code writes is one of the frame's. -/
def codeOk (n : Nat) (fx : List Nat) : Code → Bool
  | .region _ ops _ => ops.toList.all fun o => match o.dst with | some d => decide (d < n) && !fx.contains d | none => true
  | .seq a b => codeOk n fx a && codeOk n fx b
  | .cond _ a b => codeOk n fx a && codeOk n fx b
  | .block _ b => codeOk n fx b
  | .loop b => codeOk n fx b
  | .scope b => codeOk n fx b
  | _ => true

def Ex.to : Ex → Exit
  | .normal => .normal
  | .exit id => .exit id
  | .ret => .ret

theorem pk_clean (keep : List Nat) (σ : Slots) (t : Nat) : pk (clean keep σ) t = if t ∈ keep then (pk σ t).rooted keep else .gone := by
  have : ∀ (l : List Nat), pk (l.map fun t => (t, (pk σ t).rooted keep)) t = if t ∈ l then (pk σ t).rooted keep else .gone := by
    intro l
    induction l with
    | nil => rfl
    | cons u l ih =>
      simp only [List.map_cons, pk]
      by_cases h : u = t
      · subst h; simp
      · rw [if_neg h, ih]
        have h' : ¬ t = u := fun e => h e.symm
        simp [h']
  exact this keep

theorem rootedL_get (keep : List Nat) : ∀ (l : List AV) (i : Nat), (rootedL keep l)[i]? = (l[i]?).map (·.rooted keep)
  | [], i => by simp [rootedL]
  | c :: l, 0 => by simp [rootedL]
  | c :: l, i + 1 => by simp only [rootedL, List.getElem?_cons_succ]; exact rootedL_get keep l i
theorem rootedL_length (keep : List Nat) : ∀ (l : List AV), (rootedL keep l).length = l.length
  | [] => rfl
  | c :: l => by simp [rootedL, rootedL_length keep l]

theorem Rep.rooted {w : World} {Z : Foot} {G : Hops → Value} {b : AV} {v : Value} {F : Foot} (keep : List Nat) (h : Rep w Z G b v F) : Rep w Z G (b.rooted keep) v F := by
  induction h with
  | lit h => exact .lit h
  | gone => exact .gone
  | dead h => exact .dead h
  | ref h => simp only [AV.rooted]; split <;> first | exact .ref h | exact .dead h
  | view h => simp only [AV.rooted]; split <;> first | exact .view h | exact .dead h
  | mref h => simp only [AV.rooted]; split <;> first | exact .mref h | exact .dead h
  | held h hG => exact .held h hG
  | arr b o e rows bb off m val Fc ha he hm hrow hown hshr hsub hdis hcell hrep hG ih =>
    have : b.rooted keep = b := by cases b <;> simp [AV.arr] at ha <;> rfl
    rw [this]; exact .arr b o e rows bb off m val Fc ha he hm hrow hown hshr hsub hdis hcell hrep hG
  | agg cs vs Gc Fc hl hsub hdis hrep ih =>
    refine .agg _ vs Gc Fc (by rw [rootedL_length, hl]) hsub hdis fun i x hx => ?_
    rw [rootedL_get] at hx
    cases hc : cs[i]? with
    | none => rw [hc] at hx; cases hx
    | some y => rw [hc] at hx; simp only [Option.map_some, Option.some.injEq] at hx; rw [← hx]; exact ih i y hc
  | tup cs vs Gc Fc hl hsub hdis hrep ih =>
    refine .tup _ vs Gc Fc (by rw [rootedL_length, hl]) hsub hdis fun i x hx => ?_
    rw [rootedL_get] at hx
    cases hc : cs[i]? with
    | none => rw [hc] at hx; cases hx
    | some y => rw [hc] at hx; simp only [Option.map_some, Option.some.injEq] at hx; rw [← hx]; exact ih i y hc
  | clo f => exact .clo f
  | map o es b entries clock hw hes hp hF hZ hG => exact .map o es b entries clock hw hes hp hF hZ hG

theorem Vok.rooted {f f' : Nat → AV} {G : Nat → Hops → Value} {keep : List Nat} (hf : ∀ r, keep.contains r = true → (f r).mem = true → f' r = f r) {b : AV} {v : Value} (h : Vok f G b v) : Vok f' G (b.rooted keep) v := by
  have memroot : ∀ (r : Nat) (hs : Hops) (x : AV), (f r).get hs = some x → x.mem = true → (f r).mem = true := by
    intro r hs x hx hm
    cases hs with
    | nil => simp only [AV.get, Option.some.injEq] at hx; rw [hx]; exact hm
    | cons g hs =>
      cases ha : (f r).arr with
      | none => simp [AV.get, AV.kid, ha] at hx
      | some y => exact arr_mem ha
  induction h with
  | @ref r hs i c a o e rows b off m hget ha hG =>
    simp only [AV.rooted]
    split
    · rename_i hk; exact .ref a o e rows b off m (by rw [hf r hk (memroot r hs a hget (arr_mem ha))]; exact hget) ha hG
    · exact .dead
  | @view r hs lo len e rows b off m off' hget hG hle hoff =>
    simp only [AV.rooted]
    split
    · rename_i hk; exact .view rows b off m off' (by rw [hf r hk (memroot r hs _ hget rfl)]; exact hget) hG hle hoff
    · exact .dead
  | @mref r hs x hget hx =>
    simp only [AV.rooted]
    split
    · rename_i hk
      exact .mref x (by rw [hf r hk (memroot r hs _ hget (by rcases hx with rfl | ⟨_, _, rfl⟩ <;> rfl))]; exact hget) hx
    · exact .dead
  | @agg cs vs h ih =>
    refine .agg fun i x hx => ?_
    rw [rootedL_get] at hx
    cases hc : cs[i]? with
    | none => rw [hc] at hx; cases hx
    | some y => rw [hc] at hx; simp only [Option.map_some, Option.some.injEq] at hx; rw [← hx]; exact ih i y hc
  | lit => exact .lit
  | slc => exact .slc
  | box => exact .box
  | map => exact .map
  | tup => exact .tup
  | clo => exact .clo
  | dead => exact .dead
  | gone => exact .gone
  | held => exact .held

section
variable {w0 : World} {F0 Z0 X : Foot} {σ σ' : Slots} {w : World} {Z : Foot} {Fs : Nat → Foot} {G : Nat → Hops → Value} {a : Act} {ts : Array Value}

theorem rooted_mem {b : AV} (h : b.mem = true) (keep : List Nat) : b.rooted keep = b := by cases b <;> simp [AV.mem] at h <;> rfl

theorem Ok.clean (k : Ok w0 F0 Z0 X (pk σ) ts w Z Fs G) (keep : List Nat) : Ok w0 F0 Z0 X (pk (clean keep σ)) ts w Z Fs G := by
  refine ⟨fun t => ?_, fun t => ?_, k.dis, k.foot, k.free, k.base, k.shared, k.grows, k.keep, k.step⟩
  · rw [pk_clean]; split
    · exact (k.rep t).rooted keep
    · exact .gone
  · rw [pk_clean]; split
    · refine Vok.rooted (fun r hr hm => ?_) (k.vok t)
      have hr' : r ∈ keep := by simpa using hr
      rw [pk_clean, if_pos hr', rooted_mem hm]
    · exact .gone

theorem St.clean {n : Nat} {fx : List Nat} {a0 : Nat → Value} (h : St w0 F0 Z0 n fx a0 σ a w) (keep : List Nat) : St w0 F0 Z0 n fx a0 (V.clean keep σ) a w := by
  obtain ⟨⟨Z, Fs, G, k⟩, h1, h2, h3⟩ := h
  exact ⟨⟨Z, Fs, G, k.clean keep⟩, h1, h2, h3⟩

theorem exists_least {p : Nat → Prop} (h : ∃ m, p m) : ∃ m, p m ∧ ∀ k, p k → m ≤ k := by
  obtain ⟨m, hm⟩ := h
  induction m using Nat.strongRecOn with
  | _ m ih =>
    by_cases hex : ∃ k, k < m ∧ p k
    · obtain ⟨k, hk, hp⟩ := hex; exact ih k hk hp
    · exact ⟨m, hm, fun k hk => Nat.le_of_not_lt fun hlt => hex ⟨k, hlt, hk⟩⟩

/-- code. -/
theorem vwp_ok {E : Env} (hE : E.Good) {n : Nat} {fx : List Nat} {a0 : Nat → Value} (pols : Nat → Pol) (keep : List Nat) : ∀ (c : Code) (Q : Ex → Slots → Prop) (Qm : Exit → Act → World → Prop) (σ : Slots) (a : Act) (w : World), codeOk n fx c = true →
    vwp E pols keep c Q σ → St w0 F0 Z0 n fx a0 σ a w → (∀ x σ' a' w', Q x σ' → St w0 F0 Z0 n fx a0 σ' a' w' → Qm x.to a' w') → c.wp E.P Qm a w := by
  intro c
  induction c with
  | skip => intro Q Qm σ a w _ h hs hQ; exact wp_skip (hQ .normal σ a w h hs)
  | label l => intro Q Qm σ a w _ h hs hQ; exact wp_label (hQ .normal σ a w h hs)
  | region id ops b =>
    intro Q Qm σ a w hc h hs hQ
    have hd : ∀ o ∈ ops.toList, ∀ d, o.dst = some d → d < n ∧ d ∉ fx := by
      intro o ho d hd
      have := List.all_eq_true.1 hc o ho
      rw [hd] at this
      simpa using this
    cases b with
    | false =>
      simp only [vwp] at h
      exact wp_region_list (vops_ok hE (K := fun σ' => Q .normal (clean keep σ')) (fun σ' a' w' h1 h2 => hQ .normal _ a' w' h1 (h2.clean keep)) ops.toList 0 σ a w hd h hs)
    | true =>
      simp only [vwp] at h
      exact draw_ok hE hE.mixed (K := fun σ' => Q .normal (clean keep σ')) (fun σ' a' w' h1 h2 => hQ .normal _ a' w' h1 (h2.clean keep)) hd h.1 h.2 hs
  | seq x y ihx ihy =>
    intro Q Qm σ a w hc h hs hQ
    simp only [codeOk, Bool.and_eq_true] at hc
    simp only [vwp] at h
    refine wp_seq (ihx _ _ σ a w hc.1 h hs ?_)
    intro x' σ' a' w' h1 h2
    cases x' with
    | normal => exact ihy Q Qm σ' a' w' hc.2 h1 h2 hQ
    | exit id => exact hQ (.exit id) σ' a' w' h1 h2
    | ret => exact hQ .ret σ' a' w' h1 h2
  | cond x y z ihy ihz =>
    intro Q Qm σ a w hc h hs hQ
    simp only [codeOk, Bool.and_eq_true] at hc
    simp only [vwp] at h
    obtain ⟨t, h1, h2⟩ := h
    obtain ⟨⟨Z, Fs, G, k⟩, _, _, _⟩ := id hs
    have hb := lit_ok k h1
    refine wp_cond hb ?_
    cases t with
    | true => exact ihy Q Qm σ a w hc.1 h2 hs hQ
    | false => exact ihz Q Qm σ a w hc.2 h2 hs hQ
  | block id b ih =>
    intro Q Qm σ a w hc h hs hQ
    simp only [vwp] at h
    refine wp_block (ih _ _ σ a w hc h hs ?_)
    intro x σ' a' w' h1 h2
    cases x with
    | normal => exact hQ .normal σ' a' w' h1 h2
    | ret => exact hQ .ret σ' a' w' h1 h2
    | exit j =>
      simp only at h1
      simp only [Ex.to, Exit.inBlock]
      split
      · rename_i hj; rw [if_pos hj] at h1; exact hQ .normal σ' a' w' h1 h2
      · rename_i hj; rw [if_neg hj] at h1; exact hQ (.exit j) σ' a' w' h1 h2
  | loop b ih =>
    intro Q Qm σ a w hc h hs hQ
    simp only [vwp] at h
    obtain ⟨m, h⟩ := h
    -- the state, and how many rounds are left
    let I : Nat → Act → World → Prop := fun m a w => ∃ σ, vloop (vwp E pols keep b) Q m σ ∧ St w0 F0 Z0 n fx a0 σ a w
    have ex : ∃ m, I m a w := ⟨m, σ, h, hs⟩
    classical
    let μ : Act → World → Nat := fun a w => if h : ∃ m, I m a w then Classical.choose (exists_least h) else 0
    have hμ : ∀ a w (h : ∃ m, I m a w), I (μ a w) a w := by
      intro a w h
      simp only [μ, h, dif_pos]
      exact (Classical.choose_spec (exists_least h)).1
    have hle : ∀ a w m, I m a w → μ a w ≤ m := by
      intro a w m h
      have hex : ∃ m, I m a w := ⟨m, h⟩
      simp only [μ, hex, dif_pos]
      exact (Classical.choose_spec (exists_least hex)).2 m h
    refine wp_loop (fun a w => ∃ m, I m a w) μ ex ?_
    intro a w hex
    obtain ⟨σ, h1, h2⟩ := hμ a w hex
    cases hm : μ a w with
    | zero => rw [hm] at h1; exact h1.elim
    | succ k =>
      rw [hm] at h1
      simp only [vloop] at h1
      refine ih _ _ σ a w hc h1 h2 ?_
      intro x σ' a' w' h3 h4
      cases x with
      | normal => exact ⟨⟨k, σ', h3, h4⟩, Nat.lt_succ_of_le (hle a' w' k ⟨σ', h3, h4⟩)⟩
      | exit j => exact hQ (.exit j) σ' a' w' h3 h4
      | ret => exact hQ .ret σ' a' w' h3 h4
  | scope b ih =>
    intro Q Qm σ a w hc h hs hQ
    simp only [vwp] at h
    refine wp_scope_straight (ih Q _ σ a w hc h hs fun x σ' a' w' h1 h2 => ?_)
    have := hQ x σ' a' w' h1 h2
    cases x <;> exact this
  | exit id => intro Q Qm σ a w _ h hs hQ; exact wp_exit (hQ (.exit id) σ a w h hs)
  | ret => intro Q Qm σ a w _ h hs hQ; exact wp_ret (hQ .ret σ a w h hs)
  | _ => intro Q Qm σ a w _ h; simp [vwp] at h

end
end Go.V
