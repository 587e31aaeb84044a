/- V: what was taken for a while laid back. -/
import Derived.Test.YtflpofmnjibjgaaVArgs
set_option linter.unusedVariables false
set_option linter.unusedSimpArgs false
namespace Go.V
open Go

section
variable {P : Program} {T : TypeId → TI} {w0 : World} {F0 Z0 X : Foot} {σ σ' : Slots} {w : World} {Z : Foot} {Fs : Nat → Foot} {G : Nat → Hops → Value} {a : Act} {ts : Array Value} {f : Nat → AV}

theorem restore_one (k : Ok w0 F0 Z0 X (pk σ) ts w Z Fs G) {r : Nat} {hs : Hops} {o : AV} {u : Value} {Fo : Foot} {Go : Hops → Value} (hget : (pk σ r).get hs = some .held) (hv : Vok (pk σ) G (.mref r hs) u)
    (hp : Put.to ⟨r, hs, o⟩ σ = some σ') (hr : Rep w Z Go o u Fo) (hm : ∀ (f : Nat → AV) (G : Nat → Hops → Value), Vok f G o u) (hX : ∀ x y, Fo x y → X x y) :
    ∃ Fs' G', Ok w0 F0 Z0 (fun x y => X x y ∧ ¬ Fo x y) (pk σ') ts w Z Fs' G' ∧ Far σ σ' G G' [⟨r, hs, o⟩] := by
  obtain ⟨n, h1, h2, h3⟩ := put_to hp
  simp only at h1 h2 h3
  rw [hget] at h1
  cases h1
  have hu : u = G r hs := by cases hv with | mref x _ _ => rfl
  cases hs with
  | nil =>
    have hget' := hget
    simp only [AV.get, Option.some.injEq] at hget'
    have hrep := k.rep r
    rw [hget'] at hrep
    have hg : G r [] = ts.getD r undef := by
      generalize ts.getD r undef = vv at hrep
      cases hrep with
      | held h hG => exact hG
      | arr q o e rows b off m val Fc ha => simp [AV.arr] at ha
    rw [hg] at hu
    subst hu
    have hok := k.slot r (ts' := ts) (w' := w) (Z' := Z) (X' := fun x y => X x y ∧ ¬ Fo x y) (a := o) (v := ts.getD r undef) (Fd := Fo) (Gd := Go) (by intro t; split <;> simp_all) (fun x y _ => .refl w x y) (Nat.le_refl _) (.refl w) (fun _ _ q => q) k.shared
      (fun t x y ht q => ⟨(k.foot t x y q).1, fun u => (k.foot t x y q).2.1 u.1, fun u => (k.foot t x y q).2.1 (hX x y u)⟩)
      (fun x y q => ⟨(k.free x y (hX x y q)).1, fun u => u.2 q, (k.free x y (hX x y q)).2⟩) (fun x y q => k.free x y q.1) hr (hm _ _)
    rw [hget'] at hok
    refine ⟨_, _, by rw [h3]; exact hok, far_kill rfl h3 (fun b u h => ?_)⟩
    have := k.names o Go hget h
    exact this
  | cons g hs =>
    obtain ⟨b, off, vn, F1, F2, k1, k2, k3, k4, k5, k6, k7, _, k8⟩ := k.mem hget h2
    have hg : G r (g :: hs) = vn := by
      generalize hq : (fun q => G r (g :: hs ++ q)) = Gq at k7
      cases k7 with
      | held h hG => rw [← hq] at hG; simpa using hG
      | arr q o e rows b off m val Fc ha => simp [AV.arr] at ha
    rw [hg] at hu
    subst hu
    have hok := k8 w Z (fun x y => X x y ∧ ¬ Fo x y) o u Fo Go (fun x y _ _ => .refl w x y) (Nat.le_refl _) (.refl w) k5 k6 (fun _ _ q => q) k.shared
      (fun t x y q _ => ⟨(k.foot t x y q).1, fun u => (k.foot t x y q).2.1 u.1, fun u => (k.foot t x y q).2.1 (hX x y u)⟩)
      (fun x y q => ⟨(k.free x y (hX x y q)).1, fun u => u.2 q, (k.free x y (hX x y q)).2⟩) (fun x y q => k.free x y q.1) hr
    refine ⟨_, _, by rw [h3]; exact hok, far_kill rfl h3 (fun b u h => k.names o Go hget h)⟩

theorem restore_ok : ∀ (bs : List (Option (Nat × Hops))) (os : List AV) (us : List Value) (σ σ' : Slots) (X : Foot) (Fs : Nat → Foot) (G : Nat → Hops → Value) (Fo : Nat → Foot),
    Ok w0 F0 Z0 X (pk σ) ts w Z Fs G → restore bs os σ = some σ' → os.length = us.length →
    (∀ (i : Nat) (o : AV) (u : Value), os[i]? = some o → us[i]? = some u → ∃ Go, Rep w Z Go o u (Fo i)) →
    (∀ (i : Nat) (b : Nat × Hops) (u : Value), bs[i]? = some (some b) → us[i]? = some u → Vok (pk σ) G (.mref b.1 b.2) u) →
    (∀ i x y, Fo i x y → X x y) → (∀ i j x y, Fo i x y → Fo j x y → i = j) →
    (∀ (i j : Nat) (b c : Nat × Hops), bs[i]? = some (some b) → bs[j]? = some (some c) → i < j → apart1 b.1 b.2 ⟨c.1, c.2, .held⟩ = true) →
    ∃ X' Fs' G', Ok w0 F0 Z0 X' (pk σ') ts w Z Fs' G' ∧ (∀ x y, X x y → (∀ i, ¬ Fo i x y) → X' x y)
  | [], [], us, σ, σ', X, Fs, G, Fo, k, h, hl, hr, hv, hX, hd, hap => by
    simp only [restore, Option.some.injEq] at h
    subst h
    exact ⟨X, Fs, G, k, fun x y q _ => q⟩
  | none :: bs, o :: os, us, σ, σ', X, Fs, G, Fo, k, h, hl, hr, hv, hX, hd, hap => by
    simp only [restore] at h
    cases us with
    | nil => simp at hl
    | cons u us =>
      obtain ⟨X', Fs', G', h1, h2⟩ := restore_ok bs os us σ σ' X Fs G (fun i => Fo (i + 1)) k h (by simpa using hl) (fun i o u ho hu => hr (i + 1) o u ho hu) (fun i b u hb hu => hv (i + 1) b u hb hu)
        (fun i => hX (i + 1)) (fun i j x y q q' => by have := hd _ _ x y q q'; omega) (fun i j b c hb hc hij => hap (i + 1) (j + 1) b c hb hc (by omega))
      exact ⟨X', Fs', G', h1, fun x y q hn => h2 x y q (fun i => hn (i + 1))⟩
  | some b :: bs, o :: os, us, σ, σ', X, Fs, G, Fo, k, h, hl, hr, hv, hX, hd, hap => by
    simp only [restore] at h
    cases us with
    | nil => simp at hl
    | cons u us =>
      split at h
      · rename_i hc
        obtain ⟨hg, hm⟩ := hc
        have hget : (pk σ b.1).get b.2 = some .held := by
          unfold isHeld at hg
          split at hg
          · assumption
          · cases hg
        replace h := bind_some_inv h
        obtain ⟨τ, hτ, h⟩ := h
        obtain ⟨Go, hr0⟩ := hr 0 o u rfl rfl
        have hm' : ∀ (f : Nat → AV) (G : Nat → Hops → Value), Vok f G o u := by
          intro f G
          cases o <;> simp [AV.laid] at hm
          · exact .slc
          · exact .box
        obtain ⟨Fs1, G1, q1, q2⟩ := restore_one k hget (hv 0 b u rfl rfl) hτ hr0 hm' (hX 0)
        obtain ⟨X', Fs', G', h1, h2⟩ := restore_ok bs os us τ σ' _ Fs1 G1 (fun i => Fo (i + 1)) q1 h (by simpa using hl) (fun i o u ho hu => hr (i + 1) o u ho hu)
          (fun i c u hc hu => by
            refine q2 _ u rfl (fun f cs h => by cases h) (fun p hp q hq => ?_) (hv (i + 1) c u hc hu)
            simp only [List.mem_singleton] at hp
            subst hp
            simp only [AV.place, Option.some.injEq] at hq
            subst hq
            have := hap 0 (i + 1) b c rfl hc (by omega)
            rintro ⟨e1, e2⟩
            simp only [apart1, Bool.not_eq_true', Bool.and_eq_false_iff, Bool.or_eq_false_iff, beq_eq_false_iff_ne, ne_eq] at this
            rcases this with h | h
            · exact h e1
            · simp only at e2; rw [e2] at h; cases h.1)
          (fun i x y q => ⟨hX (i + 1) x y q, fun u => by have := hd _ _ x y q u; omega⟩) (fun i j x y q q' => by have := hd _ _ x y q q'; omega) (fun i j b c hb hc hij => hap (i + 1) (j + 1) b c hb hc (by omega))
        exact ⟨X', Fs', G', h1, fun x y q hn => h2 x y ⟨q, hn 0⟩ (fun i => hn (i + 1))⟩
      · cases h
  | [], _ :: _, _, _, _, _, _, _, _, _, h, _, _, _, _, _, _ => by simp [restore] at h
  | none :: _, [], _, _, _, _, _, _, _, _, h, _, _, _, _, _, _ => by simp [restore] at h
  | some _ :: _, [], _, _, _, _, _, _, _, _, h, _, _, _, _, _, _ => by simp [restore] at h

end
end Go.V
