/- V: a table of types, checked by computing. -/
import Derived.Test.YtflpofmnjibjgaaVRun
set_option linter.unusedVariables false
set_option linter.unusedSimpArgs false
namespace Go.V
open Go

def tdChk : TD → TypeDesc → Bool
  | .int k, .int k' => decide (k = k')
  | .bool, .bool => true
  | .str, .string => true
  | .ptr e, .pointer e' => e == e'
  | .slice e, .slice e' => e == e'
  | .array n e, .array n' e' => n == n' && e == e'
  | .struct fs, .struct fields => decide (fields.toList.map (fun f => (f.offset, f.type)) = fs)
  | .map k e, .map k' e' => k == k' && e == e'
  | _, _ => false

theorem tdChk_ok {d : TD} {d' : TypeDesc} (h : tdChk d d' = true) : TDok d d' := by
  unfold tdChk at h
  split at h <;> simp_all [TDok]

def sameVs : List Value → List Value → Bool
  | [], [] => true
  | a :: as, b :: bs => sameV a b && sameVs as bs
  | _, _ => false

theorem sameVs_eq : ∀ (a b : List Value), sameVs a b = true → a = b
  | [], b, h => by cases b <;> simp [sameVs] at h; rfl
  | a :: as, b, h => by
    cases b with
    | nil => simp [sameVs] at h
    | cons b bs =>
      simp only [sameVs, Bool.and_eq_true] at h
      rw [sameV_eq h.1, sameVs_eq as bs h.2]

def tiChk (P : Program) (t : TypeId) (ti : TI) : Bool :=
  match ti.d with
  | .other => true
  | d => match P.info? t, P.underlying t with
    | some i, some u => match i.zero with
      | some z => i.size == ti.size && i.bytes == ti.bytes && sameVs z.cells.toList ti.zero && tdChk d u && ti.zero.length == ti.size && ti.zero.all plain
      | none => false
    | _, _ => false

theorem tiChk_ok {P : Program} {t : TypeId} {ti : TI} (h : tiChk P t ti = true) (hd : ti.d ≠ .other) : TOk1 P t ti := by
  unfold tiChk at h
  split at h
  · rename_i e; exact absurd e hd
  · split at h
    · rename_i i u h1 h2
      split at h
      · rename_i z hz
        simp only [Bool.and_eq_true, beq_iff_eq] at h
        obtain ⟨⟨⟨⟨⟨a1, a2⟩, a3⟩, a4⟩, a5⟩, a6⟩ := h
        exact ⟨⟨i, u, z, h1, h2, a1, a2, hz, sameVs_eq _ _ a3, tdChk_ok a4⟩, a5, a6⟩
      · cases h
    · cases h

theorem tab_ok {P : Program} {tt : TypeId → TI} (n : Nat) (h : ((List.range n).all fun t => tiChk P t (tt t)) = true) : TOk P fun t => if t < n then tt t else ⟨0, 0, [], .other⟩ := by
  intro t hd
  by_cases ht : t < n
  · simp only [ht, if_true] at hd ⊢
    exact tiChk_ok (List.all_eq_true.1 h t (List.mem_range.2 ht)) hd
  · simp only [ht, if_false] at hd
    exact absurd rfl hd

end Go.V
