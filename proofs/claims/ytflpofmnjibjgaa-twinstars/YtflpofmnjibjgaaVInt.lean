/- V: numbers, truths. -/
import Derived.Test.YtflpofmnjibjgaaVSim
set_option linter.unusedVariables false
set_option linter.unusedSimpArgs false
namespace Go.V
open Go

section
variable {P : Program} {T : TypeId → TI} {σ : Slots} {t : TypeId} {x y : Operand} {k : IntKind} {a b : Int}

theorem bin_add : (evBin P T .add t x y (.lit (.int k a)) (.lit (.int k b))).run σ = some (.lit (.int k (k.wrap (a + b))), []) := by
  simp [evBin, nilish, slcish, asLit, ofS, eqGuard, Go.binOp, Op.intArith, evS, Q.run_bind, Q.run, plain, Bind.bind, Pure.pure, Sem.bind]
theorem bin_sub : (evBin P T .sub t x y (.lit (.int k a)) (.lit (.int k b))).run σ = some (.lit (.int k (k.wrap (a - b))), []) := by
  simp [evBin, nilish, slcish, asLit, ofS, eqGuard, Go.binOp, Op.intArith, evS, Q.run_bind, Q.run, plain, Bind.bind, Pure.pure, Sem.bind]
theorem bin_mul : (evBin P T .mul t x y (.lit (.int k a)) (.lit (.int k b))).run σ = some (.lit (.int k (k.wrap (a * b))), []) := by
  simp [evBin, nilish, slcish, asLit, ofS, eqGuard, Go.binOp, Op.intArith, evS, Q.run_bind, Q.run, plain, Bind.bind, Pure.pure, Sem.bind]
theorem bin_rem (h : b ≠ 0) : (evBin P T .rem t x y (.lit (.int k a)) (.lit (.int k b))).run σ = some (.lit (.int k (a.tmod b)), []) := by
  simp [evBin, nilish, slcish, asLit, ofS, eqGuard, Go.binOp, Op.intDiv, evS, Q.run_bind, Q.run, plain, Bind.bind, Pure.pure, Sem.bind, h]
theorem bin_quo (h : b ≠ 0) : (evBin P T .quo t x y (.lit (.int k a)) (.lit (.int k b))).run σ = some (.lit (.int k (k.wrap (a.tdiv b))), []) := by
  simp [evBin, nilish, slcish, asLit, ofS, eqGuard, Go.binOp, Op.intDiv, evS, Q.run_bind, Q.run, plain, Bind.bind, Pure.pure, Sem.bind, h]
theorem bin_lss : (evBin P T .lss t x y (.lit (.int k a)) (.lit (.int k b))).run σ = some (.lit (.bool (decide (a < b))), []) := by
  simp [evBin, nilish, slcish, asLit, ofS, eqGuard, Go.binOp, Op.intCmp, evS, Q.run_bind, Q.run, plain, Bind.bind, Pure.pure, Sem.bind]
theorem bin_leq : (evBin P T .leq t x y (.lit (.int k a)) (.lit (.int k b))).run σ = some (.lit (.bool (decide (a ≤ b))), []) := by
  simp [evBin, nilish, slcish, asLit, ofS, eqGuard, Go.binOp, Op.intCmp, evS, Q.run_bind, Q.run, plain, Bind.bind, Pure.pure, Sem.bind]
theorem bin_gtr : (evBin P T .gtr t x y (.lit (.int k a)) (.lit (.int k b))).run σ = some (.lit (.bool (decide (b < a))), []) := by
  simp [evBin, nilish, slcish, asLit, ofS, eqGuard, Go.binOp, Op.intCmp, evS, Q.run_bind, Q.run, plain, Bind.bind, Pure.pure, Sem.bind]
theorem bin_geq : (evBin P T .geq t x y (.lit (.int k a)) (.lit (.int k b))).run σ = some (.lit (.bool (decide (b ≤ a))), []) := by
  simp [evBin, nilish, slcish, asLit, ofS, eqGuard, Go.binOp, Op.intCmp, evS, Q.run_bind, Q.run, plain, Bind.bind, Pure.pure, Sem.bind]
theorem bin_eql : (evBin P T .eql t x y (.lit (.int k a)) (.lit (.int k b))).run σ = some (.lit (.bool (decide (a = b))), []) := by
  have h : (a == b) = decide (a = b) := by rw [Bool.eq_iff_iff]; simp
  simp [h, evBin, nilish, slcish, asLit, ofS, eqGuard, Go.binOp, Op.intCmp, evS, Q.run_bind, Q.run, plain, Bind.bind, Pure.pure, Sem.bind]
theorem bin_neq : (evBin P T .neq t x y (.lit (.int k a)) (.lit (.int k b))).run σ = some (.lit (.bool (decide (a ≠ b))), []) := by
  have h : (a != b) = decide (a ≠ b) := by rw [Bool.eq_iff_iff]; simp
  simp [h, evBin, nilish, slcish, asLit, ofS, eqGuard, Go.binOp, Op.intCmp, evS, Q.run_bind, Q.run, plain, Bind.bind, Pure.pure, Sem.bind]
end
end Go.V
