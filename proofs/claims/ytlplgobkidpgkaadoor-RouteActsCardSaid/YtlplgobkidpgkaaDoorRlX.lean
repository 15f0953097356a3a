/- Two truths are held against each other. Conditions: those that stand ahead of each theorem. -/
import Derived.Test.YtlplgobkidpgkaaDoorGRl
namespace Go.Proofs.YtlplgobkidpgkaaDoor
open Go Go.RowKit Go.Px Go.Sha
theorem op_neBool {o : Oper} {w : World} {ρ : Operand → Value} {t' : TypeId} {x y : Operand} {a : Bool} (ho : o.op = .binOp .neq 4 x y t') (hx : ρ x = .bool a) (hy : ρ y = .bool a) : (execOp ρ o).run Tryd.prog w = .ok (.value (.bool false)) w := by
  have h : (binOp .neq 4 (.bool a) (.bool a)).run Tryd.prog w = .ok (.bool false) w := by cases a <;> kernel_rfl
  have h2 : (eqGuard .neq 4 x y (.bool a) (.bool a)).run Tryd.prog w = .ok () w := by cases a <;> rfl
  unfold execOp
  simp only [ho, hx, hy, Sem.run_bind, h, h2, Result.andThen_ok, Sem.run_pure]
theorem op_eqBool {o : Oper} {w : World} {ρ : Operand → Value} {t' : TypeId} {x y : Operand} {a : Bool} (ho : o.op = .binOp .eql 4 x y t') (hx : ρ x = .bool a) (hy : ρ y = .bool a) : (execOp ρ o).run Tryd.prog w = .ok (.value (.bool true)) w := by
  have h : (binOp .eql 4 (.bool a) (.bool a)).run Tryd.prog w = .ok (.bool true) w := by cases a <;> kernel_rfl
  have h2 : (eqGuard .eql 4 x y (.bool a) (.bool a)).run Tryd.prog w = .ok () w := by cases a <;> rfl
  unfold execOp
  simp only [ho, hx, hy, Sem.run_bind, h, h2, Result.andThen_ok, Sem.run_pure]
theorem same_eq {r2 r : Rt} (h : r2 = r) : Hid ((r2.s0 == r.s0 && r2.s1 == r.s1) = true) := by
  subst h
  simp [Hid]
theorem and_self2 (a b : Int) : Hid ((a == a && b == b) = true) := by simp [Hid]
theorem nat_self (a : Nat) : Hid ((a == a) = true) := by simp [Hid]
theorem capStep {n : Nat} (h : n < 18446744073709551615) : (n + 1) % 18446744073709551616 = capU (n + 1) := by
  rw [Nat.mod_eq_of_lt (by omega)]
  exact (Nat.min_eq_left (by omega)).symm
theorem capEnd {n : Nat} (h : ¬ n < 18446744073709551615) (h2 : n < 18446744073709551616) : capU (n + 1) = n := by
  have e : n = 18446744073709551615 := by omega
  rw [e]
  exact Nat.min_eq_right (by omega)
end Go.Proofs.YtlplgobkidpgkaaDoor
