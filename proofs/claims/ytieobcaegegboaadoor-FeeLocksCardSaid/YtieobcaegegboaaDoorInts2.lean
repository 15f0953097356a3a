/- Remainders, shifts and comparisons of ints and uints that stay in range. Conditions: those that stand ahead of each theorem. -/
import Derived.Test.YtieobcaegegboaaDoorInts
namespace Go.Px
open Go Go.RowKit
section
variable {P : Program} {o : Oper} {w : World} {ρ : Operand → Value}
theorem op_iremN {t t' : TypeId} {x y : Operand} (ho : o.op = .binOp .rem t x y t') {a b : Nat} (hx : ρ x = .int .i64 a) (hy : ρ y = .int .i64 b) (hb : 0 < b) : (execOp ρ o).run P w = .ok (.value (.int .i64 (a % b : Nat))) w := by
  have h0 : ¬ ((b : Int) = 0) := by omega
  unfold execOp
  simp only [ho, hx, hy, Sem.run_bind, run_eqGuard_int, Result.andThen_ok, binOp, ne_eq, not_true_eq_false, if_false, Op.intDiv, Sem.run_pure, if_neg h0]
  rfl
theorem op_ishrN {t t' : TypeId} {x y : Operand} (ho : o.op = .binOp .shr t x y t') {n c : Nat} (hx : ρ x = .int .i64 n) {k : IntKind} (hy : ρ y = .int k c) (hc : c ≤ 63) : (execOp ρ o).run P w = .ok (.value (.int .i64 (n / 2 ^ c : Nat))) w := by
  unfold execOp
  have h0 : ¬ ((c : Int) < 0) := by omega
  have h1 : min (c : Int).toNat 64 = c := by omega
  have e : Int.fdiv (n : Int) (2 ^ c) = ((n / 2 ^ c : Nat) : Int) := by
    rw [pow_cast, Int.fdiv_eq_ediv_of_nonneg _ (Int.natCast_nonneg _), ← Int.natCast_ediv]
  simp only [ho, hx, hy, Sem.run_bind, run_eqGuard_int, Result.andThen_ok, binOp, Op.shift, h0, if_false, Sem.run_pure, IntKind.bits, h1, e]
theorem op_natTo8 {s d : TypeId} {sd : TypeDesc} (hs : P.underlying s = some sd) (hd : P.underlying d = some (.int .u8)) {x : Operand} (ho : o.op = .convert s d x) {k : IntKind} {n : Nat} (hx : ρ x = .int k n) : (execOp ρ o).run P w = .ok (.value (B8 (BitVec.ofNat 8 n))) w := by
  rw [op_convert hs hd ho hx]
  have e : IntKind.u8.wrap (n : Int) = ((BitVec.ofNat 8 n).toNat : Int) := by
    rw [wrap8, BitVec.toNat_ofNat]
    omega
  rw [e]
  rfl
theorem op_ineI {t t' : TypeId} {x y : Operand} (ho : o.op = .binOp .neq t x y t') {k : IntKind} {a b : Int} (hx : ρ x = .int k a) (hy : ρ y = .int k b) {r : Bool} (hr : (a != b) = r) : (execOp ρ o).run P w = .ok (.value (.bool r)) w := by
  unfold execOp
  simp only [ho, hx, hy, Sem.run_bind, run_eqGuard_int, Result.andThen_ok, binOp, ne_eq, not_true_eq_false, if_false, Op.intCmp, Sem.run_pure, hr]
theorem op_ilss {t t' : TypeId} {x y : Operand} (ho : o.op = .binOp .lss t x y t') {k : IntKind} {a b : Int} (hx : ρ x = .int k a) (hy : ρ y = .int k b) {r : Bool} (hr : decide (a < b) = r) : (execOp ρ o).run P w = .ok (.value (.bool r)) w := by
  unfold execOp
  simp only [ho, hx, hy, Sem.run_bind, run_eqGuard_int, Result.andThen_ok, binOp, ne_eq, not_true_eq_false, if_false, Op.intCmp, Sem.run_pure, hr]
theorem op_ileq {t t' : TypeId} {x y : Operand} (ho : o.op = .binOp .leq t x y t') {k : IntKind} {a b : Int} (hx : ρ x = .int k a) (hy : ρ y = .int k b) {r : Bool} (hr : decide (a ≤ b) = r) : (execOp ρ o).run P w = .ok (.value (.bool r)) w := by
  unfold execOp
  simp only [ho, hx, hy, Sem.run_bind, run_eqGuard_int, Result.andThen_ok, binOp, ne_eq, not_true_eq_false, if_false, Op.intCmp, Sem.run_pure, hr]
theorem op_igeq {t t' : TypeId} {x y : Operand} (ho : o.op = .binOp .geq t x y t') {k : IntKind} {a b : Int} (hx : ρ x = .int k a) (hy : ρ y = .int k b) {r : Bool} (hr : decide (b ≤ a) = r) : (execOp ρ o).run P w = .ok (.value (.bool r)) w := by
  unfold execOp
  simp only [ho, hx, hy, Sem.run_bind, run_eqGuard_int, Result.andThen_ok, binOp, ne_eq, not_true_eq_false, if_false, Op.intCmp, Sem.run_pure, ge_iff_le, hr]
theorem op_ne32 {t t' : TypeId} {x y : Operand} (ho : o.op = .binOp .neq t x y t') {a b : BitVec 32} (hx : ρ x = W32 a) (hy : ρ y = W32 b) (hab : a = b) : (execOp ρ o).run P w = .ok (.value (.bool false)) w := by
  subst hab
  unfold W32 at hx hy
  exact op_ineI ho hx hy (by simp)
theorem op_usubN {t t' : TypeId} {x y : Operand} (ho : o.op = .binOp .sub t x y t') {a b : Nat} (hx : ρ x = .int .u64 a) (hy : ρ y = .int .u64 b) (n : Nat) (hn : a = n + b) (ha : a < 18446744073709551616) : (execOp ρ o).run P w = .ok (.value (.int .u64 n)) w := by
  have e : IntKind.u64.wrap ((a : Int) - b) = n := by rw [wrap64]; omega
  unfold execOp
  simp only [ho, hx, hy, Sem.run_bind, run_eqGuard_int, Result.andThen_ok, binOp, ne_eq, not_true_eq_false, if_false, Op.intArith, Sem.run_pure, e]
theorem op_eqI' {t t' : TypeId} {x y : Operand} (ho : o.op = .binOp .eql t x y t') {k : IntKind} {a b : Int} (hx : ρ x = .int k a) (hy : ρ y = .int k b) {r : Bool} (hr : (a == b) = r) : (execOp ρ o).run P w = .ok (.value (.bool r)) w := by
  unfold execOp
  simp only [ho, hx, hy, Sem.run_bind, run_eqGuard_int, Result.andThen_ok, binOp, ne_eq, not_true_eq_false, if_false, Op.intCmp, Sem.run_pure, hr]
end
end Go.Px
