/- Sums, differences and products of two ints that stay in range, and an int as an uint. Conditions: those that stand ahead of each theorem. -/
import Derived.Test.YtieobcaegegboaaDoorN64
import Derived.Laws.Small
namespace Go.Px
open Go Go.RowKit
section
variable {P : Program} {o : Oper} {w : World} {ρ : Operand → Value}
theorem op_imulN {t t' : TypeId} {x y : Operand} (ho : o.op = .binOp .mul t x y t') {a b : Int} (hx : ρ x = .int .i64 a) (hy : ρ y = .int .i64 b) (n : Nat) (hn : a * b = n) (hb : n ≤ 9223372036854775807) : (execOp ρ o).run P w = .ok (.value (.int .i64 n)) w := by
  have e : IntKind.i64.wrap (a * b) = n := by rw [hn]; exact IntWalk.i64_in _ (by omega)
  unfold execOp
  simp only [ho, hx, hy, Sem.run_bind, run_eqGuard_int, Result.andThen_ok, binOp, ne_eq, not_true_eq_false, if_false, Op.intArith, Sem.run_pure, e, Result.andThen_ok]
theorem op_isubN {t t' : TypeId} {x y : Operand} (ho : o.op = .binOp .sub t x y t') {a b : Int} (hx : ρ x = .int .i64 a) (hy : ρ y = .int .i64 b) (n : Nat) (hn : a - b = n) (hb : n ≤ 9223372036854775807) : (execOp ρ o).run P w = .ok (.value (.int .i64 n)) w := by
  have e : IntKind.i64.wrap (a - b) = n := by rw [hn]; exact IntWalk.i64_in _ (by omega)
  unfold execOp
  simp only [ho, hx, hy, Sem.run_bind, run_eqGuard_int, Result.andThen_ok, binOp, ne_eq, not_true_eq_false, if_false, Op.intArith, Sem.run_pure, e, Result.andThen_ok]
theorem op_iaddN {t t' : TypeId} {x y : Operand} (ho : o.op = .binOp .add t x y t') {a b : Int} (hx : ρ x = .int .i64 a) (hy : ρ y = .int .i64 b) (n : Nat) (hn : a + b = n) (hb : n ≤ 9223372036854775807) : (execOp ρ o).run P w = .ok (.value (.int .i64 n)) w := by
  have e : IntKind.i64.wrap (a + b) = n := by rw [hn]; exact IntWalk.i64_in _ (by omega)
  unfold execOp
  simp only [ho, hx, hy, Sem.run_bind, run_eqGuard_int, Result.andThen_ok, binOp, ne_eq, not_true_eq_false, if_false, Op.intArith, Sem.run_pure, e, Result.andThen_ok]
theorem op_i64u64 {s d : TypeId} {sd : TypeDesc} (hs : P.underlying s = some sd) (hd : P.underlying d = some (.int .u64)) {x : Operand} (ho : o.op = .convert s d x) {n : Nat} (hx : ρ x = .int .i64 n) (hb : n ≤ 9223372036854775807) : (execOp ρ o).run P w = .ok (.value (.int .u64 n)) w := by
  rw [op_convert hs hd ho hx]
  have e : IntKind.u64.wrap (n : Int) = n := by rw [wrap64]; omega
  rw [e]
theorem op_igtr {t t' : TypeId} {x y : Operand} (ho : o.op = .binOp .gtr t x y t') {k : IntKind} {a b : Int} (hx : ρ x = .int k a) (hy : ρ y = .int k b) {r : Bool} (hr : decide (b < a) = r) : (execOp ρ o).run P w = .ok (.value (.bool r)) w := by
  unfold execOp
  simp only [ho, hx, hy, Sem.run_bind, run_eqGuard_int, Result.andThen_ok, binOp, ne_eq, not_true_eq_false, if_false, Op.intCmp, Sem.run_pure, gt_iff_lt, hr]
theorem op_eq32 {t t' : TypeId} {x y : Operand} (ho : o.op = .binOp .eql t x y t') {a b : BitVec 32} (hx : ρ x = W32 a) (hy : ρ y = W32 b) (hab : a = b) : (execOp ρ o).run P w = .ok (.value (.bool true)) w := by
  subst hab
  unfold W32 at hx hy
  unfold execOp
  simp only [ho, hx, hy, Sem.run_bind, run_eqGuard_int, Result.andThen_ok, binOp, ne_eq, not_true_eq_false, if_false, Op.intCmp, Sem.run_pure, beq_self_eq_true]
theorem op_eqI {t t' : TypeId} {x y : Operand} (ho : o.op = .binOp .eql t x y t') {k : IntKind} {a b : Int} (hx : ρ x = .int k a) (hy : ρ y = .int k b) (hab : a = b) : (execOp ρ o).run P w = .ok (.value (.bool true)) w := by
  subst hab
  unfold execOp
  simp only [ho, hx, hy, Sem.run_bind, run_eqGuard_int, Result.andThen_ok, binOp, ne_eq, not_true_eq_false, if_false, Op.intCmp, Sem.run_pure, beq_self_eq_true]
theorem op_minN {x y : Operand} {ts : Array TypeId} (ho : o.op = .call { callee := .builtin .min, args := #[x, y], argTypes := ts }) {k : IntKind} {a b : Nat} (hx : ρ x = .int k a) (hy : ρ y = .int k b) : (execOp ρ o).run P w = .ok (.value (.int k (min a b : Nat))) w := by
  have e : (if b < a then (b : Int) else a) = ((min a b : Nat) : Int) := by
    split <;> omega
  unfold execOp
  simp [ho, hx, hy, resolve, invoke, builtin, run_min_int2]
  exact e
theorem op_maxN {x y : Operand} {ts : Array TypeId} (ho : o.op = .call { callee := .builtin .max, args := #[x, y], argTypes := ts }) {k : IntKind} {a b : Nat} (hx : ρ x = .int k a) (hy : ρ y = .int k b) : (execOp ρ o).run P w = .ok (.value (.int k (max a b : Nat))) w := by
  have e : (if a < b then (b : Int) else a) = ((max a b : Nat) : Int) := by
    split <;> omega
  unfold execOp
  simp [ho, hx, hy, resolve, invoke, builtin, run_max_int2]
  exact e
theorem op_8toInt {s d : TypeId} {sd : TypeDesc} (hs : P.underlying s = some sd) (hd : P.underlying d = some (.int .i64)) {x : Operand} (ho : o.op = .convert s d x) {a : BitVec 8} (hx : ρ x = B8 a) : (execOp ρ o).run P w = .ok (.value (.int .i64 a.toNat)) w := by
  rw [op_convert hs hd ho hx]
  have := a.isLt
  have e : IntKind.i64.wrap (a.toNat : Int) = a.toNat := IntWalk.i64_in _ (by omega)
  rw [e]
theorem op_eqN64 {t t' : TypeId} {x y : Operand} (ho : o.op = .binOp .eql t x y t') {a b : Nat} (hx : ρ x = N64 a) (hy : ρ y = N64 b) (hab : a = b) : (execOp ρ o).run P w = .ok (.value (.bool true)) w := by
  subst hab
  unfold N64 W64 at hx hy
  exact op_eqI ho hx hy rfl
end
end Go.Px
