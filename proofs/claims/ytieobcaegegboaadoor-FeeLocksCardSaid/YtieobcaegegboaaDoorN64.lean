/- Counters of 64 bits: the operations on them are those of numbers. Conditions: those that stand ahead of each theorem. -/
import Derived.Test.YtieobcaegegboaaDoorWords
namespace Go.Px
open Go Go.RowKit
def N64 (n : Nat) : Value := W64 (BitVec.ofNat 64 n)
section
variable {P : Program} {o : Oper} {w : World} {ρ : Operand → Value}
theorem op_natN64 {s d : TypeId} {sd : TypeDesc} (hs : P.underlying s = some sd) (hd : P.underlying d = some (.int .u64)) {x : Operand} (ho : o.op = .convert s d x) {k : IntKind} {n : Nat} (hx : ρ x = .int k n) : (execOp ρ o).run P w = .ok (.value (N64 n)) w := op_nat_to64 hs hd ho hx
theorem N64_int {n : Nat} (h : n < 18446744073709551616) : N64 n = .int .u64 n := by
  unfold N64 W64
  rw [BitVec.toNat_ofNat, Nat.mod_eq_of_lt h]
theorem op_N64add {t t' : TypeId} {x y : Operand} (ho : o.op = .binOp .add t x y t') {n k : Nat} (hx : ρ x = N64 n) (hy : ρ y = N64 k) : (execOp ρ o).run P w = .ok (.value (N64 (n + k))) w := by
  rw [op_bin64 (op := .add) rfl ho hx hy]
  show Result.ok (Next.value (W64 (BitVec.ofNat 64 n + BitVec.ofNat 64 k))) w = _
  rw [← BitVec.ofNat_add]
  rfl
theorem op_N64and63 {t t' : TypeId} {x y : Operand} (ho : o.op = .binOp .and t x y t') {n : Nat} (hx : ρ x = N64 n) (hy : ρ y = .int .u64 63) : (execOp ρ o).run P w = .ok (.value (N64 (n % 64))) w := by
  have hy' : ρ y = W64 63#64 := hy
  rw [op_bin64 (op := .and) rfl ho hx hy']
  have e : BitVec.ofNat 64 n &&& 63#64 = BitVec.ofNat 64 (n % 64) := by
    apply BitVec.eq_of_toNat_eq
    rw [BitVec.toNat_and, BitVec.toNat_ofNat, BitVec.toNat_ofNat, BitVec.toNat_ofNat, show 63 % 2 ^ 64 = 2 ^ 6 - 1 by decide, Nat.and_two_pow_sub_one_eq_mod]
    omega
  show Result.ok (Next.value (W64 (BitVec.ofNat 64 n &&& 63#64))) w = _
  rw [e]
  rfl
theorem op_N64int {s d : TypeId} {sd : TypeDesc} (hs : P.underlying s = some sd) (hd : P.underlying d = some (.int .i64)) {x : Operand} (ho : o.op = .convert s d x) {n : Nat} (hx : ρ x = N64 n) (h : n ≤ 9223372036854775807) : (execOp ρ o).run P w = .ok (.value (.int .i64 n)) w := by
  rw [N64_int (by omega)] at hx
  rw [op_convert hs hd ho hx]
  have e : IntKind.i64.wrap n = n := IntWalk.i64_in _ (by omega)
  rw [e]
theorem op_N64eq {t t' : TypeId} {x y : Operand} (ho : o.op = .binOp .eql t x y t') {n : Nat} (hx : ρ x = N64 n) (hn : n < 18446744073709551616) {c : Nat} (hy : ρ y = .int .u64 c) : (execOp ρ o).run P w = .ok (.value (.bool (n == c))) w := by
  rw [N64_int hn] at hx
  unfold execOp
  have e : ((n : Int) == (c : Int)) = (n == c) := by
    rw [Bool.eq_iff_iff, beq_iff_eq, beq_iff_eq]
    omega
  simp only [ho, hx, hy, Sem.run_bind, run_eqGuard_int, Result.andThen_ok, binOp, ne_eq, not_true_eq_false, if_false, Op.intCmp, Sem.run_pure]
  rw [← e]
theorem op_N64ne {t t' : TypeId} {x y : Operand} (ho : o.op = .binOp .neq t x y t') {n : Nat} (hx : ρ x = N64 n) (hn : n < 18446744073709551616) {c : Nat} (hy : ρ y = .int .u64 c) : (execOp ρ o).run P w = .ok (.value (.bool (n != c))) w := by
  rw [N64_int hn] at hx
  unfold execOp
  have e : ((n : Int) != (c : Int)) = (n != c) := by
    rw [Bool.eq_iff_iff, bne_iff_ne, bne_iff_ne]
    omega
  simp only [ho, hx, hy, Sem.run_bind, run_eqGuard_int, Result.andThen_ok, binOp, ne_eq, not_true_eq_false, if_false, Op.intCmp, Sem.run_pure]
  rw [← e]
/-- 'n & 15' of an int -/
theorem op_iand15 {t t' : TypeId} {x y : Operand} (ho : o.op = .binOp .and t x y t') {z : Int} (hx : ρ x = .int .i64 z) (hy : ρ y = .int .i64 15) (n : Nat) (hz : z = n) (_ : n ≤ 9223372036854775807) : (execOp ρ o).run P w = .ok (.value (.int .i64 (n % 16 : Nat))) w := by
  subst hz
  have e : (BitVec.ofInt 64 (n : Int) &&& BitVec.ofInt 64 15).toNat = n % 16 := by
    rw [BitVec.toNat_and, BitVec.ofInt_natCast, BitVec.toNat_ofNat, show (BitVec.ofInt 64 15).toNat = 2 ^ 4 - 1 by decide, Nat.and_two_pow_sub_one_eq_mod]
    omega
  have e2 : IntKind.i64.wrap ((n % 16 : Nat) : Int) = ((n % 16 : Nat) : Int) := IntWalk.i64_in _ (by omega)
  unfold execOp
  simp only [ho, hx, hy, Sem.run_bind, run_eqGuard_int, Result.andThen_ok, binOp, ne_eq, not_true_eq_false, if_false, Op.intBits, Sem.run_pure, IntKind.bits]
  exact (congrArg (fun z : Nat => Result.ok (Next.value (Value.int IntKind.i64 (IntKind.i64.wrap (z : Int)))) w) e).trans (by rw [e2])
end
end Go.Px
