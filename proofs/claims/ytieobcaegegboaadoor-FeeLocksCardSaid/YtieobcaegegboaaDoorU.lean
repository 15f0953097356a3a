/- Words of 64 bits as natural numbers: each operation on them that does not wrap (or whose wrapped value is told) is the numbers' own. Conditions: those that stand ahead of each theorem. -/
import Derived.Test.YtieobcaegegboaaDoorInts2
namespace Go.Px
open Go Go.RowKit
def U (n : Nat) : Value := .int .u64 (n : Int)
theorem U_cells (n : Nat) : (U n).cells = #[U n] := rfl
theorem U_one (n : Nat) : (U n).oneCell' = true := rfl
theorem U_W (x : BitVec 64) : W64 x = U x.toNat := rfl
theorem U_of {n : Nat} (h : n < 18446744073709551616) : U n = W64 (BitVec.ofNat 64 n) := by
  rw [U_W, BitVec.toNat_ofNat, Nat.mod_eq_of_lt h]
section
variable {P : Program} {o : Oper} {w : World} {ρ : Operand → Value} {t t' : TypeId} {x y : Operand} {a b : Nat}
theorem opU_addW (ho : o.op = .binOp .add t x y t') (hx : ρ x = U a) (hy : ρ y = U b) (n : Nat) (hn : (a + b) % 18446744073709551616 = n) : (execOp ρ o).run P w = .ok (.value (U n)) w := by
  have e : IntKind.u64.wrap ((a : Int) + b) = n := by rw [wrap64]; omega
  unfold U at hx hy ⊢
  unfold execOp
  simp only [ho, hx, hy, Sem.run_bind, run_eqGuard_int, Result.andThen_ok, binOp, ne_eq, not_true_eq_false, if_false, Op.intArith, Sem.run_pure, e]
theorem opU_add (ho : o.op = .binOp .add t x y t') (hx : ρ x = U a) (hy : ρ y = U b) (h : a + b < 18446744073709551616) : (execOp ρ o).run P w = .ok (.value (U (a + b))) w :=
  opU_addW ho hx hy _ (Nat.mod_eq_of_lt h)
theorem opU_subW (ho : o.op = .binOp .sub t x y t') (hx : ρ x = U a) (hy : ρ y = U b) (n : Nat) (hn : ((a : Int) - b) % 18446744073709551616 = n) : (execOp ρ o).run P w = .ok (.value (U n)) w := by
  have e : IntKind.u64.wrap ((a : Int) - b) = n := by rw [wrap64]; exact hn
  unfold U at hx hy ⊢
  unfold execOp
  simp only [ho, hx, hy, Sem.run_bind, run_eqGuard_int, Result.andThen_ok, binOp, ne_eq, not_true_eq_false, if_false, Op.intArith, Sem.run_pure, e]
theorem opU_sub (ho : o.op = .binOp .sub t x y t') (hx : ρ x = U a) (hy : ρ y = U b) (hb : b ≤ a) (ha : a < 18446744073709551616) : (execOp ρ o).run P w = .ok (.value (U (a - b))) w :=
  opU_subW ho hx hy _ (by omega)
theorem opU_mulW (ho : o.op = .binOp .mul t x y t') (hx : ρ x = U a) (hy : ρ y = U b) (n : Nat) (hn : a * b % 18446744073709551616 = n) : (execOp ρ o).run P w = .ok (.value (U n)) w := by
  have e : IntKind.u64.wrap ((a : Int) * b) = n := by
    rw [wrap64, ← Int.natCast_mul]
    generalize a * b = p at *
    omega
  unfold U at hx hy ⊢
  unfold execOp
  simp only [ho, hx, hy, Sem.run_bind, run_eqGuard_int, Result.andThen_ok, binOp, ne_eq, not_true_eq_false, if_false, Op.intArith, Sem.run_pure, e]
theorem opU_mul (ho : o.op = .binOp .mul t x y t') (hx : ρ x = U a) (hy : ρ y = U b) (h : a * b < 18446744073709551616) : (execOp ρ o).run P w = .ok (.value (U (a * b))) w :=
  opU_mulW ho hx hy _ (Nat.mod_eq_of_lt h)
theorem opU_quo (ho : o.op = .binOp .quo t x y t') (hx : ρ x = U a) (hy : ρ y = U b) (hb : 0 < b) (ha : a < 18446744073709551616) : (execOp ρ o).run P w = .ok (.value (U (a / b))) w := by
  have h0 : ¬ ((b : Int) = 0) := by omega
  have e : IntKind.u64.wrap ((a : Int).tdiv b) = (a / b : Nat) := by
    rw [show (a : Int).tdiv b = ((a / b : Nat) : Int) from rfl, wrap64]
    have := Nat.div_le_self a b
    generalize a / b = q at *
    omega
  unfold U at hx hy ⊢
  unfold execOp
  simp only [ho, hx, hy, Sem.run_bind, run_eqGuard_int, Result.andThen_ok, binOp, ne_eq, not_true_eq_false, if_false, Op.intDiv, Sem.run_pure, if_neg h0, e]
theorem opU_rem (ho : o.op = .binOp .rem t x y t') (hx : ρ x = U a) (hy : ρ y = U b) (hb : 0 < b) : (execOp ρ o).run P w = .ok (.value (U (a % b))) w := by
  have h0 : ¬ ((b : Int) = 0) := by omega
  unfold U at hx hy ⊢
  unfold execOp
  simp only [ho, hx, hy, Sem.run_bind, run_eqGuard_int, Result.andThen_ok, binOp, ne_eq, not_true_eq_false, if_false, Op.intDiv, Sem.run_pure, if_neg h0]
  rfl
theorem opU_shlW (ho : o.op = .binOp .shl t x y t') (hx : ρ x = U a) {c : Nat} (hy : ρ y = U c) (n : Nat) (hn : a * 2 ^ c % 18446744073709551616 = n) : (execOp ρ o).run P w = .ok (.value (U n)) w := by
  unfold U at hx hy ⊢
  unfold execOp
  have h := int_shl a c 64
  rw [Nat.shiftLeft_eq, show (2 ^ 64 : Nat) = 18446744073709551616 from rfl, hn] at h
  simp only [ho, hx, hy, Sem.run_bind, run_eqGuard_int, Result.andThen_ok, binOp, Op.shift, show ¬ ((c : Int) < 0) by omega, if_false, Sem.run_pure, wrap64, IntKind.bits]
  rw [show (18446744073709551616 : Int) = ((18446744073709551616 : Nat) : Int) from rfl, h]
theorem opU_shl (ho : o.op = .binOp .shl t x y t') (hx : ρ x = U a) {c : Nat} (hy : ρ y = U c) (h : a * 2 ^ c < 18446744073709551616) : (execOp ρ o).run P w = .ok (.value (U (a * 2 ^ c))) w :=
  opU_shlW ho hx hy _ (Nat.mod_eq_of_lt h)
theorem opU_shrN (ho : o.op = .binOp .shr t x y t') (hx : ρ x = U a) {c : Nat} (hy : ρ y = U c) (ha : a < 18446744073709551616) (n : Nat) (hn : a / 2 ^ c = n) : (execOp ρ o).run P w = .ok (.value (U n)) w := by
  unfold U at hx hy ⊢
  unfold execOp
  have h := int_shr a c 64 ha
  rw [Nat.shiftRight_eq_div_pow, hn] at h
  simp only [ho, hx, hy, Sem.run_bind, run_eqGuard_int, Result.andThen_ok, binOp, Op.shift, show ¬ ((c : Int) < 0) by omega, if_false, Sem.run_pure, IntKind.bits, h]
theorem opU_shr (ho : o.op = .binOp .shr t x y t') (hx : ρ x = U a) {c : Nat} (hy : ρ y = U c) (ha : a < 18446744073709551616) : (execOp ρ o).run P w = .ok (.value (U (a / 2 ^ c))) w :=
  opU_shrN ho hx hy ha _ rfl
theorem opU_bits {op : BinOp} {f : BitVec 64 → BitVec 64 → BitVec 64} (hf : bvOp op = some f) (ho : o.op = .binOp op t x y t') (hx : ρ x = U a) (hy : ρ y = U b) (ha : a < 18446744073709551616) (hb : b < 18446744073709551616) (n : Nat)
    (hn : (f (BitVec.ofNat 64 a) (BitVec.ofNat 64 b)).toNat = n) : (execOp ρ o).run P w = .ok (.value (U n)) w := by
  rw [U_of ha] at hx
  rw [U_of hb] at hy
  rw [op_bin64 hf ho hx hy, U_W, hn]
theorem opU_or (ho : o.op = .binOp .or t x y t') (hx : ρ x = U a) (hy : ρ y = U b) (ha : a < 18446744073709551616) (hb : b < 18446744073709551616) (n : Nat) (hn : a ||| b = n) : (execOp ρ o).run P w = .ok (.value (U n)) w :=
  opU_bits (op := .or) rfl ho hx hy ha hb n (by
    show (BitVec.ofNat 64 a ||| BitVec.ofNat 64 b).toNat = n
    rw [BitVec.toNat_or, BitVec.toNat_ofNat, BitVec.toNat_ofNat, Nat.mod_eq_of_lt ha, Nat.mod_eq_of_lt hb, hn])
theorem opU_and (ho : o.op = .binOp .and t x y t') (hx : ρ x = U a) (hy : ρ y = U b) (ha : a < 18446744073709551616) (hb : b < 18446744073709551616) (n : Nat) (hn : a &&& b = n) : (execOp ρ o).run P w = .ok (.value (U n)) w :=
  opU_bits (op := .and) rfl ho hx hy ha hb n (by
    show (BitVec.ofNat 64 a &&& BitVec.ofNat 64 b).toNat = n
    rw [BitVec.toNat_and, BitVec.toNat_ofNat, BitVec.toNat_ofNat, Nat.mod_eq_of_lt ha, Nat.mod_eq_of_lt hb, hn])
theorem opU_mask32 (ho : o.op = .binOp .and t x y t') (hx : ρ x = U a) (hy : ρ y = U 4294967295) (ha : a < 18446744073709551616) : (execOp ρ o).run P w = .ok (.value (U (a % 4294967296))) w :=
  opU_and ho hx hy ha (by omega) _ (Nat.and_two_pow_sub_one_eq_mod a 32)
theorem opU_bit0 (ho : o.op = .binOp .and t x y t') (hx : ρ x = U a) (hy : ρ y = U 1) (ha : a < 18446744073709551616) : (execOp ρ o).run P w = .ok (.value (U (a % 2))) w :=
  opU_and ho hx hy ha (by omega) _ (Nat.and_two_pow_sub_one_eq_mod a 1)
theorem or_add {a b s : Nat} (hb : b < 2 ^ s) : a * 2 ^ s ||| b = a * 2 ^ s + b := by
  rw [Nat.mul_comm]
  exact (Nat.two_pow_add_eq_or_of_lt hb a).symm
theorem opU_eql (ho : o.op = .binOp .eql t x y t') (hx : ρ x = U a) (hy : ρ y = U b) {r : Bool} (hr : (a == b) = r) : (execOp ρ o).run P w = .ok (.value (.bool r)) w := by
  have e : ((a : Int) == (b : Int)) = r := by
    rw [← hr, Bool.eq_iff_iff, beq_iff_eq, beq_iff_eq]
    omega
  unfold U at hx hy
  unfold execOp
  simp only [ho, hx, hy, Sem.run_bind, run_eqGuard_int, Result.andThen_ok, binOp, ne_eq, not_true_eq_false, if_false, Op.intCmp, Sem.run_pure, e]
theorem opU_neq (ho : o.op = .binOp .neq t x y t') (hx : ρ x = U a) (hy : ρ y = U b) {r : Bool} (hr : (a != b) = r) : (execOp ρ o).run P w = .ok (.value (.bool r)) w := by
  have e : ((a : Int) != (b : Int)) = r := by
    rw [← hr, Bool.eq_iff_iff, bne_iff_ne, bne_iff_ne]
    omega
  unfold U at hx hy
  unfold execOp
  simp only [ho, hx, hy, Sem.run_bind, run_eqGuard_int, Result.andThen_ok, binOp, ne_eq, not_true_eq_false, if_false, Op.intCmp, Sem.run_pure, e]
theorem opU_lss (ho : o.op = .binOp .lss t x y t') (hx : ρ x = U a) (hy : ρ y = U b) {r : Bool} (hr : decide (a < b) = r) : (execOp ρ o).run P w = .ok (.value (.bool r)) w :=
  op_ilss ho hx hy (by rw [← hr, decide_eq_decide]; omega)
theorem opU_leq (ho : o.op = .binOp .leq t x y t') (hx : ρ x = U a) (hy : ρ y = U b) {r : Bool} (hr : decide (a ≤ b) = r) : (execOp ρ o).run P w = .ok (.value (.bool r)) w :=
  op_ileq ho hx hy (by rw [← hr, decide_eq_decide]; omega)
theorem opU_gtr (ho : o.op = .binOp .gtr t x y t') (hx : ρ x = U a) (hy : ρ y = U b) {r : Bool} (hr : decide (b < a) = r) : (execOp ρ o).run P w = .ok (.value (.bool r)) w :=
  op_igtr ho hx hy (by rw [← hr, decide_eq_decide]; omega)
theorem opU_geq (ho : o.op = .binOp .geq t x y t') (hx : ρ x = U a) (hy : ρ y = U b) {r : Bool} (hr : decide (b ≤ a) = r) : (execOp ρ o).run P w = .ok (.value (.bool r)) w :=
  op_igeq ho hx hy (by rw [← hr, decide_eq_decide]; omega)
/-- an int that is no less than nought, as a word -/
theorem opU_ofInt {s d : TypeId} {sd : TypeDesc} (hs : P.underlying s = some sd) (hd : P.underlying d = some (.int .u64)) (ho : o.op = .convert s d x) {k : IntKind} {z : Int} (hx : ρ x = .int k z) (n : Nat) (hn : z % 18446744073709551616 = n) : (execOp ρ o).run P w = .ok (.value (U n)) w := by
  rw [op_convert hs hd ho hx, wrap64, hn]
  rfl
end
end Go.Px
