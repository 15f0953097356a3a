/- Operations on unsigned words are those of bit vectors. Conditions: those that stand ahead of each theorem. -/
import Derived.Test.YtieobcaegegboaaDoorSepOps
namespace Go.Px
open Go Go.RowKit

def B8 (x : BitVec 8) : Value := .int .u8 (x.toNat : Int)
def W32 (x : BitVec 32) : Value := .int .u32 (x.toNat : Int)
def W64 (x : BitVec 64) : Value := .int .u64 (x.toNat : Int)

section
variable {P : Program} {o : Oper} {w : World} {ρ : Operand → Value}
theorem run_eqGuard_int {t : TypeId} {x y : Operand} (op : BinOp) (k k' : IntKind) (a b : Int) (w : World) : (eqGuard op t x y (.int k a) (.int k' b)).run P w = .ok () w := by
  unfold eqGuard
  split <;> rfl

theorem wrap8 (n : Int) : IntKind.u8.wrap n = n % 256 := by simp [IntKind.wrap, IntKind.bits, IntKind.signed]
theorem wrap32 (n : Int) : IntKind.u32.wrap n = n % 4294967296 := by simp [IntKind.wrap, IntKind.bits, IntKind.signed]
theorem wrap64 (n : Int) : IntKind.u64.wrap n = n % 18446744073709551616 := by simp [IntKind.wrap, IntKind.bits, IntKind.signed]

/-- which operation on words -/
def bvOp {n : Nat} : BinOp → Option (BitVec n → BitVec n → BitVec n)
  | .add => some (· + ·)
  | .sub => some (· - ·)
  | .mul => some (· * ·)
  | .and => some (· &&& ·)
  | .or => some (· ||| ·)
  | .xor => some (· ^^^ ·)
  | _ => none
theorem ofInt_toNat {n : Nat} (x : BitVec n) : BitVec.ofInt n (x.toNat : Int) = x := by
  apply BitVec.eq_of_toNat_eq
  simp
theorem wrap_toNat32 (x : BitVec 32) : IntKind.u32.wrap (x.toNat : Int) = x.toNat := by
  rw [wrap32]
  have := x.isLt
  omega
theorem wrap_toNat8 (x : BitVec 8) : IntKind.u8.wrap (x.toNat : Int) = x.toNat := by
  rw [wrap8]
  have := x.isLt
  omega
theorem wrap_toNat64 (x : BitVec 64) : IntKind.u64.wrap (x.toNat : Int) = x.toNat := by
  rw [wrap64]
  have := x.isLt
  omega
theorem run_bin32 {op : BinOp} {f : BitVec 32 → BitVec 32 → BitVec 32} (hf : bvOp op = some f) (t : TypeId) (a b : BitVec 32) (w : World) : (binOp op t (W32 a) (W32 b)).run P w = .ok (W32 (f a b)) w := by
  have ha := a.isLt
  have hb := b.isLt
  cases op <;> simp only [bvOp, Option.some.injEq, reduceCtorEq] at hf <;> subst hf <;>
    simp only [binOp, W32, Op.intArith, Op.intBits, ne_eq, not_true_eq_false, if_false, Sem.run_pure, IntKind.bits, ofInt_toNat, wrap_toNat32]
  · rw [wrap32, BitVec.toNat_add]
    congr 2
  · rw [wrap32, BitVec.toNat_sub]
    congr 2
    omega
  · rw [wrap32, BitVec.toNat_mul]
    congr 2
  · rfl
  · rfl
  · rfl
theorem run_bin8 {op : BinOp} {f : BitVec 8 → BitVec 8 → BitVec 8} (hf : bvOp op = some f) (t : TypeId) (a b : BitVec 8) (w : World) : (binOp op t (B8 a) (B8 b)).run P w = .ok (B8 (f a b)) w := by
  have ha := a.isLt
  have hb := b.isLt
  cases op <;> simp only [bvOp, Option.some.injEq, reduceCtorEq] at hf <;> subst hf <;>
    simp only [binOp, B8, Op.intArith, Op.intBits, ne_eq, not_true_eq_false, if_false, Sem.run_pure, IntKind.bits, ofInt_toNat, wrap_toNat8]
  · rw [wrap8, BitVec.toNat_add]
    congr 2
  · rw [wrap8, BitVec.toNat_sub]
    congr 2
    omega
  · rw [wrap8, BitVec.toNat_mul]
    congr 2
  · rfl
  · rfl
  · rfl
theorem run_bin64 {op : BinOp} {f : BitVec 64 → BitVec 64 → BitVec 64} (hf : bvOp op = some f) (t : TypeId) (a b : BitVec 64) (w : World) : (binOp op t (W64 a) (W64 b)).run P w = .ok (W64 (f a b)) w := by
  have ha := a.isLt
  have hb := b.isLt
  cases op <;> simp only [bvOp, Option.some.injEq, reduceCtorEq] at hf <;> subst hf <;>
    simp only [binOp, W64, Op.intArith, Op.intBits, ne_eq, not_true_eq_false, if_false, Sem.run_pure, IntKind.bits, ofInt_toNat, wrap_toNat64]
  · rw [wrap64, BitVec.toNat_add]
    congr 2
  · rw [wrap64, BitVec.toNat_sub]
    congr 2
    omega
  · rw [wrap64, BitVec.toNat_mul]
    congr 2
  · rfl
  · rfl
  · rfl
theorem op_bin32 {op : BinOp} {f : BitVec 32 → BitVec 32 → BitVec 32} (hf : bvOp op = some f) {t t' : TypeId} {x y : Operand} (ho : o.op = .binOp op t x y t') {a b : BitVec 32} (hx : ρ x = W32 a) (hy : ρ y = W32 b) : (execOp ρ o).run P w = .ok (.value (W32 (f a b))) w := by
  have h := run_bin32 (P := P) hf t a b w
  unfold execOp
  simp only [ho, hx, hy, Sem.run_bind, h, show ∀ w, (eqGuard op t x y (W32 a) (W32 b)).run P w = .ok () w from fun w => run_eqGuard_int op _ _ _ _ w, Result.andThen_ok, Sem.run_pure]
theorem op_bin8 {op : BinOp} {f : BitVec 8 → BitVec 8 → BitVec 8} (hf : bvOp op = some f) {t t' : TypeId} {x y : Operand} (ho : o.op = .binOp op t x y t') {a b : BitVec 8} (hx : ρ x = B8 a) (hy : ρ y = B8 b) : (execOp ρ o).run P w = .ok (.value (B8 (f a b))) w := by
  have h := run_bin8 (P := P) hf t a b w
  unfold execOp
  simp only [ho, hx, hy, Sem.run_bind, h, show ∀ w, (eqGuard op t x y (B8 a) (B8 b)).run P w = .ok () w from fun w => run_eqGuard_int op _ _ _ _ w, Result.andThen_ok, Sem.run_pure]
theorem op_bin64 {op : BinOp} {f : BitVec 64 → BitVec 64 → BitVec 64} (hf : bvOp op = some f) {t t' : TypeId} {x y : Operand} (ho : o.op = .binOp op t x y t') {a b : BitVec 64} (hx : ρ x = W64 a) (hy : ρ y = W64 b) : (execOp ρ o).run P w = .ok (.value (W64 (f a b))) w := by
  have h := run_bin64 (P := P) hf t a b w
  unfold execOp
  simp only [ho, hx, hy, Sem.run_bind, h, show ∀ w, (eqGuard op t x y (W64 a) (W64 b)).run P w = .ok () w from fun w => run_eqGuard_int op _ _ _ _ w, Result.andThen_ok, Sem.run_pure]

/-! ### shifts -/
theorem shl_mod (n c x : Nat) : x * 2 ^ min c n % 2 ^ n = x <<< c % 2 ^ n := by
  rw [Nat.shiftLeft_eq]
  by_cases h : c ≤ n
  · rw [Nat.min_eq_left h]
  · rw [Nat.min_eq_right (by omega)]
    have e : 2 ^ c = 2 ^ n * 2 ^ (c - n) := by rw [← Nat.pow_add]; congr 1; omega
    rw [e, Nat.mul_mod_left, ← Nat.mul_assoc, Nat.mul_right_comm, Nat.mul_mod_left]
theorem shr_div (n c x : Nat) (hx : x < 2 ^ n) : x / 2 ^ min c n = x >>> c := by
  rw [Nat.shiftRight_eq_div_pow]
  by_cases h : c ≤ n
  · rw [Nat.min_eq_left h]
  · rw [Nat.min_eq_right (by omega), Nat.div_eq_of_lt hx, Nat.div_eq_of_lt (Nat.lt_of_lt_of_le hx (Nat.pow_le_pow_right (by omega) (by omega)))]
theorem pow_cast (m : Nat) : ((2 : Int) ^ m) = ((2 ^ m : Nat) : Int) := by
  rw [Int.natCast_pow]
  rfl
theorem int_shl (x c n : Nat) : ((x : Int) * 2 ^ min ((c : Int)).toNat n) % (2 ^ n : Nat) = ((x <<< c % 2 ^ n : Nat) : Int) := by
  rw [Int.toNat_natCast, ← shl_mod, pow_cast, ← Int.natCast_mul, ← Int.natCast_emod]
theorem int_shr (x c n : Nat) (hx : x < 2 ^ n) : Int.fdiv (x : Int) (2 ^ min ((c : Int)).toNat n) = ((x >>> c : Nat) : Int) := by
  rw [Int.toNat_natCast, ← shr_div n c x hx, pow_cast, Int.fdiv_eq_ediv_of_nonneg _ (Int.natCast_nonneg _), ← Int.natCast_ediv]
theorem op_shl32 {t t' : TypeId} {x y : Operand} (ho : o.op = .binOp .shl t x y t') {a : BitVec 32} (hx : ρ x = W32 a) {yk : IntKind} {c : Nat} (hy : ρ y = .int yk c) : (execOp ρ o).run P w = .ok (.value (W32 (a <<< c))) w := by
  unfold execOp
  have h := int_shl a.toNat c 32
  simp only [ho, hx, hy, Sem.run_bind, run_eqGuard_int, Result.andThen_ok, binOp, W32, Op.shift, show ¬ ((c : Int) < 0) by omega, if_false, Sem.run_pure, wrap32, IntKind.bits, BitVec.toNat_shiftLeft]
  rw [show (4294967296 : Int) = ((2 ^ 32 : Nat) : Int) from rfl, h]
theorem op_shr32 {t t' : TypeId} {x y : Operand} (ho : o.op = .binOp .shr t x y t') {a : BitVec 32} (hx : ρ x = W32 a) {yk : IntKind} {c : Nat} (hy : ρ y = .int yk c) : (execOp ρ o).run P w = .ok (.value (W32 (a >>> c))) w := by
  unfold execOp
  have h := int_shr a.toNat c 32 a.isLt
  simp only [ho, hx, hy, Sem.run_bind, run_eqGuard_int, Result.andThen_ok, binOp, W32, Op.shift, show ¬ ((c : Int) < 0) by omega, if_false, Sem.run_pure, IntKind.bits, BitVec.toNat_ushiftRight, h]
theorem op_shl64 {t t' : TypeId} {x y : Operand} (ho : o.op = .binOp .shl t x y t') {a : BitVec 64} (hx : ρ x = W64 a) {yk : IntKind} {c : Nat} (hy : ρ y = .int yk c) : (execOp ρ o).run P w = .ok (.value (W64 (a <<< c))) w := by
  unfold execOp
  have h := int_shl a.toNat c 64
  simp only [ho, hx, hy, Sem.run_bind, run_eqGuard_int, Result.andThen_ok, binOp, W64, Op.shift, show ¬ ((c : Int) < 0) by omega, if_false, Sem.run_pure, wrap64, IntKind.bits, BitVec.toNat_shiftLeft]
  rw [show (18446744073709551616 : Int) = ((2 ^ 64 : Nat) : Int) from rfl, h]
theorem op_shr64 {t t' : TypeId} {x y : Operand} (ho : o.op = .binOp .shr t x y t') {a : BitVec 64} (hx : ρ x = W64 a) {yk : IntKind} {c : Nat} (hy : ρ y = .int yk c) : (execOp ρ o).run P w = .ok (.value (W64 (a >>> c))) w := by
  unfold execOp
  have h := int_shr a.toNat c 64 a.isLt
  simp only [ho, hx, hy, Sem.run_bind, run_eqGuard_int, Result.andThen_ok, binOp, W64, Op.shift, show ¬ ((c : Int) < 0) by omega, if_false, Sem.run_pure, IntKind.bits, BitVec.toNat_ushiftRight, h]
theorem op_shl32Z {t t' : TypeId} {x y : Operand} (ho : o.op = .binOp .shl t x y t') {a : BitVec 32} (hx : ρ x = W32 a) {yk : IntKind} {z : Int} (hy : ρ y = .int yk z) (c : Nat) (hz : z = c) : (execOp ρ o).run P w = .ok (.value (W32 (a <<< c))) w := op_shl32 ho hx (hz ▸ hy)
theorem op_shr32Z {t t' : TypeId} {x y : Operand} (ho : o.op = .binOp .shr t x y t') {a : BitVec 32} (hx : ρ x = W32 a) {yk : IntKind} {z : Int} (hy : ρ y = .int yk z) (c : Nat) (hz : z = c) : (execOp ρ o).run P w = .ok (.value (W32 (a >>> c))) w := op_shr32 ho hx (hz ▸ hy)
/-- 'not' of each bit -/
theorem op_not32 {t : TypeId} {x : Operand} (ho : o.op = .unOp .xor t x) {a : BitVec 32} (hx : ρ x = W32 a) : (execOp ρ o).run P w = .ok (.value (W32 (~~~ a))) w := by
  have e : IntKind.u32.max = ((BitVec.allOnes 32).toNat : Int) := by simp [IntKind.max, IntKind.signed, IntKind.bits]
  unfold execOp
  simp only [ho, hx, Sem.run_bind, W32, Op.unary, Op.intBits, IntKind.signed, Bool.false_eq_true, if_false, IntKind.bits, e, ofInt_toNat, Sem.run_pure, wrap_toNat32, Result.andThen_ok]
  exact congrArg (fun z : BitVec 32 => Result.ok (Next.value (Value.int IntKind.u32 (z.toNat : Int))) w) (show BitVec.allOnes 32 ^^^ a = ~~~ a by rw [BitVec.xor_comm, BitVec.xor_allOnes])

/-! ### one kind of word into another -/
theorem run_convert_int {s d : TypeId} {k k' : IntKind} {n : Int} {sd : TypeDesc} (hs : P.underlying s = some sd) (hd : P.underlying d = some (.int k)) (w : World) : (convert s d (.int k' n)).run P w = .ok (.int k (k.wrap n)) w := by
  unfold convert
  simp only [Sem.run_bind, run_underlying hs, run_underlying hd, Result.andThen_ok]
  cases sd <;> simp [Conv.intToInt]
theorem op_convert {s d : TypeId} {k k' : IntKind} {n : Int} {sd : TypeDesc} (hs : P.underlying s = some sd) (hd : P.underlying d = some (.int k)) {x : Operand} (ho : o.op = .convert s d x) (hx : ρ x = .int k' n) : (execOp ρ o).run P w = .ok (.value (.int k (k.wrap n))) w := by
  unfold execOp
  simp only [ho, hx, Sem.run_bind, run_convert_int hs hd, Result.andThen_ok, Sem.run_pure]
theorem op_8to32 {s d : TypeId} {sd : TypeDesc} (hs : P.underlying s = some sd) (hd : P.underlying d = some (.int .u32)) {x : Operand} (ho : o.op = .convert s d x) {a : BitVec 8} (hx : ρ x = B8 a) : (execOp ρ o).run P w = .ok (.value (W32 (a.setWidth 32))) w := by
  rw [op_convert hs hd ho hx, wrap32, W32, BitVec.toNat_setWidth]
  congr 3
theorem op_8to64 {s d : TypeId} {sd : TypeDesc} (hs : P.underlying s = some sd) (hd : P.underlying d = some (.int .u64)) {x : Operand} (ho : o.op = .convert s d x) {a : BitVec 8} (hx : ρ x = B8 a) : (execOp ρ o).run P w = .ok (.value (W64 (a.setWidth 64))) w := by
  rw [op_convert hs hd ho hx, wrap64, W64, BitVec.toNat_setWidth]
  congr 3
theorem op_32to8 {s d : TypeId} {sd : TypeDesc} (hs : P.underlying s = some sd) (hd : P.underlying d = some (.int .u8)) {x : Operand} (ho : o.op = .convert s d x) {a : BitVec 32} (hx : ρ x = W32 a) : (execOp ρ o).run P w = .ok (.value (B8 (a.setWidth 8))) w := by
  rw [op_convert hs hd ho hx, wrap8, B8, BitVec.toNat_setWidth]
  congr 3
theorem op_64to8 {s d : TypeId} {sd : TypeDesc} (hs : P.underlying s = some sd) (hd : P.underlying d = some (.int .u8)) {x : Operand} (ho : o.op = .convert s d x) {a : BitVec 64} (hx : ρ x = W64 a) : (execOp ρ o).run P w = .ok (.value (B8 (a.setWidth 8))) w := by
  rw [op_convert hs hd ho hx, wrap8, B8, BitVec.toNat_setWidth]
  congr 3
theorem op_nat_to64 {s d : TypeId} {sd : TypeDesc} (hs : P.underlying s = some sd) (hd : P.underlying d = some (.int .u64)) {x : Operand} (ho : o.op = .convert s d x) {k : IntKind} {n : Nat} (hx : ρ x = .int k n) : (execOp ρ o).run P w = .ok (.value (W64 (BitVec.ofNat 64 n))) w := by
  rw [op_convert hs hd ho hx, wrap64, W64, BitVec.toNat_ofNat]
  congr 3
end
end Go.Px
