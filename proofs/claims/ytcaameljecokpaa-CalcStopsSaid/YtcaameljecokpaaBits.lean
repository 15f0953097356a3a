/- Of the library's words of 64 bits: sum with carry, difference with borrow, product of two words, leading noughts: the kit's contracts laid at this seat. Conditions: those that stand ahead of each theorem. -/
import Derived.Test.YtcaameljecokpaaU
import Derived.Test.YtcaameljecokpaaRet
import Derived.Test.YtcaameljecokpaaChecked
import Derived.Shelf.Bits.Mul64
import Derived.Shelf.Spec.BitsCarry
import Derived.Shelf.Small.Bits
namespace Go.Proofs.Ytcaameljecokpaa
open Go.RowKit Go.Px Go.Shelf
def ren7 : Ren := ⟨fun n => if n = 25 then 22 else if n = 26 then 27 else n, fun n => n, fun n => n⟩
def ren : Ren := ⟨fun n => if n = 264 then 23 else if n = 134 then 28 else if n = 129 then 29 else n, fun n => if n = 46 then 50 else if n = 53 then 22 else n, fun n => n⟩
theorem lays25 : Lays7.n25 Try.prog ren7 where
  mixed := by kernel_rfl
  f25 := Try.func22.trans (congrArg some (by kernel_rfl))
  t22 := Try.underlying22
  a22 := Try.isAgg22
  z22 := Try.sizeOf22
  v22 := Try.zeroValue22
  i22 := by kernel_rfl
theorem lays26 : Lays7.n26 Try.prog ren7 where
  mixed := by kernel_rfl
  f26 := Try.func27.trans (congrArg some (by kernel_rfl))
  t22 := Try.underlying22
  a22 := Try.isAgg22
  z22 := Try.sizeOf22
  v22 := Try.zeroValue22
  i22 := by kernel_rfl
theorem lays264 : Lays.n264 Try.prog ren where
  mixed := by kernel_rfl
  f264 := Try.func23.trans (congrArg some (by kernel_rfl))
  t46 := Try.underlying50
  a46 := Try.isAgg50
  z46 := Try.sizeOf50
  v46 := Try.zeroValue50
  t53 := Try.underlying22
  a53 := Try.isAgg22
  z53 := Try.sizeOf22
  v53 := Try.zeroValue22
theorem lays134 : Lays.n134 Try.prog ren where
  mixed := by kernel_rfl
  f129 := Try.func29.trans (congrArg some (by kernel_rfl))
  f134 := Try.func28.trans (congrArg some (by kernel_rfl))
  t3 := Try.underlying3
  a3 := Try.isAgg3
  z3 := Try.sizeOf3
  v3 := Try.zeroValue3
  t4 := Try.underlying4
  a4 := Try.isAgg4
  z4 := Try.sizeOf4
  v4 := Try.zeroValue4
  t5 := Try.underlying5
  a5 := Try.isAgg5
  z5 := Try.sizeOf5
  v5 := Try.zeroValue5
  t9 := Try.underlying9
  a9 := Try.isAgg9
  z9 := Try.sizeOf9
  v9 := Try.zeroValue9
  t46 := Try.underlying50
  a46 := Try.isAgg50
  z46 := Try.sizeOf50
  v46 := Try.zeroValue50
  t53 := Try.underlying22
  a53 := Try.isAgg22
  z53 := Try.sizeOf22
  v53 := Try.zeroValue22
theorem add64_any (x y c : Nat) (hc : c ≤ 1) (w : World) : (callFunc 22 #[U x, U y, U c]).run Try.prog w =
    .ok (.value (.tuple #[U ((x + y + c) % 18446744073709551616), U ((x + y + c) / 18446744073709551616)])) w := Any7.bits_Add64 lays25 x y c hc w
theorem sub64_any (x y b : Nat) (hb : b ≤ 1) (w : World) : (callFunc 27 #[U x, U y, U b]).run Try.prog w =
    .ok (.value (.tuple #[U ((x + 18446744073709551616 - y - b) % 18446744073709551616), U (if x < y + b then 1 else 0)])) w := Any7.bits_Sub64 lays26 x y b hb w
theorem mul64_any (x y : Nat) (hx : x < 18446744073709551616) (hy : y < 18446744073709551616) (w : World) : Calls Try.prog 23 #[U x, U y] w (Ret fun r w' => r = .tuple #[U (x * y / 18446744073709551616), U (x * y % 18446744073709551616)] ∧ w' = w) :=
  (Any.bits_Mul64 lays264 x y hx hy w).mono fun e w' h => by
    obtain ⟨rfl, rfl⟩ := h
    exact ⟨rfl, rfl⟩
theorem lead_any (x : Nat) (hx : x < 18446744073709551616) (w : World) : Calls Try.prog 28 #[U x] w (Ret fun r w' => r = .int .i64 (64 - (Lib.bitLen x : Int)) ∧ w' = w) :=
  (Any.bits_LeadingZeros64 lays134 x w (by omega) (by omega)).mono fun e w' h => by
    obtain ⟨rfl, rfl⟩ := h
    exact ⟨rfl, rfl⟩
end Go.Proofs.Ytcaameljecokpaa
