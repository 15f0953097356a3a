/- What the types of this seat are: sizes, keys, elements. Conditions: none. -/
import Derived.Test.YtffagjkjeojaaaaDel
import Derived.Test.YtffagjkjeojaaaaKeys
import Derived.Test.YtffagjkjeojaaaaU
import Derived.Test.YtffagjkjeojaaaaCell
import Derived.Test.YtffagjkjeojaaaaArr
import Derived.Test.YtffagjkjeojaaaaAny9
import Derived.Test.YtffagjkjeojaaaaChecked
import Derived.ProofKit
namespace Go.Proofs.Ytffagjkjeojaaaa
open Go.RowKit Go.Px Go.WideMaps
abbrev Byte := BitVec 8
theorem Try.laidOut : laidOutB Try.prog = true := by kernel_rfl
theorem undU8 : Try.prog.underlying 5 = some (.int .u8) := by kernel_rfl
theorem undInt : Try.prog.underlying 3 = some (.int .i64) := by kernel_rfl
theorem undBool : Try.prog.underlying 4 = some .bool := by kernel_rfl
theorem sizeT : ∃ m, Try.prog.types.size = m + 1 := ⟨Try.prog.types.size - 1, by kernel_rfl⟩
theorem keyHash : Key Try.prog 24 where
  law := Maps.Keyed.of_law (deep_law_laid Try.laidOut (m := 2) (by omega) (of_decide_eq_true (by kernel_rfl)) (by kernel_rfl) (by kernel_rfl))
  eq := fun w {x y lx ly} hx hy => run_equal_deep w (m := 2) (by omega) (by kernel_rfl) (by kernel_rfl) hx hy
  guard := by kernel_rfl
theorem arrHash : ArrKey Try.prog 24 5 32 := ⟨by kernel_rfl, by kernel_rfl, by kernel_rfl, by kernel_rfl⟩
theorem isKey {a : List Byte} (h : a.length = 32) : IsKey Try.prog 24 (HV a) := isKey_bytes arrHash undU8 sizeT h
theorem aggHash : Agg Try.prog 24 32 := Agg.of Try.underlying24 rfl (by kernel_rfl)
theorem oneInt : One Try.prog 3 := One.of Try.underlying3 rfl (by kernel_rfl)
theorem oneHashes : One Try.prog 31 := One.of Try.underlying31 rfl (by kernel_rfl)
theorem oneMap : One Try.prog 58 := One.of Try.underlying58 rfl (by kernel_rfl)
theorem oneSet : One Try.prog 48 := One.of Try.underlying48 rfl (by kernel_rfl)
theorem aggAct : Agg Try.prog 33 2 := Agg.of Try.underlying33 rfl (by kernel_rfl)
theorem iHash : (Try.prog.info? 24).map (fun i => (i.zero, i.size, i.bytes)) = some (some (.agg (List.replicate 32 (Value.int .u8 0)).toArray), 32, 32) := by kernel_rfl
theorem iInt : (Try.prog.info? 3).map (fun i => (i.zero, i.size, i.bytes)) = some (some (Value.int .i64 0), 1, 8) := by kernel_rfl
theorem iAct : (Try.prog.info? 33).map (fun i => (i.zero, i.size, i.bytes)) = some (some (.agg #[Value.int .i64 0, .slice none 0 0]), 2, 32) := by kernel_rfl
theorem slHash : SlTy Try.prog 31 24 32 32 where
  ty := by kernel_rfl
  info := by
    obtain ⟨i, h1, h2, h3, h4⟩ := info_parts iHash
    exact ⟨i, _, h1, h2, h3, by simp [Value.cells], h4, by simp [Value.cells]; rfl⟩
  pos := by omega
theorem slAct : SlTy Try.prog 22 33 2 32 where
  ty := by kernel_rfl
  info := by
    obtain ⟨i, h1, h2, h3, h4⟩ := info_parts iAct
    exact ⟨i, _, h1, h2, h3, by simp [Value.cells], h4, by simp [Value.cells, Value.oneCell']⟩
  pos := by omega
theorem mapTy : MapTy Try.prog 58 24 3 (.int .i64 0) := ⟨by kernel_rfl, keyHash, Try.zeroValue3⟩
theorem zeroHash : Try.prog.underlying 24 = some (.array 32 5) := by kernel_rfl
end Go.Proofs.Ytffagjkjeojaaaa
