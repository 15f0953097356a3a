/- The types of the sums' program: which are of one cell, arrays, slices; the element's values. Conditions: those that stand ahead of each theorem. -/
import Derived.Test.YtpdanieiafjmhaaDoorRows
import Derived.Test.YtpdanieiafjmhaaDoorN64
import Derived.Test.YtpdanieiafjmhaaDoorArr
import Derived.Test.YtpdanieiafjmhaaDoorAny9
import Derived.Test.YtpdanieiafjmhaaDoorSpec
namespace Go.Proofs.YtpdanieiafjmhaaDoor
open Go.RowKit Go.Px Go.Sha
theorem Tryd.laidOut : laidOutB Tryd.prog = true := by kernel_rfl
theorem oneU32 : One Tryd.prog 22 := One.of (d := .int .u32) (by kernel_rfl) rfl (by kernel_rfl)
theorem oneU64 : One Tryd.prog 42 := One.of (d := .int .u64) (by kernel_rfl) rfl (by kernel_rfl)
theorem oneU8 : One Tryd.prog 5 := One.of (d := .int .u8) (by kernel_rfl) rfl (by kernel_rfl)
theorem oneBytes : One Tryd.prog 28 := One.of (d := .slice 5) (by kernel_rfl) rfl (by kernel_rfl)
theorem sizeU32 : (Tryd.prog.info? 22).map (·.size) = some 1 := by kernel_rfl
theorem sizeU64 : (Tryd.prog.info? 42).map (·.size) = some 1 := by kernel_rfl
theorem sizeU8 : (Tryd.prog.info? 5).map (·.size) = some 1 := by kernel_rfl
theorem undInt : Tryd.prog.underlying 3 = some (.int .i64) := by kernel_rfl
theorem undU8 : Tryd.prog.underlying 5 = some (.int .u8) := by kernel_rfl
theorem undU32 : Tryd.prog.underlying 22 = some (.int .u32) := by kernel_rfl
theorem undU64 : Tryd.prog.underlying 42 = some (.int .u64) := by kernel_rfl
theorem undUint : Tryd.prog.underlying 39 = some (.int .u64) := by kernel_rfl
theorem undBytes : Tryd.prog.underlying 28 = some (.slice 5) := by kernel_rfl
theorem arr8w : ArrTy Tryd.prog 23 22 8 := ArrTy.of (d := .int .u32) (by kernel_rfl) (by kernel_rfl) rfl (by kernel_rfl)
theorem arr16w : ArrTy Tryd.prog 62 22 16 := ArrTy.of (d := .int .u32) (by kernel_rfl) (by kernel_rfl) rfl (by kernel_rfl)
theorem arr64w : ArrTy Tryd.prog 64 22 64 := ArrTy.of (d := .int .u32) (by kernel_rfl) (by kernel_rfl) rfl (by kernel_rfl)
theorem arr64b : ArrTy Tryd.prog 24 5 64 := ArrTy.of (d := .int .u8) (by kernel_rfl) (by kernel_rfl) rfl (by kernel_rfl)
theorem arr8b : ArrTy Tryd.prog 72 5 8 := ArrTy.of (d := .int .u8) (by kernel_rfl) (by kernel_rfl) rfl (by kernel_rfl)
theorem arr32b : ArrTy Tryd.prog 34 5 32 := ArrTy.of (d := .int .u8) (by kernel_rfl) (by kernel_rfl) rfl (by kernel_rfl)
theorem agg8w : Agg Tryd.prog 23 8 := Agg.of (d := .array 8 22) (by kernel_rfl) rfl (by kernel_rfl)
theorem agg16w : Agg Tryd.prog 62 16 := Agg.of (d := .array 16 22) (by kernel_rfl) rfl (by kernel_rfl)
theorem agg64w : Agg Tryd.prog 64 64 := Agg.of (d := .array 64 22) (by kernel_rfl) rfl (by kernel_rfl)
theorem agg64b : Agg Tryd.prog 24 64 := Agg.of (d := .array 64 5) (by kernel_rfl) rfl (by kernel_rfl)
theorem agg32b : Agg Tryd.prog 34 32 := Agg.of (d := .array 32 5) (by kernel_rfl) rfl (by kernel_rfl)
theorem zero8w (w : World) : (zeroValue 23).run Tryd.prog w = .ok (.agg (List.replicate 8 (.int .u32 0)).toArray) w := by kernel_rfl
theorem zero16w (w : World) : (zeroValue 62).run Tryd.prog w = .ok (.agg (List.replicate 16 (.int .u32 0)).toArray) w := by kernel_rfl
theorem zero64w (w : World) : (zeroValue 64).run Tryd.prog w = .ok (.agg (List.replicate 64 (.int .u32 0)).toArray) w := by kernel_rfl
theorem zero64b (w : World) : (zeroValue 24).run Tryd.prog w = .ok (.agg (List.replicate 64 (.int .u8 0)).toArray) w := by kernel_rfl
theorem zero8b (w : World) : (zeroValue 72).run Tryd.prog w = .ok (.agg (List.replicate 8 (.int .u8 0)).toArray) w := by kernel_rfl
theorem zero32b (w : World) : (zeroValue 34).run Tryd.prog w = .ok (.agg (List.replicate 32 (.int .u8 0)).toArray) w := by kernel_rfl
theorem infoU8 : (Tryd.prog.info? 5).map (fun i => (i.zero, i.size, i.bytes)) = some (some (.int .u8 0), 1, 1) := by kernel_rfl
theorem slBytes : SlTy Tryd.prog 28 5 1 1 where
  ty := by kernel_rfl
  info := by
    obtain ⟨i, h1, h2, h3, h4⟩ := info_parts infoU8
    exact ⟨i, _, h1, h2, h3, by simp [Value.cells], h4, by simp [Value.cells]; rfl⟩
  pos := by omega
theorem infoBytes : (Tryd.prog.info? 28).map (fun i => (i.zero, i.size, i.bytes)) = some (some (.slice none 0 0), 1, 24) := by kernel_rfl
theorem slPieces : SlTy Tryd.prog 44 28 1 24 where
  ty := by kernel_rfl
  info := by
    obtain ⟨i, h1, h2, h3, h4⟩ := info_parts infoBytes
    exact ⟨i, _, h1, h2, h3, by simp [Value.cells], h4, by simp [Value.cells]; rfl⟩
  pos := by omega
end Go.Proofs.YtpdanieiafjmhaaDoor
