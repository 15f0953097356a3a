/- Hashes, numbers and single bytes that a caller hands in. Conditions: those that stand ahead of each theorem. -/
import Derived.Test.YtpdanieiafjmhaaDoorArgs2
import Derived.Test.YtpdanieiafjmhaaDoorAlive
namespace Go.Proofs.YtpdanieiafjmhaaDoor
open Go.ChangeShapes Go.WideShapes Go.ChangeAt Go.RowKit Go.Px Go.Sha Go.WideMaps
section
variable {H : Type} {enc : TypeId × Value → H} {W : World} {base b0 : Nat} {sp : Nat → Bool} {held : Bool} {r : Reach} {v : Value} {d : DataW H} {ps : List MemPlace}
theorem open_hash (hval : Value.okWide Tryd.prog W r b0 34 v) (h : DataW.Trod enc Tryd.prog W base sp held 34 v d ps) : ∃ bs : List Byte, bs.length = 32 ∧ v = .agg (bs.map B8).toArray :=
  open_arrF arrHash undU8 u8_byte hval h
theorem int_wf {z : Int} (h : (Lit.int .i64 z).wf = true) : -9223372036854775808 ≤ z ∧ z ≤ 9223372036854775807 := by
  have hr : IntKind.i64.min ≤ z ∧ z ≤ IntKind.i64.max := by simpa [Lit.wf] using h
  rwa [show IntKind.i64.min = -9223372036854775808 from rfl, show IntKind.i64.max = 9223372036854775807 from rfl] at hr
theorem open_z (hval : Value.okWide Tryd.prog W r b0 3 v) (h : DataW.Trod enc Tryd.prog W base sp held 3 v d ps) : ∃ z : Int, (-9223372036854775808 ≤ z ∧ z ≤ 9223372036854775807) ∧ v = .int .i64 z := by
  obtain ⟨z, rfl, _, _, wz⟩ := open_int undInt hval h
  exact ⟨z, int_wf wz, rfl⟩
theorem open_u8 (hval : Value.okWide Tryd.prog W r b0 5 v) (h : DataW.Trod enc Tryd.prog W base sp held 5 v d ps) : ∃ x : Byte, v = B8 x := by
  obtain ⟨z, rfl, _, _, wz⟩ := open_int undU8 hval h
  exact u8_byte z wz
theorem undU16 : Tryd.prog.underlying 53 = some (.int .u16) := by kernel_rfl
theorem open_u16 (hval : Value.okWide Tryd.prog W r b0 53 v) (h : DataW.Trod enc Tryd.prog W base sp held 53 v d ps) : ∃ n : Nat, n < 65536 ∧ v = .int .u16 n := by
  obtain ⟨z, rfl, _, _, wz⟩ := open_int undU16 hval h
  have hr : IntKind.u16.min ≤ z ∧ z ≤ IntKind.u16.max := by simpa [Lit.wf] using wz
  rw [show IntKind.u16.min = 0 from rfl, show IntKind.u16.max = 65535 from rfl] at hr
  refine ⟨z.toNat, by omega, ?_⟩
  rw [Int.toNat_of_nonneg (by omega)]
end
end Go.Proofs.YtpdanieiafjmhaaDoor
