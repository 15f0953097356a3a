/- Hashes, numbers, single bytes and ways that a caller hands in. Conditions: those that stand ahead of each theorem. -/
import Derived.Test.YtpdanieiafjmhaaDoorArgs2
import Derived.Test.YtpdanieiafjmhaaDoorAlive
import Derived.Lib.SmallJoins
namespace Go.Proofs.YtpdanieiafjmhaaDoor
open Go.ChangeShapes Go.WideShapes Go.ChangeAt Go.RowKit Go.Px Go.Sha Go.WideMaps Go.Joins
section
variable {H : Type} {enc : TypeId × Value → H} {W : World} {base b0 : Nat} {sp : Nat → Bool} {held : Bool} {r : Reach} {v : Value} {d : DataW H} {ps : List MemPlace}
theorem open_hash (hval : Value.okWide Tryd.prog W r b0 34 v) (h : DataW.Trod enc Tryd.prog W base sp held 34 v d ps) : ∃ bs : List Byte, bs.length = 32 ∧ v = .agg (bs.map B8).toArray :=
  open_arrF arrHash undU8 u8_byte hval h
theorem int_wf {z : Int} (h : (Lit.int .i64 z).wf = true) : -9223372036854775808 ≤ z ∧ z ≤ 9223372036854775807 := by
  have hr : IntKind.i64.min ≤ z ∧ z ≤ IntKind.i64.max := by simpa [Lit.wf] using h
  rwa [show IntKind.i64.min = -9223372036854775808 from rfl, show IntKind.i64.max = 9223372036854775807 from rfl] at hr
theorem open_z (hval : Value.okWide Tryd.prog W r b0 3 v) (h : DataW.Trod enc Tryd.prog W base sp held 3 v d ps) : ∃ z : Int, (-9223372036854775808 ≤ z ∧ z ≤ 9223372036854775807) ∧ v = .int .i64 z := by
  obtain ⟨z, rfl, _, _, wz⟩ := open_int undInt hval h
  exact ⟨z, int_wf wz, rfl⟩
theorem open_u8 (hval : Value.okWide Tryd.prog W r b0 5 v) (h : DataW.Trod enc Tryd.prog W base sp held 5 v d ps) : ∃ x : Byte, v = B8 x := by
  obtain ⟨z, rfl, _, _, wz⟩ := open_int undU8 hval h
  exact u8_byte z wz
theorem undU16 : Tryd.prog.underlying 53 = some (.int .u16) := by kernel_rfl
theorem open_u16 (hval : Value.okWide Tryd.prog W r b0 53 v) (h : DataW.Trod enc Tryd.prog W base sp held 53 v d ps) : ∃ n : Nat, n < 65536 ∧ v = .int .u16 n := by
  obtain ⟨z, rfl, _, _, wz⟩ := open_int undU16 hval h
  have hr : IntKind.u16.min ≤ z ∧ z ≤ IntKind.u16.max := by simpa [Lit.wf] using wz
  rw [show IntKind.u16.min = 0 from rfl, show IntKind.u16.max = 65535 from rfl] at hr
  refine ⟨z.toNat, by omega, ?_⟩
  rw [Int.toNat_of_nonneg (by omega)]
theorem arr_bytes {w : World} {fuel : Nat} {cs : List Value} {x : DataW H × List MemPlace} (h : DataW.trod enc Tryd.prog w base sp held fuel 34 cs = some x) : ∃ us : List Byte, us.length = 32 ∧ cs = us.map B8 := by
  obtain ⟨xs, m, rfl, _, hlen, hnn, hel⟩ := DataW.trod_array arrHash.hu h
  rw [arrHash.one] at hel
  rw [arrHash.size] at hlen
  have hcell : ∀ v ∈ cs, ∃ x, v = B8 x := by
    intro v hv
    obtain ⟨i, hi, rfl⟩ := List.mem_iff_getElem.1 hv
    have h3 := hel i (by omega)
    rw [List.getElem?_eq_getElem (show i < xs.length by omega)] at h3
    obtain ⟨z, e1, _, hw⟩ := DataW.trod_int undU8 h3
    obtain ⟨x, hx⟩ := u8_byte z hw
    rw [Nat.mul_one, List.drop_eq_getElem_cons hi, List.take_succ_cons, List.take_zero] at e1
    injection e1 with e1
    exact ⟨x, e1.trans hx⟩
  obtain ⟨us, rfl⟩ := map_of hcell
  exact ⟨us, by simpa using hlen, rfl⟩
theorem u64_word (z : Int) (hw : (Lit.int .u64 z).wf = true) : ∃ x : BitVec 64, Value.int .u64 z = W64 x := by
  have hr : IntKind.u64.min ≤ z ∧ z ≤ IntKind.u64.max := by simpa [Lit.wf] using hw
  rw [show IntKind.u64.min = 0 from rfl, show IntKind.u64.max = 18446744073709551615 from rfl] at hr
  refine ⟨BitVec.ofNat 64 z.toNat, ?_⟩
  unfold W64
  rw [BitVec.toNat_ofNat, Nat.mod_eq_of_lt (by omega)]
  congr 1
  omega
theorem split35 {l : List Value} (h : l.length = 35) : l = l.take 32 ++ (l.drop 32).take 1 ++ (l.drop 33).take 1 ++ (l.drop 34).take 1 := by
  have e1 : l.drop 32 = (l.drop 32).take 1 ++ l.drop 33 := by
    conv => lhs; rw [← List.take_append_drop 1 (l.drop 32), List.drop_drop]
  have e2 : l.drop 33 = (l.drop 33).take 1 ++ l.drop 34 := by
    conv => lhs; rw [← List.take_append_drop 1 (l.drop 33), List.drop_drop]
  have e3 : l.drop 34 = (l.drop 34).take 1 := (List.take_of_length_le (by rw [List.length_drop]; omega)).symm
  conv => lhs; rw [← List.take_append_drop 32 l, e1, e2, e3]
  simp [List.append_assoc]
theorem cellsWay : Tryd.prog.cellsOf 59 = 35 := by kernel_rfl
theorem cellsU64 : Tryd.prog.cellsOf 42 = 1 := by kernel_rfl
theorem cellsInt : Tryd.prog.cellsOf 3 = 1 := by kernel_rfl
theorem open_way (hval : Value.okWide Tryd.prog W r b0 59 v) (h : DataW.Trod enc Tryd.prog W base sp held 59 v d ps) :
    ∃ (sa : List Byte) (ep : BitVec 64) (so nn : Int), sa.length = 32 ∧ (-9223372036854775808 ≤ so ∧ so ≤ 9223372036854775807) ∧ (-9223372036854775808 ≤ nn ∧ nn ≤ 9223372036854775807) ∧ v = .agg (sa.map B8 ++ [W64 ep] ++ [Value.int .i64 so] ++ [Value.int .i64 nn]).toArray := by
  obtain ⟨cs, rfl, hn⟩ := okWide_struct Tryd.underlying59 hval
  rw [cellsWay] at hn
  obtain ⟨fuel, hf⟩ := h
  obtain ⟨y0, y1, y2, y3, m, _, hl, h0, h1, h2, h3⟩ := trod_struct4 Tryd.underlying59 hf
  rw [arrHash.size] at h0
  rw [cellsU64] at h1
  rw [cellsInt] at h2 h3
  obtain ⟨sa, hsa, e0⟩ := arr_bytes h0
  obtain ⟨z1, e1, _, w1⟩ := DataW.trod_int undU64 h1
  obtain ⟨z2, e2, _, w2⟩ := DataW.trod_int undInt h2
  obtain ⟨z3, e3, _, w3⟩ := DataW.trod_int undInt h3
  obtain ⟨ep, he⟩ := u64_word z1 w1
  refine ⟨sa, ep, z2, z3, hsa, int_wf w2, int_wf w3, ?_⟩
  have hs := split35 (l := cs.toList) (by rw [Array.length_toList]; exact hn)
  have e0' : cs.toList.take 32 = sa.map B8 := e0
  have e1' : (cs.toList.drop 32).take 1 = [.int .u64 z1] := e1
  have e2' : (cs.toList.drop 33).take 1 = [.int .i64 z2] := e2
  have e3' : (cs.toList.drop 34).take 1 = [.int .i64 z3] := e3
  rw [e0', e1', e2', e3', he] at hs
  rw [← hs]
end
end Go.Proofs.YtpdanieiafjmhaaDoor
