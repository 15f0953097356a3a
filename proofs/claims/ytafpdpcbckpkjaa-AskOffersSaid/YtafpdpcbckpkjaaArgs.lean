/- The arguments that a caller hands in: ids, numbers, lists of ids. Conditions: those that stand ahead of each theorem. -/
import Derived.Test.YtafpdpcbckpkjaaOut
import Derived.Test.YtafpdpcbckpkjaaGSl
import Derived.Lib.SmallJoins
import Derived.WideKeyArr2
namespace Go.Proofs.Ytafpdpcbckpkjaa
open Go.ChangeShapes Go.WideShapes Go.ChangeAt Go.RowKit Go.Px Go.Joins Go.WideMaps
theorem own_knob : ownKnob Try.prog.godebug = none := by kernel_rfl
theorem undHashes : Try.prog.underlying 22 = some (.slice 28) := by kernel_rfl
theorem cellsHash : Try.prog.cellsOf 28 = 32 := by kernel_rfl
theorem u64_nat {z : Int} (hw : (Lit.int .u64 z).wf = true) : ∃ n : Nat, n < 18446744073709551616 ∧ Value.int .u64 z = U n := by
  have hr : IntKind.u64.min ≤ z ∧ z ≤ IntKind.u64.max := by simpa [Lit.wf] using hw
  rw [show IntKind.u64.min = 0 from rfl, show IntKind.u64.max = 18446744073709551615 from rfl] at hr
  refine ⟨z.toNat, by omega, ?_⟩
  unfold U
  congr 1
  omega
theorem map_of {α : Type} {f : α → Value} : ∀ {l : List Value}, (∀ v ∈ l, ∃ x, v = f x) → ∃ us : List α, l = us.map f
  | [], _ => ⟨[], rfl⟩
  | v :: l, h => by
    obtain ⟨x, rfl⟩ := h v (by simp)
    obtain ⟨us, rfl⟩ := map_of (l := l) fun w hw => h w (by simp [hw])
    exact ⟨x :: us, rfl⟩
theorem open_arrF {H : Type} {enc : TypeId × Value → H} {P : Program} {W : World} {base : Nat} {sp : Nat → Bool} {held : Bool} {r : Reach} {b0 : Nat} {k e n : Nat} (A : ArrKey P k e n) {q : IntKind} (he : P.underlying e = some (.int q)) {α : Type} {f : α → Value} (hf : ∀ z : Int, (Lit.int q z).wf = true → ∃ x, Value.int q z = f x)
    {v : Value} {d : DataW H} {ps : List MemPlace} (hval : Value.okWide P W r b0 k v) (h : DataW.Trod enc P W base sp held k v d ps) : ∃ us : List α, us.length = n ∧ v = .agg (us.map f).toArray := by
  obtain ⟨cs, rfl, hn⟩ := okWide_arr A hval
  obtain ⟨fuel, hfu⟩ := h
  obtain ⟨xs, m, rfl, _, hlen, hnn, hel⟩ := DataW.trod_array A.hu hfu
  rw [A.one] at hel
  have hcell : ∀ v ∈ cs.toList, ∃ x, v = f x := by
    intro v hv
    obtain ⟨i, hi, rfl⟩ := List.mem_iff_getElem.1 hv
    have hi2 : i < n := by
      rw [Array.length_toList] at hi
      omega
    have h3 := hel i hi2
    rw [List.getElem?_eq_getElem (show i < xs.length by omega)] at h3
    obtain ⟨z, e1, _, hw⟩ := DataW.trod_int he h3
    obtain ⟨x, hx⟩ := hf z hw
    have hi3 : i < (Value.agg cs).cells.toList.length := hi
    rw [Nat.mul_one, List.drop_eq_getElem_cons hi3, List.take_succ_cons, List.take_zero] at e1
    injection e1 with e1
    exact ⟨x, e1.trans hx⟩
  obtain ⟨us, hus⟩ := map_of hcell
  refine ⟨us, ?_, ?_⟩
  · have := congrArg List.length hus
    rw [Array.length_toList, List.length_map] at this
    omega
  · rw [← hus]
theorem u8_byte (z : Int) (hw : (Lit.int .u8 z).wf = true) : ∃ x : Byte, Value.int .u8 z = B8 x := by
  have hr : IntKind.u8.min ≤ z ∧ z ≤ IntKind.u8.max := by simpa [Lit.wf] using hw
  rw [show IntKind.u8.min = 0 from rfl, show IntKind.u8.max = 255 from rfl] at hr
  refine ⟨BitVec.ofNat 8 z.toNat, ?_⟩
  unfold B8
  rw [BitVec.toNat_ofNat, Nat.mod_eq_of_lt (by omega)]
  congr 1
  omega
section
variable {H : Type} {enc : TypeId × Value → H} {W : World} {base b0 : Nat} {sp : Nat → Bool} {held : Bool} {r : Reach} {v : Value} {d : DataW H} {ps : List MemPlace}
theorem open_u64 (hval : Value.okWide Try.prog W r b0 23 v) (h : DataW.Trod enc Try.prog W base sp held 23 v d ps) : ∃ n : Nat, n < 18446744073709551616 ∧ v = U n := by
  obtain ⟨z, rfl, _, _, wz⟩ := open_int undU64 hval h
  exact u64_nat wz
theorem open_hash (hval : Value.okWide Try.prog W r b0 28 v) (h : DataW.Trod enc Try.prog W base sp held 28 v d ps) : ∃ bs : List Byte, bs.length = 32 ∧ v = .agg (bs.map B8).toArray :=
  open_arrF arrHash undU8 u8_byte hval h
theorem int_wf {z : Int} (h : (Lit.int .i64 z).wf = true) : -9223372036854775808 ≤ z ∧ z ≤ 9223372036854775807 := by
  have hr : IntKind.i64.min ≤ z ∧ z ≤ IntKind.i64.max := by simpa [Lit.wf] using h
  rwa [show IntKind.i64.min = -9223372036854775808 from rfl, show IntKind.i64.max = 9223372036854775807 from rfl] at hr
theorem open_z (hval : Value.okWide Try.prog W r b0 3 v) (h : DataW.Trod enc Try.prog W base sp held 3 v d ps) : ∃ z : Int, (-9223372036854775808 ≤ z ∧ z ≤ 9223372036854775807) ∧ v = .int .i64 z := by
  obtain ⟨z, rfl, _, _, wz⟩ := open_int undInt hval h
  exact ⟨z, int_wf wz, rfl⟩
theorem arr_bytes {w : World} {fuel : Nat} {cs : List Value} {x : DataW H × List MemPlace} (h : DataW.trod enc Try.prog w base sp held fuel 28 cs = some x) : ∃ us : List Byte, us.length = 32 ∧ cs = us.map B8 := by
  obtain ⟨xs, m, rfl, _, hlen, hnn, hel⟩ := DataW.trod_array arrHash.hu h
  rw [arrHash.one] at hel
  rw [arrHash.size] at hlen
  have hcell : ∀ v ∈ cs, ∃ x, v = B8 x := by
    intro v hv
    obtain ⟨i, hi, rfl⟩ := List.mem_iff_getElem.1 hv
    have h3 := hel i (by omega)
    rw [List.getElem?_eq_getElem (show i < xs.length by omega)] at h3
    obtain ⟨z, e1, _, hw⟩ := DataW.trod_int undU8 h3
    obtain ⟨x, hx⟩ := u8_byte z hw
    rw [Nat.mul_one, List.drop_eq_getElem_cons hi, List.take_succ_cons, List.take_zero] at e1
    injection e1 with e1
    exact ⟨x, e1.trans hx⟩
  obtain ⟨us, rfl⟩ := map_of hcell
  exact ⟨us, by simpa using hlen, rfl⟩
theorem lists_of : ∀ {l : List (List Value)}, (∀ c ∈ l, ∃ us : List Byte, us.length = 32 ∧ c = us.map B8) → ∃ L : List (List Byte), l = L.map (fun a => a.map B8) ∧ ∀ a ∈ L, a.length = 32
  | [], _ => ⟨[], rfl, by simp⟩
  | c :: l, h => by
    obtain ⟨u, hu, rfl⟩ := h c (by simp)
    obtain ⟨L, rfl, hL⟩ := lists_of (l := l) fun x hx => h x (by simp [hx])
    refine ⟨u :: L, rfl, ?_⟩
    intro a ha
    rcases List.mem_cons.1 ha with h | h
    · rw [h]; exact hu
    · exact hL a h
theorem open_hashes (hval : Value.okWide Try.prog W r b0 22 v) (h : DataW.Trod enc Try.prog W base sp held 22 v d ps) : ∃ L : List (List Byte), Rd 32 W v (L.map fun a => a.map B8) ∧ ∀ a ∈ L, a.length = 32 := by
  obtain ⟨l, h1, h2, _⟩ := open_rd (Q := fun c => ∃ us : List Byte, us.length = 32 ∧ c = us.map B8) undHashes cellsHash hval h fun _ _ _ hh => arr_bytes hh
  obtain ⟨L, rfl, hL⟩ := lists_of h2
  exact ⟨L, h1, hL⟩
end
end Go.Proofs.Ytafpdpcbckpkjaa
