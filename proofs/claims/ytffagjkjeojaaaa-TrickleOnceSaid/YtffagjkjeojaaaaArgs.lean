/- The arguments that a caller hands in: ids, lists of ids, acts. Conditions: those that stand ahead of each theorem. -/
import Derived.Test.YtffagjkjeojaaaaOut
import Derived.Test.YtffagjkjeojaaaaLAl
import Derived.Lib.SmallJoins
import Derived.WideKeyArr2
namespace Go.Proofs.Ytffagjkjeojaaaa
open Go.ChangeShapes Go.WideShapes Go.ChangeAt Go.RowKit Go.Px Go.Joins Go.WideMaps
theorem own_knob : ownKnob Try.prog.godebug = none := by kernel_rfl
theorem undHashes : Try.prog.underlying 31 = some (.slice 24) := by kernel_rfl
theorem cellsHash : Try.prog.cellsOf 24 = 32 := by kernel_rfl
theorem map_of {α : Type} {f : α → Value} : ∀ {l : List Value}, (∀ v ∈ l, ∃ x, v = f x) → ∃ us : List α, l = us.map f
  | [], _ => ⟨[], rfl⟩
  | v :: l, h => by
    obtain ⟨x, rfl⟩ := h v (by simp)
    obtain ⟨us, rfl⟩ := map_of (l := l) fun w hw => h w (by simp [hw])
    exact ⟨x :: us, rfl⟩
theorem open_arrF {H : Type} {enc : TypeId × Value → H} {P : Program} {W : World} {base : Nat} {sp : Nat → Bool} {held : Bool} {r : Reach} {b0 : Nat} {k e n : Nat} (A : ArrKey P k e n) {q : IntKind} (he : P.underlying e = some (.int q)) {α : Type} {f : α → Value} (hf : ∀ z : Int, (Lit.int q z).wf = true → ∃ x, Value.int q z = f x)
    {v : Value} {d : DataW H} {ps : List MemPlace} (hval : Value.okWide P W r b0 k v) (h : DataW.Trod enc P W base sp held k v d ps) : ∃ us : List α, us.length = n ∧ v = .agg (us.map f).toArray := by
  obtain ⟨cs, rfl, hn⟩ := okWide_arr A hval
  obtain ⟨fuel, hfu⟩ := h
  obtain ⟨xs, m, rfl, _, hlen, hnn, hel⟩ := DataW.trod_array A.hu hfu
  rw [A.one] at hel
  have hcell : ∀ v ∈ cs.toList, ∃ x, v = f x := by
    intro v hv
    obtain ⟨i, hi, rfl⟩ := List.mem_iff_getElem.1 hv
    have hi2 : i < n := by
      rw [Array.length_toList] at hi
      omega
    have h3 := hel i hi2
    rw [List.getElem?_eq_getElem (show i < xs.length by omega)] at h3
    obtain ⟨z, e1, _, hw⟩ := DataW.trod_int he h3
    obtain ⟨x, hx⟩ := hf z hw
    have hi3 : i < (Value.agg cs).cells.toList.length := hi
    rw [Nat.mul_one, List.drop_eq_getElem_cons hi3, List.take_succ_cons, List.take_zero] at e1
    injection e1 with e1
    exact ⟨x, e1.trans hx⟩
  obtain ⟨us, hus⟩ := map_of hcell
  refine ⟨us, ?_, ?_⟩
  · have := congrArg List.length hus
    rw [Array.length_toList, List.length_map] at this
    omega
  · rw [← hus]
theorem u8_byte (z : Int) (hw : (Lit.int .u8 z).wf = true) : ∃ x : Byte, Value.int .u8 z = B8 x := by
  have hr : IntKind.u8.min ≤ z ∧ z ≤ IntKind.u8.max := by simpa [Lit.wf] using hw
  rw [show IntKind.u8.min = 0 from rfl, show IntKind.u8.max = 255 from rfl] at hr
  refine ⟨BitVec.ofNat 8 z.toNat, ?_⟩
  unfold B8
  rw [BitVec.toNat_ofNat, Nat.mod_eq_of_lt (by omega)]
  congr 1
  omega
section
variable {H : Type} {enc : TypeId × Value → H} {W : World} {base b0 : Nat} {sp : Nat → Bool} {held : Bool} {r : Reach} {v : Value} {d : DataW H} {ps : List MemPlace}
theorem open_hash (hval : Value.okWide Try.prog W r b0 24 v) (h : DataW.Trod enc Try.prog W base sp held 24 v d ps) : ∃ bs : List Byte, bs.length = 32 ∧ v = .agg (bs.map B8).toArray :=
  open_arrF arrHash undU8 u8_byte hval h
theorem int_wf {z : Int} (h : (Lit.int .i64 z).wf = true) : -9223372036854775808 ≤ z ∧ z ≤ 9223372036854775807 := by
  have hr : IntKind.i64.min ≤ z ∧ z ≤ IntKind.i64.max := by simpa [Lit.wf] using h
  rwa [show IntKind.i64.min = -9223372036854775808 from rfl, show IntKind.i64.max = 9223372036854775807 from rfl] at hr
theorem arr_bytes {w : World} {fuel : Nat} {cs : List Value} {x : DataW H × List MemPlace} (h : DataW.trod enc Try.prog w base sp held fuel 24 cs = some x) : ∃ us : List Byte, us.length = 32 ∧ cs = us.map B8 := by
  obtain ⟨xs, m, rfl, _, hlen, hnn, hel⟩ := DataW.trod_array arrHash.hu h
  rw [arrHash.one] at hel
  rw [arrHash.size] at hlen
  have hcell : ∀ v ∈ cs, ∃ x, v = B8 x := by
    intro v hv
    obtain ⟨i, hi, rfl⟩ := List.mem_iff_getElem.1 hv
    have h3 := hel i (by omega)
    rw [List.getElem?_eq_getElem (show i < xs.length by omega)] at h3
    obtain ⟨z, e1, _, hw⟩ := DataW.trod_int undU8 h3
    obtain ⟨x, hx⟩ := u8_byte z hw
    rw [Nat.mul_one, List.drop_eq_getElem_cons hi, List.take_succ_cons, List.take_zero] at e1
    injection e1 with e1
    exact ⟨x, e1.trans hx⟩
  obtain ⟨us, rfl⟩ := map_of hcell
  exact ⟨us, by simpa using hlen, rfl⟩
theorem lists_of : ∀ {l : List (List Value)}, (∀ c ∈ l, ∃ us : List Byte, us.length = 32 ∧ c = us.map B8) → ∃ L : List (List Byte), l = L.map (fun a => a.map B8) ∧ ∀ a ∈ L, a.length = 32
  | [], _ => ⟨[], rfl, by simp⟩
  | c :: l, h => by
    obtain ⟨u, hu, rfl⟩ := h c (by simp)
    obtain ⟨L, rfl, hL⟩ := lists_of (l := l) fun x hx => h x (by simp [hx])
    refine ⟨u :: L, rfl, ?_⟩
    intro a ha
    rcases List.mem_cons.1 ha with h | h
    · rw [h]; exact hu
    · exact hL a h
theorem open_hashes (hval : Value.okWide Try.prog W r b0 31 v) (h : DataW.Trod enc Try.prog W base sp held 31 v d ps) : ∃ L : List (List Byte), Rd 32 W v (L.map fun a => a.map B8) ∧ ∀ a ∈ L, a.length = 32 := by
  obtain ⟨l, h1, h2, _⟩ := open_rd (Q := fun c => ∃ us : List Byte, us.length = 32 ∧ c = us.map B8) undHashes cellsHash hval h fun _ _ _ hh => arr_bytes hh
  obtain ⟨L, rfl, hL⟩ := lists_of h2
  exact ⟨L, h1, hL⟩
theorem undActs : Try.prog.underlying 22 = some (.slice 33) := by kernel_rfl
theorem cellsAct : Try.prog.cellsOf 33 = 2 := by kernel_rfl
theorem cellsInt : Try.prog.cellsOf 3 = 1 := by kernel_rfl
theorem cellsHashes : Try.prog.cellsOf 31 = 1 := by kernel_rfl
theorem cut2 {cs : List Value} (h : cs.length = 2) {a b : Value} (h0 : (cs.drop 0).take 1 = [a]) (h1 : (cs.drop 1).take 1 = [b]) : cs = [a, b] := by
  match cs, h with
  | [x, y], _ =>
    simp only [List.drop_zero, List.take_succ_cons, List.take_zero, List.drop_succ_cons, List.cons.injEq, and_true] at h0 h1
    rw [h0, h1]
set_option maxRecDepth 100000 in
theorem act_cells {w : World} {fuel : Nat} {cs : List Value} {x : DataW H × List MemPlace} (h : DataW.trod enc Try.prog w base sp held fuel 33 cs = some x) : ∃ u a, Is32 a.ids ∧ cs = aC (u, a) ∧ Rd 32 w u (bys a.ids) := by
  obtain ⟨y0, y1, n, _, hl, h0, h1⟩ := trod_struct2 Try.underlying33 h
  rw [cellsAct] at hl
  obtain ⟨z0, e0, _, w0⟩ := DataW.trod_int undInt h0
  obtain ⟨u, l, e1, h4, h5⟩ := trod_rd (Q := fun c => ∃ us : List Byte, us.length = 32 ∧ c = us.map B8) undHashes cellsHash (by omega) h1 fun _ _ _ hq => arr_bytes hq
  obtain ⟨L, rfl, hL⟩ := lists_of h5
  refine ⟨u, ⟨z0, L⟩, hL, ?_, h4⟩
  rw [cut2 hl (by simpa [cellsInt] using e0) (by simpa [cellsHashes] using e1)]
  rfl
theorem acts_of {w : World} : ∀ {l : List (List Value)}, (∀ c ∈ l, ∃ u a, Is32 a.ids ∧ c = aC (u, a) ∧ Rd 32 w u (bys a.ids)) → ∃ L : List (Value × PA), l = L.map aC ∧ (∀ x ∈ L, Is32 x.2.ids) ∧ ∀ x ∈ L, Rd 32 w x.1 (bys x.2.ids)
  | [], _ => ⟨[], rfl, by simp, by simp⟩
  | c :: l, h => by
    obtain ⟨u, s, h1, rfl, h2⟩ := h c (by simp)
    obtain ⟨L, rfl, h3, h4⟩ := acts_of (l := l) fun d hd => h d (by simp [hd])
    refine ⟨(u, s) :: L, rfl, fun y hy => ?_, fun y hy => ?_⟩
    · rcases List.mem_cons.1 hy with rfl | hy
      · exact h1
      · exact h3 y hy
    · rcases List.mem_cons.1 hy with rfl | hy
      · exact h2
      · exact h4 y hy
set_option maxRecDepth 100000 in
theorem open_acts (hval : Value.okWide Try.prog W r b0 22 v) (h : DataW.Trod enc Try.prog W base sp held 22 v d ps) : ∃ L : List (Value × PA), AIn All W v L ∧ ∀ x ∈ L, Is32 x.2.ids := by
  obtain ⟨l, h1, h2, _⟩ := open_rd (Q := fun c => ∃ u a, Is32 a.ids ∧ c = aC (u, a) ∧ Rd 32 W u (bys a.ids)) undActs cellsAct hval h fun _ _ _ hh => act_cells hh
  obtain ⟨L, rfl, h3, h4⟩ := acts_of h2
  exact ⟨L, ⟨RdIn.of h1, fun x hx => RdIn.of (h4 x hx)⟩, h3⟩
end
end Go.Proofs.Ytffagjkjeojaaaa
