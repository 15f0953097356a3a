/- What a caller hands in, and what the tables hold. Conditions: those that stand ahead of each theorem. -/
import Derived.Test.YtlplgobkidpgkaaDoorGShaA
import Derived.Test.YtlplgobkidpgkaaDoorOpen
import Derived.ProofKit
import Derived.LaidMore
import Derived.OpenShut
import Derived.Stop.Joined
import Derived.Test.YtlplgobkidpgkaaDoorOut
import Derived.Test.YtlplgobkidpgkaaDoorGShaB
import Derived.Test.YtlplgobkidpgkaaDoorGRl
import Derived.Lib.SmallJoins
import Derived.WideKeyArr2
namespace Go.Proofs.YtlplgobkidpgkaaDoor
open Go.ChangeShapes Go.WideShapes Go.ChangeAt Go.WideMaps Go.WideElems Go.RowKit Go.Px Go.Sha
def lits {H : Type} (us : List Word) : List (DataW H) := us.map fun x => .lit (.int .u32 x.toNat)
theorem lits_K {H : Type} : (Rows.laid_pappus_sha_constants : DataW H) = .agg (lits kTab) := rfl
theorem lits_F {H : Type} : (Rows.laid_pappus_sha_first : DataW H) = .agg (lits first) := rfl
theorem var_block {P : Program} {w : World} {n : String} {g : Nat} {cs : Array Value} (hg : P.globalNamed n = some g) (h : w.var? P n = some cs) : Cells w g 0 cs.toList := by
  simp only [World.var?, hg, Option.bind_some] at h
  split at h
  · rename_i c t fr hb
    cases h
    exact ⟨_, t, fr, hb, by rw [List.drop_zero]; exact List.take_of_length_le (Nat.le_refl _)⟩
  · cases h
theorem words_laid {H : Type} {enc : TypeId × Value → H} {P : Program} {w : World} {base : Nat} {sp : Nat → Bool} {held : Bool} {fuel t e n : Nat} {us : List Word} {cs : List Value} {ps : List MemPlace} (ht : P.underlying t = some (.array n e)) (he : P.underlying e = some (.int .u32)) (hc : P.cellsOf e = 1) (hct : P.cellsOf t = us.length)
    (h : DataW.trod enc P w base sp held fuel t cs = some (.agg (lits us), ps)) : cs = us.map W32 := by
  obtain ⟨xs, m, rfl, hx, hlen, hn, hel⟩ := DataW.trod_array ht h
  rw [hc] at hel
  rw [hct] at hlen
  simp only [Prod.mk.injEq, DataW.agg.injEq] at hx
  have hl : xs.length = us.length := by
    have := congrArg List.length hx.1
    simp [lits] at this
    exact this.symm
  apply List.ext_getElem
  · rw [hlen, List.length_map]
  · intro i h1 h2
    have hi : i < us.length := by omega
    have hxi : i < xs.length := by omega
    have h3 := hel i (by omega)
    rw [List.getElem?_eq_getElem hxi] at h3
    obtain ⟨k, e1, e2, _⟩ := DataW.trod_int he h3
    have h4 : (lits us : List (DataW H))[i]? = (xs.map (·.1))[i]? := by rw [hx.1]
    rw [List.getElem?_map, List.getElem?_eq_getElem hxi] at h4
    unfold lits at h4
    rw [List.getElem?_map, List.getElem?_eq_getElem hi] at h4
    rw [e2] at h4
    have hk : k = us[i].toNat := by simpa using h4.symm
    rw [Nat.mul_one, List.drop_eq_getElem_cons h1, List.take_succ_cons, List.take_zero] at e1
    rw [List.getElem_map]
    injection e1 with e1
    rw [e1, hk]
    rfl
theorem gK : Tryd.prog.globalNamed "pappus/sha.constants" = some 1 := by kernel_rfl
theorem gF : Tryd.prog.globalNamed "pappus/sha.first" = some 0 := by kernel_rfl
theorem tK : (Tryd.prog.globals[1]?).map (·.type) = some 106 := by kernel_rfl
theorem tF : (Tryd.prog.globals[0]?).map (·.type) = some 99 := by kernel_rfl
theorem undK : Tryd.prog.underlying 106 = some (.array 64 98) := by kernel_rfl
theorem undF : Tryd.prog.underlying 99 = some (.array 8 98) := by kernel_rfl
theorem cellsU32 : Tryd.prog.cellsOf 98 = 1 := by kernel_rfl
theorem cellsK : Tryd.prog.cellsOf 106 = kTab.length := by kernel_rfl
theorem cellsF : Tryd.prog.cellsOf 99 = first.length := by kernel_rfl
def laidBoth : List (String × DataW Unit) := [("pappus/sha.constants", Rows.laid_pappus_sha_constants), ("pappus/sha.first", Rows.laid_pappus_sha_first)]
theorem of_laid {W : World} (h : laidMetH Tryd.prog laidBoth W) : CIn All W 1 (kTab.map W32) ∧ CIn All W 0 (first.map W32) := by
  rw [MakeChecks.laidMetH_plain _ _ _ (by kernel_rfl)] at h
  obtain ⟨ps, ⟨g0, t0, cs0, f0, p0, q0, hg0, ht0, hv0, hd0, ⟨g1, t1, cs1, f1, p1, q1, hg1, ht1, hv1, hd1, _, _⟩, _⟩, _, _⟩ := h
  obtain rfl := Option.some.inj (gK.symm.trans hg0)
  obtain rfl := Option.some.inj (gF.symm.trans hg1)
  obtain rfl := Option.some.inj (tK.symm.trans ht0)
  obtain rfl := Option.some.inj (tF.symm.trans ht1)
  rw [lits_K] at hd0
  rw [lits_F] at hd1
  have e0 := words_laid undK undU32 cellsU32 cellsK hd0
  have e1 := words_laid undF undU32 cellsU32 cellsF hd1
  exact ⟨⟨e0 ▸ var_block gK hv0, trivial⟩, ⟨e1 ▸ var_block gF hv1, trivial⟩⟩
theorem own_knob : ownKnob Tryd.prog.godebug = none := by kernel_rfl
theorem door_met (os : Os) (args : Array Value) : laidMetH Tryd.prog laidBoth ((World.doorLaid Tryd.prog 400 os).forCall (fun _ _ => 0) ⟨#[], args, []⟩).memory :=
  laidMetH_of_parts3 (fuel := 8) (laidMet_of_run' 8 (by kernel_rfl) (by kernel_rfl)) (by kernel_rfl) (by kernel_rfl)
end Go.Proofs.YtlplgobkidpgkaaDoor
namespace Go.Proofs.YtlplgobkidpgkaaDoor
open Go.ChangeShapes Go.WideShapes Go.ChangeAt Go.RowKit Go.Px Go.Sha
theorem cellsU8 : Tryd.prog.cellsOf 5 = 1 := by kernel_rfl
theorem cellsBytes : Tryd.prog.cellsOf 78 = 1 := by kernel_rfl
theorem undPieces : Tryd.prog.underlying 87 = some (.slice 78) := by kernel_rfl
theorem undBool : Tryd.prog.underlying 4 = some .bool := by kernel_rfl
def IsB (cs : List Value) : Prop := ∃ x : Byte, cs = [B8 x]
theorem bytes_of : ∀ {l : List (List Value)}, (∀ c ∈ l, IsB c) → ∃ bs : List Byte, l = bytes bs
  | [], _ => ⟨[], rfl⟩
  | c :: l, h => by
    obtain ⟨x, rfl⟩ := h c (by simp)
    obtain ⟨bs, rfl⟩ := bytes_of (l := l) fun d hd => h d (by simp [hd])
    exact ⟨x :: bs, rfl⟩
theorem trod_isB {H : Type} {enc : TypeId × Value → H} {w : World} {base : Nat} {sp : Nat → Bool} {held : Bool} {fuel : Nat} {cs : List Value} {x : DataW H × List MemPlace} (h : DataW.trod enc Tryd.prog w base sp held fuel 5 cs = some x) : IsB cs := by
  obtain ⟨n, rfl, _, hw⟩ := DataW.trod_int undU8 h
  have hr : IntKind.u8.min ≤ n ∧ n ≤ IntKind.u8.max := by simpa [Lit.wf] using hw
  rw [show IntKind.u8.min = 0 from rfl, show IntKind.u8.max = 255 from rfl] at hr
  refine ⟨BitVec.ofNat 8 n.toNat, ?_⟩
  unfold B8
  rw [BitVec.toNat_ofNat, Nat.mod_eq_of_lt (by omega)]
  congr 2
  omega
set_option maxRecDepth 100000 in
theorem open_bytes {H : Type} {enc : TypeId × Value → H} {W : World} {base b0 : Nat} {sp : Nat → Bool} {held : Bool} {r : Reach} {v : Value} {d : DataW H} {ps : List MemPlace} (hval : Value.okWide Tryd.prog W r b0 78 v) (h : DataW.Trod enc Tryd.prog W base sp held 78 v d ps) : ∃ bs : List Byte, RdIn All W 1 v (bytes bs) := by
  obtain ⟨l, h1, h2, _⟩ := open_rd (Q := IsB) undBytes cellsU8 hval h fun _ _ _ hh => trod_isB hh
  obtain ⟨bs, rfl⟩ := bytes_of h2
  exact ⟨bs, RdIn.of h1⟩
end Go.Proofs.YtlplgobkidpgkaaDoor
namespace Go.Proofs.YtlplgobkidpgkaaDoor
open Go.ChangeShapes Go.WideShapes Go.ChangeAt Go.RowKit Go.Px Go.Sha Go.Joins Go.WideMaps
theorem undInts : Tryd.prog.underlying 34 = some (.slice 3) := by kernel_rfl
theorem undActs : Tryd.prog.underlying 24 = some (.slice 38) := by kernel_rfl
theorem cellsInt : Tryd.prog.cellsOf 3 = 1 := by kernel_rfl
theorem cellsU64 : Tryd.prog.cellsOf 33 = 1 := by kernel_rfl
theorem cellsInts : Tryd.prog.cellsOf 34 = 1 := by kernel_rfl
theorem cellsAct : Tryd.prog.cellsOf 38 = 8 := by kernel_rfl
theorem cellsDraws : Tryd.prog.cellsOf 36 = 3 := by kernel_rfl
theorem arrDraws : ArrKey Tryd.prog 36 35 3 := ⟨by kernel_rfl, by kernel_rfl, by kernel_rfl, by kernel_rfl⟩
theorem map_of {α : Type} {f : α → Value} : ∀ {l : List Value}, (∀ v ∈ l, ∃ x, v = f x) → ∃ us : List α, l = us.map f
  | [], _ => ⟨[], rfl⟩
  | v :: l, h => by
    obtain ⟨x, rfl⟩ := h v (by simp)
    obtain ⟨us, rfl⟩ := map_of (l := l) fun w hw => h w (by simp [hw])
    exact ⟨x :: us, rfl⟩
set_option maxRecDepth 100000 in
theorem open_arrF {H : Type} {enc : TypeId × Value → H} {P : Program} {W : World} {base : Nat} {sp : Nat → Bool} {held : Bool} {r : Reach} {b0 : Nat} {k e n : Nat} (A : ArrKey P k e n) {q : IntKind} (he : P.underlying e = some (.int q)) {α : Type} {f : α → Value} (hf : ∀ z : Int, (Lit.int q z).wf = true → ∃ x, Value.int q z = f x)
    {v : Value} {d : DataW H} {ps : List MemPlace} (hval : Value.okWide P W r b0 k v) (h : DataW.Trod enc P W base sp held k v d ps) : ∃ us : List α, us.length = n ∧ v = .agg (us.map f).toArray := by
  obtain ⟨cs, rfl, hn⟩ := okWide_arr A hval
  obtain ⟨fuel, hfu⟩ := h
  obtain ⟨xs, m, rfl, _, hlen, hnn, hel⟩ := DataW.trod_array A.hu hfu
  rw [A.one] at hel
  have hcell : ∀ v ∈ cs.toList, ∃ x, v = f x := by
    intro v hv
    obtain ⟨i, hi, rfl⟩ := List.mem_iff_getElem.1 hv
    have hi2 : i < n := by
      rw [Array.length_toList] at hi
      omega
    have h3 := hel i hi2
    rw [List.getElem?_eq_getElem (show i < xs.length by omega)] at h3
    obtain ⟨z, e1, _, hw⟩ := DataW.trod_int he h3
    obtain ⟨x, hx⟩ := hf z hw
    have hi3 : i < (Value.agg cs).cells.toList.length := hi
    rw [Nat.mul_one, List.drop_eq_getElem_cons hi3, List.take_succ_cons, List.take_zero] at e1
    injection e1 with e1
    exact ⟨x, e1.trans hx⟩
  obtain ⟨us, hus⟩ := map_of hcell
  refine ⟨us, ?_, ?_⟩
  · have := congrArg List.length hus
    rw [Array.length_toList, List.length_map] at this
    omega
  · rw [← hus]
theorem u8_byte (z : Int) (hw : (Lit.int .u8 z).wf = true) : ∃ x : Byte, Value.int .u8 z = B8 x := by
  have hr : IntKind.u8.min ≤ z ∧ z ≤ IntKind.u8.max := by simpa [Lit.wf] using hw
  rw [show IntKind.u8.min = 0 from rfl, show IntKind.u8.max = 255 from rfl] at hr
  refine ⟨BitVec.ofNat 8 z.toNat, ?_⟩
  unfold B8
  rw [BitVec.toNat_ofNat, Nat.mod_eq_of_lt (by omega)]
  congr 1
  omega
theorem int_in {z : Int} (h : (Lit.int .i64 z).wf = true) : In64 z := by
  have hr : IntKind.i64.min ≤ z ∧ z ≤ IntKind.i64.max := by simpa [Lit.wf] using h
  rwa [show IntKind.i64.min = -9223372036854775808 from rfl, show IntKind.i64.max = 9223372036854775807 from rfl] at hr
theorem u64_in {z : Int} (h : (Lit.int .u64 z).wf = true) : ∃ n : Nat, n < 18446744073709551616 ∧ Value.int .u64 z = U n := by
  have hr : IntKind.u64.min ≤ z ∧ z ≤ IntKind.u64.max := by simpa [Lit.wf] using h
  rw [show IntKind.u64.min = 0 from rfl, show IntKind.u64.max = 18446744073709551615 from rfl] at hr
  refine ⟨z.toNat, by omega, ?_⟩
  unfold U
  congr 1
  omega
theorem u16_in {z : Int} (h : (Lit.int .u16 z).wf = true) : ∃ n : Nat, n < 65536 ∧ Value.int .u16 z = U16 n := by
  have hr : IntKind.u16.min ≤ z ∧ z ≤ IntKind.u16.max := by simpa [Lit.wf] using h
  rw [show IntKind.u16.min = 0 from rfl, show IntKind.u16.max = 65535 from rfl] at hr
  refine ⟨z.toNat, by omega, ?_⟩
  unfold U16
  congr 1
  omega
theorem map_lt : ∀ {l : List Value}, (∀ v ∈ l, ∃ n : Nat, n < 65536 ∧ v = U16 n) → ∃ us : List Nat, (∀ n ∈ us, n < 65536) ∧ l = us.map U16
  | [], _ => ⟨[], by simp, rfl⟩
  | v :: l, h => by
    obtain ⟨x, hx, rfl⟩ := h v (by simp)
    obtain ⟨us, hu, rfl⟩ := map_lt (l := l) fun w hw => h w (by simp [hw])
    refine ⟨x :: us, fun n hn => ?_, rfl⟩
    rcases List.mem_cons.1 hn with rfl | hn
    · exact hx
    · exact hu n hn
theorem ints_of : ∀ {l : List (List Value)}, (∀ c ∈ l, ∃ z, In64 z ∧ c = [I64 z]) → ∃ E : List Int, (∀ z ∈ E, In64 z) ∧ l = E.map fun z => [I64 z]
  | [], _ => ⟨[], by simp, rfl⟩
  | c :: l, h => by
    obtain ⟨x, hx, rfl⟩ := h c (by simp)
    obtain ⟨us, hu, rfl⟩ := ints_of (l := l) fun w hw => h w (by simp [hw])
    refine ⟨x :: us, fun n hn => ?_, rfl⟩
    rcases List.mem_cons.1 hn with rfl | hn
    · exact hx
    · exact hu n hn
theorem cut8 {cs : List Value} (h : cs.length = 8) {a b c d e x y z : Value} (h0 : (cs.drop 0).take 1 = [a]) (h1 : (cs.drop 1).take 1 = [b]) (h2 : (cs.drop 2).take 1 = [c]) (h3 : (cs.drop 3).take 1 = [d]) (h4 : (cs.drop 4).take 1 = [e]) (h5 : (cs.drop 5).take 3 = [x, y, z]) : cs = [a, b, c, d, e, x, y, z] := by
  match cs, h with
  | [_, _, _, _, _, _, _, _], _ =>
    simp only [List.drop_zero, List.take_succ_cons, List.take_zero, List.drop_succ_cons, List.cons.injEq, and_true] at h0 h1 h2 h3 h4 h5
    rw [h0, h1, h2, h3, h4, h5.1, h5.2.1, h5.2.2]
section
variable {H : Type} {enc : TypeId × Value → H} {W : World} {base b0 : Nat} {sp : Nat → Bool} {held : Bool} {r : Reach} {v : Value} {d : DataW H} {ps : List MemPlace}
set_option maxRecDepth 100000 in
theorem open_hash (hval : Value.okWide Tryd.prog W r b0 23 v) (h : DataW.Trod enc Tryd.prog W base sp held 23 v d ps) : ∃ bs : List Byte, bs.length = 32 ∧ v = .agg (bs.map B8).toArray :=
  open_arrF arrHash undU8 u8_byte hval h
set_option maxRecDepth 100000 in
theorem draws_cells {w : World} {fuel : Nat} {cs : List Value} {x : DataW H × List MemPlace} (h : DataW.trod enc Tryd.prog w base sp held fuel 36 cs = some x) : ∃ d0 d1 d2 : Nat, (d0 < 65536 ∧ d1 < 65536 ∧ d2 < 65536) ∧ cs = [U16 d0, U16 d1, U16 d2] := by
  obtain ⟨xs, m, rfl, _, hlen, hnn, hel⟩ := DataW.trod_array arrDraws.hu h
  rw [arrDraws.one] at hel
  rw [arrDraws.size] at hlen
  have hcell : ∀ v ∈ cs, ∃ n : Nat, n < 65536 ∧ v = U16 n := by
    intro v hv
    obtain ⟨i, hi, rfl⟩ := List.mem_iff_getElem.1 hv
    have h3 := hel i (by omega)
    rw [List.getElem?_eq_getElem (show i < xs.length by omega)] at h3
    obtain ⟨z, e1, _, hw⟩ := DataW.trod_int undU16 h3
    obtain ⟨n, hn, hx⟩ := u16_in hw
    rw [Nat.mul_one, List.drop_eq_getElem_cons hi, List.take_succ_cons, List.take_zero] at e1
    injection e1 with e1
    exact ⟨n, hn, e1.trans hx⟩
  obtain ⟨us, hu, rfl⟩ := map_lt hcell
  rw [List.length_map] at hlen
  match us, hlen with
  | [a, b, c], _ => exact ⟨a, b, c, ⟨hu a (by simp), hu b (by simp), hu c (by simp)⟩, rfl⟩
set_option maxRecDepth 100000 in
theorem int_field {w : World} {n i : Nat} {cs : List Value} {xs : List (DataW H × List MemPlace)} (hi : i < xs.length) (h : DataW.trod enc Tryd.prog w base sp held n 3 cs = xs[i]?) : ∃ z, In64 z ∧ cs = [I64 z] := by
  rw [List.getElem?_eq_getElem hi] at h
  obtain ⟨z, e, _, hw⟩ := DataW.trod_int undInt h
  exact ⟨z, int_in hw, e⟩
set_option maxRecDepth 100000 in
theorem act_cells {w : World} {fuel : Nat} {cs : List Value} {x : DataW H × List MemPlace} (h : DataW.trod enc Tryd.prog w base sp held fuel 38 cs = some x) : ∃ u a, AOk a ∧ cs = aC (u, a) ∧ Rd 1 w u (a.peers.map fun z => [I64 z]) := by
  obtain ⟨xs, n, _, _, hl, hlen, hf⟩ := DataW.trod_struct Tryd.underlying38 h
  rw [cellsAct] at hl
  replace hlen : xs.length = 6 := hlen
  obtain ⟨k, _, e0⟩ := int_field (i := 0) (by omega) (hf 0 _ rfl)
  obtain ⟨p, hp, e1⟩ := int_field (i := 1) (by omega) (hf 1 _ rfl)
  obtain ⟨s, _, e2⟩ := int_field (i := 2) (by omega) (hf 2 _ rfl)
  have h3 := hf 3 _ rfl
  rw [List.getElem?_eq_getElem (show 3 < xs.length by omega)] at h3
  obtain ⟨t, e3, _, wt⟩ := DataW.trod_int undU64 h3
  obtain ⟨now, hnow, et⟩ := u64_in wt
  have h4 := hf 4 _ rfl
  rw [List.getElem?_eq_getElem (show 4 < xs.length by omega)] at h4
  obtain ⟨u, l, e4, hu, q4⟩ := trod_rd (Q := fun c => ∃ z, In64 z ∧ c = [I64 z]) undInts cellsInt (by omega) h4 fun _ _ _ hh => by
    obtain ⟨n, rfl, _, hw⟩ := DataW.trod_int undInt hh
    exact ⟨n, int_in hw, rfl⟩
  obtain ⟨E, hE, rfl⟩ := ints_of q4
  have h5 := hf 5 _ rfl
  rw [List.getElem?_eq_getElem (show 5 < xs.length by omega)] at h5
  obtain ⟨d0, d1, d2, hd, e5⟩ := draws_cells h5
  refine ⟨u, ⟨k, p, s, now, E, d0, d1, d2⟩, ⟨hp, hE, hnow, hd.1, hd.2.1, hd.2.2⟩, ?_, hu⟩
  rw [cut8 hl (by simpa [cellsInt] using e0) (by simpa [cellsInt] using e1) (by simpa [cellsInt] using e2) (by simpa [cellsU64] using e3) (by simpa [cellsInts] using e4) (by simpa [cellsDraws] using e5), et]
  rfl
theorem acts_of {w : World} : ∀ {l : List (List Value)}, (∀ c ∈ l, ∃ u a, AOk a ∧ c = aC (u, a) ∧ Rd 1 w u (a.peers.map fun z => [I64 z])) → ∃ L : List (Value × RA), l = L.map aC ∧ (∀ x ∈ L, AOk x.2) ∧ ∀ x ∈ L, Rd 1 w x.1 (x.2.peers.map fun z => [I64 z])
  | [], _ => ⟨[], rfl, by simp, by simp⟩
  | c :: l, h => by
    obtain ⟨u, s, h1, rfl, h2⟩ := h c (by simp)
    obtain ⟨L, rfl, h3, h4⟩ := acts_of (l := l) fun d hd => h d (by simp [hd])
    refine ⟨(u, s) :: L, rfl, fun y hy => ?_, fun y hy => ?_⟩
    · rcases List.mem_cons.1 hy with rfl | hy
      · exact h1
      · exact h3 y hy
    · rcases List.mem_cons.1 hy with rfl | hy
      · exact h2
      · exact h4 y hy
set_option maxRecDepth 100000 in
theorem open_acts (hval : Value.okWide Tryd.prog W r b0 24 v) (h : DataW.Trod enc Tryd.prog W base sp held 24 v d ps) : ∃ L : List (Value × RA), AIn All W v L ∧ ∀ x ∈ L, AOk x.2 := by
  obtain ⟨l, h1, h2, _⟩ := open_rd (Q := fun c => ∃ u a, AOk a ∧ c = aC (u, a) ∧ Rd 1 W u (a.peers.map fun z => [I64 z])) undActs cellsAct hval h fun _ _ _ hh => act_cells hh
  obtain ⟨L, rfl, h3, h4⟩ := acts_of h2
  exact ⟨L, ⟨RdIn.of h1, fun x hx => RdIn.of (h4 x hx)⟩, h3⟩
set_option maxRecDepth 100000 in
theorem open_act (hval : Value.okWide Tryd.prog W r b0 38 v) (h : DataW.Trod enc Tryd.prog W base sp held 38 v d ps) : ∃ u a, Rd 1 W u (a.peers.map fun z => [I64 z]) ∧ AOk a ∧ v = .agg (aC (u, a)).toArray := by
  have hu := Tryd.underlying38
  simp only [Value.okWide, hu] at hval
  obtain ⟨cs, rfl, hn, _⟩ := hval
  obtain ⟨fuel, hf⟩ := h
  obtain ⟨u, a, ha, he, hr⟩ := act_cells hf
  refine ⟨u, a, hr, ha, ?_⟩
  rw [← he]
  rfl
end
end Go.Proofs.YtlplgobkidpgkaaDoor
