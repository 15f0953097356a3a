/- What a caller hands in, and what the tables hold. Conditions: those that stand ahead of each theorem. -/
import Derived.Test.YtnjeoaplohlgkaaDoorGShaA
import Derived.Test.YtnjeoaplohlgkaaDoorOpen
import Derived.ProofKit
import Derived.LaidMore
import Derived.OpenShut
import Derived.Stop.Joined
import Derived.Test.YtnjeoaplohlgkaaDoorOut
import Derived.Test.YtnjeoaplohlgkaaDoorGShaB
import Derived.Test.YtnjeoaplohlgkaaDoorGTc
import Derived.Lib.SmallJoins
namespace Go.Proofs.YtnjeoaplohlgkaaDoor
open Go.ChangeShapes Go.WideShapes Go.ChangeAt Go.WideMaps Go.WideElems Go.RowKit Go.Px Go.Sha
def lits {H : Type} (us : List Word) : List (DataW H) := us.map fun x => .lit (.int .u32 x.toNat)
theorem lits_K {H : Type} : (Rows.laid_pappus_sha_constants : DataW H) = .agg (lits kTab) := rfl
theorem lits_F {H : Type} : (Rows.laid_pappus_sha_first : DataW H) = .agg (lits first) := rfl
theorem var_block {P : Program} {w : World} {n : String} {g : Nat} {cs : Array Value} (hg : P.globalNamed n = some g) (h : w.var? P n = some cs) : Cells w g 0 cs.toList := by
  simp only [World.var?, hg, Option.bind_some] at h
  split at h
  · rename_i c t fr hb
    cases h
    exact ⟨_, t, fr, hb, by rw [List.drop_zero]; exact List.take_of_length_le (Nat.le_refl _)⟩
  · cases h
theorem words_laid {H : Type} {enc : TypeId × Value → H} {P : Program} {w : World} {base : Nat} {sp : Nat → Bool} {held : Bool} {fuel t e n : Nat} {us : List Word} {cs : List Value} {ps : List MemPlace} (ht : P.underlying t = some (.array n e)) (he : P.underlying e = some (.int .u32)) (hc : P.cellsOf e = 1) (hct : P.cellsOf t = us.length)
    (h : DataW.trod enc P w base sp held fuel t cs = some (.agg (lits us), ps)) : cs = us.map W32 := by
  obtain ⟨xs, m, rfl, hx, hlen, hn, hel⟩ := DataW.trod_array ht h
  rw [hc] at hel
  rw [hct] at hlen
  simp only [Prod.mk.injEq, DataW.agg.injEq] at hx
  have hl : xs.length = us.length := by
    have := congrArg List.length hx.1
    simp [lits] at this
    exact this.symm
  apply List.ext_getElem
  · rw [hlen, List.length_map]
  · intro i h1 h2
    have hi : i < us.length := by omega
    have hxi : i < xs.length := by omega
    have h3 := hel i (by omega)
    rw [List.getElem?_eq_getElem hxi] at h3
    obtain ⟨k, e1, e2, _⟩ := DataW.trod_int he h3
    have h4 : (lits us : List (DataW H))[i]? = (xs.map (·.1))[i]? := by rw [hx.1]
    rw [List.getElem?_map, List.getElem?_eq_getElem hxi] at h4
    unfold lits at h4
    rw [List.getElem?_map, List.getElem?_eq_getElem hi] at h4
    rw [e2] at h4
    have hk : k = us[i].toNat := by simpa using h4.symm
    rw [Nat.mul_one, List.drop_eq_getElem_cons h1, List.take_succ_cons, List.take_zero] at e1
    rw [List.getElem_map]
    injection e1 with e1
    rw [e1, hk]
    rfl
theorem gK : Tryd.prog.globalNamed "pappus/sha.constants" = some 1 := by kernel_rfl
theorem gF : Tryd.prog.globalNamed "pappus/sha.first" = some 0 := by kernel_rfl
theorem tK : (Tryd.prog.globals[1]?).map (·.type) = some 97 := by kernel_rfl
theorem tF : (Tryd.prog.globals[0]?).map (·.type) = some 89 := by kernel_rfl
theorem undK : Tryd.prog.underlying 97 = some (.array 64 42) := by kernel_rfl
theorem undF : Tryd.prog.underlying 89 = some (.array 8 42) := by kernel_rfl
theorem cellsU32 : Tryd.prog.cellsOf 42 = 1 := by kernel_rfl
theorem cellsK : Tryd.prog.cellsOf 97 = kTab.length := by kernel_rfl
theorem cellsF : Tryd.prog.cellsOf 89 = first.length := by kernel_rfl
def laidBoth : List (String × DataW Unit) := [("pappus/sha.constants", Rows.laid_pappus_sha_constants), ("pappus/sha.first", Rows.laid_pappus_sha_first)]
theorem of_laid {W : World} (h : laidMetH Tryd.prog laidBoth W) : CIn All W 1 (kTab.map W32) ∧ CIn All W 0 (first.map W32) := by
  rw [MakeChecks.laidMetH_plain _ _ _ (by kernel_rfl)] at h
  obtain ⟨ps, ⟨g0, t0, cs0, f0, p0, q0, hg0, ht0, hv0, hd0, ⟨g1, t1, cs1, f1, p1, q1, hg1, ht1, hv1, hd1, _, _⟩, _⟩, _, _⟩ := h
  obtain rfl := Option.some.inj (gK.symm.trans hg0)
  obtain rfl := Option.some.inj (gF.symm.trans hg1)
  obtain rfl := Option.some.inj (tK.symm.trans ht0)
  obtain rfl := Option.some.inj (tF.symm.trans ht1)
  rw [lits_K] at hd0
  rw [lits_F] at hd1
  have e0 := words_laid undK undU32 cellsU32 cellsK hd0
  have e1 := words_laid undF undU32 cellsU32 cellsF hd1
  exact ⟨⟨e0 ▸ var_block gK hv0, trivial⟩, ⟨e1 ▸ var_block gF hv1, trivial⟩⟩
theorem own_knob : ownKnob Tryd.prog.godebug = none := by kernel_rfl
theorem door_met (os : Os) (args : Array Value) : laidMetH Tryd.prog laidBoth ((World.doorLaid Tryd.prog 400 os).forCall (fun _ _ => 0) ⟨#[], args, []⟩).memory :=
  laidMetH_of_parts3 (fuel := 8) (laidMet_of_run' 8 (by kernel_rfl) (by kernel_rfl)) (by kernel_rfl) (by kernel_rfl)
end Go.Proofs.YtnjeoaplohlgkaaDoor
namespace Go.Proofs.YtnjeoaplohlgkaaDoor
open Go.ChangeShapes Go.WideShapes Go.ChangeAt Go.RowKit Go.Px Go.Sha
theorem cellsU8 : Tryd.prog.cellsOf 5 = 1 := by kernel_rfl
theorem cellsBytes : Tryd.prog.cellsOf 37 = 1 := by kernel_rfl
theorem undPieces : Tryd.prog.underlying 79 = some (.slice 37) := by kernel_rfl
theorem undBool : Tryd.prog.underlying 4 = some .bool := by kernel_rfl
def IsB (cs : List Value) : Prop := ∃ x : Byte, cs = [B8 x]
theorem bytes_of : ∀ {l : List (List Value)}, (∀ c ∈ l, IsB c) → ∃ bs : List Byte, l = bytes bs
  | [], _ => ⟨[], rfl⟩
  | c :: l, h => by
    obtain ⟨x, rfl⟩ := h c (by simp)
    obtain ⟨bs, rfl⟩ := bytes_of (l := l) fun d hd => h d (by simp [hd])
    exact ⟨x :: bs, rfl⟩
theorem trod_isB {H : Type} {enc : TypeId × Value → H} {w : World} {base : Nat} {sp : Nat → Bool} {held : Bool} {fuel : Nat} {cs : List Value} {x : DataW H × List MemPlace} (h : DataW.trod enc Tryd.prog w base sp held fuel 5 cs = some x) : IsB cs := by
  obtain ⟨n, rfl, _, hw⟩ := DataW.trod_int undU8 h
  have hr : IntKind.u8.min ≤ n ∧ n ≤ IntKind.u8.max := by simpa [Lit.wf] using hw
  rw [show IntKind.u8.min = 0 from rfl, show IntKind.u8.max = 255 from rfl] at hr
  refine ⟨BitVec.ofNat 8 n.toNat, ?_⟩
  unfold B8
  rw [BitVec.toNat_ofNat, Nat.mod_eq_of_lt (by omega)]
  congr 2
  omega
set_option maxRecDepth 100000 in
theorem open_bytes {H : Type} {enc : TypeId × Value → H} {W : World} {base b0 : Nat} {sp : Nat → Bool} {held : Bool} {r : Reach} {v : Value} {d : DataW H} {ps : List MemPlace} (hval : Value.okWide Tryd.prog W r b0 37 v) (h : DataW.Trod enc Tryd.prog W base sp held 37 v d ps) : ∃ bs : List Byte, RdIn All W 1 v (bytes bs) := by
  obtain ⟨l, h1, h2, _⟩ := open_rd (Q := IsB) undBytes cellsU8 hval h fun _ _ _ hh => trod_isB hh
  obtain ⟨bs, rfl⟩ := bytes_of h2
  exact ⟨bs, RdIn.of h1⟩
end Go.Proofs.YtnjeoaplohlgkaaDoor
namespace Go.Proofs.YtnjeoaplohlgkaaDoor
open Go.ChangeShapes Go.WideShapes Go.ChangeAt Go.RowKit Go.Px Go.Sha Go.Joins Go.WideMaps
theorem undInts : Tryd.prog.underlying 22 = some (.slice 3) := by kernel_rfl
theorem undSights : Tryd.prog.underlying 23 = some (.slice 39) := by kernel_rfl
theorem cellsInt : Tryd.prog.cellsOf 3 = 1 := by kernel_rfl
theorem cellsSight : Tryd.prog.cellsOf 39 = 4 := by kernel_rfl
theorem int_in {z : Int} (h : (Lit.int .i64 z).wf = true) : In64 z := by
  have hr : IntKind.i64.min ≤ z ∧ z ≤ IntKind.i64.max := by simpa [Lit.wf] using h
  rwa [show IntKind.i64.min = -9223372036854775808 from rfl, show IntKind.i64.max = 9223372036854775807 from rfl] at hr
theorem ints_of : ∀ {l : List (List Value)}, (∀ c ∈ l, ∃ z, In64 z ∧ c = [I64 z]) → ∃ E : List Int, (∀ z ∈ E, In64 z) ∧ l = E.map fun z => [I64 z]
  | [], _ => ⟨[], by simp, rfl⟩
  | c :: l, h => by
    obtain ⟨z, hz, rfl⟩ := h c (by simp)
    obtain ⟨E, hE, rfl⟩ := ints_of (l := l) fun d hd => h d (by simp [hd])
    refine ⟨z :: E, fun y hy => ?_, rfl⟩
    rcases List.mem_cons.1 hy with rfl | hy
    · exact hz
    · exact hE y hy
theorem cut4 {cs : List Value} (h : cs.length = 4) {a b c d : Value} (h0 : (cs.drop 0).take 1 = [a]) (h1 : (cs.drop 1).take 1 = [b]) (h2 : (cs.drop 2).take 1 = [c]) (h3 : (cs.drop 3).take 1 = [d]) : cs = [a, b, c, d] := by
  match cs, h with
  | [x, y, z, t], _ =>
    simp only [List.drop_zero, List.take_succ_cons, List.take_zero, List.drop_succ_cons, List.cons.injEq, and_true] at h0 h1 h2 h3
    rw [h0, h1, h2, h3]
theorem u8_byte (z : Int) (hw : (Lit.int .u8 z).wf = true) : ∃ x : Byte, Value.int .u8 z = B8 x := by
  have hr : IntKind.u8.min ≤ z ∧ z ≤ IntKind.u8.max := by simpa [Lit.wf] using hw
  rw [show IntKind.u8.min = 0 from rfl, show IntKind.u8.max = 255 from rfl] at hr
  refine ⟨BitVec.ofNat 8 z.toNat, ?_⟩
  unfold B8
  rw [BitVec.toNat_ofNat, Nat.mod_eq_of_lt (by omega)]
  congr 1
  omega
section
variable {H : Type} {enc : TypeId × Value → H} {W : World} {base b0 : Nat} {sp : Nat → Bool} {held : Bool} {r : Reach} {v : Value} {d : DataW H} {ps : List MemPlace}
set_option maxRecDepth 100000 in
theorem open_u8 (hval : Value.okWide Tryd.prog W r b0 5 v) (h : DataW.Trod enc Tryd.prog W base sp held 5 v d ps) : ∃ x : Byte, v = B8 x := by
  obtain ⟨z, rfl, _, _, hw⟩ := open_int undU8 hval h
  exact u8_byte z hw
set_option maxRecDepth 100000 in
theorem open_ints (hval : Value.okWide Tryd.prog W r b0 22 v) (h : DataW.Trod enc Tryd.prog W base sp held 22 v d ps) : ∃ E : List Int, Rd 1 W v (E.map fun z => [I64 z]) ∧ ∀ z ∈ E, In64 z := by
  obtain ⟨l, h1, h2, _⟩ := open_rd (Q := fun c => ∃ z, In64 z ∧ c = [I64 z]) undInts cellsInt hval h fun _ _ _ hh => by
    obtain ⟨n, rfl, _, hw⟩ := DataW.trod_int undInt hh
    exact ⟨n, int_in hw, rfl⟩
  obtain ⟨E, hE, rfl⟩ := ints_of h2
  exact ⟨E, h1, hE⟩
set_option maxRecDepth 100000 in
theorem sight_cells {w : World} {fuel : Nat} {cs : List Value} {x : DataW H × List MemPlace} (h : DataW.trod enc Tryd.prog w base sp held fuel 39 cs = some x) : ∃ u s, AIn s ∧ cs = sC (u, s) ∧ Rd 1 w u (bytes s.bytes) := by
  obtain ⟨y0, y1, y2, y3, n, _, hl, h0, h1, h2, h3⟩ := trod_struct4 Tryd.underlying39 h
  rw [cellsSight] at hl
  obtain ⟨z0, e0, _, w0⟩ := DataW.trod_int undInt h0
  obtain ⟨z1, e1, _, w1⟩ := DataW.trod_int undInt h1
  obtain ⟨z2, e2, _, w2⟩ := DataW.trod_int undInt h2
  obtain ⟨u, l, e3, h4, h5⟩ := trod_rd (Q := IsB) undBytes cellsU8 (by omega) h3 fun _ _ _ hq => trod_isB hq
  obtain ⟨bs, rfl⟩ := bytes_of h5
  refine ⟨u, ⟨z0, z1, z2, bs⟩, ⟨int_in w0, int_in w1, int_in w2⟩, ?_, h4⟩
  rw [cut4 hl (by simpa [cellsInt] using e0) (by simpa [cellsInt] using e1) (by simpa [cellsInt] using e2) (by simpa [cellsInt, cellsBytes] using e3)]
  rfl
theorem sights_of {w : World} : ∀ {l : List (List Value)}, (∀ c ∈ l, ∃ u s, AIn s ∧ c = sC (u, s) ∧ Rd 1 w u (bytes s.bytes)) → ∃ L : List (Value × PS), l = L.map sC ∧ (∀ x ∈ L, AIn x.2) ∧ ∀ x ∈ L, Rd 1 w x.1 (bytes x.2.bytes)
  | [], _ => ⟨[], rfl, by simp, by simp⟩
  | c :: l, h => by
    obtain ⟨u, s, h1, rfl, h2⟩ := h c (by simp)
    obtain ⟨L, rfl, h3, h4⟩ := sights_of (l := l) fun d hd => h d (by simp [hd])
    refine ⟨(u, s) :: L, rfl, fun y hy => ?_, fun y hy => ?_⟩
    · rcases List.mem_cons.1 hy with rfl | hy
      · exact h1
      · exact h3 y hy
    · rcases List.mem_cons.1 hy with rfl | hy
      · exact h2
      · exact h4 y hy
set_option maxRecDepth 100000 in
theorem open_sights (hval : Value.okWide Tryd.prog W r b0 23 v) (h : DataW.Trod enc Tryd.prog W base sp held 23 v d ps) : ∃ L : List (Value × PS), SRd W v L ∧ ∀ x ∈ L, AIn x.2 := by
  obtain ⟨l, h1, h2, _⟩ := open_rd (Q := fun c => ∃ u s, AIn s ∧ c = sC (u, s) ∧ Rd 1 W u (bytes s.bytes)) undSights cellsSight hval h fun _ _ _ hh => sight_cells hh
  obtain ⟨L, rfl, h3, h4⟩ := sights_of h2
  exact ⟨L, ⟨h1, h4⟩, h3⟩
end
end Go.Proofs.YtnjeoaplohlgkaaDoor
