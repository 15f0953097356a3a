/- What the listed tables hold when the call begins, and that the program's own start meets it. Conditions: those that stand ahead of each theorem. -/
import Derived.Test.YtieobcaegegboaaDoorGShaA
import Derived.Test.YtieobcaegegboaaDoorOpen
import Derived.ProofKit
import Derived.LaidMore
import Derived.OpenShut
import Derived.Stop.Joined
namespace Go.Proofs.YtieobcaegegboaaDoor
open Go.ChangeShapes Go.WideShapes Go.ChangeAt Go.WideMaps Go.WideElems Go.RowKit Go.Px Go.Sha
def lits {H : Type} (us : List Word) : List (DataW H) := us.map fun x => .lit (.int .u32 x.toNat)
theorem lits_K {H : Type} : (Rows.laid_pappus_sha_constants : DataW H) = .agg (lits kTab) := rfl
theorem lits_F {H : Type} : (Rows.laid_pappus_sha_first : DataW H) = .agg (lits first) := rfl
theorem var_block {P : Program} {w : World} {n : String} {g : Nat} {cs : Array Value} (hg : P.globalNamed n = some g) (h : w.var? P n = some cs) : Cells w g 0 cs.toList := by
  simp only [World.var?, hg, Option.bind_some] at h
  split at h
  · rename_i c t fr hb
    cases h
    exact ⟨_, t, fr, hb, by rw [List.drop_zero]; exact List.take_of_length_le (Nat.le_refl _)⟩
  · cases h
theorem words_laid {H : Type} {enc : TypeId × Value → H} {P : Program} {w : World} {base : Nat} {sp : Nat → Bool} {held : Bool} {fuel t e n : Nat} {us : List Word} {cs : List Value} {ps : List MemPlace} (ht : P.underlying t = some (.array n e)) (he : P.underlying e = some (.int .u32)) (hc : P.cellsOf e = 1) (hct : P.cellsOf t = us.length)
    (h : DataW.trod enc P w base sp held fuel t cs = some (.agg (lits us), ps)) : cs = us.map W32 := by
  obtain ⟨xs, m, rfl, hx, hlen, hn, hel⟩ := DataW.trod_array ht h
  rw [hc] at hel
  rw [hct] at hlen
  simp only [Prod.mk.injEq, DataW.agg.injEq] at hx
  have hl : xs.length = us.length := by
    have := congrArg List.length hx.1
    simp [lits] at this
    exact this.symm
  apply List.ext_getElem
  · rw [hlen, List.length_map]
  · intro i h1 h2
    have hi : i < us.length := by omega
    have hxi : i < xs.length := by omega
    have h3 := hel i (by omega)
    rw [List.getElem?_eq_getElem hxi] at h3
    obtain ⟨k, e1, e2, _⟩ := DataW.trod_int he h3
    have h4 : (lits us : List (DataW H))[i]? = (xs.map (·.1))[i]? := by rw [hx.1]
    rw [List.getElem?_map, List.getElem?_eq_getElem hxi] at h4
    unfold lits at h4
    rw [List.getElem?_map, List.getElem?_eq_getElem hi] at h4
    rw [e2] at h4
    have hk : k = us[i].toNat := by simpa using h4.symm
    rw [Nat.mul_one, List.drop_eq_getElem_cons h1, List.take_succ_cons, List.take_zero] at e1
    rw [List.getElem_map]
    injection e1 with e1
    rw [e1, hk]
    rfl
theorem gK : Tryd.prog.globalNamed "pappus/sha.constants" = some 3 := by kernel_rfl
theorem gF : Tryd.prog.globalNamed "pappus/sha.first" = some 0 := by kernel_rfl
theorem tK : (Tryd.prog.globals[3]?).map (·.type) = some 95 := by kernel_rfl
theorem tF : (Tryd.prog.globals[0]?).map (·.type) = some 74 := by kernel_rfl
theorem undK : Tryd.prog.underlying 95 = some (.array 64 22) := by kernel_rfl
theorem undF : Tryd.prog.underlying 74 = some (.array 8 22) := by kernel_rfl
theorem cellsU32 : Tryd.prog.cellsOf 22 = 1 := by kernel_rfl
theorem cellsK : Tryd.prog.cellsOf 95 = kTab.length := by kernel_rfl
theorem cellsF : Tryd.prog.cellsOf 74 = first.length := by kernel_rfl
def laidBoth : List (String × DataW Unit) := [("pappus/sha.constants", Rows.laid_pappus_sha_constants), ("pappus/sha.first", Rows.laid_pappus_sha_first)]
theorem of_laid {W : World} (h : laidMetH Tryd.prog laidBoth W) : CIn All W 3 (kTab.map W32) ∧ CIn All W 0 (first.map W32) := by
  rw [MakeChecks.laidMetH_plain _ _ _ (by kernel_rfl)] at h
  obtain ⟨ps, ⟨g0, t0, cs0, f0, p0, q0, hg0, ht0, hv0, hd0, ⟨g1, t1, cs1, f1, p1, q1, hg1, ht1, hv1, hd1, _, _⟩, _⟩, _, _⟩ := h
  obtain rfl := Option.some.inj (gK.symm.trans hg0)
  obtain rfl := Option.some.inj (gF.symm.trans hg1)
  obtain rfl := Option.some.inj (tK.symm.trans ht0)
  obtain rfl := Option.some.inj (tF.symm.trans ht1)
  rw [lits_K] at hd0
  rw [lits_F] at hd1
  have e0 := words_laid undK undU32 cellsU32 cellsK hd0
  have e1 := words_laid undF undU32 cellsU32 cellsF hd1
  exact ⟨⟨e0 ▸ var_block gK hv0, trivial⟩, ⟨e1 ▸ var_block gF hv1, trivial⟩⟩
theorem own_knob : ownKnob Tryd.prog.godebug = none := by kernel_rfl
theorem door_met (os : Os) (args : Array Value) : laidMetH Tryd.prog laidBoth ((World.doorLaid Tryd.prog 400 os).forCall (fun _ _ => 0) ⟨#[], args, []⟩).memory :=
  laidMetH_of_parts3 (fuel := 8) (laidMet_of_run' 8 (by kernel_rfl) (by kernel_rfl)) (by kernel_rfl) (by kernel_rfl)
end Go.Proofs.YtieobcaegegboaaDoor
