/-
  No cell of these rows narrows 'for every input' (looked for: loops, veiled, ifaces, maps, wideKeys, modest, calm, conditions, laid).
  DERIVED. THE GIVEN ROWS OF THIS SEAT. 8 by the template 'for every input the law returns true; each argument reads behind the call as it read before'; 0 by the template 'total and deterministic' (their statements: YtcaameljecokpaaTotals.lean).
  GIVEN WITH THE SEED: the statements are not yours to turn. If you find one false, say at which input.
  Laid BY PROGRAM, IN A SANDBOX (cutbox-rows.mjs): the forced cells as the released guide's own fill.sh prints them over the translation bb2344637f05f337… (all of the seat's roots in one cut). By AI agents, Wed Nov 11 2026. No macro, syntax, notation, axiom, sorry.
-/
import Derived.Test.YtcaameljecokpaaChecked
import GoSem.Claim
import GoSem.ClaimJoined
import GoSem.ClaimMapViews
import Derived.JoinedTies
import Derived.KernelRfl
namespace Go.Proofs.Ytcaameljecokpaa
/- THE CELL 'sum', in the pinned program and in every row, IS THE sha256 OF THE DUMP (.gsa) THAT YtcaameljecokpaaProg.lean LOADS. Nothing in Lean hashes anything: it is a label: what it is worth is what the hold of that sum in a sandbox is worth. -/
noncomputable def Try.pinned : Pinned := { name := "ytcaameljecokpaa", sum := "bb2344637f05f3372d687916867dd1e50022356fd26d9a1c8a13fda7f322a4fc", checked := Try.checked }
namespace Rows
def none {H : Type} : Left H := { results := [], args := [] }

/-- 'pappuslaw01.CalcSums': WHATEVER THE INPUT: true; the input reads as it did. -/
def calcSumsSpec : ChangeSpec := { name := "calcSums", fn := fun _ => fun
  | [d1, d2] => { results := [.lit (.bool true)], args := [d1, d2] }
  | _ => none }
def calcSumsRow : OpenClaim := { program := "ytcaameljecokpaa", sum := "bb2344637f05f3372d687916867dd1e50022356fd26d9a1c8a13fda7f322a4fc", func := "pappus/pappuslaw01.CalcSums", spec := "calcSums", inPlace := ["math/bits.Add64", "math/bits.Sub64"], named := ["math/bits.divideError", "math/bits.overflowError"], apart := false }
def CalcSumsSaid : Prop := calcSumsRow.holds Try.pinned (OpenSpec.ofChange calcSumsSpec)

/-- ITS FALSE NEIGHBOUR: 'it returns false'. Refute it at one input. -/
def calcSumsWrong : ChangeSpec := { name := "calcSums", fn := fun _ => fun
  | [d1, d2] => { results := [.lit (.bool false)], args := [d1, d2] }
  | _ => none }
def CalcSumsWrongFalsely : Prop := calcSumsRow.holds Try.pinned (OpenSpec.ofChange calcSumsWrong)

/-- 'pappuslaw01.CalcParts': WHATEVER THE INPUT: true; the input reads as it did. -/
def calcPartsSpec : ChangeSpec := { name := "calcParts", fn := fun _ => fun
  | [d] => { results := [.lit (.bool true)], args := [d] }
  | _ => none }
def calcPartsRow : OpenClaim := { program := "ytcaameljecokpaa", sum := "bb2344637f05f3372d687916867dd1e50022356fd26d9a1c8a13fda7f322a4fc", func := "pappus/pappuslaw01.CalcParts", spec := "calcParts", inPlace := ["math/bits.Add64", "math/bits.Sub64"], named := ["math/bits.divideError", "math/bits.overflowError"], apart := false }
def CalcPartsSaid : Prop := calcPartsRow.holds Try.pinned (OpenSpec.ofChange calcPartsSpec)

/-- ITS FALSE NEIGHBOUR: 'it returns false'. Refute it at one input. -/
def calcPartsWrong : ChangeSpec := { name := "calcParts", fn := fun _ => fun
  | [d] => { results := [.lit (.bool false)], args := [d] }
  | _ => none }
def CalcPartsWrongFalsely : Prop := calcPartsRow.holds Try.pinned (OpenSpec.ofChange calcPartsWrong)

/-- 'pappuslaw01.CalcCross': WHATEVER THE INPUT: true; the input reads as it did. -/
def calcCrossSpec : ChangeSpec := { name := "calcCross", fn := fun _ => fun
  | [d] => { results := [.lit (.bool true)], args := [d] }
  | _ => none }
def calcCrossRow : OpenClaim := { program := "ytcaameljecokpaa", sum := "bb2344637f05f3372d687916867dd1e50022356fd26d9a1c8a13fda7f322a4fc", func := "pappus/pappuslaw01.CalcCross", spec := "calcCross", inPlace := ["math/bits.Add64", "math/bits.Sub64"], named := ["math/bits.divideError", "math/bits.overflowError"], apart := false }
def CalcCrossSaid : Prop := calcCrossRow.holds Try.pinned (OpenSpec.ofChange calcCrossSpec)

/-- ITS FALSE NEIGHBOUR: 'it returns false'. Refute it at one input. -/
def calcCrossWrong : ChangeSpec := { name := "calcCross", fn := fun _ => fun
  | [d] => { results := [.lit (.bool false)], args := [d] }
  | _ => none }
def CalcCrossWrongFalsely : Prop := calcCrossRow.holds Try.pinned (OpenSpec.ofChange calcCrossWrong)

/-- 'pappuslaw01.CalcAmong': WHATEVER THE INPUT: true; the input reads as it did. -/
def calcAmongSpec : ChangeSpec := { name := "calcAmong", fn := fun _ => fun
  | [d1, d2, d3] => { results := [.lit (.bool true)], args := [d1, d2, d3] }
  | _ => none }
def calcAmongRow : OpenClaim := { program := "ytcaameljecokpaa", sum := "bb2344637f05f3372d687916867dd1e50022356fd26d9a1c8a13fda7f322a4fc", func := "pappus/pappuslaw01.CalcAmong", spec := "calcAmong", inPlace := ["math/bits.Add64", "math/bits.Sub64"], named := ["math/bits.divideError", "math/bits.overflowError"], apart := false }
def CalcAmongSaid : Prop := calcAmongRow.holds Try.pinned (OpenSpec.ofChange calcAmongSpec)

/-- ITS FALSE NEIGHBOUR: 'it returns false'. Refute it at one input. -/
def calcAmongWrong : ChangeSpec := { name := "calcAmong", fn := fun _ => fun
  | [d1, d2, d3] => { results := [.lit (.bool false)], args := [d1, d2, d3] }
  | _ => none }
def CalcAmongWrongFalsely : Prop := calcAmongRow.holds Try.pinned (OpenSpec.ofChange calcAmongWrong)

/-- 'pappuslaw01.CalcDivides': WHATEVER THE INPUT: true; the input reads as it did. -/
def calcDividesSpec : ChangeSpec := { name := "calcDivides", fn := fun _ => fun
  | [d1, d2, d3] => { results := [.lit (.bool true)], args := [d1, d2, d3] }
  | _ => none }
def calcDividesRow : OpenClaim := { program := "ytcaameljecokpaa", sum := "bb2344637f05f3372d687916867dd1e50022356fd26d9a1c8a13fda7f322a4fc", func := "pappus/pappuslaw01.CalcDivides", spec := "calcDivides", inPlace := ["math/bits.Add64", "math/bits.Sub64"], named := ["math/bits.divideError", "math/bits.overflowError"], apart := false }
def CalcDividesSaid : Prop := calcDividesRow.holds Try.pinned (OpenSpec.ofChange calcDividesSpec)

/-- ITS FALSE NEIGHBOUR: 'it returns false'. Refute it at one input. -/
def calcDividesWrong : ChangeSpec := { name := "calcDivides", fn := fun _ => fun
  | [d1, d2, d3] => { results := [.lit (.bool false)], args := [d1, d2, d3] }
  | _ => none }
def CalcDividesWrongFalsely : Prop := calcDividesRow.holds Try.pinned (OpenSpec.ofChange calcDividesWrong)

/-- 'pappuslaw01.CalcNeeds': WHATEVER THE INPUT: true; the input reads as it did. -/
def calcNeedsSpec : ChangeSpec := { name := "calcNeeds", fn := fun _ => fun
  | [d1, d2] => { results := [.lit (.bool true)], args := [d1, d2] }
  | _ => none }
def calcNeedsRow : OpenClaim := { program := "ytcaameljecokpaa", sum := "bb2344637f05f3372d687916867dd1e50022356fd26d9a1c8a13fda7f322a4fc", func := "pappus/pappuslaw01.CalcNeeds", spec := "calcNeeds", inPlace := ["math/bits.Add64", "math/bits.Sub64"], named := ["math/bits.divideError", "math/bits.overflowError"], apart := false }
def CalcNeedsSaid : Prop := calcNeedsRow.holds Try.pinned (OpenSpec.ofChange calcNeedsSpec)

/-- ITS FALSE NEIGHBOUR: 'it returns false'. Refute it at one input. -/
def calcNeedsWrong : ChangeSpec := { name := "calcNeeds", fn := fun _ => fun
  | [d1, d2] => { results := [.lit (.bool false)], args := [d1, d2] }
  | _ => none }
def CalcNeedsWrongFalsely : Prop := calcNeedsRow.holds Try.pinned (OpenSpec.ofChange calcNeedsWrong)

/-- 'pappuslaw01.CalcOrders': WHATEVER THE INPUT: true; the input reads as it did. -/
def calcOrdersSpec : ChangeSpec := { name := "calcOrders", fn := fun _ => fun
  | [d] => { results := [.lit (.bool true)], args := [d] }
  | _ => none }
def calcOrdersRow : OpenClaim := { program := "ytcaameljecokpaa", sum := "bb2344637f05f3372d687916867dd1e50022356fd26d9a1c8a13fda7f322a4fc", func := "pappus/pappuslaw01.CalcOrders", spec := "calcOrders", inPlace := ["math/bits.Add64", "math/bits.Sub64"], named := ["math/bits.divideError", "math/bits.overflowError"], apart := false }
def CalcOrdersSaid : Prop := calcOrdersRow.holds Try.pinned (OpenSpec.ofChange calcOrdersSpec)

/-- ITS FALSE NEIGHBOUR: 'it returns false'. Refute it at one input. -/
def calcOrdersWrong : ChangeSpec := { name := "calcOrders", fn := fun _ => fun
  | [d] => { results := [.lit (.bool false)], args := [d] }
  | _ => none }
def CalcOrdersWrongFalsely : Prop := calcOrdersRow.holds Try.pinned (OpenSpec.ofChange calcOrdersWrong)

/-- 'pappuslaw01.CalcStops': WHATEVER THE INPUT: true; the input reads as it did. -/
def calcStopsSpec : ChangeSpec := { name := "calcStops", fn := fun _ => fun
  | [d1, d2, d3] => { results := [.lit (.bool true)], args := [d1, d2, d3] }
  | _ => none }
def calcStopsRow : OpenClaim := { program := "ytcaameljecokpaa", sum := "bb2344637f05f3372d687916867dd1e50022356fd26d9a1c8a13fda7f322a4fc", func := "pappus/pappuslaw01.CalcStops", spec := "calcStops", inPlace := ["math/bits.Add64", "math/bits.Sub64"], named := ["math/bits.divideError", "math/bits.overflowError"], apart := false }
def CalcStopsSaid : Prop := calcStopsRow.holds Try.pinned (OpenSpec.ofChange calcStopsSpec)

/-- ITS FALSE NEIGHBOUR: 'it returns false'. Refute it at one input. -/
def calcStopsWrong : ChangeSpec := { name := "calcStops", fn := fun _ => fun
  | [d1, d2, d3] => { results := [.lit (.bool false)], args := [d1, d2, d3] }
  | _ => none }
def CalcStopsWrongFalsely : Prop := calcStopsRow.holds Try.pinned (OpenSpec.ofChange calcStopsWrong)

/- THE SECOND FORM. 'bulk': how many values and letters a reading holds, each counted each time it is reached (what is shared counts as often as it is met; a slice's spare places count too). A statement '..UptoSaid' is the law's where the arguments, and the package variables that the reading takes, are together of bulk at most 1048576: NARROWER than '..Said'. Prove '..Said' where nothing that the law and all that it calls make is longer than what came in: it says more and counts as full. Else prove '..UptoSaid'. A law counts once. -/
mutual
def uptoBulk {H : Type} : DataW H → Nat
  | .lit (.string bytes) => bytes.length + 1
  | .lit _ => 1
  | .nil => 1
  | .ptr d => uptoBulk d + 1
  | .slice elems spare => uptoBulkAll elems + uptoBulkAll spare + 1
  | .agg parts => uptoBulkAll parts + 1
  | .iface _ d => uptoBulk d + 1
  | .map entries => uptoBulkEntries entries + 1
  | .held _ => 1
def uptoBulkAll {H : Type} : List (DataW H) → Nat
  | [] => 0
  | d :: r => uptoBulk d + uptoBulkAll r
def uptoBulkEntries {H : Type} : List (Lit × DataW H) → Nat
  | [] => 0
  | x :: r => uptoBulkEntry x + uptoBulkEntries r
def uptoBulkEntry {H : Type} : Lit × DataW H → Nat
  | (.string bytes, d) => bytes.length + uptoBulk d + 1
  | (_, d) => uptoBulk d + 1
 end
def uptoSmall : (H : Type) → List (DataW H) → Bool := fun _ ds => decide (uptoBulkAll ds ≤ 1048576)
def OpenSpec.upto (s : _root_.Go.ChangeSpec) : _root_.Go.OpenSpec := { _root_.Go.OpenSpec.ofChange s with cond := some uptoSmall }

/-- 'pappuslaw01.CalcSums', WHERE WHAT IT READS IS OF BULK AT MOST 1048576: true; the input reads as it did. -/
def calcSumsUptoRow : OpenClaim := { program := "ytcaameljecokpaa", sum := "bb2344637f05f3372d687916867dd1e50022356fd26d9a1c8a13fda7f322a4fc", func := "pappus/pappuslaw01.CalcSums", spec := "calcSums", inPlace := ["math/bits.Add64", "math/bits.Sub64"], named := ["math/bits.divideError", "math/bits.overflowError"], apart := false, narrowed := true }
def CalcSumsUptoSaid : Prop := calcSumsUptoRow.holds Try.pinned (OpenSpec.upto calcSumsSpec)

/-- 'pappuslaw01.CalcParts', WHERE WHAT IT READS IS OF BULK AT MOST 1048576: true; the input reads as it did. -/
def calcPartsUptoRow : OpenClaim := { program := "ytcaameljecokpaa", sum := "bb2344637f05f3372d687916867dd1e50022356fd26d9a1c8a13fda7f322a4fc", func := "pappus/pappuslaw01.CalcParts", spec := "calcParts", inPlace := ["math/bits.Add64", "math/bits.Sub64"], named := ["math/bits.divideError", "math/bits.overflowError"], apart := false, narrowed := true }
def CalcPartsUptoSaid : Prop := calcPartsUptoRow.holds Try.pinned (OpenSpec.upto calcPartsSpec)

/-- 'pappuslaw01.CalcCross', WHERE WHAT IT READS IS OF BULK AT MOST 1048576: true; the input reads as it did. -/
def calcCrossUptoRow : OpenClaim := { program := "ytcaameljecokpaa", sum := "bb2344637f05f3372d687916867dd1e50022356fd26d9a1c8a13fda7f322a4fc", func := "pappus/pappuslaw01.CalcCross", spec := "calcCross", inPlace := ["math/bits.Add64", "math/bits.Sub64"], named := ["math/bits.divideError", "math/bits.overflowError"], apart := false, narrowed := true }
def CalcCrossUptoSaid : Prop := calcCrossUptoRow.holds Try.pinned (OpenSpec.upto calcCrossSpec)

/-- 'pappuslaw01.CalcAmong', WHERE WHAT IT READS IS OF BULK AT MOST 1048576: true; the input reads as it did. -/
def calcAmongUptoRow : OpenClaim := { program := "ytcaameljecokpaa", sum := "bb2344637f05f3372d687916867dd1e50022356fd26d9a1c8a13fda7f322a4fc", func := "pappus/pappuslaw01.CalcAmong", spec := "calcAmong", inPlace := ["math/bits.Add64", "math/bits.Sub64"], named := ["math/bits.divideError", "math/bits.overflowError"], apart := false, narrowed := true }
def CalcAmongUptoSaid : Prop := calcAmongUptoRow.holds Try.pinned (OpenSpec.upto calcAmongSpec)

/-- 'pappuslaw01.CalcDivides', WHERE WHAT IT READS IS OF BULK AT MOST 1048576: true; the input reads as it did. -/
def calcDividesUptoRow : OpenClaim := { program := "ytcaameljecokpaa", sum := "bb2344637f05f3372d687916867dd1e50022356fd26d9a1c8a13fda7f322a4fc", func := "pappus/pappuslaw01.CalcDivides", spec := "calcDivides", inPlace := ["math/bits.Add64", "math/bits.Sub64"], named := ["math/bits.divideError", "math/bits.overflowError"], apart := false, narrowed := true }
def CalcDividesUptoSaid : Prop := calcDividesUptoRow.holds Try.pinned (OpenSpec.upto calcDividesSpec)

/-- 'pappuslaw01.CalcNeeds', WHERE WHAT IT READS IS OF BULK AT MOST 1048576: true; the input reads as it did. -/
def calcNeedsUptoRow : OpenClaim := { program := "ytcaameljecokpaa", sum := "bb2344637f05f3372d687916867dd1e50022356fd26d9a1c8a13fda7f322a4fc", func := "pappus/pappuslaw01.CalcNeeds", spec := "calcNeeds", inPlace := ["math/bits.Add64", "math/bits.Sub64"], named := ["math/bits.divideError", "math/bits.overflowError"], apart := false, narrowed := true }
def CalcNeedsUptoSaid : Prop := calcNeedsUptoRow.holds Try.pinned (OpenSpec.upto calcNeedsSpec)

/-- 'pappuslaw01.CalcOrders', WHERE WHAT IT READS IS OF BULK AT MOST 1048576: true; the input reads as it did. -/
def calcOrdersUptoRow : OpenClaim := { program := "ytcaameljecokpaa", sum := "bb2344637f05f3372d687916867dd1e50022356fd26d9a1c8a13fda7f322a4fc", func := "pappus/pappuslaw01.CalcOrders", spec := "calcOrders", inPlace := ["math/bits.Add64", "math/bits.Sub64"], named := ["math/bits.divideError", "math/bits.overflowError"], apart := false, narrowed := true }
def CalcOrdersUptoSaid : Prop := calcOrdersUptoRow.holds Try.pinned (OpenSpec.upto calcOrdersSpec)

/-- 'pappuslaw01.CalcStops', WHERE WHAT IT READS IS OF BULK AT MOST 1048576: true; the input reads as it did. -/
def calcStopsUptoRow : OpenClaim := { program := "ytcaameljecokpaa", sum := "bb2344637f05f3372d687916867dd1e50022356fd26d9a1c8a13fda7f322a4fc", func := "pappus/pappuslaw01.CalcStops", spec := "calcStops", inPlace := ["math/bits.Add64", "math/bits.Sub64"], named := ["math/bits.divideError", "math/bits.overflowError"], apart := false, narrowed := true }
def CalcStopsUptoSaid : Prop := calcStopsUptoRow.holds Try.pinned (OpenSpec.upto calcStopsSpec)

end Rows
end Go.Proofs.Ytcaameljecokpaa
