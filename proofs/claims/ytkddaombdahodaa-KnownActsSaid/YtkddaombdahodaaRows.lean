/-
  No cell of these rows narrows 'for every input' (looked for: loops, veiled, ifaces, maps, wideKeys, modest, calm, conditions, laid).
  DERIVED. THE GIVEN ROWS OF THIS SEAT. 6 by the template 'for every input the law returns true; each argument reads behind the call as it read before'; 0 by the template 'total and deterministic' (their statements: YtkddaombdahodaaTotals.lean).
  GIVEN WITH THE SEED: the statements are not yours to turn. If you find one false, say at which input.
  Laid BY PROGRAM, IN A SANDBOX (cutbox-rows.mjs): the forced cells as the released guide's own fill.sh prints them over the translation 6d8eede603823b62… (all of the seat's roots in one cut). By AI agents, Wed Nov 11 2026. No macro, syntax, notation, axiom, sorry.
-/
import Derived.Test.YtkddaombdahodaaChecked
import GoSem.Claim
import GoSem.ClaimJoined
import GoSem.ClaimMapViews
import Derived.JoinedTies
import Derived.KernelRfl
namespace Go.Proofs.Ytkddaombdahodaa
/- THE CELL 'sum', in the pinned program and in every row, IS THE sha256 OF THE DUMP (.gsa) THAT YtkddaombdahodaaProg.lean LOADS. Nothing in Lean hashes anything: it is a label: what it is worth is what the hold of that sum in a sandbox is worth. -/
noncomputable def Try.pinned : Pinned := { name := "ytkddaombdahodaa", sum := "6d8eede603823b62c2a2747849d32c6883674fb29ecbb22aa970b37daa76b92c", checked := Try.checked }
namespace Rows
def none {H : Type} : Left H := { results := [], args := [] }

/-- 'pappuslaw18.KnownActs': WHATEVER THE INPUT: true; the input reads as it did. -/
def knownActsSpec : ChangeSpec := { name := "knownActs", fn := fun _ => fun
  | [d1, d2, d3] => { results := [.lit (.bool true)], args := [d1, d2, d3] }
  | _ => none }
def knownActsRow : OpenClaim := { program := "ytkddaombdahodaa", sum := "6d8eede603823b62c2a2747849d32c6883674fb29ecbb22aa970b37daa76b92c", func := "pappus/pappuslaw18.KnownActs", spec := "knownActs", plainKeys := false, apart := false }
def KnownActsSaid : Prop := knownActsRow.holds Try.pinned (OpenSpec.ofChange knownActsSpec)

/-- ITS FALSE NEIGHBOUR: 'it returns false'. Refute it at one input. -/
def knownActsWrong : ChangeSpec := { name := "knownActs", fn := fun _ => fun
  | [d1, d2, d3] => { results := [.lit (.bool false)], args := [d1, d2, d3] }
  | _ => none }
def KnownActsWrongFalsely : Prop := knownActsRow.holds Try.pinned (OpenSpec.ofChange knownActsWrong)

/-- 'pappuslaw18.KnownLast': WHATEVER THE INPUT: true; the input reads as it did. -/
def knownLastSpec : ChangeSpec := { name := "knownLast", fn := fun _ => fun
  | [d1, d2] => { results := [.lit (.bool true)], args := [d1, d2] }
  | _ => none }
def knownLastRow : OpenClaim := { program := "ytkddaombdahodaa", sum := "6d8eede603823b62c2a2747849d32c6883674fb29ecbb22aa970b37daa76b92c", func := "pappus/pappuslaw18.KnownLast", spec := "knownLast", plainKeys := false, apart := false }
def KnownLastSaid : Prop := knownLastRow.holds Try.pinned (OpenSpec.ofChange knownLastSpec)

/-- ITS FALSE NEIGHBOUR: 'it returns false'. Refute it at one input. -/
def knownLastWrong : ChangeSpec := { name := "knownLast", fn := fun _ => fun
  | [d1, d2] => { results := [.lit (.bool false)], args := [d1, d2] }
  | _ => none }
def KnownLastWrongFalsely : Prop := knownLastRow.holds Try.pinned (OpenSpec.ofChange knownLastWrong)

/-- 'pappuslaw18.KnownFew': WHATEVER THE INPUT: true; the input reads as it did. -/
def knownFewSpec : ChangeSpec := { name := "knownFew", fn := fun _ => fun
  | [d1, d2, d3] => { results := [.lit (.bool true)], args := [d1, d2, d3] }
  | _ => none }
def knownFewRow : OpenClaim := { program := "ytkddaombdahodaa", sum := "6d8eede603823b62c2a2747849d32c6883674fb29ecbb22aa970b37daa76b92c", func := "pappus/pappuslaw18.KnownFew", spec := "knownFew", plainKeys := false, apart := false }
def KnownFewSaid : Prop := knownFewRow.holds Try.pinned (OpenSpec.ofChange knownFewSpec)

/-- ITS FALSE NEIGHBOUR: 'it returns false'. Refute it at one input. -/
def knownFewWrong : ChangeSpec := { name := "knownFew", fn := fun _ => fun
  | [d1, d2, d3] => { results := [.lit (.bool false)], args := [d1, d2, d3] }
  | _ => none }
def KnownFewWrongFalsely : Prop := knownFewRow.holds Try.pinned (OpenSpec.ofChange knownFewWrong)

/-- 'pappuslaw18.KnownPieces': WHATEVER THE INPUT: true; the input reads as it did. -/
def knownPiecesSpec : ChangeSpec := { name := "knownPieces", fn := fun _ => fun
  | [d1, d2] => { results := [.lit (.bool true)], args := [d1, d2] }
  | _ => none }
def knownPiecesRow : OpenClaim := { program := "ytkddaombdahodaa", sum := "6d8eede603823b62c2a2747849d32c6883674fb29ecbb22aa970b37daa76b92c", func := "pappus/pappuslaw18.KnownPieces", spec := "knownPieces", plainKeys := false, apart := false }
def KnownPiecesSaid : Prop := knownPiecesRow.holds Try.pinned (OpenSpec.ofChange knownPiecesSpec)

/-- ITS FALSE NEIGHBOUR: 'it returns false'. Refute it at one input. -/
def knownPiecesWrong : ChangeSpec := { name := "knownPieces", fn := fun _ => fun
  | [d1, d2] => { results := [.lit (.bool false)], args := [d1, d2] }
  | _ => none }
def KnownPiecesWrongFalsely : Prop := knownPiecesRow.holds Try.pinned (OpenSpec.ofChange knownPiecesWrong)

/-- 'pappuslaw18.KnownAgain': WHATEVER THE INPUT: true; the input reads as it did. -/
def knownAgainSpec : ChangeSpec := { name := "knownAgain", fn := fun _ => fun
  | [d1, d2, d3] => { results := [.lit (.bool true)], args := [d1, d2, d3] }
  | _ => none }
def knownAgainRow : OpenClaim := { program := "ytkddaombdahodaa", sum := "6d8eede603823b62c2a2747849d32c6883674fb29ecbb22aa970b37daa76b92c", func := "pappus/pappuslaw18.KnownAgain", spec := "knownAgain", plainKeys := false, apart := false }
def KnownAgainSaid : Prop := knownAgainRow.holds Try.pinned (OpenSpec.ofChange knownAgainSpec)

/-- ITS FALSE NEIGHBOUR: 'it returns false'. Refute it at one input. -/
def knownAgainWrong : ChangeSpec := { name := "knownAgain", fn := fun _ => fun
  | [d1, d2, d3] => { results := [.lit (.bool false)], args := [d1, d2, d3] }
  | _ => none }
def KnownAgainWrongFalsely : Prop := knownAgainRow.holds Try.pinned (OpenSpec.ofChange knownAgainWrong)

/-- 'pappuslaw18.KnownNew': WHATEVER THE INPUT: true; the input reads as it did. -/
def knownNewSpec : ChangeSpec := { name := "knownNew", fn := fun _ => fun
  | [d1, d2, d3] => { results := [.lit (.bool true)], args := [d1, d2, d3] }
  | _ => none }
def knownNewRow : OpenClaim := { program := "ytkddaombdahodaa", sum := "6d8eede603823b62c2a2747849d32c6883674fb29ecbb22aa970b37daa76b92c", func := "pappus/pappuslaw18.KnownNew", spec := "knownNew", plainKeys := false, apart := false }
def KnownNewSaid : Prop := knownNewRow.holds Try.pinned (OpenSpec.ofChange knownNewSpec)

/-- ITS FALSE NEIGHBOUR: 'it returns false'. Refute it at one input. -/
def knownNewWrong : ChangeSpec := { name := "knownNew", fn := fun _ => fun
  | [d1, d2, d3] => { results := [.lit (.bool false)], args := [d1, d2, d3] }
  | _ => none }
def KnownNewWrongFalsely : Prop := knownNewRow.holds Try.pinned (OpenSpec.ofChange knownNewWrong)

/- THE SECOND FORM. 'bulk': how many values and letters a reading holds, each counted each time it is reached (what is shared counts as often as it is met; a slice's spare places count too). A statement '..UptoSaid' is the law's where the arguments, and the package variables that the reading takes, are together of bulk at most 1048576: NARROWER than '..Said'. Prove '..Said' where nothing that the law and all that it calls make is longer than what came in: it says more and counts as full. Else prove '..UptoSaid'. A law counts once. -/
mutual
def uptoBulk {H : Type} : DataW H → Nat
  | .lit (.string bytes) => bytes.length + 1
  | .lit _ => 1
  | .nil => 1
  | .ptr d => uptoBulk d + 1
  | .slice elems spare => uptoBulkAll elems + uptoBulkAll spare + 1
  | .agg parts => uptoBulkAll parts + 1
  | .iface _ d => uptoBulk d + 1
  | .map entries => uptoBulkEntries entries + 1
  | .held _ => 1
def uptoBulkAll {H : Type} : List (DataW H) → Nat
  | [] => 0
  | d :: r => uptoBulk d + uptoBulkAll r
def uptoBulkEntries {H : Type} : List (Lit × DataW H) → Nat
  | [] => 0
  | x :: r => uptoBulkEntry x + uptoBulkEntries r
def uptoBulkEntry {H : Type} : Lit × DataW H → Nat
  | (.string bytes, d) => bytes.length + uptoBulk d + 1
  | (_, d) => uptoBulk d + 1
 end
def uptoSmall : (H : Type) → List (DataW H) → Bool := fun _ ds => decide (uptoBulkAll ds ≤ 1048576)
def OpenSpec.upto (s : _root_.Go.ChangeSpec) : _root_.Go.OpenSpec := { _root_.Go.OpenSpec.ofChange s with cond := some uptoSmall }

/-- 'pappuslaw18.KnownActs', WHERE WHAT IT READS IS OF BULK AT MOST 1048576: true; the input reads as it did. -/
def knownActsUptoRow : OpenClaim := { program := "ytkddaombdahodaa", sum := "6d8eede603823b62c2a2747849d32c6883674fb29ecbb22aa970b37daa76b92c", func := "pappus/pappuslaw18.KnownActs", spec := "knownActs", plainKeys := false, apart := false, narrowed := true }
def KnownActsUptoSaid : Prop := knownActsUptoRow.holds Try.pinned (OpenSpec.upto knownActsSpec)

/-- 'pappuslaw18.KnownLast', WHERE WHAT IT READS IS OF BULK AT MOST 1048576: true; the input reads as it did. -/
def knownLastUptoRow : OpenClaim := { program := "ytkddaombdahodaa", sum := "6d8eede603823b62c2a2747849d32c6883674fb29ecbb22aa970b37daa76b92c", func := "pappus/pappuslaw18.KnownLast", spec := "knownLast", plainKeys := false, apart := false, narrowed := true }
def KnownLastUptoSaid : Prop := knownLastUptoRow.holds Try.pinned (OpenSpec.upto knownLastSpec)

/-- 'pappuslaw18.KnownFew', WHERE WHAT IT READS IS OF BULK AT MOST 1048576: true; the input reads as it did. -/
def knownFewUptoRow : OpenClaim := { program := "ytkddaombdahodaa", sum := "6d8eede603823b62c2a2747849d32c6883674fb29ecbb22aa970b37daa76b92c", func := "pappus/pappuslaw18.KnownFew", spec := "knownFew", plainKeys := false, apart := false, narrowed := true }
def KnownFewUptoSaid : Prop := knownFewUptoRow.holds Try.pinned (OpenSpec.upto knownFewSpec)

/-- 'pappuslaw18.KnownPieces', WHERE WHAT IT READS IS OF BULK AT MOST 1048576: true; the input reads as it did. -/
def knownPiecesUptoRow : OpenClaim := { program := "ytkddaombdahodaa", sum := "6d8eede603823b62c2a2747849d32c6883674fb29ecbb22aa970b37daa76b92c", func := "pappus/pappuslaw18.KnownPieces", spec := "knownPieces", plainKeys := false, apart := false, narrowed := true }
def KnownPiecesUptoSaid : Prop := knownPiecesUptoRow.holds Try.pinned (OpenSpec.upto knownPiecesSpec)

/-- 'pappuslaw18.KnownAgain', WHERE WHAT IT READS IS OF BULK AT MOST 1048576: true; the input reads as it did. -/
def knownAgainUptoRow : OpenClaim := { program := "ytkddaombdahodaa", sum := "6d8eede603823b62c2a2747849d32c6883674fb29ecbb22aa970b37daa76b92c", func := "pappus/pappuslaw18.KnownAgain", spec := "knownAgain", plainKeys := false, apart := false, narrowed := true }
def KnownAgainUptoSaid : Prop := knownAgainUptoRow.holds Try.pinned (OpenSpec.upto knownAgainSpec)

/-- 'pappuslaw18.KnownNew', WHERE WHAT IT READS IS OF BULK AT MOST 1048576: true; the input reads as it did. -/
def knownNewUptoRow : OpenClaim := { program := "ytkddaombdahodaa", sum := "6d8eede603823b62c2a2747849d32c6883674fb29ecbb22aa970b37daa76b92c", func := "pappus/pappuslaw18.KnownNew", spec := "knownNew", plainKeys := false, apart := false, narrowed := true }
def KnownNewUptoSaid : Prop := knownNewUptoRow.holds Try.pinned (OpenSpec.upto knownNewSpec)

end Rows
end Go.Proofs.Ytkddaombdahodaa
