/-
  No cell of these rows narrows 'for every input' (looked for: loops, veiled, ifaces, maps, wideKeys, modest, calm, conditions, laid).
  DERIVED. THE GIVEN ROWS OF THIS SEAT. 6 by the template 'for every input the law returns true; each argument reads behind the call as it read before'; 0 by the template 'total and deterministic' (their statements: YtffagjkjeojaaaaTotals.lean).
  GIVEN WITH THE SEED: the statements are not yours to turn. If you find one false, say at which input.
  Laid BY PROGRAM, IN A SANDBOX (cutbox-rows.mjs): the forced cells as the released guide's own fill.sh prints them over the translation 12efc0252d25e5bb… (all of the seat's roots in one cut). By AI agents, Wed Nov 11 2026. No macro, syntax, notation, axiom, sorry.
-/
import Derived.Test.YtffagjkjeojaaaaChecked
import GoSem.Claim
import GoSem.ClaimJoined
import GoSem.ClaimMapViews
import Derived.JoinedTies
import Derived.KernelRfl
namespace Go.Proofs.Ytffagjkjeojaaaa
/- THE CELL 'sum', in the pinned program and in every row, IS THE sha256 OF THE DUMP (.gsa) THAT YtffagjkjeojaaaaProg.lean LOADS. Nothing in Lean hashes anything: it is a label: what it is worth is what the hold of that sum in a sandbox is worth. -/
noncomputable def Try.pinned : Pinned := { name := "ytffagjkjeojaaaa", sum := "12efc0252d25e5bbf30da9e4d92c3bb83fc8f04b70d30f1af3fb81b8a04d8e16", checked := Try.checked }
namespace Rows
def none {H : Type} : Left H := { results := [], args := [] }

/-- 'pappuslaw21.TrickleActs': WHATEVER THE INPUT: true; the input reads as it did. -/
def trickleActsSpec : ChangeSpec := { name := "trickleActs", fn := fun _ => fun
  | [d1, d2] => { results := [.lit (.bool true)], args := [d1, d2] }
  | _ => none }
def trickleActsRow : OpenClaim := { program := "ytffagjkjeojaaaa", sum := "12efc0252d25e5bbf30da9e4d92c3bb83fc8f04b70d30f1af3fb81b8a04d8e16", func := "pappus/pappuslaw21.TrickleActs", spec := "trickleActs", unfollowed := true, recurses := true, plainKeys := false, apart := false }
def TrickleActsSaid : Prop := trickleActsRow.holds Try.pinned (OpenSpec.ofChange trickleActsSpec)

/-- ITS FALSE NEIGHBOUR: 'it returns false'. Refute it at one input. -/
def trickleActsWrong : ChangeSpec := { name := "trickleActs", fn := fun _ => fun
  | [d1, d2] => { results := [.lit (.bool false)], args := [d1, d2] }
  | _ => none }
def TrickleActsWrongFalsely : Prop := trickleActsRow.holds Try.pinned (OpenSpec.ofChange trickleActsWrong)

/-- 'pappuslaw21.TrickleApart': WHATEVER THE INPUT: true; the input reads as it did. -/
def trickleApartSpec : ChangeSpec := { name := "trickleApart", fn := fun _ => fun
  | [d] => { results := [.lit (.bool true)], args := [d] }
  | _ => none }
def trickleApartRow : OpenClaim := { program := "ytffagjkjeojaaaa", sum := "12efc0252d25e5bbf30da9e4d92c3bb83fc8f04b70d30f1af3fb81b8a04d8e16", func := "pappus/pappuslaw21.TrickleApart", spec := "trickleApart", unfollowed := true, recurses := true, plainKeys := false, apart := false }
def TrickleApartSaid : Prop := trickleApartRow.holds Try.pinned (OpenSpec.ofChange trickleApartSpec)

/-- ITS FALSE NEIGHBOUR: 'it returns false'. Refute it at one input. -/
def trickleApartWrong : ChangeSpec := { name := "trickleApart", fn := fun _ => fun
  | [d] => { results := [.lit (.bool false)], args := [d] }
  | _ => none }
def TrickleApartWrongFalsely : Prop := trickleApartRow.holds Try.pinned (OpenSpec.ofChange trickleApartWrong)

/-- 'pappuslaw21.TrickleTells': WHATEVER THE INPUT: true; the input reads as it did. -/
def trickleTellsSpec : ChangeSpec := { name := "trickleTells", fn := fun _ => fun
  | [d1, d2] => { results := [.lit (.bool true)], args := [d1, d2] }
  | _ => none }
def trickleTellsRow : OpenClaim := { program := "ytffagjkjeojaaaa", sum := "12efc0252d25e5bbf30da9e4d92c3bb83fc8f04b70d30f1af3fb81b8a04d8e16", func := "pappus/pappuslaw21.TrickleTells", spec := "trickleTells", unfollowed := true, recurses := true, plainKeys := false, apart := false }
def TrickleTellsSaid : Prop := trickleTellsRow.holds Try.pinned (OpenSpec.ofChange trickleTellsSpec)

/-- ITS FALSE NEIGHBOUR: 'it returns false'. Refute it at one input. -/
def trickleTellsWrong : ChangeSpec := { name := "trickleTells", fn := fun _ => fun
  | [d1, d2] => { results := [.lit (.bool false)], args := [d1, d2] }
  | _ => none }
def TrickleTellsWrongFalsely : Prop := trickleTellsRow.holds Try.pinned (OpenSpec.ofChange trickleTellsWrong)

/-- 'pappuslaw21.TrickleOnce': WHATEVER THE INPUT: true; the input reads as it did. -/
def trickleOnceSpec : ChangeSpec := { name := "trickleOnce", fn := fun _ => fun
  | [d] => { results := [.lit (.bool true)], args := [d] }
  | _ => none }
def trickleOnceRow : OpenClaim := { program := "ytffagjkjeojaaaa", sum := "12efc0252d25e5bbf30da9e4d92c3bb83fc8f04b70d30f1af3fb81b8a04d8e16", func := "pappus/pappuslaw21.TrickleOnce", spec := "trickleOnce", unfollowed := true, recurses := true, plainKeys := false, apart := false }
def TrickleOnceSaid : Prop := trickleOnceRow.holds Try.pinned (OpenSpec.ofChange trickleOnceSpec)

/-- ITS FALSE NEIGHBOUR: 'it returns false'. Refute it at one input. -/
def trickleOnceWrong : ChangeSpec := { name := "trickleOnce", fn := fun _ => fun
  | [d] => { results := [.lit (.bool false)], args := [d] }
  | _ => none }
def TrickleOnceWrongFalsely : Prop := trickleOnceRow.holds Try.pinned (OpenSpec.ofChange trickleOnceWrong)

/-- 'pappuslaw21.TrickleAll': WHATEVER THE INPUT: true; the input reads as it did. -/
def trickleAllSpec : ChangeSpec := { name := "trickleAll", fn := fun _ => fun
  | [d1, d2] => { results := [.lit (.bool true)], args := [d1, d2] }
  | _ => none }
def trickleAllRow : OpenClaim := { program := "ytffagjkjeojaaaa", sum := "12efc0252d25e5bbf30da9e4d92c3bb83fc8f04b70d30f1af3fb81b8a04d8e16", func := "pappus/pappuslaw21.TrickleAll", spec := "trickleAll", unfollowed := true, recurses := true, plainKeys := false, apart := false }
def TrickleAllSaid : Prop := trickleAllRow.holds Try.pinned (OpenSpec.ofChange trickleAllSpec)

/-- ITS FALSE NEIGHBOUR: 'it returns false'. Refute it at one input. -/
def trickleAllWrong : ChangeSpec := { name := "trickleAll", fn := fun _ => fun
  | [d1, d2] => { results := [.lit (.bool false)], args := [d1, d2] }
  | _ => none }
def TrickleAllWrongFalsely : Prop := trickleAllRow.holds Try.pinned (OpenSpec.ofChange trickleAllWrong)

/-- 'pappuslaw21.TrickleLearns': WHATEVER THE INPUT: true; the input reads as it did. -/
def trickleLearnsSpec : ChangeSpec := { name := "trickleLearns", fn := fun _ => fun
  | [d1, d2] => { results := [.lit (.bool true)], args := [d1, d2] }
  | _ => none }
def trickleLearnsRow : OpenClaim := { program := "ytffagjkjeojaaaa", sum := "12efc0252d25e5bbf30da9e4d92c3bb83fc8f04b70d30f1af3fb81b8a04d8e16", func := "pappus/pappuslaw21.TrickleLearns", spec := "trickleLearns", unfollowed := true, recurses := true, plainKeys := false, apart := false }
def TrickleLearnsSaid : Prop := trickleLearnsRow.holds Try.pinned (OpenSpec.ofChange trickleLearnsSpec)

/-- ITS FALSE NEIGHBOUR: 'it returns false'. Refute it at one input. -/
def trickleLearnsWrong : ChangeSpec := { name := "trickleLearns", fn := fun _ => fun
  | [d1, d2] => { results := [.lit (.bool false)], args := [d1, d2] }
  | _ => none }
def TrickleLearnsWrongFalsely : Prop := trickleLearnsRow.holds Try.pinned (OpenSpec.ofChange trickleLearnsWrong)

/- THE SECOND FORM. 'bulk': how many values and letters a reading holds, each counted each time it is reached (what is shared counts as often as it is met; a slice's spare places count too). A statement '..UptoSaid' is the law's where the arguments, and the package variables that the reading takes, are together of bulk at most 1048576: NARROWER than '..Said'. Prove '..Said' where nothing that the law and all that it calls make is longer than what came in: it says more and counts as full. Else prove '..UptoSaid'. A law counts once. -/
mutual
def uptoBulk {H : Type} : DataW H → Nat
  | .lit (.string bytes) => bytes.length + 1
  | .lit _ => 1
  | .nil => 1
  | .ptr d => uptoBulk d + 1
  | .slice elems spare => uptoBulkAll elems + uptoBulkAll spare + 1
  | .agg parts => uptoBulkAll parts + 1
  | .iface _ d => uptoBulk d + 1
  | .map entries => uptoBulkEntries entries + 1
  | .held _ => 1
def uptoBulkAll {H : Type} : List (DataW H) → Nat
  | [] => 0
  | d :: r => uptoBulk d + uptoBulkAll r
def uptoBulkEntries {H : Type} : List (Lit × DataW H) → Nat
  | [] => 0
  | x :: r => uptoBulkEntry x + uptoBulkEntries r
def uptoBulkEntry {H : Type} : Lit × DataW H → Nat
  | (.string bytes, d) => bytes.length + uptoBulk d + 1
  | (_, d) => uptoBulk d + 1
 end
def uptoSmall : (H : Type) → List (DataW H) → Bool := fun _ ds => decide (uptoBulkAll ds ≤ 1048576)
def OpenSpec.upto (s : _root_.Go.ChangeSpec) : _root_.Go.OpenSpec := { _root_.Go.OpenSpec.ofChange s with cond := some uptoSmall }

/-- 'pappuslaw21.TrickleActs', WHERE WHAT IT READS IS OF BULK AT MOST 1048576: true; the input reads as it did. -/
def trickleActsUptoRow : OpenClaim := { program := "ytffagjkjeojaaaa", sum := "12efc0252d25e5bbf30da9e4d92c3bb83fc8f04b70d30f1af3fb81b8a04d8e16", func := "pappus/pappuslaw21.TrickleActs", spec := "trickleActs", unfollowed := true, recurses := true, plainKeys := false, apart := false, narrowed := true }
def TrickleActsUptoSaid : Prop := trickleActsUptoRow.holds Try.pinned (OpenSpec.upto trickleActsSpec)

/-- 'pappuslaw21.TrickleApart', WHERE WHAT IT READS IS OF BULK AT MOST 1048576: true; the input reads as it did. -/
def trickleApartUptoRow : OpenClaim := { program := "ytffagjkjeojaaaa", sum := "12efc0252d25e5bbf30da9e4d92c3bb83fc8f04b70d30f1af3fb81b8a04d8e16", func := "pappus/pappuslaw21.TrickleApart", spec := "trickleApart", unfollowed := true, recurses := true, plainKeys := false, apart := false, narrowed := true }
def TrickleApartUptoSaid : Prop := trickleApartUptoRow.holds Try.pinned (OpenSpec.upto trickleApartSpec)

/-- 'pappuslaw21.TrickleTells', WHERE WHAT IT READS IS OF BULK AT MOST 1048576: true; the input reads as it did. -/
def trickleTellsUptoRow : OpenClaim := { program := "ytffagjkjeojaaaa", sum := "12efc0252d25e5bbf30da9e4d92c3bb83fc8f04b70d30f1af3fb81b8a04d8e16", func := "pappus/pappuslaw21.TrickleTells", spec := "trickleTells", unfollowed := true, recurses := true, plainKeys := false, apart := false, narrowed := true }
def TrickleTellsUptoSaid : Prop := trickleTellsUptoRow.holds Try.pinned (OpenSpec.upto trickleTellsSpec)

/-- 'pappuslaw21.TrickleOnce', WHERE WHAT IT READS IS OF BULK AT MOST 1048576: true; the input reads as it did. -/
def trickleOnceUptoRow : OpenClaim := { program := "ytffagjkjeojaaaa", sum := "12efc0252d25e5bbf30da9e4d92c3bb83fc8f04b70d30f1af3fb81b8a04d8e16", func := "pappus/pappuslaw21.TrickleOnce", spec := "trickleOnce", unfollowed := true, recurses := true, plainKeys := false, apart := false, narrowed := true }
def TrickleOnceUptoSaid : Prop := trickleOnceUptoRow.holds Try.pinned (OpenSpec.upto trickleOnceSpec)

/-- 'pappuslaw21.TrickleAll', WHERE WHAT IT READS IS OF BULK AT MOST 1048576: true; the input reads as it did. -/
def trickleAllUptoRow : OpenClaim := { program := "ytffagjkjeojaaaa", sum := "12efc0252d25e5bbf30da9e4d92c3bb83fc8f04b70d30f1af3fb81b8a04d8e16", func := "pappus/pappuslaw21.TrickleAll", spec := "trickleAll", unfollowed := true, recurses := true, plainKeys := false, apart := false, narrowed := true }
def TrickleAllUptoSaid : Prop := trickleAllUptoRow.holds Try.pinned (OpenSpec.upto trickleAllSpec)

/-- 'pappuslaw21.TrickleLearns', WHERE WHAT IT READS IS OF BULK AT MOST 1048576: true; the input reads as it did. -/
def trickleLearnsUptoRow : OpenClaim := { program := "ytffagjkjeojaaaa", sum := "12efc0252d25e5bbf30da9e4d92c3bb83fc8f04b70d30f1af3fb81b8a04d8e16", func := "pappus/pappuslaw21.TrickleLearns", spec := "trickleLearns", unfollowed := true, recurses := true, plainKeys := false, apart := false, narrowed := true }
def TrickleLearnsUptoSaid : Prop := trickleLearnsUptoRow.holds Try.pinned (OpenSpec.upto trickleLearnsSpec)

end Rows
end Go.Proofs.Ytffagjkjeojaaaa
