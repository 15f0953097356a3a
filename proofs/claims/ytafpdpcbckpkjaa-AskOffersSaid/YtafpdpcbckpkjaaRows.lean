/-
  No cell of these rows narrows 'for every input' (looked for: loops, veiled, ifaces, maps, wideKeys, modest, calm, conditions, laid).
  DERIVED. THE GIVEN ROWS OF THIS SEAT. 6 by the template 'for every input the law returns true; each argument reads behind the call as it read before'; 0 by the template 'total and deterministic' (their statements: YtafpdpcbckpkjaaTotals.lean).
  GIVEN WITH THE SEED: the statements are not yours to turn. If you find one false, say at which input.
  Laid BY PROGRAM, IN A SANDBOX (cutbox-rows.mjs): the forced cells as the released guide's own fill.sh prints them over the translation 06717c42f348ddb8… (all of the seat's roots in one cut). By AI agents, Wed Nov 11 2026. No macro, syntax, notation, axiom, sorry.
-/
import Derived.Test.YtafpdpcbckpkjaaChecked
import GoSem.Claim
import GoSem.ClaimJoined
import GoSem.ClaimMapViews
import Derived.JoinedTies
import Derived.KernelRfl
namespace Go.Proofs.Ytafpdpcbckpkjaa
/- THE CELL 'sum', in the pinned program and in every row, IS THE sha256 OF THE DUMP (.gsa) THAT YtafpdpcbckpkjaaProg.lean LOADS. Nothing in Lean hashes anything: it is a label: what it is worth is what the hold of that sum in a sandbox is worth. -/
noncomputable def Try.pinned : Pinned := { name := "ytafpdpcbckpkjaa", sum := "06717c42f348ddb84eccac7ace850aaf6488728302aa7a4b41d301d94c773b7b", checked := Try.checked }
namespace Rows
def none {H : Type} : Left H := { results := [], args := [] }

/-- 'pappuslaw20.AskLate': WHATEVER THE INPUT: true; the input reads as it did. -/
def askLateSpec : ChangeSpec := { name := "askLate", fn := fun _ => fun
  | [d1, d2, d3] => { results := [.lit (.bool true)], args := [d1, d2, d3] }
  | _ => none }
def askLateRow : OpenClaim := { program := "ytafpdpcbckpkjaa", sum := "06717c42f348ddb84eccac7ace850aaf6488728302aa7a4b41d301d94c773b7b", func := "pappus/pappuslaw20.AskLate", spec := "askLate", inPlace := ["math/bits.Add64"], unfollowed := true, recurses := true, plainKeys := false, apart := false }
def AskLateSaid : Prop := askLateRow.holds Try.pinned (OpenSpec.ofChange askLateSpec)

/-- ITS FALSE NEIGHBOUR: 'it returns false'. Refute it at one input. -/
def askLateWrong : ChangeSpec := { name := "askLate", fn := fun _ => fun
  | [d1, d2, d3] => { results := [.lit (.bool false)], args := [d1, d2, d3] }
  | _ => none }
def AskLateWrongFalsely : Prop := askLateRow.holds Try.pinned (OpenSpec.ofChange askLateWrong)

/-- 'pappuslaw20.AskActs': WHATEVER THE INPUT: true; the input reads as it did. -/
def askActsSpec : ChangeSpec := { name := "askActs", fn := fun _ => fun
  | [d] => { results := [.lit (.bool true)], args := [d] }
  | _ => none }
def askActsRow : OpenClaim := { program := "ytafpdpcbckpkjaa", sum := "06717c42f348ddb84eccac7ace850aaf6488728302aa7a4b41d301d94c773b7b", func := "pappus/pappuslaw20.AskActs", spec := "askActs", inPlace := ["math/bits.Add64"], unfollowed := true, recurses := true, plainKeys := false, apart := false }
def AskActsSaid : Prop := askActsRow.holds Try.pinned (OpenSpec.ofChange askActsSpec)

/-- ITS FALSE NEIGHBOUR: 'it returns false'. Refute it at one input. -/
def askActsWrong : ChangeSpec := { name := "askActs", fn := fun _ => fun
  | [d] => { results := [.lit (.bool false)], args := [d] }
  | _ => none }
def AskActsWrongFalsely : Prop := askActsRow.holds Try.pinned (OpenSpec.ofChange askActsWrong)

/-- 'pappuslaw20.AskOnce': WHATEVER THE INPUT: true; the input reads as it did. -/
def askOnceSpec : ChangeSpec := { name := "askOnce", fn := fun _ => fun
  | [d1, d2] => { results := [.lit (.bool true)], args := [d1, d2] }
  | _ => none }
def askOnceRow : OpenClaim := { program := "ytafpdpcbckpkjaa", sum := "06717c42f348ddb84eccac7ace850aaf6488728302aa7a4b41d301d94c773b7b", func := "pappus/pappuslaw20.AskOnce", spec := "askOnce", inPlace := ["math/bits.Add64"], unfollowed := true, recurses := true, plainKeys := false, apart := false }
def AskOnceSaid : Prop := askOnceRow.holds Try.pinned (OpenSpec.ofChange askOnceSpec)

/-- ITS FALSE NEIGHBOUR: 'it returns false'. Refute it at one input. -/
def askOnceWrong : ChangeSpec := { name := "askOnce", fn := fun _ => fun
  | [d1, d2] => { results := [.lit (.bool false)], args := [d1, d2] }
  | _ => none }
def AskOnceWrongFalsely : Prop := askOnceRow.holds Try.pinned (OpenSpec.ofChange askOnceWrong)

/-- 'pappuslaw20.AskOffers': WHATEVER THE INPUT: true; the input reads as it did. -/
def askOffersSpec : ChangeSpec := { name := "askOffers", fn := fun _ => fun
  | [d1, d2] => { results := [.lit (.bool true)], args := [d1, d2] }
  | _ => none }
def askOffersRow : OpenClaim := { program := "ytafpdpcbckpkjaa", sum := "06717c42f348ddb84eccac7ace850aaf6488728302aa7a4b41d301d94c773b7b", func := "pappus/pappuslaw20.AskOffers", spec := "askOffers", inPlace := ["math/bits.Add64"], unfollowed := true, recurses := true, plainKeys := false, apart := false }
def AskOffersSaid : Prop := askOffersRow.holds Try.pinned (OpenSpec.ofChange askOffersSpec)

/-- ITS FALSE NEIGHBOUR: 'it returns false'. Refute it at one input. -/
def askOffersWrong : ChangeSpec := { name := "askOffers", fn := fun _ => fun
  | [d1, d2] => { results := [.lit (.bool false)], args := [d1, d2] }
  | _ => none }
def AskOffersWrongFalsely : Prop := askOffersRow.holds Try.pinned (OpenSpec.ofChange askOffersWrong)

/-- 'pappuslaw20.AskGoes': WHATEVER THE INPUT: true; the input reads as it did. -/
def askGoesSpec : ChangeSpec := { name := "askGoes", fn := fun _ => fun
  | [d1, d2, d3] => { results := [.lit (.bool true)], args := [d1, d2, d3] }
  | _ => none }
def askGoesRow : OpenClaim := { program := "ytafpdpcbckpkjaa", sum := "06717c42f348ddb84eccac7ace850aaf6488728302aa7a4b41d301d94c773b7b", func := "pappus/pappuslaw20.AskGoes", spec := "askGoes", inPlace := ["math/bits.Add64"], unfollowed := true, recurses := true, plainKeys := false, apart := false }
def AskGoesSaid : Prop := askGoesRow.holds Try.pinned (OpenSpec.ofChange askGoesSpec)

/-- ITS FALSE NEIGHBOUR: 'it returns false'. Refute it at one input. -/
def askGoesWrong : ChangeSpec := { name := "askGoes", fn := fun _ => fun
  | [d1, d2, d3] => { results := [.lit (.bool false)], args := [d1, d2, d3] }
  | _ => none }
def AskGoesWrongFalsely : Prop := askGoesRow.holds Try.pinned (OpenSpec.ofChange askGoesWrong)

/-- 'pappuslaw20.AskGone': WHATEVER THE INPUT: true; the input reads as it did. -/
def askGoneSpec : ChangeSpec := { name := "askGone", fn := fun _ => fun
  | [d1, d2, d3] => { results := [.lit (.bool true)], args := [d1, d2, d3] }
  | _ => none }
def askGoneRow : OpenClaim := { program := "ytafpdpcbckpkjaa", sum := "06717c42f348ddb84eccac7ace850aaf6488728302aa7a4b41d301d94c773b7b", func := "pappus/pappuslaw20.AskGone", spec := "askGone", inPlace := ["math/bits.Add64"], unfollowed := true, recurses := true, plainKeys := false, apart := false }
def AskGoneSaid : Prop := askGoneRow.holds Try.pinned (OpenSpec.ofChange askGoneSpec)

/-- ITS FALSE NEIGHBOUR: 'it returns false'. Refute it at one input. -/
def askGoneWrong : ChangeSpec := { name := "askGone", fn := fun _ => fun
  | [d1, d2, d3] => { results := [.lit (.bool false)], args := [d1, d2, d3] }
  | _ => none }
def AskGoneWrongFalsely : Prop := askGoneRow.holds Try.pinned (OpenSpec.ofChange askGoneWrong)

/- THE SECOND FORM. 'bulk': how many values and letters a reading holds, each counted each time it is reached (what is shared counts as often as it is met; a slice's spare places count too). A statement '..UptoSaid' is the law's where the arguments, and the package variables that the reading takes, are together of bulk at most 1048576: NARROWER than '..Said'. Prove '..Said' where nothing that the law and all that it calls make is longer than what came in: it says more and counts as full. Else prove '..UptoSaid'. A law counts once. -/
mutual
def uptoBulk {H : Type} : DataW H → Nat
  | .lit (.string bytes) => bytes.length + 1
  | .lit _ => 1
  | .nil => 1
  | .ptr d => uptoBulk d + 1
  | .slice elems spare => uptoBulkAll elems + uptoBulkAll spare + 1
  | .agg parts => uptoBulkAll parts + 1
  | .iface _ d => uptoBulk d + 1
  | .map entries => uptoBulkEntries entries + 1
  | .held _ => 1
def uptoBulkAll {H : Type} : List (DataW H) → Nat
  | [] => 0
  | d :: r => uptoBulk d + uptoBulkAll r
def uptoBulkEntries {H : Type} : List (Lit × DataW H) → Nat
  | [] => 0
  | x :: r => uptoBulkEntry x + uptoBulkEntries r
def uptoBulkEntry {H : Type} : Lit × DataW H → Nat
  | (.string bytes, d) => bytes.length + uptoBulk d + 1
  | (_, d) => uptoBulk d + 1
 end
def uptoSmall : (H : Type) → List (DataW H) → Bool := fun _ ds => decide (uptoBulkAll ds ≤ 1048576)
def OpenSpec.upto (s : _root_.Go.ChangeSpec) : _root_.Go.OpenSpec := { _root_.Go.OpenSpec.ofChange s with cond := some uptoSmall }

/-- 'pappuslaw20.AskLate', WHERE WHAT IT READS IS OF BULK AT MOST 1048576: true; the input reads as it did. -/
def askLateUptoRow : OpenClaim := { program := "ytafpdpcbckpkjaa", sum := "06717c42f348ddb84eccac7ace850aaf6488728302aa7a4b41d301d94c773b7b", func := "pappus/pappuslaw20.AskLate", spec := "askLate", inPlace := ["math/bits.Add64"], unfollowed := true, recurses := true, plainKeys := false, apart := false, narrowed := true }
def AskLateUptoSaid : Prop := askLateUptoRow.holds Try.pinned (OpenSpec.upto askLateSpec)

/-- 'pappuslaw20.AskActs', WHERE WHAT IT READS IS OF BULK AT MOST 1048576: true; the input reads as it did. -/
def askActsUptoRow : OpenClaim := { program := "ytafpdpcbckpkjaa", sum := "06717c42f348ddb84eccac7ace850aaf6488728302aa7a4b41d301d94c773b7b", func := "pappus/pappuslaw20.AskActs", spec := "askActs", inPlace := ["math/bits.Add64"], unfollowed := true, recurses := true, plainKeys := false, apart := false, narrowed := true }
def AskActsUptoSaid : Prop := askActsUptoRow.holds Try.pinned (OpenSpec.upto askActsSpec)

/-- 'pappuslaw20.AskOnce', WHERE WHAT IT READS IS OF BULK AT MOST 1048576: true; the input reads as it did. -/
def askOnceUptoRow : OpenClaim := { program := "ytafpdpcbckpkjaa", sum := "06717c42f348ddb84eccac7ace850aaf6488728302aa7a4b41d301d94c773b7b", func := "pappus/pappuslaw20.AskOnce", spec := "askOnce", inPlace := ["math/bits.Add64"], unfollowed := true, recurses := true, plainKeys := false, apart := false, narrowed := true }
def AskOnceUptoSaid : Prop := askOnceUptoRow.holds Try.pinned (OpenSpec.upto askOnceSpec)

/-- 'pappuslaw20.AskOffers', WHERE WHAT IT READS IS OF BULK AT MOST 1048576: true; the input reads as it did. -/
def askOffersUptoRow : OpenClaim := { program := "ytafpdpcbckpkjaa", sum := "06717c42f348ddb84eccac7ace850aaf6488728302aa7a4b41d301d94c773b7b", func := "pappus/pappuslaw20.AskOffers", spec := "askOffers", inPlace := ["math/bits.Add64"], unfollowed := true, recurses := true, plainKeys := false, apart := false, narrowed := true }
def AskOffersUptoSaid : Prop := askOffersUptoRow.holds Try.pinned (OpenSpec.upto askOffersSpec)

/-- 'pappuslaw20.AskGoes', WHERE WHAT IT READS IS OF BULK AT MOST 1048576: true; the input reads as it did. -/
def askGoesUptoRow : OpenClaim := { program := "ytafpdpcbckpkjaa", sum := "06717c42f348ddb84eccac7ace850aaf6488728302aa7a4b41d301d94c773b7b", func := "pappus/pappuslaw20.AskGoes", spec := "askGoes", inPlace := ["math/bits.Add64"], unfollowed := true, recurses := true, plainKeys := false, apart := false, narrowed := true }
def AskGoesUptoSaid : Prop := askGoesUptoRow.holds Try.pinned (OpenSpec.upto askGoesSpec)

/-- 'pappuslaw20.AskGone', WHERE WHAT IT READS IS OF BULK AT MOST 1048576: true; the input reads as it did. -/
def askGoneUptoRow : OpenClaim := { program := "ytafpdpcbckpkjaa", sum := "06717c42f348ddb84eccac7ace850aaf6488728302aa7a4b41d301d94c773b7b", func := "pappus/pappuslaw20.AskGone", spec := "askGone", inPlace := ["math/bits.Add64"], unfollowed := true, recurses := true, plainKeys := false, apart := false, narrowed := true }
def AskGoneUptoSaid : Prop := askGoneUptoRow.holds Try.pinned (OpenSpec.upto askGoneSpec)

end Rows
end Go.Proofs.Ytafpdpcbckpkjaa
