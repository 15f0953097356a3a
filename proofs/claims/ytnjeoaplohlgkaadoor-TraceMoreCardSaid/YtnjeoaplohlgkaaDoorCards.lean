/-
  DERIVED. GIVEN WITH THE SEED: THE CARDS: each row of YtnjeoaplohlgkaaDoorRows.lean that lists a variable, with what it lists TIED to the program's text (the seventh form; the later family's looks); each row that meets fmt, with fmt's text TOLD by the authors' own Lean function (tested against real Go, not proved from fmt's source: count such statements apart). THE CARD IS WHAT COUNTS. Prove the row's statement (the work); the ties are given (YtnjeoaplohlgkaaDoorTie.lean); close each card by the builder's one call (the guide's Derived/Test/ToyasCard.lean, 'card_holds'). Laid BY PROGRAM, IN A SANDBOX (cutbox-door.mjs). By AI agents, Wed Nov 11 2026. No macro, syntax, notation, axiom, sorry.
-/
import Derived.Test.YtnjeoaplohlgkaaDoorRows
import GoSem.ClaimSeven
namespace Go.Proofs.YtnjeoaplohlgkaaDoor
namespace Rows

/-- THE TIED CARD OF 'pappuslaw26.TraceSees'. -/
def traceSeesCard : Claim7 := { stood := { row := traceSeesRow, standIns := [], harness := (true, "8d5247bfe72b95bcadd60c24bb3bf9c630cf3f43e3901479044db447f92f1cb1"), looks := false }, kinds := [], alts := [], laidByText := true, laidKinds := [.data, .data], laidTests := true, laidLooks := .later }
def TraceSeesCardSaid : Prop := Claim7.holds Tryd.pinned (.plain (OpenSpec.ofChange traceSeesSpec)) traceSeesCard

/-- THE TIED CARD OF 'pappuslaw26.TracePieces'. -/
def tracePiecesCard : Claim7 := { stood := { row := tracePiecesRow, standIns := [], harness := (true, "8d5247bfe72b95bcadd60c24bb3bf9c630cf3f43e3901479044db447f92f1cb1"), looks := false }, kinds := [], alts := [], laidByText := true, laidKinds := [.data, .data], laidTests := true, laidLooks := .later }
def TracePiecesCardSaid : Prop := Claim7.holds Tryd.pinned (.plain (OpenSpec.ofChange tracePiecesSpec)) tracePiecesCard

/-- THE TIED CARD OF 'pappuslaw26.TraceOnly'. -/
def traceOnlyCard : Claim7 := { stood := { row := traceOnlyRow, standIns := [], harness := (true, "8d5247bfe72b95bcadd60c24bb3bf9c630cf3f43e3901479044db447f92f1cb1"), looks := false }, kinds := [], alts := [], laidByText := true, laidKinds := [.data, .data], laidTests := true, laidLooks := .later }
def TraceOnlyCardSaid : Prop := Claim7.holds Tryd.pinned (.plain (OpenSpec.ofChange traceOnlySpec)) traceOnlyCard

/-- THE TIED CARD OF 'pappuslaw26.TraceKeeps'. -/
def traceKeepsCard : Claim7 := { stood := { row := traceKeepsRow, standIns := [], harness := (true, "8d5247bfe72b95bcadd60c24bb3bf9c630cf3f43e3901479044db447f92f1cb1"), looks := false }, kinds := [], alts := [], laidByText := true, laidKinds := [.data, .data], laidTests := true, laidLooks := .later }
def TraceKeepsCardSaid : Prop := Claim7.holds Tryd.pinned (.plain (OpenSpec.ofChange traceKeepsSpec)) traceKeepsCard

/-- THE TIED CARD OF 'pappuslaw26.TraceMore'. -/
def traceMoreCard : Claim7 := { stood := { row := traceMoreRow, standIns := [], harness := (true, "8d5247bfe72b95bcadd60c24bb3bf9c630cf3f43e3901479044db447f92f1cb1"), looks := false }, kinds := [], alts := [], laidByText := true, laidKinds := [.data, .data], laidTests := true, laidLooks := .later }
def TraceMoreCardSaid : Prop := Claim7.holds Tryd.pinned (.plain (OpenSpec.ofChange traceMoreSpec)) traceMoreCard

/-- THE TIED CARD OF 'pappuslaw26.TraceHidden'. -/
def traceHiddenCard : Claim7 := { stood := { row := traceHiddenRow, standIns := [], harness := (true, "8d5247bfe72b95bcadd60c24bb3bf9c630cf3f43e3901479044db447f92f1cb1"), looks := false }, kinds := [], alts := [], laidByText := true, laidKinds := [.data, .data], laidTests := true, laidLooks := .later }
def TraceHiddenCardSaid : Prop := Claim7.holds Tryd.pinned (.plain (OpenSpec.ofChange traceHiddenSpec)) traceHiddenCard

/-- THE SECOND FORM's CARD OF 'pappuslaw26.TraceSees'. -/
def traceSeesUptoCard : Claim7 := { stood := { row := traceSeesUptoRow, standIns := [], harness := (true, "8d5247bfe72b95bcadd60c24bb3bf9c630cf3f43e3901479044db447f92f1cb1"), looks := false }, kinds := [], alts := [], laidByText := true, laidKinds := [.data, .data], laidTests := true, laidLooks := .later }
def TraceSeesUptoCardSaid : Prop := Claim7.holds Tryd.pinned (.plain (OpenSpec.upto traceSeesSpec)) traceSeesUptoCard

/-- THE SECOND FORM's CARD OF 'pappuslaw26.TracePieces'. -/
def tracePiecesUptoCard : Claim7 := { stood := { row := tracePiecesUptoRow, standIns := [], harness := (true, "8d5247bfe72b95bcadd60c24bb3bf9c630cf3f43e3901479044db447f92f1cb1"), looks := false }, kinds := [], alts := [], laidByText := true, laidKinds := [.data, .data], laidTests := true, laidLooks := .later }
def TracePiecesUptoCardSaid : Prop := Claim7.holds Tryd.pinned (.plain (OpenSpec.upto tracePiecesSpec)) tracePiecesUptoCard

/-- THE SECOND FORM's CARD OF 'pappuslaw26.TraceOnly'. -/
def traceOnlyUptoCard : Claim7 := { stood := { row := traceOnlyUptoRow, standIns := [], harness := (true, "8d5247bfe72b95bcadd60c24bb3bf9c630cf3f43e3901479044db447f92f1cb1"), looks := false }, kinds := [], alts := [], laidByText := true, laidKinds := [.data, .data], laidTests := true, laidLooks := .later }
def TraceOnlyUptoCardSaid : Prop := Claim7.holds Tryd.pinned (.plain (OpenSpec.upto traceOnlySpec)) traceOnlyUptoCard

/-- THE SECOND FORM's CARD OF 'pappuslaw26.TraceKeeps'. -/
def traceKeepsUptoCard : Claim7 := { stood := { row := traceKeepsUptoRow, standIns := [], harness := (true, "8d5247bfe72b95bcadd60c24bb3bf9c630cf3f43e3901479044db447f92f1cb1"), looks := false }, kinds := [], alts := [], laidByText := true, laidKinds := [.data, .data], laidTests := true, laidLooks := .later }
def TraceKeepsUptoCardSaid : Prop := Claim7.holds Tryd.pinned (.plain (OpenSpec.upto traceKeepsSpec)) traceKeepsUptoCard

/-- THE SECOND FORM's CARD OF 'pappuslaw26.TraceMore'. -/
def traceMoreUptoCard : Claim7 := { stood := { row := traceMoreUptoRow, standIns := [], harness := (true, "8d5247bfe72b95bcadd60c24bb3bf9c630cf3f43e3901479044db447f92f1cb1"), looks := false }, kinds := [], alts := [], laidByText := true, laidKinds := [.data, .data], laidTests := true, laidLooks := .later }
def TraceMoreUptoCardSaid : Prop := Claim7.holds Tryd.pinned (.plain (OpenSpec.upto traceMoreSpec)) traceMoreUptoCard

/-- THE SECOND FORM's CARD OF 'pappuslaw26.TraceHidden'. -/
def traceHiddenUptoCard : Claim7 := { stood := { row := traceHiddenUptoRow, standIns := [], harness := (true, "8d5247bfe72b95bcadd60c24bb3bf9c630cf3f43e3901479044db447f92f1cb1"), looks := false }, kinds := [], alts := [], laidByText := true, laidKinds := [.data, .data], laidTests := true, laidLooks := .later }
def TraceHiddenUptoCardSaid : Prop := Claim7.holds Tryd.pinned (.plain (OpenSpec.upto traceHiddenSpec)) traceHiddenUptoCard
end Rows
end Go.Proofs.YtnjeoaplohlgkaaDoor
