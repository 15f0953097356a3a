/-
  DERIVED. GIVEN WITH THE SEED: THE CARDS: each row of YtlplgobkidpgkaaDoorRows.lean that lists a variable, with what it lists TIED to the program's text (the seventh form; the later family's looks); each row that meets fmt, with fmt's text TOLD by the authors' own Lean function (tested against real Go, not proved from fmt's source: count such statements apart). THE CARD IS WHAT COUNTS. Prove the row's statement (the work); the ties are given (YtlplgobkidpgkaaDoorTie.lean); close each card by the builder's one call (the guide's Derived/Test/ToyasCard.lean, 'card_holds'). Laid BY PROGRAM, IN A SANDBOX (cutbox-door.mjs). By AI agents, Wed Nov 11 2026. No macro, syntax, notation, axiom, sorry.
-/
import Derived.Test.YtlplgobkidpgkaaDoorRows
import GoSem.ClaimSeven
namespace Go.Proofs.YtlplgobkidpgkaaDoor
namespace Rows

/-- THE TIED CARD OF 'pappuslaw17.RouteAmong'. -/
def routeAmongCard : Claim7 := { stood := { row := routeAmongRow, standIns := [], harness := (true, "69060c4dbaf81a652230487878aaf98d0e9cfeb068cbd934d587d21f2d082e6c"), looks := false }, kinds := [], alts := [], laidByText := true, laidKinds := [.data, .data], laidTests := true, laidLooks := .later }
def RouteAmongCardSaid : Prop := Claim7.holds Tryd.pinned (.plain (OpenSpec.ofChange routeAmongSpec)) routeAmongCard

/-- THE TIED CARD OF 'pappuslaw17.RouteLeaves'. -/
def routeLeavesCard : Claim7 := { stood := { row := routeLeavesRow, standIns := [], harness := (true, "69060c4dbaf81a652230487878aaf98d0e9cfeb068cbd934d587d21f2d082e6c"), looks := false }, kinds := [], alts := [], laidByText := true, laidKinds := [.data, .data], laidTests := true, laidLooks := .later }
def RouteLeavesCardSaid : Prop := Claim7.holds Tryd.pinned (.plain (OpenSpec.ofChange routeLeavesSpec)) routeLeavesCard

/-- THE TIED CARD OF 'pappuslaw17.RouteJoins'. -/
def routeJoinsCard : Claim7 := { stood := { row := routeJoinsRow, standIns := [], harness := (true, "69060c4dbaf81a652230487878aaf98d0e9cfeb068cbd934d587d21f2d082e6c"), looks := false }, kinds := [], alts := [], laidByText := true, laidKinds := [.data, .data], laidTests := true, laidLooks := .later }
def RouteJoinsCardSaid : Prop := Claim7.holds Tryd.pinned (.plain (OpenSpec.ofChange routeJoinsSpec)) routeJoinsCard

/-- THE TIED CARD OF 'pappuslaw17.RouteActs'. -/
def routeActsCard : Claim7 := { stood := { row := routeActsRow, standIns := [], harness := (true, "69060c4dbaf81a652230487878aaf98d0e9cfeb068cbd934d587d21f2d082e6c"), looks := false }, kinds := [], alts := [], laidByText := true, laidKinds := [.data, .data], laidTests := true, laidLooks := .later }
def RouteActsCardSaid : Prop := Claim7.holds Tryd.pinned (.plain (OpenSpec.ofChange routeActsSpec)) routeActsCard

/-- THE TIED CARD OF 'pappuslaw17.RouteTurns'. -/
def routeTurnsCard : Claim7 := { stood := { row := routeTurnsRow, standIns := [], harness := (true, "69060c4dbaf81a652230487878aaf98d0e9cfeb068cbd934d587d21f2d082e6c"), looks := false }, kinds := [], alts := [], laidByText := true, laidKinds := [.data, .data], laidTests := true, laidLooks := .later }
def RouteTurnsCardSaid : Prop := Claim7.holds Tryd.pinned (.plain (OpenSpec.ofChange routeTurnsSpec)) routeTurnsCard

/-- THE TIED CARD OF 'pappuslaw17.RouteApart'. -/
def routeApartCard : Claim7 := { stood := { row := routeApartRow, standIns := [], harness := (true, "69060c4dbaf81a652230487878aaf98d0e9cfeb068cbd934d587d21f2d082e6c"), looks := false }, kinds := [], alts := [], laidByText := true, laidKinds := [.data, .data], laidTests := true, laidLooks := .later }
def RouteApartCardSaid : Prop := Claim7.holds Tryd.pinned (.plain (OpenSpec.ofChange routeApartSpec)) routeApartCard

/-- THE TIED CARD OF 'pappuslaw17.RouteStays'. -/
def routeStaysCard : Claim7 := { stood := { row := routeStaysRow, standIns := [], harness := (true, "69060c4dbaf81a652230487878aaf98d0e9cfeb068cbd934d587d21f2d082e6c"), looks := false }, kinds := [], alts := [], laidByText := true, laidKinds := [.data, .data], laidTests := true, laidLooks := .later }
def RouteStaysCardSaid : Prop := Claim7.holds Tryd.pinned (.plain (OpenSpec.ofChange routeStaysSpec)) routeStaysCard

/-- THE SECOND FORM's CARD OF 'pappuslaw17.RouteAmong'. -/
def routeAmongUptoCard : Claim7 := { stood := { row := routeAmongUptoRow, standIns := [], harness := (true, "69060c4dbaf81a652230487878aaf98d0e9cfeb068cbd934d587d21f2d082e6c"), looks := false }, kinds := [], alts := [], laidByText := true, laidKinds := [.data, .data], laidTests := true, laidLooks := .later }
def RouteAmongUptoCardSaid : Prop := Claim7.holds Tryd.pinned (.plain (OpenSpec.upto routeAmongSpec)) routeAmongUptoCard

/-- THE SECOND FORM's CARD OF 'pappuslaw17.RouteLeaves'. -/
def routeLeavesUptoCard : Claim7 := { stood := { row := routeLeavesUptoRow, standIns := [], harness := (true, "69060c4dbaf81a652230487878aaf98d0e9cfeb068cbd934d587d21f2d082e6c"), looks := false }, kinds := [], alts := [], laidByText := true, laidKinds := [.data, .data], laidTests := true, laidLooks := .later }
def RouteLeavesUptoCardSaid : Prop := Claim7.holds Tryd.pinned (.plain (OpenSpec.upto routeLeavesSpec)) routeLeavesUptoCard

/-- THE SECOND FORM's CARD OF 'pappuslaw17.RouteJoins'. -/
def routeJoinsUptoCard : Claim7 := { stood := { row := routeJoinsUptoRow, standIns := [], harness := (true, "69060c4dbaf81a652230487878aaf98d0e9cfeb068cbd934d587d21f2d082e6c"), looks := false }, kinds := [], alts := [], laidByText := true, laidKinds := [.data, .data], laidTests := true, laidLooks := .later }
def RouteJoinsUptoCardSaid : Prop := Claim7.holds Tryd.pinned (.plain (OpenSpec.upto routeJoinsSpec)) routeJoinsUptoCard

/-- THE SECOND FORM's CARD OF 'pappuslaw17.RouteActs'. -/
def routeActsUptoCard : Claim7 := { stood := { row := routeActsUptoRow, standIns := [], harness := (true, "69060c4dbaf81a652230487878aaf98d0e9cfeb068cbd934d587d21f2d082e6c"), looks := false }, kinds := [], alts := [], laidByText := true, laidKinds := [.data, .data], laidTests := true, laidLooks := .later }
def RouteActsUptoCardSaid : Prop := Claim7.holds Tryd.pinned (.plain (OpenSpec.upto routeActsSpec)) routeActsUptoCard

/-- THE SECOND FORM's CARD OF 'pappuslaw17.RouteTurns'. -/
def routeTurnsUptoCard : Claim7 := { stood := { row := routeTurnsUptoRow, standIns := [], harness := (true, "69060c4dbaf81a652230487878aaf98d0e9cfeb068cbd934d587d21f2d082e6c"), looks := false }, kinds := [], alts := [], laidByText := true, laidKinds := [.data, .data], laidTests := true, laidLooks := .later }
def RouteTurnsUptoCardSaid : Prop := Claim7.holds Tryd.pinned (.plain (OpenSpec.upto routeTurnsSpec)) routeTurnsUptoCard

/-- THE SECOND FORM's CARD OF 'pappuslaw17.RouteApart'. -/
def routeApartUptoCard : Claim7 := { stood := { row := routeApartUptoRow, standIns := [], harness := (true, "69060c4dbaf81a652230487878aaf98d0e9cfeb068cbd934d587d21f2d082e6c"), looks := false }, kinds := [], alts := [], laidByText := true, laidKinds := [.data, .data], laidTests := true, laidLooks := .later }
def RouteApartUptoCardSaid : Prop := Claim7.holds Tryd.pinned (.plain (OpenSpec.upto routeApartSpec)) routeApartUptoCard

/-- THE SECOND FORM's CARD OF 'pappuslaw17.RouteStays'. -/
def routeStaysUptoCard : Claim7 := { stood := { row := routeStaysUptoRow, standIns := [], harness := (true, "69060c4dbaf81a652230487878aaf98d0e9cfeb068cbd934d587d21f2d082e6c"), looks := false }, kinds := [], alts := [], laidByText := true, laidKinds := [.data, .data], laidTests := true, laidLooks := .later }
def RouteStaysUptoCardSaid : Prop := Claim7.holds Tryd.pinned (.plain (OpenSpec.upto routeStaysSpec)) routeStaysUptoCard
end Rows
end Go.Proofs.YtlplgobkidpgkaaDoor
