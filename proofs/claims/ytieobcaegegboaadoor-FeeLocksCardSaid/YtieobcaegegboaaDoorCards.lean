/-
  DERIVED. GIVEN WITH THE SEED: THE CARDS: each row of YtieobcaegegboaaDoorRows.lean that lists a variable, with what it lists TIED to the program's text (the seventh form; the later family's looks); each row that meets fmt, with fmt's text TOLD by the authors' own Lean function (tested against real Go, not proved from fmt's source: count such statements apart). THE CARD IS WHAT COUNTS. Prove the row's statement (the work); the ties are given (YtieobcaegegboaaDoorTie.lean); close each card by the builder's one call (the guide's Derived/Test/ToyasCard.lean, 'card_holds'). Laid BY PROGRAM, IN A SANDBOX (cutbox-door.mjs). By AI agents, Wed Nov 11 2026. No macro, syntax, notation, axiom, sorry.
-/
import Derived.Test.YtieobcaegegboaaDoorRows
import GoSem.ClaimSeven
namespace Go.Proofs.YtieobcaegegboaaDoor
namespace Rows

/-- THE TIED CARD OF 'pappuslaw10.FeePays'. -/
def feePaysCard : Claim7 := { stood := { row := feePaysRow, standIns := [], harness := (true, "7e570f78af52335cea6e567e14ab65285de09396c661549f0dd8cceb3411fe1e"), looks := false }, kinds := [], alts := [], laidByText := true, laidKinds := [.data, .data], laidTests := true, laidLooks := .later }
def FeePaysCardSaid : Prop := Claim7.holds Tryd.pinned (.plain (OpenSpec.ofChange feePaysSpec)) feePaysCard

/-- THE TIED CARD OF 'pappuslaw10.FeeOrders'. -/
def feeOrdersCard : Claim7 := { stood := { row := feeOrdersRow, standIns := [], harness := (true, "7e570f78af52335cea6e567e14ab65285de09396c661549f0dd8cceb3411fe1e"), looks := false }, kinds := [], alts := [], laidByText := true, laidKinds := [.data, .data], laidTests := true, laidLooks := .later }
def FeeOrdersCardSaid : Prop := Claim7.holds Tryd.pinned (.plain (OpenSpec.ofChange feeOrdersSpec)) feeOrdersCard

/-- THE TIED CARD OF 'pappuslaw10.FeeBalances'. -/
def feeBalancesCard : Claim7 := { stood := { row := feeBalancesRow, standIns := [], harness := (true, "7e570f78af52335cea6e567e14ab65285de09396c661549f0dd8cceb3411fe1e"), looks := false }, kinds := [], alts := [], laidByText := true, laidKinds := [.data, .data], laidTests := true, laidLooks := .later }
def FeeBalancesCardSaid : Prop := Claim7.holds Tryd.pinned (.plain (OpenSpec.ofChange feeBalancesSpec)) feeBalancesCard

/-- THE TIED CARD OF 'pappuslaw10.FeeTakes'. -/
def feeTakesCard : Claim7 := { stood := { row := feeTakesRow, standIns := [], harness := (true, "7e570f78af52335cea6e567e14ab65285de09396c661549f0dd8cceb3411fe1e"), looks := false }, kinds := [], alts := [], laidByText := true, laidKinds := [.data, .data], laidTests := true, laidLooks := .later }
def FeeTakesCardSaid : Prop := Claim7.holds Tryd.pinned (.plain (OpenSpec.ofChange feeTakesSpec)) feeTakesCard

/-- THE TIED CARD OF 'pappuslaw10.FeeLocks'. -/
def feeLocksCard : Claim7 := { stood := { row := feeLocksRow, standIns := [], harness := (true, "7e570f78af52335cea6e567e14ab65285de09396c661549f0dd8cceb3411fe1e"), looks := false }, kinds := [], alts := [], laidByText := true, laidKinds := [.data, .data], laidTests := true, laidLooks := .later }
def FeeLocksCardSaid : Prop := Claim7.holds Tryd.pinned (.plain (OpenSpec.ofChange feeLocksSpec)) feeLocksCard

/-- THE TIED CARD OF 'pappuslaw10.FeeSorted'. -/
def feeSortedCard : Claim7 := { stood := { row := feeSortedRow, standIns := [], harness := (true, "7e570f78af52335cea6e567e14ab65285de09396c661549f0dd8cceb3411fe1e"), looks := false }, kinds := [], alts := [], laidByText := true, laidKinds := [.data, .data], laidTests := true, laidLooks := .later }
def FeeSortedCardSaid : Prop := Claim7.holds Tryd.pinned (.plain (OpenSpec.ofChange feeSortedSpec)) feeSortedCard

/-- THE TIED CARD OF 'pappuslaw10.FeeLess'. -/
def feeLessCard : Claim7 := { stood := { row := feeLessRow, standIns := [], harness := (true, "7e570f78af52335cea6e567e14ab65285de09396c661549f0dd8cceb3411fe1e"), looks := false }, kinds := [], alts := [], laidByText := true, laidKinds := [.data, .data], laidTests := true, laidLooks := .later }
def FeeLessCardSaid : Prop := Claim7.holds Tryd.pinned (.plain (OpenSpec.ofChange feeLessSpec)) feeLessCard

/-- THE TIED CARD OF 'pappuslaw10.FeeFloor'. -/
def feeFloorCard : Claim7 := { stood := { row := feeFloorRow, standIns := [], harness := (true, "7e570f78af52335cea6e567e14ab65285de09396c661549f0dd8cceb3411fe1e"), looks := false }, kinds := [], alts := [], laidByText := true, laidKinds := [.data, .data], laidTests := true, laidLooks := .later }
def FeeFloorCardSaid : Prop := Claim7.holds Tryd.pinned (.plain (OpenSpec.ofChange feeFloorSpec)) feeFloorCard

/-- THE SECOND FORM's CARD OF 'pappuslaw10.FeePays'. -/
def feePaysUptoCard : Claim7 := { stood := { row := feePaysUptoRow, standIns := [], harness := (true, "7e570f78af52335cea6e567e14ab65285de09396c661549f0dd8cceb3411fe1e"), looks := false }, kinds := [], alts := [], laidByText := true, laidKinds := [.data, .data], laidTests := true, laidLooks := .later }
def FeePaysUptoCardSaid : Prop := Claim7.holds Tryd.pinned (.plain (OpenSpec.upto feePaysSpec)) feePaysUptoCard

/-- THE SECOND FORM's CARD OF 'pappuslaw10.FeeOrders'. -/
def feeOrdersUptoCard : Claim7 := { stood := { row := feeOrdersUptoRow, standIns := [], harness := (true, "7e570f78af52335cea6e567e14ab65285de09396c661549f0dd8cceb3411fe1e"), looks := false }, kinds := [], alts := [], laidByText := true, laidKinds := [.data, .data], laidTests := true, laidLooks := .later }
def FeeOrdersUptoCardSaid : Prop := Claim7.holds Tryd.pinned (.plain (OpenSpec.upto feeOrdersSpec)) feeOrdersUptoCard

/-- THE SECOND FORM's CARD OF 'pappuslaw10.FeeBalances'. -/
def feeBalancesUptoCard : Claim7 := { stood := { row := feeBalancesUptoRow, standIns := [], harness := (true, "7e570f78af52335cea6e567e14ab65285de09396c661549f0dd8cceb3411fe1e"), looks := false }, kinds := [], alts := [], laidByText := true, laidKinds := [.data, .data], laidTests := true, laidLooks := .later }
def FeeBalancesUptoCardSaid : Prop := Claim7.holds Tryd.pinned (.plain (OpenSpec.upto feeBalancesSpec)) feeBalancesUptoCard

/-- THE SECOND FORM's CARD OF 'pappuslaw10.FeeTakes'. -/
def feeTakesUptoCard : Claim7 := { stood := { row := feeTakesUptoRow, standIns := [], harness := (true, "7e570f78af52335cea6e567e14ab65285de09396c661549f0dd8cceb3411fe1e"), looks := false }, kinds := [], alts := [], laidByText := true, laidKinds := [.data, .data], laidTests := true, laidLooks := .later }
def FeeTakesUptoCardSaid : Prop := Claim7.holds Tryd.pinned (.plain (OpenSpec.upto feeTakesSpec)) feeTakesUptoCard

/-- THE SECOND FORM's CARD OF 'pappuslaw10.FeeLocks'. -/
def feeLocksUptoCard : Claim7 := { stood := { row := feeLocksUptoRow, standIns := [], harness := (true, "7e570f78af52335cea6e567e14ab65285de09396c661549f0dd8cceb3411fe1e"), looks := false }, kinds := [], alts := [], laidByText := true, laidKinds := [.data, .data], laidTests := true, laidLooks := .later }
def FeeLocksUptoCardSaid : Prop := Claim7.holds Tryd.pinned (.plain (OpenSpec.upto feeLocksSpec)) feeLocksUptoCard

/-- THE SECOND FORM's CARD OF 'pappuslaw10.FeeSorted'. -/
def feeSortedUptoCard : Claim7 := { stood := { row := feeSortedUptoRow, standIns := [], harness := (true, "7e570f78af52335cea6e567e14ab65285de09396c661549f0dd8cceb3411fe1e"), looks := false }, kinds := [], alts := [], laidByText := true, laidKinds := [.data, .data], laidTests := true, laidLooks := .later }
def FeeSortedUptoCardSaid : Prop := Claim7.holds Tryd.pinned (.plain (OpenSpec.upto feeSortedSpec)) feeSortedUptoCard

/-- THE SECOND FORM's CARD OF 'pappuslaw10.FeeLess'. -/
def feeLessUptoCard : Claim7 := { stood := { row := feeLessUptoRow, standIns := [], harness := (true, "7e570f78af52335cea6e567e14ab65285de09396c661549f0dd8cceb3411fe1e"), looks := false }, kinds := [], alts := [], laidByText := true, laidKinds := [.data, .data], laidTests := true, laidLooks := .later }
def FeeLessUptoCardSaid : Prop := Claim7.holds Tryd.pinned (.plain (OpenSpec.upto feeLessSpec)) feeLessUptoCard

/-- THE SECOND FORM's CARD OF 'pappuslaw10.FeeFloor'. -/
def feeFloorUptoCard : Claim7 := { stood := { row := feeFloorUptoRow, standIns := [], harness := (true, "7e570f78af52335cea6e567e14ab65285de09396c661549f0dd8cceb3411fe1e"), looks := false }, kinds := [], alts := [], laidByText := true, laidKinds := [.data, .data], laidTests := true, laidLooks := .later }
def FeeFloorUptoCardSaid : Prop := Claim7.holds Tryd.pinned (.plain (OpenSpec.upto feeFloorSpec)) feeFloorUptoCard
end Rows
end Go.Proofs.YtieobcaegegboaaDoor
