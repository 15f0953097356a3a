/-
  DERIVED. GIVEN WITH THE SEED: THE CARDS: each row of YtpdanieiafjmhaaDoorRows.lean that lists a variable, with what it lists TIED to the program's text (the seventh form; the later family's looks); each row that meets fmt, with fmt's text TOLD by the authors' own Lean function (tested against real Go, not proved from fmt's source: count such statements apart). THE CARD IS WHAT COUNTS. Prove the row's statement (the work); the ties are given (YtpdanieiafjmhaaDoorTie.lean); close each card by the builder's one call (the guide's Derived/Test/ToyasCard.lean, 'card_holds'). Laid BY PROGRAM, IN A SANDBOX (cutbox-door.mjs). By AI agents, Wed Nov 11 2026. No macro, syntax, notation, axiom, sorry.
-/
import Derived.Test.YtpdanieiafjmhaaDoorRows
import GoSem.ClaimSeven
namespace Go.Proofs.YtpdanieiafjmhaaDoor
namespace Rows

/-- THE TIED CARD OF 'pappuslaw03.ShaBlocks'. -/
def shaBlocksCard : Claim7 := { stood := { row := shaBlocksRow, standIns := [], harness := (true, "2ee328f62526b9b6d136924f98e240715d47708dce240f7bdcb2db7e48d5d0c4"), looks := false }, kinds := [], alts := [], laidByText := true, laidKinds := [.data, .data], laidTests := true, laidLooks := .later }
def ShaBlocksCardSaid : Prop := Claim7.holds Tryd.pinned (.plain (OpenSpec.ofChange shaBlocksSpec)) shaBlocksCard

/-- THE TIED CARD OF 'pappuslaw03.ShaLooks'. -/
def shaLooksCard : Claim7 := { stood := { row := shaLooksRow, standIns := [], harness := (true, "2ee328f62526b9b6d136924f98e240715d47708dce240f7bdcb2db7e48d5d0c4"), looks := false }, kinds := [], alts := [], laidByText := true, laidKinds := [.data, .data], laidTests := true, laidLooks := .later }
def ShaLooksCardSaid : Prop := Claim7.holds Tryd.pinned (.plain (OpenSpec.ofChange shaLooksSpec)) shaLooksCard

/-- THE TIED CARD OF 'pappuslaw03.ShaApart'. -/
def shaApartCard : Claim7 := { stood := { row := shaApartRow, standIns := [], harness := (true, "2ee328f62526b9b6d136924f98e240715d47708dce240f7bdcb2db7e48d5d0c4"), looks := false }, kinds := [], alts := [], laidByText := true, laidKinds := [.data, .data], laidTests := true, laidLooks := .later }
def ShaApartCardSaid : Prop := Claim7.holds Tryd.pinned (.plain (OpenSpec.ofChange shaApartSpec)) shaApartCard

/-- THE TIED CARD OF 'pappuslaw03.ShaWhole'. -/
def shaWholeCard : Claim7 := { stood := { row := shaWholeRow, standIns := [], harness := (true, "2ee328f62526b9b6d136924f98e240715d47708dce240f7bdcb2db7e48d5d0c4"), looks := false }, kinds := [], alts := [], laidByText := true, laidKinds := [.data, .data], laidTests := true, laidLooks := .later }
def ShaWholeCardSaid : Prop := Claim7.holds Tryd.pinned (.plain (OpenSpec.ofChange shaWholeSpec)) shaWholeCard

/-- THE TIED CARD OF 'pappuslaw03.ShaPieces'. -/
def shaPiecesCard : Claim7 := { stood := { row := shaPiecesRow, standIns := [], harness := (true, "2ee328f62526b9b6d136924f98e240715d47708dce240f7bdcb2db7e48d5d0c4"), looks := false }, kinds := [], alts := [], laidByText := true, laidKinds := [.data, .data], laidTests := true, laidLooks := .later }
def ShaPiecesCardSaid : Prop := Claim7.holds Tryd.pinned (.plain (OpenSpec.ofChange shaPiecesSpec)) shaPiecesCard

/-- THE TIED CARD OF 'pappuslaw03.ShaSums'. -/
def shaSumsCard : Claim7 := { stood := { row := shaSumsRow, standIns := [], harness := (true, "2ee328f62526b9b6d136924f98e240715d47708dce240f7bdcb2db7e48d5d0c4"), looks := false }, kinds := [], alts := [], laidByText := true, laidKinds := [.data, .data], laidTests := true, laidLooks := .later }
def ShaSumsCardSaid : Prop := Claim7.holds Tryd.pinned (.plain (OpenSpec.ofChange shaSumsSpec)) shaSumsCard

/-- THE TIED CARD OF 'pappuslaw03.ShaTwice'. -/
def shaTwiceCard : Claim7 := { stood := { row := shaTwiceRow, standIns := [], harness := (true, "2ee328f62526b9b6d136924f98e240715d47708dce240f7bdcb2db7e48d5d0c4"), looks := false }, kinds := [], alts := [], laidByText := true, laidKinds := [.data, .data], laidTests := true, laidLooks := .later }
def ShaTwiceCardSaid : Prop := Claim7.holds Tryd.pinned (.plain (OpenSpec.ofChange shaTwiceSpec)) shaTwiceCard

/-- THE TIED CARD OF 'pappuslaw04.MacSums'. -/
def macSumsCard : Claim7 := { stood := { row := macSumsRow, standIns := [], harness := (true, "2ee328f62526b9b6d136924f98e240715d47708dce240f7bdcb2db7e48d5d0c4"), looks := false }, kinds := [], alts := [], laidByText := true, laidKinds := [.data, .data], laidTests := true, laidLooks := .later }
def MacSumsCardSaid : Prop := Claim7.holds Tryd.pinned (.plain (OpenSpec.ofChange macSumsSpec)) macSumsCard

/-- THE TIED CARD OF 'pappuslaw04.MacNested'. -/
def macNestedCard : Claim7 := { stood := { row := macNestedRow, standIns := [], harness := (true, "2ee328f62526b9b6d136924f98e240715d47708dce240f7bdcb2db7e48d5d0c4"), looks := false }, kinds := [], alts := [], laidByText := true, laidKinds := [.data, .data], laidTests := true, laidLooks := .later }
def MacNestedCardSaid : Prop := Claim7.holds Tryd.pinned (.plain (OpenSpec.ofChange macNestedSpec)) macNestedCard

/-- THE TIED CARD OF 'pappuslaw04.MacLong'. -/
def macLongCard : Claim7 := { stood := { row := macLongRow, standIns := [], harness := (true, "2ee328f62526b9b6d136924f98e240715d47708dce240f7bdcb2db7e48d5d0c4"), looks := false }, kinds := [], alts := [], laidByText := true, laidKinds := [.data, .data], laidTests := true, laidLooks := .later }
def MacLongCardSaid : Prop := Claim7.holds Tryd.pinned (.plain (OpenSpec.ofChange macLongSpec)) macLongCard

/-- THE TIED CARD OF 'pappuslaw04.MacSame'. -/
def macSameCard : Claim7 := { stood := { row := macSameRow, standIns := [], harness := (true, "2ee328f62526b9b6d136924f98e240715d47708dce240f7bdcb2db7e48d5d0c4"), looks := false }, kinds := [], alts := [], laidByText := true, laidKinds := [.data, .data], laidTests := true, laidLooks := .later }
def MacSameCardSaid : Prop := Claim7.holds Tryd.pinned (.plain (OpenSpec.ofChange macSameSpec)) macSameCard

/-- THE TIED CARD OF 'pappuslaw04.MacPicks'. -/
def macPicksCard : Claim7 := { stood := { row := macPicksRow, standIns := [], harness := (true, "2ee328f62526b9b6d136924f98e240715d47708dce240f7bdcb2db7e48d5d0c4"), looks := false }, kinds := [], alts := [], laidByText := true, laidKinds := [.data, .data], laidTests := true, laidLooks := .later }
def MacPicksCardSaid : Prop := Claim7.holds Tryd.pinned (.plain (OpenSpec.ofChange macPicksSpec)) macPicksCard

/-- THE TIED CARD OF 'pappuslaw04.MacRoutes'. -/
def macRoutesCard : Claim7 := { stood := { row := macRoutesRow, standIns := [], harness := (true, "2ee328f62526b9b6d136924f98e240715d47708dce240f7bdcb2db7e48d5d0c4"), looks := false }, kinds := [], alts := [], laidByText := true, laidKinds := [.data, .data], laidTests := true, laidLooks := .later }
def MacRoutesCardSaid : Prop := Claim7.holds Tryd.pinned (.plain (OpenSpec.ofChange macRoutesSpec)) macRoutesCard

/-- THE TIED CARD OF 'pappuslaw04.MacWays'. -/
def macWaysCard : Claim7 := { stood := { row := macWaysRow, standIns := [], harness := (true, "2ee328f62526b9b6d136924f98e240715d47708dce240f7bdcb2db7e48d5d0c4"), looks := false }, kinds := [], alts := [], laidByText := true, laidKinds := [.data, .data], laidTests := true, laidLooks := .later }
def MacWaysCardSaid : Prop := Claim7.holds Tryd.pinned (.plain (OpenSpec.ofChange macWaysSpec)) macWaysCard

/-- THE SECOND FORM's CARD OF 'pappuslaw03.ShaBlocks'. -/
def shaBlocksUptoCard : Claim7 := { stood := { row := shaBlocksUptoRow, standIns := [], harness := (true, "2ee328f62526b9b6d136924f98e240715d47708dce240f7bdcb2db7e48d5d0c4"), looks := false }, kinds := [], alts := [], laidByText := true, laidKinds := [.data, .data], laidTests := true, laidLooks := .later }
def ShaBlocksUptoCardSaid : Prop := Claim7.holds Tryd.pinned (.plain (OpenSpec.upto shaBlocksSpec)) shaBlocksUptoCard

/-- THE SECOND FORM's CARD OF 'pappuslaw03.ShaLooks'. -/
def shaLooksUptoCard : Claim7 := { stood := { row := shaLooksUptoRow, standIns := [], harness := (true, "2ee328f62526b9b6d136924f98e240715d47708dce240f7bdcb2db7e48d5d0c4"), looks := false }, kinds := [], alts := [], laidByText := true, laidKinds := [.data, .data], laidTests := true, laidLooks := .later }
def ShaLooksUptoCardSaid : Prop := Claim7.holds Tryd.pinned (.plain (OpenSpec.upto shaLooksSpec)) shaLooksUptoCard

/-- THE SECOND FORM's CARD OF 'pappuslaw03.ShaApart'. -/
def shaApartUptoCard : Claim7 := { stood := { row := shaApartUptoRow, standIns := [], harness := (true, "2ee328f62526b9b6d136924f98e240715d47708dce240f7bdcb2db7e48d5d0c4"), looks := false }, kinds := [], alts := [], laidByText := true, laidKinds := [.data, .data], laidTests := true, laidLooks := .later }
def ShaApartUptoCardSaid : Prop := Claim7.holds Tryd.pinned (.plain (OpenSpec.upto shaApartSpec)) shaApartUptoCard

/-- THE SECOND FORM's CARD OF 'pappuslaw03.ShaWhole'. -/
def shaWholeUptoCard : Claim7 := { stood := { row := shaWholeUptoRow, standIns := [], harness := (true, "2ee328f62526b9b6d136924f98e240715d47708dce240f7bdcb2db7e48d5d0c4"), looks := false }, kinds := [], alts := [], laidByText := true, laidKinds := [.data, .data], laidTests := true, laidLooks := .later }
def ShaWholeUptoCardSaid : Prop := Claim7.holds Tryd.pinned (.plain (OpenSpec.upto shaWholeSpec)) shaWholeUptoCard

/-- THE SECOND FORM's CARD OF 'pappuslaw03.ShaPieces'. -/
def shaPiecesUptoCard : Claim7 := { stood := { row := shaPiecesUptoRow, standIns := [], harness := (true, "2ee328f62526b9b6d136924f98e240715d47708dce240f7bdcb2db7e48d5d0c4"), looks := false }, kinds := [], alts := [], laidByText := true, laidKinds := [.data, .data], laidTests := true, laidLooks := .later }
def ShaPiecesUptoCardSaid : Prop := Claim7.holds Tryd.pinned (.plain (OpenSpec.upto shaPiecesSpec)) shaPiecesUptoCard

/-- THE SECOND FORM's CARD OF 'pappuslaw03.ShaSums'. -/
def shaSumsUptoCard : Claim7 := { stood := { row := shaSumsUptoRow, standIns := [], harness := (true, "2ee328f62526b9b6d136924f98e240715d47708dce240f7bdcb2db7e48d5d0c4"), looks := false }, kinds := [], alts := [], laidByText := true, laidKinds := [.data, .data], laidTests := true, laidLooks := .later }
def ShaSumsUptoCardSaid : Prop := Claim7.holds Tryd.pinned (.plain (OpenSpec.upto shaSumsSpec)) shaSumsUptoCard

/-- THE SECOND FORM's CARD OF 'pappuslaw03.ShaTwice'. -/
def shaTwiceUptoCard : Claim7 := { stood := { row := shaTwiceUptoRow, standIns := [], harness := (true, "2ee328f62526b9b6d136924f98e240715d47708dce240f7bdcb2db7e48d5d0c4"), looks := false }, kinds := [], alts := [], laidByText := true, laidKinds := [.data, .data], laidTests := true, laidLooks := .later }
def ShaTwiceUptoCardSaid : Prop := Claim7.holds Tryd.pinned (.plain (OpenSpec.upto shaTwiceSpec)) shaTwiceUptoCard

/-- THE SECOND FORM's CARD OF 'pappuslaw04.MacSums'. -/
def macSumsUptoCard : Claim7 := { stood := { row := macSumsUptoRow, standIns := [], harness := (true, "2ee328f62526b9b6d136924f98e240715d47708dce240f7bdcb2db7e48d5d0c4"), looks := false }, kinds := [], alts := [], laidByText := true, laidKinds := [.data, .data], laidTests := true, laidLooks := .later }
def MacSumsUptoCardSaid : Prop := Claim7.holds Tryd.pinned (.plain (OpenSpec.upto macSumsSpec)) macSumsUptoCard

/-- THE SECOND FORM's CARD OF 'pappuslaw04.MacNested'. -/
def macNestedUptoCard : Claim7 := { stood := { row := macNestedUptoRow, standIns := [], harness := (true, "2ee328f62526b9b6d136924f98e240715d47708dce240f7bdcb2db7e48d5d0c4"), looks := false }, kinds := [], alts := [], laidByText := true, laidKinds := [.data, .data], laidTests := true, laidLooks := .later }
def MacNestedUptoCardSaid : Prop := Claim7.holds Tryd.pinned (.plain (OpenSpec.upto macNestedSpec)) macNestedUptoCard

/-- THE SECOND FORM's CARD OF 'pappuslaw04.MacLong'. -/
def macLongUptoCard : Claim7 := { stood := { row := macLongUptoRow, standIns := [], harness := (true, "2ee328f62526b9b6d136924f98e240715d47708dce240f7bdcb2db7e48d5d0c4"), looks := false }, kinds := [], alts := [], laidByText := true, laidKinds := [.data, .data], laidTests := true, laidLooks := .later }
def MacLongUptoCardSaid : Prop := Claim7.holds Tryd.pinned (.plain (OpenSpec.upto macLongSpec)) macLongUptoCard

/-- THE SECOND FORM's CARD OF 'pappuslaw04.MacSame'. -/
def macSameUptoCard : Claim7 := { stood := { row := macSameUptoRow, standIns := [], harness := (true, "2ee328f62526b9b6d136924f98e240715d47708dce240f7bdcb2db7e48d5d0c4"), looks := false }, kinds := [], alts := [], laidByText := true, laidKinds := [.data, .data], laidTests := true, laidLooks := .later }
def MacSameUptoCardSaid : Prop := Claim7.holds Tryd.pinned (.plain (OpenSpec.upto macSameSpec)) macSameUptoCard

/-- THE SECOND FORM's CARD OF 'pappuslaw04.MacPicks'. -/
def macPicksUptoCard : Claim7 := { stood := { row := macPicksUptoRow, standIns := [], harness := (true, "2ee328f62526b9b6d136924f98e240715d47708dce240f7bdcb2db7e48d5d0c4"), looks := false }, kinds := [], alts := [], laidByText := true, laidKinds := [.data, .data], laidTests := true, laidLooks := .later }
def MacPicksUptoCardSaid : Prop := Claim7.holds Tryd.pinned (.plain (OpenSpec.upto macPicksSpec)) macPicksUptoCard

/-- THE SECOND FORM's CARD OF 'pappuslaw04.MacRoutes'. -/
def macRoutesUptoCard : Claim7 := { stood := { row := macRoutesUptoRow, standIns := [], harness := (true, "2ee328f62526b9b6d136924f98e240715d47708dce240f7bdcb2db7e48d5d0c4"), looks := false }, kinds := [], alts := [], laidByText := true, laidKinds := [.data, .data], laidTests := true, laidLooks := .later }
def MacRoutesUptoCardSaid : Prop := Claim7.holds Tryd.pinned (.plain (OpenSpec.upto macRoutesSpec)) macRoutesUptoCard

/-- THE SECOND FORM's CARD OF 'pappuslaw04.MacWays'. -/
def macWaysUptoCard : Claim7 := { stood := { row := macWaysUptoRow, standIns := [], harness := (true, "2ee328f62526b9b6d136924f98e240715d47708dce240f7bdcb2db7e48d5d0c4"), looks := false }, kinds := [], alts := [], laidByText := true, laidKinds := [.data, .data], laidTests := true, laidLooks := .later }
def MacWaysUptoCardSaid : Prop := Claim7.holds Tryd.pinned (.plain (OpenSpec.upto macWaysSpec)) macWaysUptoCard
end Rows
end Go.Proofs.YtpdanieiafjmhaaDoor
