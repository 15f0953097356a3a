/-
  NARROWER THAN 'FOR EVERY INPUT', by the rows' own cells (each row's printed sentence says how): ShaBlocks: laid · ShaLooks: laid · ShaApart: laid · ShaWhole: laid · ShaPieces: laid · ShaSums: laid · ShaTwice: laid · MacSums: laid · MacNested: laid · MacLong: laid · MacSame: laid · MacPicks: laid · MacRoutes: laid · MacWays: laid.
  DERIVED. THE GIVEN ROWS OF THIS SEAT. 14 by the template 'for every input the law returns true; each argument reads behind the call as it read before'; 0 by the template 'total and deterministic' (their statements: YtpdanieiafjmhaaDoorTotals.lean).
  GIVEN WITH THE SEED: the statements are not yours to turn. If you find one false, say at which input.
  Laid BY PROGRAM, IN A SANDBOX (cutbox-rows.mjs): the forced cells as the released guide's own fill.sh prints them over the translation 701f51897babd861… (all of the seat's roots in one cut). By AI agents, Wed Nov 11 2026. No macro, syntax, notation, axiom, sorry.
-/
import Derived.Test.YtpdanieiafjmhaaDoorChecked
import GoSem.Claim
import GoSem.ClaimJoined
import GoSem.ClaimMapViews
import Derived.JoinedTies
import Derived.KernelRfl
namespace Go.Proofs.YtpdanieiafjmhaaDoor
/- THE CELL 'sum', in the pinned program and in every row, IS THE sha256 OF THE DUMP (.gsa) THAT YtpdanieiafjmhaaDoorProg.lean LOADS. Nothing in Lean hashes anything: it is a label: what it is worth is what the hold of that sum in a sandbox is worth. -/
noncomputable def Tryd.pinned : Pinned := { name := "ytpdanieiafjmhaadoor", sum := "701f51897babd861d20eb4b2a6d19dcf17632c9adb68f6c85405a50a8d4ee3eb", checked := Tryd.checked }
namespace Rows
def none {H : Type} : Left H := { results := [], args := [] }

/- WHAT THE LISTED PACKAGE-LEVEL VARIABLES READ AS WHEN THE CALL BEGINS. Each datum BY PROGRAM (the guide's laid-datum.mjs) off the statement by which the dump's own 'gosem.cut.vars' lays the variable. In a bare row this is a premise. The card (YtpdanieiafjmhaaDoorCards.lean) ties it to the program's text. -/
def laid_pappus_sha_constants {H : Type} : DataW H := .agg [.lit (.int .u32 1116352408), .lit (.int .u32 1899447441), .lit (.int .u32 3049323471), .lit (.int .u32 3921009573), .lit (.int .u32 961987163), .lit (.int .u32 1508970993), .lit (.int .u32 2453635748), .lit (.int .u32 2870763221), .lit (.int .u32 3624381080), .lit (.int .u32 310598401), .lit (.int .u32 607225278), .lit (.int .u32 1426881987), .lit (.int .u32 1925078388), .lit (.int .u32 2162078206), .lit (.int .u32 2614888103), .lit (.int .u32 3248222580), .lit (.int .u32 3835390401), .lit (.int .u32 4022224774), .lit (.int .u32 264347078), .lit (.int .u32 604807628), .lit (.int .u32 770255983), .lit (.int .u32 1249150122), .lit (.int .u32 1555081692), .lit (.int .u32 1996064986), .lit (.int .u32 2554220882), .lit (.int .u32 2821834349), .lit (.int .u32 2952996808), .lit (.int .u32 3210313671), .lit (.int .u32 3336571891), .lit (.int .u32 3584528711), .lit (.int .u32 113926993), .lit (.int .u32 338241895), .lit (.int .u32 666307205), .lit (.int .u32 773529912), .lit (.int .u32 1294757372), .lit (.int .u32 1396182291), .lit (.int .u32 1695183700), .lit (.int .u32 1986661051), .lit (.int .u32 2177026350), .lit (.int .u32 2456956037), .lit (.int .u32 2730485921), .lit (.int .u32 2820302411), .lit (.int .u32 3259730800), .lit (.int .u32 3345764771), .lit (.int .u32 3516065817), .lit (.int .u32 3600352804), .lit (.int .u32 4094571909), .lit (.int .u32 275423344), .lit (.int .u32 430227734), .lit (.int .u32 506948616), .lit (.int .u32 659060556), .lit (.int .u32 883997877), .lit (.int .u32 958139571), .lit (.int .u32 1322822218), .lit (.int .u32 1537002063), .lit (.int .u32 1747873779), .lit (.int .u32 1955562222), .lit (.int .u32 2024104815), .lit (.int .u32 2227730452), .lit (.int .u32 2361852424), .lit (.int .u32 2428436474), .lit (.int .u32 2756734187), .lit (.int .u32 3204031479), .lit (.int .u32 3329325298)]
def laid_pappus_sha_first {H : Type} : DataW H := .agg [.lit (.int .u32 1779033703), .lit (.int .u32 3144134277), .lit (.int .u32 1013904242), .lit (.int .u32 2773480762), .lit (.int .u32 1359893119), .lit (.int .u32 2600822924), .lit (.int .u32 528734635), .lit (.int .u32 1541459225)]

/-- 'pappuslaw03.ShaBlocks': WHATEVER THE INPUT: true; the input reads as it did. -/
def shaBlocksSpec : ChangeSpec := { name := "shaBlocks", fn := fun _ => fun
  | [d1, d2] => { results := [.lit (.bool true)], args := [d1, d2] }
  | _ => none }
def shaBlocksRow : OpenClaim := { program := "ytpdanieiafjmhaadoor", sum := "701f51897babd861d20eb4b2a6d19dcf17632c9adb68f6c85405a50a8d4ee3eb", func := "pappus/pappuslaw03.ShaBlocks", spec := "shaBlocks", named := ["pappus/sha.first", "pappus/sha.constants"], apart := false, laid := [("pappus/sha.constants", laid_pappus_sha_constants), ("pappus/sha.first", laid_pappus_sha_first)] }
def ShaBlocksSaid : Prop := shaBlocksRow.holds Tryd.pinned (OpenSpec.ofChange shaBlocksSpec)

/-- ITS FALSE NEIGHBOUR: 'it returns false'. Refute it at one input. -/
def shaBlocksWrong : ChangeSpec := { name := "shaBlocks", fn := fun _ => fun
  | [d1, d2] => { results := [.lit (.bool false)], args := [d1, d2] }
  | _ => none }
def ShaBlocksWrongFalsely : Prop := shaBlocksRow.holds Tryd.pinned (OpenSpec.ofChange shaBlocksWrong)

/-- 'pappuslaw03.ShaLooks': WHATEVER THE INPUT: true; the input reads as it did. -/
def shaLooksSpec : ChangeSpec := { name := "shaLooks", fn := fun _ => fun
  | [d1, d2] => { results := [.lit (.bool true)], args := [d1, d2] }
  | _ => none }
def shaLooksRow : OpenClaim := { program := "ytpdanieiafjmhaadoor", sum := "701f51897babd861d20eb4b2a6d19dcf17632c9adb68f6c85405a50a8d4ee3eb", func := "pappus/pappuslaw03.ShaLooks", spec := "shaLooks", named := ["pappus/sha.first", "pappus/sha.constants"], apart := false, laid := [("pappus/sha.constants", laid_pappus_sha_constants), ("pappus/sha.first", laid_pappus_sha_first)] }
def ShaLooksSaid : Prop := shaLooksRow.holds Tryd.pinned (OpenSpec.ofChange shaLooksSpec)

/-- ITS FALSE NEIGHBOUR: 'it returns false'. Refute it at one input. -/
def shaLooksWrong : ChangeSpec := { name := "shaLooks", fn := fun _ => fun
  | [d1, d2] => { results := [.lit (.bool false)], args := [d1, d2] }
  | _ => none }
def ShaLooksWrongFalsely : Prop := shaLooksRow.holds Tryd.pinned (OpenSpec.ofChange shaLooksWrong)

/-- 'pappuslaw03.ShaApart': WHATEVER THE INPUT: true; the input reads as it did. -/
def shaApartSpec : ChangeSpec := { name := "shaApart", fn := fun _ => fun
  | [d1, d2] => { results := [.lit (.bool true)], args := [d1, d2] }
  | _ => none }
def shaApartRow : OpenClaim := { program := "ytpdanieiafjmhaadoor", sum := "701f51897babd861d20eb4b2a6d19dcf17632c9adb68f6c85405a50a8d4ee3eb", func := "pappus/pappuslaw03.ShaApart", spec := "shaApart", named := ["pappus/sha.first", "pappus/sha.constants"], apart := false, laid := [("pappus/sha.constants", laid_pappus_sha_constants), ("pappus/sha.first", laid_pappus_sha_first)] }
def ShaApartSaid : Prop := shaApartRow.holds Tryd.pinned (OpenSpec.ofChange shaApartSpec)

/-- ITS FALSE NEIGHBOUR: 'it returns false'. Refute it at one input. -/
def shaApartWrong : ChangeSpec := { name := "shaApart", fn := fun _ => fun
  | [d1, d2] => { results := [.lit (.bool false)], args := [d1, d2] }
  | _ => none }
def ShaApartWrongFalsely : Prop := shaApartRow.holds Tryd.pinned (OpenSpec.ofChange shaApartWrong)

/-- 'pappuslaw03.ShaWhole': WHATEVER THE INPUT: true; the input reads as it did. -/
def shaWholeSpec : ChangeSpec := { name := "shaWhole", fn := fun _ => fun
  | [d] => { results := [.lit (.bool true)], args := [d] }
  | _ => none }
def shaWholeRow : OpenClaim := { program := "ytpdanieiafjmhaadoor", sum := "701f51897babd861d20eb4b2a6d19dcf17632c9adb68f6c85405a50a8d4ee3eb", func := "pappus/pappuslaw03.ShaWhole", spec := "shaWhole", named := ["pappus/sha.first", "pappus/sha.constants"], apart := false, laid := [("pappus/sha.constants", laid_pappus_sha_constants), ("pappus/sha.first", laid_pappus_sha_first)] }
def ShaWholeSaid : Prop := shaWholeRow.holds Tryd.pinned (OpenSpec.ofChange shaWholeSpec)

/-- ITS FALSE NEIGHBOUR: 'it returns false'. Refute it at one input. -/
def shaWholeWrong : ChangeSpec := { name := "shaWhole", fn := fun _ => fun
  | [d] => { results := [.lit (.bool false)], args := [d] }
  | _ => none }
def ShaWholeWrongFalsely : Prop := shaWholeRow.holds Tryd.pinned (OpenSpec.ofChange shaWholeWrong)

/-- 'pappuslaw03.ShaPieces': WHATEVER THE INPUT: true; the input reads as it did. -/
def shaPiecesSpec : ChangeSpec := { name := "shaPieces", fn := fun _ => fun
  | [d1, d2] => { results := [.lit (.bool true)], args := [d1, d2] }
  | _ => none }
def shaPiecesRow : OpenClaim := { program := "ytpdanieiafjmhaadoor", sum := "701f51897babd861d20eb4b2a6d19dcf17632c9adb68f6c85405a50a8d4ee3eb", func := "pappus/pappuslaw03.ShaPieces", spec := "shaPieces", named := ["pappus/sha.first", "pappus/sha.constants"], apart := false, laid := [("pappus/sha.constants", laid_pappus_sha_constants), ("pappus/sha.first", laid_pappus_sha_first)] }
def ShaPiecesSaid : Prop := shaPiecesRow.holds Tryd.pinned (OpenSpec.ofChange shaPiecesSpec)

/-- ITS FALSE NEIGHBOUR: 'it returns false'. Refute it at one input. -/
def shaPiecesWrong : ChangeSpec := { name := "shaPieces", fn := fun _ => fun
  | [d1, d2] => { results := [.lit (.bool false)], args := [d1, d2] }
  | _ => none }
def ShaPiecesWrongFalsely : Prop := shaPiecesRow.holds Tryd.pinned (OpenSpec.ofChange shaPiecesWrong)

/-- 'pappuslaw03.ShaSums': WHATEVER THE INPUT: true; the input reads as it did. -/
def shaSumsSpec : ChangeSpec := { name := "shaSums", fn := fun _ => fun
  | [d] => { results := [.lit (.bool true)], args := [d] }
  | _ => none }
def shaSumsRow : OpenClaim := { program := "ytpdanieiafjmhaadoor", sum := "701f51897babd861d20eb4b2a6d19dcf17632c9adb68f6c85405a50a8d4ee3eb", func := "pappus/pappuslaw03.ShaSums", spec := "shaSums", named := ["pappus/sha.first", "pappus/sha.constants"], apart := false, laid := [("pappus/sha.constants", laid_pappus_sha_constants), ("pappus/sha.first", laid_pappus_sha_first)] }
def ShaSumsSaid : Prop := shaSumsRow.holds Tryd.pinned (OpenSpec.ofChange shaSumsSpec)

/-- ITS FALSE NEIGHBOUR: 'it returns false'. Refute it at one input. -/
def shaSumsWrong : ChangeSpec := { name := "shaSums", fn := fun _ => fun
  | [d] => { results := [.lit (.bool false)], args := [d] }
  | _ => none }
def ShaSumsWrongFalsely : Prop := shaSumsRow.holds Tryd.pinned (OpenSpec.ofChange shaSumsWrong)

/-- 'pappuslaw03.ShaTwice': WHATEVER THE INPUT: true; the input reads as it did. -/
def shaTwiceSpec : ChangeSpec := { name := "shaTwice", fn := fun _ => fun
  | [d] => { results := [.lit (.bool true)], args := [d] }
  | _ => none }
def shaTwiceRow : OpenClaim := { program := "ytpdanieiafjmhaadoor", sum := "701f51897babd861d20eb4b2a6d19dcf17632c9adb68f6c85405a50a8d4ee3eb", func := "pappus/pappuslaw03.ShaTwice", spec := "shaTwice", named := ["pappus/sha.first", "pappus/sha.constants"], apart := false, laid := [("pappus/sha.constants", laid_pappus_sha_constants), ("pappus/sha.first", laid_pappus_sha_first)] }
def ShaTwiceSaid : Prop := shaTwiceRow.holds Tryd.pinned (OpenSpec.ofChange shaTwiceSpec)

/-- ITS FALSE NEIGHBOUR: 'it returns false'. Refute it at one input. -/
def shaTwiceWrong : ChangeSpec := { name := "shaTwice", fn := fun _ => fun
  | [d] => { results := [.lit (.bool false)], args := [d] }
  | _ => none }
def ShaTwiceWrongFalsely : Prop := shaTwiceRow.holds Tryd.pinned (OpenSpec.ofChange shaTwiceWrong)

/-- 'pappuslaw04.MacSums': WHATEVER THE INPUT: true; the input reads as it did. -/
def macSumsSpec : ChangeSpec := { name := "macSums", fn := fun _ => fun
  | [d1, d2] => { results := [.lit (.bool true)], args := [d1, d2] }
  | _ => none }
def macSumsRow : OpenClaim := { program := "ytpdanieiafjmhaadoor", sum := "701f51897babd861d20eb4b2a6d19dcf17632c9adb68f6c85405a50a8d4ee3eb", func := "pappus/pappuslaw04.MacSums", spec := "macSums", named := ["pappus/sha.first", "pappus/sha.constants"], apart := false, laid := [("pappus/sha.constants", laid_pappus_sha_constants), ("pappus/sha.first", laid_pappus_sha_first)] }
def MacSumsSaid : Prop := macSumsRow.holds Tryd.pinned (OpenSpec.ofChange macSumsSpec)

/-- ITS FALSE NEIGHBOUR: 'it returns false'. Refute it at one input. -/
def macSumsWrong : ChangeSpec := { name := "macSums", fn := fun _ => fun
  | [d1, d2] => { results := [.lit (.bool false)], args := [d1, d2] }
  | _ => none }
def MacSumsWrongFalsely : Prop := macSumsRow.holds Tryd.pinned (OpenSpec.ofChange macSumsWrong)

/-- 'pappuslaw04.MacNested': WHATEVER THE INPUT: true; the input reads as it did. -/
def macNestedSpec : ChangeSpec := { name := "macNested", fn := fun _ => fun
  | [d1, d2, d3] => { results := [.lit (.bool true)], args := [d1, d2, d3] }
  | _ => none }
def macNestedRow : OpenClaim := { program := "ytpdanieiafjmhaadoor", sum := "701f51897babd861d20eb4b2a6d19dcf17632c9adb68f6c85405a50a8d4ee3eb", func := "pappus/pappuslaw04.MacNested", spec := "macNested", named := ["pappus/sha.first", "pappus/sha.constants"], apart := false, laid := [("pappus/sha.constants", laid_pappus_sha_constants), ("pappus/sha.first", laid_pappus_sha_first)] }
def MacNestedSaid : Prop := macNestedRow.holds Tryd.pinned (OpenSpec.ofChange macNestedSpec)

/-- ITS FALSE NEIGHBOUR: 'it returns false'. Refute it at one input. -/
def macNestedWrong : ChangeSpec := { name := "macNested", fn := fun _ => fun
  | [d1, d2, d3] => { results := [.lit (.bool false)], args := [d1, d2, d3] }
  | _ => none }
def MacNestedWrongFalsely : Prop := macNestedRow.holds Tryd.pinned (OpenSpec.ofChange macNestedWrong)

/-- 'pappuslaw04.MacLong': WHATEVER THE INPUT: true; the input reads as it did. -/
def macLongSpec : ChangeSpec := { name := "macLong", fn := fun _ => fun
  | [d1, d2] => { results := [.lit (.bool true)], args := [d1, d2] }
  | _ => none }
def macLongRow : OpenClaim := { program := "ytpdanieiafjmhaadoor", sum := "701f51897babd861d20eb4b2a6d19dcf17632c9adb68f6c85405a50a8d4ee3eb", func := "pappus/pappuslaw04.MacLong", spec := "macLong", named := ["pappus/sha.first", "pappus/sha.constants"], apart := false, laid := [("pappus/sha.constants", laid_pappus_sha_constants), ("pappus/sha.first", laid_pappus_sha_first)] }
def MacLongSaid : Prop := macLongRow.holds Tryd.pinned (OpenSpec.ofChange macLongSpec)

/-- ITS FALSE NEIGHBOUR: 'it returns false'. Refute it at one input. -/
def macLongWrong : ChangeSpec := { name := "macLong", fn := fun _ => fun
  | [d1, d2] => { results := [.lit (.bool false)], args := [d1, d2] }
  | _ => none }
def MacLongWrongFalsely : Prop := macLongRow.holds Tryd.pinned (OpenSpec.ofChange macLongWrong)

/-- 'pappuslaw04.MacSame': WHATEVER THE INPUT: true; the input reads as it did. -/
def macSameSpec : ChangeSpec := { name := "macSame", fn := fun _ => fun
  | [d1, d2, d3] => { results := [.lit (.bool true)], args := [d1, d2, d3] }
  | _ => none }
def macSameRow : OpenClaim := { program := "ytpdanieiafjmhaadoor", sum := "701f51897babd861d20eb4b2a6d19dcf17632c9adb68f6c85405a50a8d4ee3eb", func := "pappus/pappuslaw04.MacSame", spec := "macSame", named := ["pappus/sha.first", "pappus/sha.constants"], apart := false, laid := [("pappus/sha.constants", laid_pappus_sha_constants), ("pappus/sha.first", laid_pappus_sha_first)] }
def MacSameSaid : Prop := macSameRow.holds Tryd.pinned (OpenSpec.ofChange macSameSpec)

/-- ITS FALSE NEIGHBOUR: 'it returns false'. Refute it at one input. -/
def macSameWrong : ChangeSpec := { name := "macSame", fn := fun _ => fun
  | [d1, d2, d3] => { results := [.lit (.bool false)], args := [d1, d2, d3] }
  | _ => none }
def MacSameWrongFalsely : Prop := macSameRow.holds Tryd.pinned (OpenSpec.ofChange macSameWrong)

/-- 'pappuslaw04.MacPicks': WHATEVER THE INPUT: true; the input reads as it did. -/
def macPicksSpec : ChangeSpec := { name := "macPicks", fn := fun _ => fun
  | [d1, d2] => { results := [.lit (.bool true)], args := [d1, d2] }
  | _ => none }
def macPicksRow : OpenClaim := { program := "ytpdanieiafjmhaadoor", sum := "701f51897babd861d20eb4b2a6d19dcf17632c9adb68f6c85405a50a8d4ee3eb", func := "pappus/pappuslaw04.MacPicks", spec := "macPicks", named := ["pappus/sha.first", "pappus/sha.constants"], apart := false, laid := [("pappus/sha.constants", laid_pappus_sha_constants), ("pappus/sha.first", laid_pappus_sha_first)] }
def MacPicksSaid : Prop := macPicksRow.holds Tryd.pinned (OpenSpec.ofChange macPicksSpec)

/-- ITS FALSE NEIGHBOUR: 'it returns false'. Refute it at one input. -/
def macPicksWrong : ChangeSpec := { name := "macPicks", fn := fun _ => fun
  | [d1, d2] => { results := [.lit (.bool false)], args := [d1, d2] }
  | _ => none }
def MacPicksWrongFalsely : Prop := macPicksRow.holds Tryd.pinned (OpenSpec.ofChange macPicksWrong)

/-- 'pappuslaw04.MacRoutes': WHATEVER THE INPUT: true; the input reads as it did. -/
def macRoutesSpec : ChangeSpec := { name := "macRoutes", fn := fun _ => fun
  | [d] => { results := [.lit (.bool true)], args := [d] }
  | _ => none }
def macRoutesRow : OpenClaim := { program := "ytpdanieiafjmhaadoor", sum := "701f51897babd861d20eb4b2a6d19dcf17632c9adb68f6c85405a50a8d4ee3eb", func := "pappus/pappuslaw04.MacRoutes", spec := "macRoutes", named := ["pappus/sha.first", "pappus/sha.constants"], apart := false, laid := [("pappus/sha.constants", laid_pappus_sha_constants), ("pappus/sha.first", laid_pappus_sha_first)] }
def MacRoutesSaid : Prop := macRoutesRow.holds Tryd.pinned (OpenSpec.ofChange macRoutesSpec)

/-- ITS FALSE NEIGHBOUR: 'it returns false'. Refute it at one input. -/
def macRoutesWrong : ChangeSpec := { name := "macRoutes", fn := fun _ => fun
  | [d] => { results := [.lit (.bool false)], args := [d] }
  | _ => none }
def MacRoutesWrongFalsely : Prop := macRoutesRow.holds Tryd.pinned (OpenSpec.ofChange macRoutesWrong)

/-- 'pappuslaw04.MacWays': WHATEVER THE INPUT: true; the input reads as it did. -/
def macWaysSpec : ChangeSpec := { name := "macWays", fn := fun _ => fun
  | [d] => { results := [.lit (.bool true)], args := [d] }
  | _ => none }
def macWaysRow : OpenClaim := { program := "ytpdanieiafjmhaadoor", sum := "701f51897babd861d20eb4b2a6d19dcf17632c9adb68f6c85405a50a8d4ee3eb", func := "pappus/pappuslaw04.MacWays", spec := "macWays", named := ["pappus/sha.first", "pappus/sha.constants"], apart := false, laid := [("pappus/sha.constants", laid_pappus_sha_constants), ("pappus/sha.first", laid_pappus_sha_first)] }
def MacWaysSaid : Prop := macWaysRow.holds Tryd.pinned (OpenSpec.ofChange macWaysSpec)

/-- ITS FALSE NEIGHBOUR: 'it returns false'. Refute it at one input. -/
def macWaysWrong : ChangeSpec := { name := "macWays", fn := fun _ => fun
  | [d] => { results := [.lit (.bool false)], args := [d] }
  | _ => none }
def MacWaysWrongFalsely : Prop := macWaysRow.holds Tryd.pinned (OpenSpec.ofChange macWaysWrong)

/- THE SECOND FORM. 'bulk': how many values and letters a reading holds, each counted each time it is reached (what is shared counts as often as it is met; a slice's spare places count too). A statement '..UptoSaid' is the law's where the arguments, and the package variables that the reading takes, are together of bulk at most 1048576: NARROWER than '..Said'. Prove '..Said' where nothing that the law and all that it calls make is longer than what came in: it says more and counts as full. Else prove '..UptoSaid'. A law counts once. -/
mutual
def uptoBulk {H : Type} : DataW H → Nat
  | .lit (.string bytes) => bytes.length + 1
  | .lit _ => 1
  | .nil => 1
  | .ptr d => uptoBulk d + 1
  | .slice elems spare => uptoBulkAll elems + uptoBulkAll spare + 1
  | .agg parts => uptoBulkAll parts + 1
  | .iface _ d => uptoBulk d + 1
  | .map entries => uptoBulkEntries entries + 1
  | .held _ => 1
def uptoBulkAll {H : Type} : List (DataW H) → Nat
  | [] => 0
  | d :: r => uptoBulk d + uptoBulkAll r
def uptoBulkEntries {H : Type} : List (Lit × DataW H) → Nat
  | [] => 0
  | x :: r => uptoBulkEntry x + uptoBulkEntries r
def uptoBulkEntry {H : Type} : Lit × DataW H → Nat
  | (.string bytes, d) => bytes.length + uptoBulk d + 1
  | (_, d) => uptoBulk d + 1
 end
def uptoSmall : (H : Type) → List (DataW H) → Bool := fun _ ds => decide (uptoBulkAll ds ≤ 1048576)
def OpenSpec.upto (s : _root_.Go.ChangeSpec) : _root_.Go.OpenSpec := { _root_.Go.OpenSpec.ofChange s with cond := some uptoSmall }

/-- 'pappuslaw03.ShaBlocks', WHERE WHAT IT READS IS OF BULK AT MOST 1048576: true; the input reads as it did. -/
def shaBlocksUptoRow : OpenClaim := { program := "ytpdanieiafjmhaadoor", sum := "701f51897babd861d20eb4b2a6d19dcf17632c9adb68f6c85405a50a8d4ee3eb", func := "pappus/pappuslaw03.ShaBlocks", spec := "shaBlocks", named := ["pappus/sha.first", "pappus/sha.constants"], apart := false, laid := [("pappus/sha.constants", laid_pappus_sha_constants), ("pappus/sha.first", laid_pappus_sha_first)], narrowed := true }
def ShaBlocksUptoSaid : Prop := shaBlocksUptoRow.holds Tryd.pinned (OpenSpec.upto shaBlocksSpec)

/-- 'pappuslaw03.ShaLooks', WHERE WHAT IT READS IS OF BULK AT MOST 1048576: true; the input reads as it did. -/
def shaLooksUptoRow : OpenClaim := { program := "ytpdanieiafjmhaadoor", sum := "701f51897babd861d20eb4b2a6d19dcf17632c9adb68f6c85405a50a8d4ee3eb", func := "pappus/pappuslaw03.ShaLooks", spec := "shaLooks", named := ["pappus/sha.first", "pappus/sha.constants"], apart := false, laid := [("pappus/sha.constants", laid_pappus_sha_constants), ("pappus/sha.first", laid_pappus_sha_first)], narrowed := true }
def ShaLooksUptoSaid : Prop := shaLooksUptoRow.holds Tryd.pinned (OpenSpec.upto shaLooksSpec)

/-- 'pappuslaw03.ShaApart', WHERE WHAT IT READS IS OF BULK AT MOST 1048576: true; the input reads as it did. -/
def shaApartUptoRow : OpenClaim := { program := "ytpdanieiafjmhaadoor", sum := "701f51897babd861d20eb4b2a6d19dcf17632c9adb68f6c85405a50a8d4ee3eb", func := "pappus/pappuslaw03.ShaApart", spec := "shaApart", named := ["pappus/sha.first", "pappus/sha.constants"], apart := false, laid := [("pappus/sha.constants", laid_pappus_sha_constants), ("pappus/sha.first", laid_pappus_sha_first)], narrowed := true }
def ShaApartUptoSaid : Prop := shaApartUptoRow.holds Tryd.pinned (OpenSpec.upto shaApartSpec)

/-- 'pappuslaw03.ShaWhole', WHERE WHAT IT READS IS OF BULK AT MOST 1048576: true; the input reads as it did. -/
def shaWholeUptoRow : OpenClaim := { program := "ytpdanieiafjmhaadoor", sum := "701f51897babd861d20eb4b2a6d19dcf17632c9adb68f6c85405a50a8d4ee3eb", func := "pappus/pappuslaw03.ShaWhole", spec := "shaWhole", named := ["pappus/sha.first", "pappus/sha.constants"], apart := false, laid := [("pappus/sha.constants", laid_pappus_sha_constants), ("pappus/sha.first", laid_pappus_sha_first)], narrowed := true }
def ShaWholeUptoSaid : Prop := shaWholeUptoRow.holds Tryd.pinned (OpenSpec.upto shaWholeSpec)

/-- 'pappuslaw03.ShaPieces', WHERE WHAT IT READS IS OF BULK AT MOST 1048576: true; the input reads as it did. -/
def shaPiecesUptoRow : OpenClaim := { program := "ytpdanieiafjmhaadoor", sum := "701f51897babd861d20eb4b2a6d19dcf17632c9adb68f6c85405a50a8d4ee3eb", func := "pappus/pappuslaw03.ShaPieces", spec := "shaPieces", named := ["pappus/sha.first", "pappus/sha.constants"], apart := false, laid := [("pappus/sha.constants", laid_pappus_sha_constants), ("pappus/sha.first", laid_pappus_sha_first)], narrowed := true }
def ShaPiecesUptoSaid : Prop := shaPiecesUptoRow.holds Tryd.pinned (OpenSpec.upto shaPiecesSpec)

/-- 'pappuslaw03.ShaSums', WHERE WHAT IT READS IS OF BULK AT MOST 1048576: true; the input reads as it did. -/
def shaSumsUptoRow : OpenClaim := { program := "ytpdanieiafjmhaadoor", sum := "701f51897babd861d20eb4b2a6d19dcf17632c9adb68f6c85405a50a8d4ee3eb", func := "pappus/pappuslaw03.ShaSums", spec := "shaSums", named := ["pappus/sha.first", "pappus/sha.constants"], apart := false, laid := [("pappus/sha.constants", laid_pappus_sha_constants), ("pappus/sha.first", laid_pappus_sha_first)], narrowed := true }
def ShaSumsUptoSaid : Prop := shaSumsUptoRow.holds Tryd.pinned (OpenSpec.upto shaSumsSpec)

/-- 'pappuslaw03.ShaTwice', WHERE WHAT IT READS IS OF BULK AT MOST 1048576: true; the input reads as it did. -/
def shaTwiceUptoRow : OpenClaim := { program := "ytpdanieiafjmhaadoor", sum := "701f51897babd861d20eb4b2a6d19dcf17632c9adb68f6c85405a50a8d4ee3eb", func := "pappus/pappuslaw03.ShaTwice", spec := "shaTwice", named := ["pappus/sha.first", "pappus/sha.constants"], apart := false, laid := [("pappus/sha.constants", laid_pappus_sha_constants), ("pappus/sha.first", laid_pappus_sha_first)], narrowed := true }
def ShaTwiceUptoSaid : Prop := shaTwiceUptoRow.holds Tryd.pinned (OpenSpec.upto shaTwiceSpec)

/-- 'pappuslaw04.MacSums', WHERE WHAT IT READS IS OF BULK AT MOST 1048576: true; the input reads as it did. -/
def macSumsUptoRow : OpenClaim := { program := "ytpdanieiafjmhaadoor", sum := "701f51897babd861d20eb4b2a6d19dcf17632c9adb68f6c85405a50a8d4ee3eb", func := "pappus/pappuslaw04.MacSums", spec := "macSums", named := ["pappus/sha.first", "pappus/sha.constants"], apart := false, laid := [("pappus/sha.constants", laid_pappus_sha_constants), ("pappus/sha.first", laid_pappus_sha_first)], narrowed := true }
def MacSumsUptoSaid : Prop := macSumsUptoRow.holds Tryd.pinned (OpenSpec.upto macSumsSpec)

/-- 'pappuslaw04.MacNested', WHERE WHAT IT READS IS OF BULK AT MOST 1048576: true; the input reads as it did. -/
def macNestedUptoRow : OpenClaim := { program := "ytpdanieiafjmhaadoor", sum := "701f51897babd861d20eb4b2a6d19dcf17632c9adb68f6c85405a50a8d4ee3eb", func := "pappus/pappuslaw04.MacNested", spec := "macNested", named := ["pappus/sha.first", "pappus/sha.constants"], apart := false, laid := [("pappus/sha.constants", laid_pappus_sha_constants), ("pappus/sha.first", laid_pappus_sha_first)], narrowed := true }
def MacNestedUptoSaid : Prop := macNestedUptoRow.holds Tryd.pinned (OpenSpec.upto macNestedSpec)

/-- 'pappuslaw04.MacLong', WHERE WHAT IT READS IS OF BULK AT MOST 1048576: true; the input reads as it did. -/
def macLongUptoRow : OpenClaim := { program := "ytpdanieiafjmhaadoor", sum := "701f51897babd861d20eb4b2a6d19dcf17632c9adb68f6c85405a50a8d4ee3eb", func := "pappus/pappuslaw04.MacLong", spec := "macLong", named := ["pappus/sha.first", "pappus/sha.constants"], apart := false, laid := [("pappus/sha.constants", laid_pappus_sha_constants), ("pappus/sha.first", laid_pappus_sha_first)], narrowed := true }
def MacLongUptoSaid : Prop := macLongUptoRow.holds Tryd.pinned (OpenSpec.upto macLongSpec)

/-- 'pappuslaw04.MacSame', WHERE WHAT IT READS IS OF BULK AT MOST 1048576: true; the input reads as it did. -/
def macSameUptoRow : OpenClaim := { program := "ytpdanieiafjmhaadoor", sum := "701f51897babd861d20eb4b2a6d19dcf17632c9adb68f6c85405a50a8d4ee3eb", func := "pappus/pappuslaw04.MacSame", spec := "macSame", named := ["pappus/sha.first", "pappus/sha.constants"], apart := false, laid := [("pappus/sha.constants", laid_pappus_sha_constants), ("pappus/sha.first", laid_pappus_sha_first)], narrowed := true }
def MacSameUptoSaid : Prop := macSameUptoRow.holds Tryd.pinned (OpenSpec.upto macSameSpec)

/-- 'pappuslaw04.MacPicks', WHERE WHAT IT READS IS OF BULK AT MOST 1048576: true; the input reads as it did. -/
def macPicksUptoRow : OpenClaim := { program := "ytpdanieiafjmhaadoor", sum := "701f51897babd861d20eb4b2a6d19dcf17632c9adb68f6c85405a50a8d4ee3eb", func := "pappus/pappuslaw04.MacPicks", spec := "macPicks", named := ["pappus/sha.first", "pappus/sha.constants"], apart := false, laid := [("pappus/sha.constants", laid_pappus_sha_constants), ("pappus/sha.first", laid_pappus_sha_first)], narrowed := true }
def MacPicksUptoSaid : Prop := macPicksUptoRow.holds Tryd.pinned (OpenSpec.upto macPicksSpec)

/-- 'pappuslaw04.MacRoutes', WHERE WHAT IT READS IS OF BULK AT MOST 1048576: true; the input reads as it did. -/
def macRoutesUptoRow : OpenClaim := { program := "ytpdanieiafjmhaadoor", sum := "701f51897babd861d20eb4b2a6d19dcf17632c9adb68f6c85405a50a8d4ee3eb", func := "pappus/pappuslaw04.MacRoutes", spec := "macRoutes", named := ["pappus/sha.first", "pappus/sha.constants"], apart := false, laid := [("pappus/sha.constants", laid_pappus_sha_constants), ("pappus/sha.first", laid_pappus_sha_first)], narrowed := true }
def MacRoutesUptoSaid : Prop := macRoutesUptoRow.holds Tryd.pinned (OpenSpec.upto macRoutesSpec)

/-- 'pappuslaw04.MacWays', WHERE WHAT IT READS IS OF BULK AT MOST 1048576: true; the input reads as it did. -/
def macWaysUptoRow : OpenClaim := { program := "ytpdanieiafjmhaadoor", sum := "701f51897babd861d20eb4b2a6d19dcf17632c9adb68f6c85405a50a8d4ee3eb", func := "pappus/pappuslaw04.MacWays", spec := "macWays", named := ["pappus/sha.first", "pappus/sha.constants"], apart := false, laid := [("pappus/sha.constants", laid_pappus_sha_constants), ("pappus/sha.first", laid_pappus_sha_first)], narrowed := true }
def MacWaysUptoSaid : Prop := macWaysUptoRow.holds Tryd.pinned (OpenSpec.upto macWaysSpec)

end Rows
end Go.Proofs.YtpdanieiafjmhaaDoor
