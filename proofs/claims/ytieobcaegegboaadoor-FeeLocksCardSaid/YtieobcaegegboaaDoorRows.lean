/-
  NARROWER THAN 'FOR EVERY INPUT', by the rows' own cells (each row's printed sentence says how): FeePays: laid · FeeOrders: laid · FeeBalances: laid · FeeTakes: laid · FeeLocks: laid · FeeSorted: laid · FeeLess: laid · FeeFloor: laid.
  DERIVED. THE GIVEN ROWS OF THIS SEAT. 8 by the template 'for every input the law returns true; each argument reads behind the call as it read before'; 0 by the template 'total and deterministic' (their statements: YtieobcaegegboaaDoorTotals.lean).
  GIVEN WITH THE SEED: the statements are not yours to turn. If you find one false, say at which input.
  Laid BY PROGRAM, IN A SANDBOX (cutbox-rows.mjs): the forced cells as the released guide's own fill.sh prints them over the translation 38949461a4a0cb36… (all of the seat's roots in one cut). By AI agents, Wed Nov 11 2026. No macro, syntax, notation, axiom, sorry.
-/
import Derived.Test.YtieobcaegegboaaDoorChecked
import GoSem.Claim
import GoSem.ClaimJoined
import GoSem.ClaimMapViews
import Derived.JoinedTies
import Derived.KernelRfl
namespace Go.Proofs.YtieobcaegegboaaDoor
/- THE CELL 'sum', in the pinned program and in every row, IS THE sha256 OF THE DUMP (.gsa) THAT YtieobcaegegboaaDoorProg.lean LOADS. Nothing in Lean hashes anything: it is a label: what it is worth is what the hold of that sum in a sandbox is worth. -/
noncomputable def Tryd.pinned : Pinned := { name := "ytieobcaegegboaadoor", sum := "38949461a4a0cb3660c9b5ef1de701e6180734d31e9d46006e70fe35132fe204", checked := Tryd.checked }
namespace Rows
def none {H : Type} : Left H := { results := [], args := [] }

/- WHAT THE LISTED PACKAGE-LEVEL VARIABLES READ AS WHEN THE CALL BEGINS. Each datum BY PROGRAM (the guide's laid-datum.mjs) off the statement by which the dump's own 'gosem.cut.vars' lays the variable. In a bare row this is a premise. The card (YtieobcaegegboaaDoorCards.lean) ties it to the program's text. -/
def laid_pappus_sha_constants {H : Type} : DataW H := .agg [.lit (.int .u32 1116352408), .lit (.int .u32 1899447441), .lit (.int .u32 3049323471), .lit (.int .u32 3921009573), .lit (.int .u32 961987163), .lit (.int .u32 1508970993), .lit (.int .u32 2453635748), .lit (.int .u32 2870763221), .lit (.int .u32 3624381080), .lit (.int .u32 310598401), .lit (.int .u32 607225278), .lit (.int .u32 1426881987), .lit (.int .u32 1925078388), .lit (.int .u32 2162078206), .lit (.int .u32 2614888103), .lit (.int .u32 3248222580), .lit (.int .u32 3835390401), .lit (.int .u32 4022224774), .lit (.int .u32 264347078), .lit (.int .u32 604807628), .lit (.int .u32 770255983), .lit (.int .u32 1249150122), .lit (.int .u32 1555081692), .lit (.int .u32 1996064986), .lit (.int .u32 2554220882), .lit (.int .u32 2821834349), .lit (.int .u32 2952996808), .lit (.int .u32 3210313671), .lit (.int .u32 3336571891), .lit (.int .u32 3584528711), .lit (.int .u32 113926993), .lit (.int .u32 338241895), .lit (.int .u32 666307205), .lit (.int .u32 773529912), .lit (.int .u32 1294757372), .lit (.int .u32 1396182291), .lit (.int .u32 1695183700), .lit (.int .u32 1986661051), .lit (.int .u32 2177026350), .lit (.int .u32 2456956037), .lit (.int .u32 2730485921), .lit (.int .u32 2820302411), .lit (.int .u32 3259730800), .lit (.int .u32 3345764771), .lit (.int .u32 3516065817), .lit (.int .u32 3600352804), .lit (.int .u32 4094571909), .lit (.int .u32 275423344), .lit (.int .u32 430227734), .lit (.int .u32 506948616), .lit (.int .u32 659060556), .lit (.int .u32 883997877), .lit (.int .u32 958139571), .lit (.int .u32 1322822218), .lit (.int .u32 1537002063), .lit (.int .u32 1747873779), .lit (.int .u32 1955562222), .lit (.int .u32 2024104815), .lit (.int .u32 2227730452), .lit (.int .u32 2361852424), .lit (.int .u32 2428436474), .lit (.int .u32 2756734187), .lit (.int .u32 3204031479), .lit (.int .u32 3329325298)]
def laid_pappus_sha_first {H : Type} : DataW H := .agg [.lit (.int .u32 1779033703), .lit (.int .u32 3144134277), .lit (.int .u32 1013904242), .lit (.int .u32 2773480762), .lit (.int .u32 1359893119), .lit (.int .u32 2600822924), .lit (.int .u32 528734635), .lit (.int .u32 1541459225)]

/-- 'pappuslaw10.FeePays': WHATEVER THE INPUT: true; the input reads as it did. -/
def feePaysSpec : ChangeSpec := { name := "feePays", fn := fun _ => fun
  | [d1, d2, d3] => { results := [.lit (.bool true)], args := [d1, d2, d3] }
  | _ => none }
def feePaysRow : OpenClaim := { program := "ytieobcaegegboaadoor", sum := "38949461a4a0cb3660c9b5ef1de701e6180734d31e9d46006e70fe35132fe204", func := "pappus/pappuslaw10.FeePays", spec := "feePays", inPlace := ["math/bits.Add64", "math/bits.Sub64"], unfollowed := true, recurses := true, named := ["pappus/sha.first", "pappus/sha.constants", "math/bits.divideError", "math/bits.overflowError"], plainKeys := false, apart := false, laid := [("pappus/sha.constants", laid_pappus_sha_constants), ("pappus/sha.first", laid_pappus_sha_first)] }
def FeePaysSaid : Prop := feePaysRow.holds Tryd.pinned (OpenSpec.ofChange feePaysSpec)

/-- ITS FALSE NEIGHBOUR: 'it returns false'. Refute it at one input. -/
def feePaysWrong : ChangeSpec := { name := "feePays", fn := fun _ => fun
  | [d1, d2, d3] => { results := [.lit (.bool false)], args := [d1, d2, d3] }
  | _ => none }
def FeePaysWrongFalsely : Prop := feePaysRow.holds Tryd.pinned (OpenSpec.ofChange feePaysWrong)

/-- 'pappuslaw10.FeeOrders': WHATEVER THE INPUT: true; the input reads as it did. -/
def feeOrdersSpec : ChangeSpec := { name := "feeOrders", fn := fun _ => fun
  | [d] => { results := [.lit (.bool true)], args := [d] }
  | _ => none }
def feeOrdersRow : OpenClaim := { program := "ytieobcaegegboaadoor", sum := "38949461a4a0cb3660c9b5ef1de701e6180734d31e9d46006e70fe35132fe204", func := "pappus/pappuslaw10.FeeOrders", spec := "feeOrders", inPlace := ["math/bits.Add64", "math/bits.Sub64"], unfollowed := true, recurses := true, named := ["pappus/sha.first", "pappus/sha.constants", "math/bits.divideError", "math/bits.overflowError"], plainKeys := false, apart := false, laid := [("pappus/sha.constants", laid_pappus_sha_constants), ("pappus/sha.first", laid_pappus_sha_first)] }
def FeeOrdersSaid : Prop := feeOrdersRow.holds Tryd.pinned (OpenSpec.ofChange feeOrdersSpec)

/-- ITS FALSE NEIGHBOUR: 'it returns false'. Refute it at one input. -/
def feeOrdersWrong : ChangeSpec := { name := "feeOrders", fn := fun _ => fun
  | [d] => { results := [.lit (.bool false)], args := [d] }
  | _ => none }
def FeeOrdersWrongFalsely : Prop := feeOrdersRow.holds Tryd.pinned (OpenSpec.ofChange feeOrdersWrong)

/-- 'pappuslaw10.FeeBalances': WHATEVER THE INPUT: true; the input reads as it did. -/
def feeBalancesSpec : ChangeSpec := { name := "feeBalances", fn := fun _ => fun
  | [d1, d2] => { results := [.lit (.bool true)], args := [d1, d2] }
  | _ => none }
def feeBalancesRow : OpenClaim := { program := "ytieobcaegegboaadoor", sum := "38949461a4a0cb3660c9b5ef1de701e6180734d31e9d46006e70fe35132fe204", func := "pappus/pappuslaw10.FeeBalances", spec := "feeBalances", inPlace := ["math/bits.Add64", "math/bits.Sub64"], unfollowed := true, recurses := true, named := ["pappus/sha.first", "pappus/sha.constants", "math/bits.divideError", "math/bits.overflowError"], plainKeys := false, apart := false, laid := [("pappus/sha.constants", laid_pappus_sha_constants), ("pappus/sha.first", laid_pappus_sha_first)] }
def FeeBalancesSaid : Prop := feeBalancesRow.holds Tryd.pinned (OpenSpec.ofChange feeBalancesSpec)

/-- ITS FALSE NEIGHBOUR: 'it returns false'. Refute it at one input. -/
def feeBalancesWrong : ChangeSpec := { name := "feeBalances", fn := fun _ => fun
  | [d1, d2] => { results := [.lit (.bool false)], args := [d1, d2] }
  | _ => none }
def FeeBalancesWrongFalsely : Prop := feeBalancesRow.holds Tryd.pinned (OpenSpec.ofChange feeBalancesWrong)

/-- 'pappuslaw10.FeeTakes': WHATEVER THE INPUT: true; the input reads as it did. -/
def feeTakesSpec : ChangeSpec := { name := "feeTakes", fn := fun _ => fun
  | [d1, d2] => { results := [.lit (.bool true)], args := [d1, d2] }
  | _ => none }
def feeTakesRow : OpenClaim := { program := "ytieobcaegegboaadoor", sum := "38949461a4a0cb3660c9b5ef1de701e6180734d31e9d46006e70fe35132fe204", func := "pappus/pappuslaw10.FeeTakes", spec := "feeTakes", inPlace := ["math/bits.Add64", "math/bits.Sub64"], unfollowed := true, recurses := true, named := ["pappus/sha.first", "pappus/sha.constants", "math/bits.divideError", "math/bits.overflowError"], plainKeys := false, apart := false, laid := [("pappus/sha.constants", laid_pappus_sha_constants), ("pappus/sha.first", laid_pappus_sha_first)] }
def FeeTakesSaid : Prop := feeTakesRow.holds Tryd.pinned (OpenSpec.ofChange feeTakesSpec)

/-- ITS FALSE NEIGHBOUR: 'it returns false'. Refute it at one input. -/
def feeTakesWrong : ChangeSpec := { name := "feeTakes", fn := fun _ => fun
  | [d1, d2] => { results := [.lit (.bool false)], args := [d1, d2] }
  | _ => none }
def FeeTakesWrongFalsely : Prop := feeTakesRow.holds Tryd.pinned (OpenSpec.ofChange feeTakesWrong)

/-- 'pappuslaw10.FeeLocks': WHATEVER THE INPUT: true; the input reads as it did. -/
def feeLocksSpec : ChangeSpec := { name := "feeLocks", fn := fun _ => fun
  | [d] => { results := [.lit (.bool true)], args := [d] }
  | _ => none }
def feeLocksRow : OpenClaim := { program := "ytieobcaegegboaadoor", sum := "38949461a4a0cb3660c9b5ef1de701e6180734d31e9d46006e70fe35132fe204", func := "pappus/pappuslaw10.FeeLocks", spec := "feeLocks", inPlace := ["math/bits.Add64", "math/bits.Sub64"], unfollowed := true, recurses := true, named := ["pappus/sha.first", "pappus/sha.constants", "math/bits.divideError", "math/bits.overflowError"], plainKeys := false, apart := false, laid := [("pappus/sha.constants", laid_pappus_sha_constants), ("pappus/sha.first", laid_pappus_sha_first)] }
def FeeLocksSaid : Prop := feeLocksRow.holds Tryd.pinned (OpenSpec.ofChange feeLocksSpec)

/-- ITS FALSE NEIGHBOUR: 'it returns false'. Refute it at one input. -/
def feeLocksWrong : ChangeSpec := { name := "feeLocks", fn := fun _ => fun
  | [d] => { results := [.lit (.bool false)], args := [d] }
  | _ => none }
def FeeLocksWrongFalsely : Prop := feeLocksRow.holds Tryd.pinned (OpenSpec.ofChange feeLocksWrong)

/-- 'pappuslaw10.FeeSorted': WHATEVER THE INPUT: true; the input reads as it did. -/
def feeSortedSpec : ChangeSpec := { name := "feeSorted", fn := fun _ => fun
  | [d] => { results := [.lit (.bool true)], args := [d] }
  | _ => none }
def feeSortedRow : OpenClaim := { program := "ytieobcaegegboaadoor", sum := "38949461a4a0cb3660c9b5ef1de701e6180734d31e9d46006e70fe35132fe204", func := "pappus/pappuslaw10.FeeSorted", spec := "feeSorted", inPlace := ["math/bits.Add64", "math/bits.Sub64"], unfollowed := true, recurses := true, named := ["pappus/sha.first", "pappus/sha.constants", "math/bits.divideError", "math/bits.overflowError"], plainKeys := false, apart := false, laid := [("pappus/sha.constants", laid_pappus_sha_constants), ("pappus/sha.first", laid_pappus_sha_first)] }
def FeeSortedSaid : Prop := feeSortedRow.holds Tryd.pinned (OpenSpec.ofChange feeSortedSpec)

/-- ITS FALSE NEIGHBOUR: 'it returns false'. Refute it at one input. -/
def feeSortedWrong : ChangeSpec := { name := "feeSorted", fn := fun _ => fun
  | [d] => { results := [.lit (.bool false)], args := [d] }
  | _ => none }
def FeeSortedWrongFalsely : Prop := feeSortedRow.holds Tryd.pinned (OpenSpec.ofChange feeSortedWrong)

/-- 'pappuslaw10.FeeLess': WHATEVER THE INPUT: true; the input reads as it did. -/
def feeLessSpec : ChangeSpec := { name := "feeLess", fn := fun _ => fun
  | [d1, d2, d3] => { results := [.lit (.bool true)], args := [d1, d2, d3] }
  | _ => none }
def feeLessRow : OpenClaim := { program := "ytieobcaegegboaadoor", sum := "38949461a4a0cb3660c9b5ef1de701e6180734d31e9d46006e70fe35132fe204", func := "pappus/pappuslaw10.FeeLess", spec := "feeLess", inPlace := ["math/bits.Add64", "math/bits.Sub64"], unfollowed := true, recurses := true, named := ["pappus/sha.first", "pappus/sha.constants", "math/bits.divideError", "math/bits.overflowError"], plainKeys := false, apart := false, laid := [("pappus/sha.constants", laid_pappus_sha_constants), ("pappus/sha.first", laid_pappus_sha_first)] }
def FeeLessSaid : Prop := feeLessRow.holds Tryd.pinned (OpenSpec.ofChange feeLessSpec)

/-- ITS FALSE NEIGHBOUR: 'it returns false'. Refute it at one input. -/
def feeLessWrong : ChangeSpec := { name := "feeLess", fn := fun _ => fun
  | [d1, d2, d3] => { results := [.lit (.bool false)], args := [d1, d2, d3] }
  | _ => none }
def FeeLessWrongFalsely : Prop := feeLessRow.holds Tryd.pinned (OpenSpec.ofChange feeLessWrong)

/-- 'pappuslaw10.FeeFloor': WHATEVER THE INPUT: true; the input reads as it did. -/
def feeFloorSpec : ChangeSpec := { name := "feeFloor", fn := fun _ => fun
  | [d1, d2, d3] => { results := [.lit (.bool true)], args := [d1, d2, d3] }
  | _ => none }
def feeFloorRow : OpenClaim := { program := "ytieobcaegegboaadoor", sum := "38949461a4a0cb3660c9b5ef1de701e6180734d31e9d46006e70fe35132fe204", func := "pappus/pappuslaw10.FeeFloor", spec := "feeFloor", inPlace := ["math/bits.Add64", "math/bits.Sub64"], unfollowed := true, recurses := true, named := ["pappus/sha.first", "pappus/sha.constants", "math/bits.divideError", "math/bits.overflowError"], plainKeys := false, apart := false, laid := [("pappus/sha.constants", laid_pappus_sha_constants), ("pappus/sha.first", laid_pappus_sha_first)] }
def FeeFloorSaid : Prop := feeFloorRow.holds Tryd.pinned (OpenSpec.ofChange feeFloorSpec)

/-- ITS FALSE NEIGHBOUR: 'it returns false'. Refute it at one input. -/
def feeFloorWrong : ChangeSpec := { name := "feeFloor", fn := fun _ => fun
  | [d1, d2, d3] => { results := [.lit (.bool false)], args := [d1, d2, d3] }
  | _ => none }
def FeeFloorWrongFalsely : Prop := feeFloorRow.holds Tryd.pinned (OpenSpec.ofChange feeFloorWrong)

/- THE SECOND FORM. 'bulk': how many values and letters a reading holds, each counted each time it is reached (what is shared counts as often as it is met; a slice's spare places count too). A statement '..UptoSaid' is the law's where the arguments, and the package variables that the reading takes, are together of bulk at most 1048576: NARROWER than '..Said'. Prove '..Said' where nothing that the law and all that it calls make is longer than what came in: it says more and counts as full. Else prove '..UptoSaid'. A law counts once. -/
mutual
def uptoBulk {H : Type} : DataW H → Nat
  | .lit (.string bytes) => bytes.length + 1
  | .lit _ => 1
  | .nil => 1
  | .ptr d => uptoBulk d + 1
  | .slice elems spare => uptoBulkAll elems + uptoBulkAll spare + 1
  | .agg parts => uptoBulkAll parts + 1
  | .iface _ d => uptoBulk d + 1
  | .map entries => uptoBulkEntries entries + 1
  | .held _ => 1
def uptoBulkAll {H : Type} : List (DataW H) → Nat
  | [] => 0
  | d :: r => uptoBulk d + uptoBulkAll r
def uptoBulkEntries {H : Type} : List (Lit × DataW H) → Nat
  | [] => 0
  | x :: r => uptoBulkEntry x + uptoBulkEntries r
def uptoBulkEntry {H : Type} : Lit × DataW H → Nat
  | (.string bytes, d) => bytes.length + uptoBulk d + 1
  | (_, d) => uptoBulk d + 1
 end
def uptoSmall : (H : Type) → List (DataW H) → Bool := fun _ ds => decide (uptoBulkAll ds ≤ 1048576)
def OpenSpec.upto (s : _root_.Go.ChangeSpec) : _root_.Go.OpenSpec := { _root_.Go.OpenSpec.ofChange s with cond := some uptoSmall }

/-- 'pappuslaw10.FeePays', WHERE WHAT IT READS IS OF BULK AT MOST 1048576: true; the input reads as it did. -/
def feePaysUptoRow : OpenClaim := { program := "ytieobcaegegboaadoor", sum := "38949461a4a0cb3660c9b5ef1de701e6180734d31e9d46006e70fe35132fe204", func := "pappus/pappuslaw10.FeePays", spec := "feePays", inPlace := ["math/bits.Add64", "math/bits.Sub64"], unfollowed := true, recurses := true, named := ["pappus/sha.first", "pappus/sha.constants", "math/bits.divideError", "math/bits.overflowError"], plainKeys := false, apart := false, laid := [("pappus/sha.constants", laid_pappus_sha_constants), ("pappus/sha.first", laid_pappus_sha_first)], narrowed := true }
def FeePaysUptoSaid : Prop := feePaysUptoRow.holds Tryd.pinned (OpenSpec.upto feePaysSpec)

/-- 'pappuslaw10.FeeOrders', WHERE WHAT IT READS IS OF BULK AT MOST 1048576: true; the input reads as it did. -/
def feeOrdersUptoRow : OpenClaim := { program := "ytieobcaegegboaadoor", sum := "38949461a4a0cb3660c9b5ef1de701e6180734d31e9d46006e70fe35132fe204", func := "pappus/pappuslaw10.FeeOrders", spec := "feeOrders", inPlace := ["math/bits.Add64", "math/bits.Sub64"], unfollowed := true, recurses := true, named := ["pappus/sha.first", "pappus/sha.constants", "math/bits.divideError", "math/bits.overflowError"], plainKeys := false, apart := false, laid := [("pappus/sha.constants", laid_pappus_sha_constants), ("pappus/sha.first", laid_pappus_sha_first)], narrowed := true }
def FeeOrdersUptoSaid : Prop := feeOrdersUptoRow.holds Tryd.pinned (OpenSpec.upto feeOrdersSpec)

/-- 'pappuslaw10.FeeBalances', WHERE WHAT IT READS IS OF BULK AT MOST 1048576: true; the input reads as it did. -/
def feeBalancesUptoRow : OpenClaim := { program := "ytieobcaegegboaadoor", sum := "38949461a4a0cb3660c9b5ef1de701e6180734d31e9d46006e70fe35132fe204", func := "pappus/pappuslaw10.FeeBalances", spec := "feeBalances", inPlace := ["math/bits.Add64", "math/bits.Sub64"], unfollowed := true, recurses := true, named := ["pappus/sha.first", "pappus/sha.constants", "math/bits.divideError", "math/bits.overflowError"], plainKeys := false, apart := false, laid := [("pappus/sha.constants", laid_pappus_sha_constants), ("pappus/sha.first", laid_pappus_sha_first)], narrowed := true }
def FeeBalancesUptoSaid : Prop := feeBalancesUptoRow.holds Tryd.pinned (OpenSpec.upto feeBalancesSpec)

/-- 'pappuslaw10.FeeTakes', WHERE WHAT IT READS IS OF BULK AT MOST 1048576: true; the input reads as it did. -/
def feeTakesUptoRow : OpenClaim := { program := "ytieobcaegegboaadoor", sum := "38949461a4a0cb3660c9b5ef1de701e6180734d31e9d46006e70fe35132fe204", func := "pappus/pappuslaw10.FeeTakes", spec := "feeTakes", inPlace := ["math/bits.Add64", "math/bits.Sub64"], unfollowed := true, recurses := true, named := ["pappus/sha.first", "pappus/sha.constants", "math/bits.divideError", "math/bits.overflowError"], plainKeys := false, apart := false, laid := [("pappus/sha.constants", laid_pappus_sha_constants), ("pappus/sha.first", laid_pappus_sha_first)], narrowed := true }
def FeeTakesUptoSaid : Prop := feeTakesUptoRow.holds Tryd.pinned (OpenSpec.upto feeTakesSpec)

/-- 'pappuslaw10.FeeLocks', WHERE WHAT IT READS IS OF BULK AT MOST 1048576: true; the input reads as it did. -/
def feeLocksUptoRow : OpenClaim := { program := "ytieobcaegegboaadoor", sum := "38949461a4a0cb3660c9b5ef1de701e6180734d31e9d46006e70fe35132fe204", func := "pappus/pappuslaw10.FeeLocks", spec := "feeLocks", inPlace := ["math/bits.Add64", "math/bits.Sub64"], unfollowed := true, recurses := true, named := ["pappus/sha.first", "pappus/sha.constants", "math/bits.divideError", "math/bits.overflowError"], plainKeys := false, apart := false, laid := [("pappus/sha.constants", laid_pappus_sha_constants), ("pappus/sha.first", laid_pappus_sha_first)], narrowed := true }
def FeeLocksUptoSaid : Prop := feeLocksUptoRow.holds Tryd.pinned (OpenSpec.upto feeLocksSpec)

/-- 'pappuslaw10.FeeSorted', WHERE WHAT IT READS IS OF BULK AT MOST 1048576: true; the input reads as it did. -/
def feeSortedUptoRow : OpenClaim := { program := "ytieobcaegegboaadoor", sum := "38949461a4a0cb3660c9b5ef1de701e6180734d31e9d46006e70fe35132fe204", func := "pappus/pappuslaw10.FeeSorted", spec := "feeSorted", inPlace := ["math/bits.Add64", "math/bits.Sub64"], unfollowed := true, recurses := true, named := ["pappus/sha.first", "pappus/sha.constants", "math/bits.divideError", "math/bits.overflowError"], plainKeys := false, apart := false, laid := [("pappus/sha.constants", laid_pappus_sha_constants), ("pappus/sha.first", laid_pappus_sha_first)], narrowed := true }
def FeeSortedUptoSaid : Prop := feeSortedUptoRow.holds Tryd.pinned (OpenSpec.upto feeSortedSpec)

/-- 'pappuslaw10.FeeLess', WHERE WHAT IT READS IS OF BULK AT MOST 1048576: true; the input reads as it did. -/
def feeLessUptoRow : OpenClaim := { program := "ytieobcaegegboaadoor", sum := "38949461a4a0cb3660c9b5ef1de701e6180734d31e9d46006e70fe35132fe204", func := "pappus/pappuslaw10.FeeLess", spec := "feeLess", inPlace := ["math/bits.Add64", "math/bits.Sub64"], unfollowed := true, recurses := true, named := ["pappus/sha.first", "pappus/sha.constants", "math/bits.divideError", "math/bits.overflowError"], plainKeys := false, apart := false, laid := [("pappus/sha.constants", laid_pappus_sha_constants), ("pappus/sha.first", laid_pappus_sha_first)], narrowed := true }
def FeeLessUptoSaid : Prop := feeLessUptoRow.holds Tryd.pinned (OpenSpec.upto feeLessSpec)

/-- 'pappuslaw10.FeeFloor', WHERE WHAT IT READS IS OF BULK AT MOST 1048576: true; the input reads as it did. -/
def feeFloorUptoRow : OpenClaim := { program := "ytieobcaegegboaadoor", sum := "38949461a4a0cb3660c9b5ef1de701e6180734d31e9d46006e70fe35132fe204", func := "pappus/pappuslaw10.FeeFloor", spec := "feeFloor", inPlace := ["math/bits.Add64", "math/bits.Sub64"], unfollowed := true, recurses := true, named := ["pappus/sha.first", "pappus/sha.constants", "math/bits.divideError", "math/bits.overflowError"], plainKeys := false, apart := false, laid := [("pappus/sha.constants", laid_pappus_sha_constants), ("pappus/sha.first", laid_pappus_sha_first)], narrowed := true }
def FeeFloorUptoSaid : Prop := feeFloorUptoRow.holds Tryd.pinned (OpenSpec.upto feeFloorSpec)

end Rows
end Go.Proofs.YtieobcaegegboaaDoor
