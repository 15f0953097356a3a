/- The arguments that a caller hands in read as bytes. Conditions: those that stand ahead of each theorem. -/
import Derived.Test.YtieobcaegegboaaDoorLaid
import Derived.Test.YtieobcaegegboaaDoorOut
import Derived.Test.YtieobcaegegboaaDoorGShaB
namespace Go.Proofs.YtieobcaegegboaaDoor
open Go.ChangeShapes Go.WideShapes Go.ChangeAt Go.RowKit Go.Px Go.Sha
theorem cellsU8 : Tryd.prog.cellsOf 5 = 1 := by kernel_rfl
theorem cellsBytes : Tryd.prog.cellsOf 37 = 1 := by kernel_rfl
theorem undPieces : Tryd.prog.underlying 89 = some (.slice 37) := by kernel_rfl
theorem undBool : Tryd.prog.underlying 4 = some .bool := by kernel_rfl
def IsB (cs : List Value) : Prop := ∃ x : Byte, cs = [B8 x]
theorem bytes_of : ∀ {l : List (List Value)}, (∀ c ∈ l, IsB c) → ∃ bs : List Byte, l = bytes bs
  | [], _ => ⟨[], rfl⟩
  | c :: l, h => by
    obtain ⟨x, rfl⟩ := h c (by simp)
    obtain ⟨bs, rfl⟩ := bytes_of (l := l) fun d hd => h d (by simp [hd])
    exact ⟨x :: bs, rfl⟩
theorem trod_isB {H : Type} {enc : TypeId × Value → H} {w : World} {base : Nat} {sp : Nat → Bool} {held : Bool} {fuel : Nat} {cs : List Value} {x : DataW H × List MemPlace} (h : DataW.trod enc Tryd.prog w base sp held fuel 5 cs = some x) : IsB cs := by
  obtain ⟨n, rfl, _, hw⟩ := DataW.trod_int undU8 h
  have hr : IntKind.u8.min ≤ n ∧ n ≤ IntKind.u8.max := by simpa [Lit.wf] using hw
  rw [show IntKind.u8.min = 0 from rfl, show IntKind.u8.max = 255 from rfl] at hr
  refine ⟨BitVec.ofNat 8 n.toNat, ?_⟩
  unfold B8
  rw [BitVec.toNat_ofNat, Nat.mod_eq_of_lt (by omega)]
  congr 2
  omega
set_option maxRecDepth 100000 in
theorem open_bytes {H : Type} {enc : TypeId × Value → H} {W : World} {base b0 : Nat} {sp : Nat → Bool} {held : Bool} {r : Reach} {v : Value} {d : DataW H} {ps : List MemPlace} (hval : Value.okWide Tryd.prog W r b0 37 v) (h : DataW.Trod enc Tryd.prog W base sp held 37 v d ps) : ∃ bs : List Byte, RdIn All W 1 v (bytes bs) := by
  obtain ⟨l, h1, h2, _⟩ := open_rd (Q := IsB) undBytes cellsU8 hval h fun _ _ _ hh => trod_isB hh
  obtain ⟨bs, rfl⟩ := bytes_of h2
  exact ⟨bs, RdIn.of h1⟩
end Go.Proofs.YtieobcaegegboaaDoor
