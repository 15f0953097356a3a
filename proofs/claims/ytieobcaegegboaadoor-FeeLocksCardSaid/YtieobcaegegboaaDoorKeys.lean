/- Arrays of bytes are keys of maps, and compare as lists do. Conditions: those that stand ahead of each theorem. -/
import Derived.Test.YtieobcaegegboaaDoorWords
import Derived.WideKeyArr2
namespace Go.Px
open Go Go.RowKit Go.WideMaps
theorem mapM_lits {P : Program} {e c : Nat} {q : IntKind} (he : P.underlying e = some (.int q)) {cs : List Value} {f : Nat → Int} (hw : ∀ i, (Lit.int q (f i)).wf = true) {D : Nat} : ∀ L : List Nat, (∀ i ∈ L, (cs.drop (i * c)).take c = [.int q (f i)]) → L.mapM (fun i => P.keyLits (D + 1) e ((cs.drop (i * c)).take c)) = some (L.map fun i => [.int q (f i)])
  | [], _ => rfl
  | i :: L, h => by
    rw [List.mapM_cons, mapM_lits he hw L (fun j hj => h j (by simp [hj])), h i (by simp)]
    simp [Program.keyLits, he, hw]
theorem isKey_bytes {P : Program} {k e n : Nat} (A : ArrKey P k e n) (he : P.underlying e = some (.int .u8)) (hsz : ∃ m, P.types.size = m + 1) {l : List (BitVec 8)} (hl : l.length = n) : IsKey P k (.agg (l.map B8).toArray) := by
  have hkt := A.keyType hsz
  obtain ⟨m, hm⟩ := hsz
  unfold IsKey keyOf
  simp only [A.hu]
  rw [if_pos (by simp [hkt, Value.formed, A.hu, A.size, hl]), hm]
  unfold Program.keyLits
  simp only [A.hu, Value.cells]
  rw [if_pos (by rw [A.size]; simpa using hl)]
  rw [mapM_lits he (f := fun i => ((l.getD i 0).toNat : Int)) (by
    intro i
    have := (l.getD i 0).isLt
    simp [Lit.wf, IntKind.min, IntKind.max, IntKind.signed, IntKind.bits]
    omega) _ (by
    intro i hi
    have hi2 : i < l.length := by rw [hl]; exact List.mem_range.1 hi
    rw [A.one, Nat.mul_one, List.drop_eq_getElem_cons (by simpa using hi2), List.take_succ_cons, List.take_zero, List.getElem_map, List.getD_eq_getElem?_getD, List.getElem?_eq_getElem hi2]
    rfl)]
  exact ⟨_, rfl⟩

theorem B8_inj {x y : BitVec 8} (h : B8 x = B8 y) : x = y := by
  unfold B8 at h
  injection h with _ h
  exact BitVec.eq_of_toNat_eq (by omega)
theorem map_B8_inj : ∀ {a b : List (BitVec 8)}, a.map B8 = b.map B8 → a = b
  | [], [], _ => rfl
  | [], _ :: _, h => by simp at h
  | _ :: _, [], h => by simp at h
  | x :: a, y :: b, h => by
    simp only [List.map_cons, List.cons.injEq] at h
    rw [B8_inj h.1, map_B8_inj h.2]
/-- an array of bytes, as a value -/
def HV (a : List (BitVec 8)) : Value := .agg (a.map B8).toArray
theorem HV_inj {a b : List (BitVec 8)} (h : HV a = HV b) : a = b := by
  unfold HV at h
  injection h with h
  exact map_B8_inj (by simpa using h)
theorem HV_eqv (a b : List (BitVec 8)) : eqv (HV a) (HV b) = decide (a = b) := by
  rw [Bool.eq_iff_iff, eqv_true, decide_eq_true_iff]
  exact ⟨HV_inj, fun h => by rw [h]⟩
theorem flat_B8 (a : List (BitVec 8)) : ∀ v ∈ a.map B8, v.oneCell' = true := by
  intro v hv
  obtain ⟨x, _, rfl⟩ := List.mem_map.1 hv
  rfl
theorem flat_B8s (l : List (List (BitVec 8))) : Flat (l.map fun a => a.map B8) := by
  intro x hx
  obtain ⟨a, _, rfl⟩ := List.mem_map.1 hx
  exact flat_B8 a
abbrev I64 (z : Int) : Value := .int .i64 z
theorem flat_ints (l : List Int) : Flat (l.map fun z => [I64 z]) := by
  intro x hx v hv
  obtain ⟨a, _, rfl⟩ := List.mem_map.1 hx
  rw [List.mem_singleton.1 hv]
  rfl
end Go.Px
