/- The ids of the document's example, and the comparison of two lists of ids at whatever lengths. Conditions: those that stand ahead of each theorem. -/
import Derived.Test.YtkddaombdahodaaAdd
import Derived.Test.YtkddaombdahodaaObj
namespace Go.Proofs.Ytkddaombdahodaa
open Go.RowKit Go.Px

def h1 (n : Int) : List Value := .int .u8 n :: List.replicate 31 (.int .u8 0)
theorem isH1 : IsH (h1 1) := ⟨⟨rfl, by intro v hv; simp [h1] at hv; rcases hv with rfl | rfl <;> rfl⟩, ⟨_, show keyOf Try.prog 24 (H (h1 1)) = some (.string (keyBytes (.int .u8 1 :: List.replicate 31 (.int .u8 0)))) from by kernel_rfl⟩⟩
theorem isH2 : IsH (h1 2) := ⟨⟨rfl, by intro v hv; simp [h1] at hv; rcases hv with rfl | rfl <;> rfl⟩, ⟨_, show keyOf Try.prog 24 (H (h1 2)) = some (.string (keyBytes (.int .u8 2 :: List.replicate 31 (.int .u8 0)))) from by kernel_rfl⟩⟩
theorem isH3 : IsH (h1 3) := ⟨⟨rfl, by intro v hv; simp [h1] at hv; rcases hv with rfl | rfl <;> rfl⟩, ⟨_, show keyOf Try.prog 24 (H (h1 3)) = some (.string (keyBytes (.int .u8 3 :: List.replicate 31 (.int .u8 0)))) from by kernel_rfl⟩⟩
theorem h1_ne {a b : Int} (h : a ≠ b) : h1 a ≠ h1 b := by
  intro e
  unfold h1 at e
  injection e with e
  injection e with _ e
  exact h e
theorem build1 : ∀ w, (Instr.build 24 #[(0, .int .u8 1)]).run Try.prog w = .ok (H (h1 1)) w := fun _ => by kernel_rfl
theorem build2 : ∀ w, (Instr.build 24 #[(0, .int .u8 2)]).run Try.prog w = .ok (H (h1 2)) w := fun _ => by kernel_rfl
theorem build3 : ∀ w, (Instr.build 24 #[(0, .int .u8 3)]).run Try.prog w = .ok (H (h1 3)) w := fun _ => by kernel_rfl
theorem mem_cons (x y : List Value) (l : List (List Value)) : mem x (y :: l) = (mem x l || eqv (H x) (H y)) := by
  rw [Bool.eq_iff_iff, mem_true, Bool.or_eq_true, mem_true, eqv_true, List.mem_cons]
  constructor
  · rintro (h | h)
    · exact .inr (by rw [h])
    · exact .inl h
  · rintro (h | h)
    · exact .inr h
    · exact .inl (H_inj h)
theorem mem_nil (x : List Value) : mem x [] = false := mem_false.2 (by simp)
theorem eqvH {x y : List Value} (h : x ≠ y) : eqv (H x) (H y) = false := eqv_false.2 fun e => h (H_inj e)
theorem adds_ex : adds 2 [] [h1 1, h1 2, h1 1, h1 3] = [h1 2, h1 3] := by
  have e21 := eqvH (h1_ne (show (2 : Int) ≠ 1 by decide))
  have e12 := eqvH (h1_ne (show (1 : Int) ≠ 2 by decide))
  have e31 := eqvH (h1_ne (show (3 : Int) ≠ 1 by decide))
  have e32 := eqvH (h1_ne (show (3 : Int) ≠ 2 by decide))
  simp [adds, add1, mem_cons, mem_nil, e21, e12, e31, e32, eqv_self]
theorem gones_ex : gones 2 [] [h1 1, h1 2, h1 1, h1 3] = [h1 1] := by
  have e21 := eqvH (h1_ne (show (2 : Int) ≠ 1 by decide))
  have e12 := eqvH (h1_ne (show (1 : Int) ≠ 2 by decide))
  have e31 := eqvH (h1_ne (show (3 : Int) ≠ 1 by decide))
  have e32 := eqvH (h1_ne (show (3 : Int) ≠ 2 by decide))
  simp [gones, gone1, add1, mem_cons, mem_nil, e21, e12, e31, e32, eqv_self]
theorem sameIds (x y : Value) (xs ys : List (List Value)) (w : World) (hx : Rd 32 w x xs) (hy : Rd 32 w y ys) (kx : IsHs xs) (ky : IsHs ys) :
    Calls Try.prog 12 #[x, y] w (Ret fun v w' => v = .bool (eqL xs ys) ∧ Chg No w w') := by
  by_cases h : xs.length = ys.length
  · exact sameIds_any x y xs ys w hx hy kx ky h
  · refine (sameIds_len x y xs ys w hx hy h).mono fun e w' hh => ?_
    cases e <;> try exact hh
    refine ⟨?_, hh.2⟩
    rw [hh.1, show eqL xs ys = false from by unfold eqL; simp; rintro rfl; exact h rfl]
theorem eqL_self (xs : List (List Value)) : eqL xs xs = true := by unfold eqL; simp
theorem len1 (n : Int) : (h1 n).length = 32 := rfl
theorem isHs2 (a b : List Value) (ha : IsH a) (hb : IsH b) : IsHs [a, b] := by
  intro x hx
  simp at hx
  rcases hx with rfl | rfl
  · exact ha
  · exact hb
theorem isHs4 : IsHs [h1 1, h1 2, h1 1, h1 3] := by
  intro x hx
  simp only [List.mem_cons, List.not_mem_nil, or_false] at hx
  rcases hx with rfl | rfl | rfl | rfl
  · exact isH1
  · exact isH2
  · exact isH1
  · exact isH3
theorem isHs1 {x : List Value} (h : IsH x) : IsHs [x] := by
  intro y hy
  simp only [List.mem_cons, List.not_mem_nil, or_false] at hy
  subst hy
  exact h
theorem cellsH {x : List Value} (h : IsH x) : (H x).cells.size = 32 := by simp [H, Value.cells, h.1.1]
theorem cells4 : ∀ q ∈ [H (h1 1), H (h1 2), H (h1 1), H (h1 3)], q.cells.size = 32 := by
  intro q hq
  simp only [List.mem_cons, List.not_mem_nil, or_false] at hq
  rcases hq with rfl | rfl | rfl | rfl
  · exact cellsH isH1
  · exact cellsH isH2
  · exact cellsH isH1
  · exact cellsH isH3
theorem cells2 : ∀ q ∈ [H (h1 2), H (h1 3)], q.cells.size = 32 := by
  intro q hq
  simp only [List.mem_cons, List.not_mem_nil, or_false] at hq
  rcases hq with rfl | rfl
  · exact cellsH isH2
  · exact cellsH isH3
attribute [irreducible] h1
end Go.Proofs.Ytkddaombdahodaa
