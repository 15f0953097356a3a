/- A region with loads or new memory beside calls may be walked in a few orders, forks of these at their first difference. Conditions: those that stand ahead of each theorem. -/
/-
  The few orders, piece by piece. Over any program. No condition is added to any statement here.
-/
import Derived.Test.YtieobcaegegboaaDoorAny8
import Derived.Test.YtieobcaegegboaaDoorAny7
namespace Go.Px
open Go Go.RowKit
section
variable {P : Program} {ops : Array Oper} {Q : Exit → Act → World → Prop} {C : World → Prop}

/-- the post of a piece -/
def SegQ (P : Program) (ops : Array Oper) (C : World → Prop) (Q : Exit → Act → World → Prop) (n : Nat) (os : List (List Nat)) : Exit → Act → World → Prop
  | .normal, a, w => C w ∧ wpOrd P ops C Q n os a w
  | e, a, w => Q e a w
theorem SegQ.clean {n : Nat} {os : List (List Nat)} (h : Clean Q) : Clean (SegQ P ops C Q n os) := ⟨fun c a w hq => h.panic c a w hq, fun a w hq => h.out a w hq⟩
theorem seg_wp (hQ : Clean Q) {n : Nat} {os : List (List Nat)} {o : Oper} {a : Act} {w : World} {K : Act → World → Prop} (hh : o.wp P a w K (SegQ P ops C Q n os)) : o.wp P a w K Q := by
  have hno := (SegQ.clean (P := P) (ops := ops) (C := C) (n := n) (os := os) hQ).lets
  unfold Oper.wp at *
  generalize (execOp a.eval o).run P w = r at *
  cases r with
  | ok m w' =>
    cases m <;> simp only [Oper.upon] at hh ⊢ <;> first
      | exact hh
      | exact Calls.mono hh fun e w'' he => by
          cases e with
          | returned u => exact he
          | panicked c => exact he
          | outgrown => exact absurd he hno
  | halt x w' => cases x <;> simp only [Oper.upon] at hh ⊢ <;> exact hh
theorem heads_map (i : Nat) (pre : List Nat) (rest : List (List Nat)) : ∀ h ∈ headsOf (rest.map fun r => (i :: pre) ++ r), h = i := by
  intro h hh
  unfold headsOf at hh
  obtain ⟨o, ho, e⟩ := List.mem_filterMap.1 hh
  obtain ⟨r, _, rfl⟩ := List.mem_map.1 ho
  simp at e
  exact e.symm
theorem tails_map (i : Nat) (pre : List Nat) (rest : List (List Nat)) : tailsOf i (rest.map fun r => (i :: pre) ++ r) = rest.map fun r => pre ++ r := by
  unfold tailsOf
  rw [List.filterMap_map]
  induction rest with
  | nil => rfl
  | cons r rs ih =>
    rw [List.filterMap_cons, List.map_cons]
    simp only [Function.comp, List.cons_append, beq_self_eq_true, if_true]
    rw [← ih]
    rfl
theorem ord_seg (hQ : Clean Q) {n : Nat} {rest : List (List Nat)} : ∀ (pre : List Nat) (s : List Oper), pre.map (fun i => ops[i]?) = s.map some → (s.dropLast.all fun o => !ecls P o) = true → pre ≠ [] → ∀ a w, wpList P ops (SegQ P ops C Q n rest) s a w →
    wpOrd P ops C Q (pre.length + n) (rest.map fun r => pre ++ r) a w
  | [], _, _, _, hne, _, _, _ => absurd rfl hne
  | i :: pre, s, hs, hE, _, a, w, h => by
    cases s with
    | nil => cases hs
    | cons o s =>
      simp only [List.map_cons, List.cons.injEq] at hs
      obtain ⟨h0, hs⟩ := hs
      have hno := (SegQ.clean (P := P) (ops := ops) (C := C) (n := n) (os := rest) hQ).lets
      rw [List.length_cons, Nat.add_right_comm]
      intro j hj
      have hji := heads_map i pre rest j hj
      subst hji
      rw [tails_map]
      have heAt : eAt P ops j = ecls P o := by unfold eAt; rw [h0]
      -- what stands behind the operation
      have hnext : ∀ a1 w1, wpList P ops (SegQ P ops C Q n rest) s a1 w1 → (eAt P ops j = true → C w1) ∧ wpOrd P ops C Q (pre.length + n) (rest.map fun r => pre ++ r) a1 w1 := by
        intro a1 w1 h1
        cases pre with
        | nil =>
          have : s = [] := by
            cases s with
            | nil => rfl
            | cons _ _ => cases hs
          subst this
          exact ⟨fun _ => h1.1, by simpa using h1.2⟩
        | cons i2 pre2 =>
          cases s with
          | nil => cases hs
          | cons o2 s2 =>
            simp only [List.dropLast_cons_cons, List.all_cons, Bool.and_eq_true] at hE
            refine ⟨fun he => ?_, ord_seg hQ (i2 :: pre2) (o2 :: s2) hs hE.2 (by simp) a1 w1 h1⟩
            rw [heAt] at he
            simp [he] at hE
      unfold wpOp
      simp only [h0]
      unfold wpList at h
      split
      · rename_i hw
        rw [if_pos hw] at h
        rcases h with h | h
        · exact .inl (Oper.wp_mono hnext (seg_wp hQ h))
        · exact absurd h.2 hno
      · rename_i hw
        rw [if_neg hw] at h
        exact hnext _ _ h
/-- two ways -/
theorem ord_fork {n : Nat} {os1 os2 : List (List Nat)} {a : Act} {w : World} (hd : ((headsOf os1).all fun h => !(headsOf os2).contains h) = true) (h1 : wpOrd P ops C Q (n + 1) os1 a w) (h2 : wpOrd P ops C Q (n + 1) os2 a w) : wpOrd P ops C Q (n + 1) (os1 ++ os2) a w := by
  have hd1 : ∀ h ∈ headsOf os1, h ∉ headsOf os2 := fun h hh => by
    have := List.all_eq_true.1 hd h hh
    simpa using this
  have ht : ∀ (h : Nat) (os : List (List Nat)), h ∉ headsOf os → tailsOf h os = [] := by
    intro h os hn
    unfold tailsOf
    refine List.filterMap_eq_nil_iff.2 fun o ho => ?_
    cases o with
    | nil => rfl
    | cons i r =>
      have : i ≠ h := fun e => hn (by
        unfold headsOf
        exact List.mem_filterMap.2 ⟨i :: r, ho, by simp [e]⟩)
      simp [this]
  intro h hh
  have e : headsOf (os1 ++ os2) = headsOf os1 ++ headsOf os2 := by simp [headsOf]
  have e2 : tailsOf h (os1 ++ os2) = tailsOf h os1 ++ tailsOf h os2 := by simp [tailsOf]
  rw [e] at hh
  rw [e2]
  rcases List.mem_append.1 hh with hh | hh
  · rw [ht h os2 (hd1 h hh), List.append_nil]
    exact h1 h hh
  · have : h ∉ headsOf os1 := fun h3 => hd1 h h3 hh
    rw [ht h os1 this, List.nil_append]
    exact h2 h hh
theorem FinC.clean {D : List (Tmp × Bool)} {ls : List Tmp} (hQ : Clean Q) : Clean (FinC P D C ls Q) := ⟨fun c a w hq => hQ.panic c a w hq, fun a w hq => hQ.out a w hq⟩
theorem segQ_mk {n : Nat} {os : List (List Nat)} {a : Act} {w : World} (hC : C w) (h : wpOrd P ops C Q n os a w) : SegQ P ops C Q n os .normal a w := ⟨hC, h⟩
end
end Go.Px
