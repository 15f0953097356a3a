/- The plain law of the set of known ids: what is known is a list of different ids, of which those that came last stay. Conditions: those that stand ahead of each theorem. -/
import Derived.Test.YtkddaombdahodaaMade
namespace Go.Proofs.Ytkddaombdahodaa
open Go.RowKit Go.Px
/-! ### the plain law -/
theorem add1_in {most : Nat} {L : List (List Value)} {x : List Value} (h : x ∈ L) : add1 most L x = L := by
  unfold add1
  rw [if_pos (mem_true.2 h)]
theorem gone1_in {most : Nat} {L : List (List Value)} {x : List Value} (h : x ∈ L) : gone1 most L x = [] := by
  unfold gone1
  rw [if_pos (mem_true.2 h)]
theorem add1_mem {most : Nat} {L : List (List Value)} {x : List Value} : x ∈ add1 most L x := by
  unfold add1
  split
  · rename_i h
    exact mem_true.1 h
  · split <;> simp
theorem add1_sub {most : Nat} {L : List (List Value)} {x y : List Value} (h : y ∈ add1 most L x) : y ∈ L ∨ y = x := by
  unfold add1 at h
  split at h
  · exact .inl h
  · split at h
    · simpa using h
    · rcases List.mem_append.1 h with h | h
      · exact .inl (List.mem_of_mem_drop h)
      · exact .inr (by simpa using h)
theorem adds_sub {most : Nat} : ∀ {l L : List (List Value)} {y : List Value}, y ∈ adds most L l → y ∈ L ∨ y ∈ l
  | [], _, _, h => .inl h
  | x :: l, L, y, h => by
    have h' : y ∈ adds most (add1 most L x) l := h
    rcases adds_sub h' with h | h
    · rcases add1_sub h with h | h
      · exact .inl h
      · exact .inr (by simp [h])
    · exact .inr (by simp [h])
theorem adds_last {most : Nat} {L l : List (List Value)} (h : l ≠ []) : l.getLast h ∈ adds most L l := by
  have e := List.dropLast_concat_getLast h
  have e2 : adds most L l = adds most L (l.dropLast ++ [l.getLast h]) := by rw [e]
  rw [e2, adds_append]
  exact add1_mem
theorem adds_ne {most : Nat} {L l : List (List Value)} (h : l ≠ []) : adds most L l ≠ [] := fun e => by
  have := adds_last (most := most) (L := L) h
  rw [e] at this
  cases this
theorem adds_snoc {most : Nat} {L l : List (List Value)} {x : List Value} : adds most L (l ++ [x]) = add1 most (adds most L l) x := by
  rw [adds_append]
  rfl
theorem gones_snoc {most : Nat} {L l : List (List Value)} {x : List Value} : gones most L (l ++ [x]) = gones most L l ++ gone1 most (adds most L l) x := by
  rw [gones_append]
  simp [gones]
/-- of ids, no two alike, those that came last are known, and the others were forgotten in their order -/
theorem adds_nodup {most : Nat} (hm : 1 ≤ most) : ∀ (n : Nat) {o : List (List Value)}, o.length = n → o.Nodup → adds most [] o = o.drop (o.length - most) ∧ gones most [] o = o.take (o.length - most)
  | 0, o, hn, _ => by
    obtain rfl := List.eq_nil_of_length_eq_zero hn
    simp [adds, gones]
  | n + 1, o, hn, hd => by
    have hne : o ≠ [] := by
      intro e
      rw [e] at hn
      simp at hn
    have e := List.dropLast_concat_getLast hne
    generalize hx : o.getLast hne = x at e
    generalize hr : o.dropLast = r at e
    subst e
    have hl : r.length = n := by simpa using hn
    have hd2 : r.Nodup := (List.nodup_append.1 hd).1
    have hxr : x ∉ r := fun h => (List.nodup_append.1 hd).2.2 x h x (by simp) rfl
    obtain ⟨h1, h2⟩ := adds_nodup hm n hl hd2
    rw [adds_snoc, gones_snoc, h1, h2]
    have hnm : mem x (r.drop (r.length - most)) = false := mem_false.2 fun h => hxr (List.mem_of_mem_drop h)
    unfold add1 gone1
    rw [hnm]
    simp only [Bool.false_eq_true, if_false, List.length_drop, List.length_append, List.length_cons, List.length_nil]
    by_cases hc : r.length < most
    · rw [if_pos (by omega), if_pos (by omega), show r.length - most = 0 by omega, show r.length + (0 + 1) - most = 0 by omega]
      simp
    · rw [if_neg (by omega), if_neg (by omega), show r.length + (0 + 1) - most = (r.length - most) + 1 by omega]
      refine ⟨?_, ?_⟩
      · rw [List.drop_append_of_le_length (by omega), List.drop_drop]
      · rw [List.take_append_of_le_length (by omega), List.take_add]
theorem KSet.few {w : World} {p most : Nat} {L : List (List Value)} {S : Nat → Prop} (h : KSet w p most L S) : L.length ≤ most ∧ most ≤ 64 ∧ L.Nodup := by
  obtain ⟨m, rv, ring, first, h1, h2, h3⟩ := h
  refine ⟨?_, h2.m2, h2.nodup⟩
  have h4 := h2.len
  rw [h2.eq]
  simp only [List.length_append, List.length_drop, List.length_take]
  omega
end Go.Proofs.Ytkddaombdahodaa
