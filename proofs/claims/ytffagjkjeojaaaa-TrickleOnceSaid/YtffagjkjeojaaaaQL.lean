/- The plain laws of what is known, waits and is told. Conditions: those that stand ahead of each theorem. -/
import Derived.Test.YtffagjkjeojaaaaQP
namespace Go.Proofs.Ytffagjkjeojaaaa
open Go.RowKit Go.Px
theorem nd_len : ∀ {l A : List Id}, l.Nodup → (∀ x ∈ l, x ∈ A) → l.length ≤ A.length
  | [], _, _, _ => Nat.zero_le _
  | x :: l, A, hn, hs => by
    have hx := hs x (by simp)
    have h1 := List.nodup_cons.1 hn
    have h2 : l.length ≤ (A.erase x).length := nd_len h1.2 fun y hy => by
      have hy2 := hs y (by simp [hy])
      exact (List.mem_erase_of_ne (fun e : y = x => h1.1 (by rw [← e]; exact hy))).2 hy2
    rw [List.length_erase_of_mem hx] at h2
    have h3 := List.length_pos_of_mem hx
    simp only [List.length_cons]
    omega
theorem in_add1 (L : List Id) (x : Id) : x ∈ add1 L x := by
  unfold add1
  split
  · assumption
  · split <;> simp
theorem add1_keep {A L : List Id} {x y : Id} (hA : A.length ≤ 64) (hn : L.Nodup) (hL : ∀ z ∈ L, z ∈ A) (hx : x ∈ A) (hy : y ∈ L) : y ∈ add1 L x := by
  unfold add1
  split
  · exact hy
  · rename_i hxL
    have h1 : (x :: L).length ≤ A.length := nd_len (List.nodup_cons.2 ⟨hxL, hn⟩) fun z hz => by
      rcases List.mem_cons.1 hz with rfl | hz
      · exact hx
      · exact hL z hz
    simp only [List.length_cons] at h1
    rw [if_pos (by omega)]
    exact List.mem_append_left _ hy
theorem adds_keep {A : List Id} (hA : A.length ≤ 64) : ∀ {l L : List Id}, L.Nodup → (∀ z ∈ L, z ∈ A) → (∀ z ∈ l, z ∈ A) → ∀ y, (y ∈ L ∨ y ∈ l) → y ∈ adds L l
  | [], _, _, _, _, y, hy => hy.elim id (fun h => by cases h)
  | x :: l, L, hn, hL, hl, y, hy => by
    have hx := hl x (by simp)
    refine adds_keep hA (l := l) (add1_nd hn) (fun z hz => ?_) (fun z hz => hl z (by simp [hz])) y ?_
    · rcases mem_add1 hz with h | h
      · exact hL z h
      · rw [h]; exact hx
    · rcases hy with h | h
      · exact .inl (add1_keep hA hn hL hx h)
      · rcases List.mem_cons.1 h with h | h
        · rw [h]; exact .inl (in_add1 L x)
        · exact .inr h
/-- what is new comes last, and what is first may go -/
theorem adds_fresh : ∀ {l L : List Id}, L.length ≤ 64 → (L ++ l).Nodup → adds L l = (L ++ l).drop ((L ++ l).length - 64)
  | [], L, h, _ => by
    rw [List.append_nil, show L.length - 64 = 0 by omega]
    rfl
  | x :: l, L, h, hn => by
    rw [adds_cons]
    have hx : x ∉ L := fun hx => (List.nodup_append.1 hn).2.2 x hx x (by simp) rfl
    have hn2 : (L ++ [x] ++ l).Nodup := by simpa using hn
    unfold add1
    rw [if_neg hx]
    split
    · rw [adds_fresh (by simp; omega) hn2]
      simp
    · have hl : L.length = 64 := by omega
      have h1 : (L.drop 1 ++ [x] ++ l) = (L ++ x :: l).drop 1 := by
        rw [List.drop_append_of_le_length (by omega)]
        simp
      rw [adds_fresh (by simp; omega) (by rw [h1]; exact hn.sublist (List.drop_sublist 1 _)), h1, List.drop_drop]
      congr 1
      simp only [List.length_drop, List.length_append, List.length_cons]
      omega
theorem told_known {q : Qu} {live : List Id} (h : QOk q) : ∀ x ∈ told q live, x ∈ (flushQ q live).known := by
  intro x hx
  have hs := (List.sublist_append_left _ _).trans (told_sub q live)
  have hn : (q.known ++ told q live).Nodup := List.nodup_append.2 ⟨h.kn, h.wn.sublist hs, fun a ha b hb e => h.apart b (hs.subset hb) (e ▸ ha)⟩
  show x ∈ adds q.known (told q live)
  rw [adds_fresh h.kl hn, List.drop_append]
  have h1 := told_len q live
  refine List.mem_append_right _ ?_
  rw [List.length_append, show q.known.length + (told q live).length - 64 - q.known.length = 0 by omega]
  exact hx
/-! ### one by one -/
theorem outIds_nil (l : List Id) : outIds [] l = l := by
  unfold outIds
  rw [List.filter_eq_self]
  simp
theorem outIds_snoc (r : List Id) (x : Id) (l : List Id) : outIds (r ++ [x]) l = outId x (outIds r l) := by
  unfold outIds outId
  rw [List.filter_filter]
  apply List.filter_congr
  intro y _
  by_cases h : y ∈ r <;> by_cases g : y = x <;> simp [h, g]
theorem outId_none {x : Id} {l : List Id} (h : x ∉ l) : outId x l = l := by
  unfold outId
  rw [List.filter_eq_self]
  intro y hy
  simp only [ne_eq, decide_not, Bool.not_eq_true', decide_eq_false_iff_not]
  rintro rfl
  exact h hy
theorem outId_mid {x : Id} {a b : List Id} (h : (a ++ x :: b).Nodup) : outId x (a ++ x :: b) = a ++ b := by
  have h1 := List.nodup_append.1 h
  have h2 := List.nodup_cons.1 h1.2.1
  have ha : x ∉ a := fun hx => h1.2.2 x hx x (by simp) rfl
  unfold outId
  rw [List.filter_append, List.filter_cons]
  simp only [ne_eq, not_true_eq_false, decide_false, Bool.false_eq_true, if_false]
  rw [show a.filter (fun y => decide (¬ y = x)) = a from outId_none ha, show b.filter (fun y => decide (¬ y = x)) = b from outId_none h2.1]
theorem putQ_snoc (q : Qu) (l : List Id) (x : Id) : putQ q (l ++ [x]) = put1 (putQ q l) x := by
  unfold putQ
  rw [List.foldl_append]
  rfl
/-! ### what is put last, and told in few turns -/
def wantL (known : List Id) : List Id → List Id
  | [] => []
  | x :: l => if x ∉ known ∧ x ∉ l then x :: wantL known l else wantL known l
theorem mem_wantL {known : List Id} {y : Id} : ∀ {l : List Id}, y ∈ wantL known l ↔ y ∈ l ∧ y ∉ known
  | [] => by simp [wantL]
  | x :: l => by
    unfold wantL
    have ih := mem_wantL (known := known) (y := y) (l := l)
    split
    · rename_i h
      rw [List.mem_cons, ih, List.mem_cons]
      constructor
      · rintro (rfl | ⟨h1, h2⟩)
        · exact ⟨.inl rfl, h.1⟩
        · exact ⟨.inr h1, h2⟩
      · rintro ⟨rfl | h1, h2⟩
        · exact .inl rfl
        · exact .inr ⟨h1, h2⟩
    · rename_i h
      rw [ih, List.mem_cons]
      constructor
      · rintro ⟨h1, h2⟩
        exact ⟨.inr h1, h2⟩
      · rintro ⟨rfl | h1, h2⟩
        · exact ⟨Classical.byContradiction fun h3 => h ⟨h2, h3⟩, h2⟩
        · exact ⟨h1, h2⟩
theorem wantL_nd (known : List Id) : ∀ l : List Id, (wantL known l).Nodup
  | [] => by simp [wantL]
  | x :: l => by
    unfold wantL
    split
    · rename_i h
      exact List.nodup_cons.2 ⟨fun hx => h.2 (mem_wantL.1 hx).1, wantL_nd known l⟩
    · exact wantL_nd known l
theorem wantL_snoc (known : List Id) (x : Id) : ∀ l : List Id, wantL known (l ++ [x]) = if x ∈ known then wantL known l else outId x (wantL known l) ++ [x]
  | [] => by
    by_cases h : x ∈ known <;> simp [wantL, h, outId]
  | y :: l => by
    have ih := wantL_snoc known x l
    rw [List.cons_append]
    unfold wantL
    rw [ih]
    by_cases h : x ∈ known
    · rw [if_pos h, if_pos h]
      by_cases hy : y ∉ known
      · have hne : y ≠ x := fun e => hy (e ▸ h)
        by_cases hl : y ∈ l
        · rw [if_neg (by simp [hl]), if_neg (by simp [hl])]
        · rw [if_pos ⟨hy, by simp [hl, hne]⟩, if_pos ⟨hy, hl⟩]
      · rw [if_neg (fun c => hy c.1), if_neg (fun c => hy c.1)]
    · rw [if_neg h, if_neg h]
      by_cases hy : y ∉ known
      · by_cases hl : y ∈ l
        · rw [if_neg (by simp [hl]), if_neg (by simp [hl])]
        · by_cases hne : y = x
          · subst hne
            rw [if_neg (by simp), if_pos ⟨hy, hl⟩]
            unfold outId
            rw [List.filter_cons]
            simp
          · rw [if_pos ⟨hy, by simp [hl, hne]⟩, if_pos ⟨hy, hl⟩]
            unfold outId
            rw [List.filter_cons]
            simp [hne]
      · rw [if_neg (fun c => hy c.1), if_neg (fun c => hy c.1)]
theorem put_want {q : Qu} {known put : List Id} (hk : ∀ x, x ∈ q.known ↔ x ∈ known) (hw : q.waits = []) (h64 : (wantL known put).length ≤ 64) : ∀ k, k ≤ put.length → putQ q (put.take k) = ⟨q.known, wantL known (put.take k)⟩
  | 0, _ => by
    rw [List.take_zero]
    unfold putQ
    rw [List.foldl_nil]
    cases q
    simp only at hw
    rw [hw]
    rfl
  | k + 1, hlt => by
    have hlt2 : k < put.length := by omega
    have ih := put_want hk hw h64 k (by omega)
    obtain ⟨x, hx⟩ : ∃ x, put[k] = x := ⟨_, rfl⟩
    obtain ⟨p, hp⟩ : ∃ p, put.take k = p := ⟨_, rfl⟩
    have hsub : ∀ y ∈ p, y ∈ put := fun y hy => List.mem_of_mem_take (by rw [hp]; exact hy)
    have hxp : x ∈ put := by rw [← hx]; exact List.getElem_mem hlt2
    rw [List.take_succ_eq_append_getElem hlt2, hx, hp, putQ_snoc, wantL_snoc]
    rw [hp] at ih
    rw [ih]
    unfold put1
    by_cases h : x ∈ known
    · rw [if_pos ((hk x).2 h), if_pos h]
    · rw [if_neg (fun c => h ((hk x).1 c)), if_neg h]
      have hlen : (outId x (wantL known p) ++ [x]).length ≤ 64 := by
        refine Nat.le_trans (nd_len (A := wantL known put) ?_ fun y hy => ?_) h64
        · exact List.nodup_append.2 ⟨(wantL_nd known p).sublist (outId_sub _ _), by simp, fun a ha b hb => by rw [List.mem_singleton.1 hb]; rintro rfl; exact not_mem_outId a _ ha⟩
        · rw [mem_wantL]
          rcases List.mem_append.1 hy with h1 | h1
          · have h2 := mem_wantL.1 ((outId_sub _ _).subset h1)
            exact ⟨hsub y h2.1, h2.2⟩
          · rw [List.mem_singleton.1 h1]
            exact ⟨hxp, h⟩
      show Qu.mk q.known (last64 (outId x (wantL known p) ++ [x])) = _
      unfold last64
      rw [if_neg (by omega)]
theorem tells_all {live : List Id} : ∀ {l : List Id} {n : Nat}, n ≤ 32 → (∀ x ∈ l, x ∈ live) → tells live n l = (l.take (32 - n), l.drop (32 - n))
  | [], n, _, _ => by simp [tells]
  | x :: l, n, hn, h => by
    unfold tells
    by_cases h32 : 32 ≤ n
    · rw [if_pos h32, show 32 - n = 0 by omega]
      rfl
    · rw [if_neg h32, if_pos (h x (by simp)), tells_all (by omega) fun y hy => h y (by simp [hy]), show 32 - n = (32 - (n + 1)) + 1 by omega]
      rfl
/-! ### the loop of a flush -/
theorem tells_skip {live : List Id} {W : List Id} {k n : Nat} (hk : k < W.length) (hn : ¬ 32 ≤ n) (h : W[k] ∉ live) : tells live n (W.drop k) = tells live n (W.drop (k + 1)) := by
  rw [List.drop_eq_getElem_cons hk]
  conv => lhs; unfold tells
  rw [if_neg hn, if_neg h]
theorem tells_take {live : List Id} {W : List Id} {k n : Nat} (hk : k < W.length) (hn : ¬ 32 ≤ n) (h : W[k] ∈ live) : tells live n (W.drop k) = (W[k] :: (tells live (n + 1) (W.drop (k + 1))).1, (tells live (n + 1) (W.drop (k + 1))).2) := by
  rw [List.drop_eq_getElem_cons hk]
  conv => lhs; unfold tells
  rw [if_neg hn, if_pos h]
theorem tells_stop {live : List Id} {l : List Id} {n : Nat} (hn : 32 ≤ n) : tells live n l = ([], l) := by
  cases l with
  | nil => rfl
  | cons x l => unfold tells; rw [if_pos hn]
end Go.Proofs.Ytffagjkjeojaaaa
