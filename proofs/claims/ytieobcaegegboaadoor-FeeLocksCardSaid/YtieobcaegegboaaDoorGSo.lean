/- Sorting in place in plain lists; weights and transactions in plain numbers. Conditions: those that stand ahead of each theorem. -/
import Derived.Test.YtieobcaegegboaaDoorMem
namespace Go.Proofs.YtieobcaegegboaaDoor
/-- what stands at a place -/
def lf (M : List Int) (i : Nat) : Int := (M[i]?).getD 0
theorem lf_get {M : List Int} {i : Nat} (h : i < M.length) : lf M i = M[i] := by
  unfold lf
  rw [List.getElem?_eq_getElem h]
  rfl
theorem lf_out {M : List Int} {i : Nat} (h : M.length ≤ i) : lf M i = 0 := by
  unfold lf
  rw [List.getElem?_eq_none h]
  rfl
theorem lf_ext {M N : List Int} (hl : M.length = N.length) (h : ∀ i, lf M i = lf N i) : M = N := by
  apply List.ext_getElem hl
  intro i h1 h2
  rw [← lf_get h1, ← lf_get h2, h]
/-- two places swapped -/
def swp (M : List Int) (i j : Nat) : List Int := (M.set i (lf M j)).set j (lf M i)
theorem swp_len (M : List Int) (i j : Nat) : (swp M i j).length = M.length := by simp [swp]
theorem lf_set (M : List Int) (i : Nat) (x : Int) (k : Nat) (hi : i < M.length) : lf (M.set i x) k = if k = i then x else lf M k := by
  unfold lf
  by_cases h : k = i
  · subst h
    rw [if_pos rfl, List.getElem?_set_self hi]
    rfl
  · rw [if_neg h, List.getElem?_set_ne (fun e => h e.symm)]
theorem lf_swp {M : List Int} {i j : Nat} (hi : i < M.length) (hj : j < M.length) (k : Nat) : lf (swp M i j) k = if k = j then lf M i else if k = i then lf M j else lf M k := by
  unfold swp
  rw [lf_set _ _ _ _ (by simpa using hj), lf_set _ _ _ _ hi]
theorem swp_perm {M : List Int} {i j : Nat} (hi : i < M.length) (hj : j < M.length) : (swp M i j).Perm M := by
  unfold swp
  rw [lf_get hi, lf_get hj]
  exact List.set_set_perm hi hj
/-- what stands where, once n places from a on are swapped with those from b on -/
def swapF (f : Nat → Int) (a b n i : Nat) : Int := if a ≤ i ∧ i < a + n then f (i - a + b) else if b ≤ i ∧ i < b + n then f (i - b + a) else f i
theorem swapF_zero (f : Nat → Int) (a b : Nat) : swapF f a b 0 = f := by
  funext i
  unfold swapF
  rw [if_neg (by omega), if_neg (by omega)]
theorem swapF_next {M N : List Int} {a b k : Nat} (hl : N.length = M.length) (h : ∀ i, lf N i = swapF (lf M) a b k i) (hab : a + k < b) (hb : b + k < M.length) : ∀ i, lf (swp N (a + k) (b + k)) i = swapF (lf M) a b (k + 1) i := by
  intro i
  rw [lf_swp (by omega) (by omega)]
  by_cases h1 : i = b + k
  · subst h1
    rw [if_pos rfl, h]
    unfold swapF
    rw [if_neg (by omega), if_neg (by omega), if_neg (by omega), if_pos (by omega), show b + k - b + a = a + k by omega]
  · rw [if_neg h1]
    by_cases h2 : i = a + k
    · subst h2
      rw [if_pos rfl, h]
      unfold swapF
      rw [if_neg (by omega), if_neg (by omega), if_pos (by omega), show a + k - a + b = b + k by omega]
    · rw [if_neg h2, h]
      unfold swapF
      by_cases h3 : a ≤ i ∧ i < a + k
      · rw [if_pos h3, if_pos (by omega)]
      · rw [if_neg h3, if_neg (show ¬ (a ≤ i ∧ i < a + (k + 1)) by omega)]
        by_cases h4 : b ≤ i ∧ i < b + k
        · rw [if_pos h4, if_pos (by omega)]
        · rw [if_neg h4, if_neg (by omega)]
/-- what stands where, once [a, m) and [m, b) have changed sides -/
def rotF (f : Nat → Int) (a m b i : Nat) : Int := if a ≤ i ∧ i < a + (b - m) then f (i + (m - a)) else if a + (b - m) ≤ i ∧ i < b then f (i - (b - m)) else f i
theorem rot_end {f : Nat → Int} {m i : Nat} (hi : i ≤ m) : swapF f (m - i) m i = rotF f (m - i) m (m + i) := by
  funext k
  unfold swapF rotF
  rw [show m - i + i = m by omega, show m + i - m = i by omega, show m - i + i = m by omega]
  by_cases h1 : m - i ≤ k ∧ k < m
  · rw [if_pos h1, if_pos h1, show k - (m - i) + m = k + (m - (m - i)) by omega]
  · rw [if_neg h1, if_neg h1]
    by_cases h2 : m ≤ k ∧ k < m + i
    · rw [if_pos h2, if_pos h2, show k - m + (m - i) = k - i by omega]
    · rw [if_neg h2, if_neg h2]
theorem rot_left {f : Nat → Int} {m i j : Nat} (hi : i ≤ m) (hj : j < i) : rotF (swapF f (m - i) m j) (m - (i - j)) m (m + j) = rotF f (m - i) m (m + j) := by
  funext k
  unfold rotF
  rw [show m + j - m = j by omega]
  by_cases h1 : m - i ≤ k ∧ k < m - i + j
  · rw [if_pos h1, if_neg (by omega), if_neg (by omega)]
    unfold swapF
    rw [if_pos h1]
    congr 1
    omega
  · rw [if_neg h1]
    by_cases h2 : m - (i - j) ≤ k ∧ k < m - (i - j) + j
    · rw [if_pos h2, if_pos (by omega)]
      unfold swapF
      by_cases h3 : k + (m - (m - (i - j))) < m
      · exfalso
        omega
      · rw [if_neg (by omega), if_pos (by omega)]
        congr 1
        omega
    · rw [if_neg h2]
      by_cases h4 : m - (i - j) + j ≤ k ∧ k < m + j
      · rw [if_pos h4, if_pos (by omega)]
        unfold swapF
        rw [if_neg (by omega), if_neg (by omega)]
      · rw [if_neg h4, if_neg (by omega)]
        unfold swapF
        rw [if_neg (by omega), if_neg (by omega)]
theorem rot_right {f : Nat → Int} {m i j : Nat} (hi : i ≤ m) (hj : i < j) : rotF (swapF f (m - i) (m + j - i) i) (m - i) m (m + (j - i)) = rotF f (m - i) m (m + j) := by
  funext k
  unfold rotF
  rw [show m + (j - i) - m = j - i by omega, show m + j - m = j by omega]
  by_cases h1 : m - i ≤ k ∧ k < m - i + (j - i)
  · rw [if_pos h1, if_pos (by omega)]
    unfold swapF
    by_cases h3 : k + (m - (m - i)) < m
    · exfalso
      omega
    · rw [if_neg (by omega), if_neg (by omega)]
  · rw [if_neg h1]
    by_cases h2 : m - i + (j - i) ≤ k ∧ k < m + (j - i)
    · rw [if_pos h2]
      by_cases h5 : k < m - i + j
      · rw [if_pos (by omega)]
        unfold swapF
        rw [if_pos (by omega)]
        congr 1
        omega
      · exfalso
        omega
    · rw [if_neg h2]
      by_cases h5 : m - i ≤ k ∧ k < m - i + j
      · exfalso
        omega
      · rw [if_neg h5]
        by_cases h6 : m - i + j ≤ k ∧ k < m + j
        · rw [if_pos h6]
          unfold swapF
          rw [if_neg (by omega), if_pos (by omega)]
          congr 1
          omega
        · rw [if_neg h6]
          unfold swapF
          rw [if_neg (by omega), if_neg (by omega)]
end Go.Proofs.YtieobcaegegboaaDoor
namespace Go.Proofs.YtieobcaegegboaaDoor
/-- a strict order of all numbers -/
structure LtOk (lt : Int → Int → Prop) : Prop where
  irr : ∀ x, ¬ lt x x
  trans : ∀ x y z, lt x y → lt y z → lt x z
  tot : ∀ x y, x ≠ y → lt x y ∨ lt y x
def Srt (lt : Int → Int → Prop) (f : Nat → Int) (a b : Nat) : Prop := ∀ i j, a ≤ i → i < j → j < b → lt (f i) (f j)
theorem LtOk.no {lt : Int → Int → Prop} (h : LtOk lt) {x y : Int} (hne : x ≠ y) (hn : ¬ lt x y) : lt y x := (h.tot x y hne).resolve_left hn
/-- of a list that is another one's in another order, and is it outside of a piece, the piece is the other's piece -/
structure Seg (f g : Nat → Int) (a b : Nat) : Prop where
  out : ∀ i, i < a ∨ b ≤ i → g i = f i
  ins : ∀ i, a ≤ i → i < b → ∃ j, a ≤ j ∧ j < b ∧ g i = f j
theorem lf_mem {M : List Int} {i : Nat} (h : i < M.length) : lf M i ∈ M := by
  rw [lf_get h]
  exact List.getElem_mem h
theorem mem_lf {M : List Int} {x : Int} (h : x ∈ M) : ∃ i, i < M.length ∧ lf M i = x := by
  obtain ⟨i, hi, rfl⟩ := List.mem_iff_getElem.1 h
  exact ⟨i, hi, lf_get hi⟩
theorem lf_inj {M : List Int} (h : M.Nodup) {i j : Nat} (hi : i < M.length) (hj : j < M.length) (he : lf M i = lf M j) : i = j := by
  rw [lf_get hi, lf_get hj] at he
  exact (List.getElem_inj h).1 he
theorem Seg.of {M N : List Int} (hn : M.Nodup) (hp : N.Perm M) {a b : Nat} (hb : b ≤ M.length) (ho : ∀ i, i < a ∨ b ≤ i → lf N i = lf M i) : Seg (lf M) (lf N) a b := by
  refine ⟨ho, fun i h1 h2 => ?_⟩
  have hl : N.length = M.length := hp.length_eq
  have hm : lf N i ∈ M := hp.mem_iff.1 (lf_mem (by omega))
  obtain ⟨j, hj, he⟩ := mem_lf hm
  refine ⟨j, ?_, ?_, he.symm⟩
  · apply Classical.byContradiction
    intro hc
    have h3 := ho j (.inl (by omega))
    have h4 := lf_inj (hp.nodup_iff.2 hn) (i := i) (j := j) (by omega) (by omega) (by rw [h3, he])
    omega
  · apply Classical.byContradiction
    intro hc
    have h3 := ho j (.inr (by omega))
    have h4 := lf_inj (hp.nodup_iff.2 hn) (i := i) (j := j) (by omega) (by omega) (by rw [h3, he])
    omega
/-- the one at place j is being inserted among those from a to i -/
structure Ins (lt : Int → Int → Prop) (f : Nat → Int) (a j i b : Nat) : Prop where
  s1 : ∀ p q, a ≤ p → p < q → q ≤ i → p ≠ j → q ≠ j → lt (f p) (f q)
  s2 : ∀ q, j < q → q ≤ i → lt (f j) (f q)
  big : ∀ p, a ≤ p → p ≤ i → p ≠ j → f p < f j
  out : ∀ p q, a ≤ p → p < q → i < q → q < b → f p < f q
theorem Ins.start {lt : Int → Int → Prop} {f : Nat → Int} {a i b : Nat} (hs : Srt lt f a i) (ho : ∀ p q, a ≤ p → p < q → i ≤ q → q < b → f p < f q) (hi : i < b) : Ins lt f a i i b :=
  ⟨fun p q h1 h2 h3 _ h5 => hs p q h1 h2 (by omega), fun q h1 h2 => by omega, fun p h1 h2 h3 => ho p i h1 (by omega) (by omega) hi, fun p q h1 h2 h3 h4 => ho p q h1 h2 (by omega) h4⟩
theorem Ins.step {lt : Int → Int → Prop} {f g : Nat → Int} {a j i b : Nat} (h : Ins lt f a j i b) (hj : a < j) (hji : j ≤ i) (hl : lt (f j) (f (j - 1))) (hg : ∀ k, g k = if k = j - 1 then f j else if k = j then f (j - 1) else f k) : Ins lt g a (j - 1) i b := by
  have g0 : g (j - 1) = f j := by rw [hg, if_pos rfl]
  have g1 : g j = f (j - 1) := by rw [hg, if_neg (by omega), if_pos rfl]
  have gk : ∀ k, k ≠ j → k ≠ j - 1 → g k = f k := fun k h1 h2 => by rw [hg, if_neg h2, if_neg h1]
  refine ⟨fun p q h1 h2 h3 h4 h5 => ?_, fun q h1 h2 => ?_, fun p h1 h2 h3 => ?_, fun p q h1 h2 h3 h4 => ?_⟩
  · by_cases hp : p = j
    · subst hp
      rw [g1, gk q (by omega) (by omega)]
      exact h.s1 _ _ (by omega) (by omega) h3 (by omega) (by omega)
    · rw [gk p hp h4]
      by_cases hq : q = j
      · subst hq
        rw [g1]
        exact h.s1 _ _ h1 (by omega) (by omega) hp (by omega)
      · rw [gk q hq h5]
        exact h.s1 _ _ h1 h2 h3 hp hq
  · rw [g0]
    by_cases hq : q = j
    · subst hq
      rw [g1]
      exact hl
    · rw [gk q hq (by omega)]
      exact h.s2 q (by omega) h2
  · rw [g0]
    by_cases hp : p = j
    · subst hp
      rw [g1]
      exact h.big _ (by omega) (by omega) (by omega)
    · rw [gk p hp h3]
      exact h.big p h1 h2 hp
  · rw [gk q (by omega) (by omega)]
    by_cases hp : p = j
    · subst hp
      rw [g1]
      exact h.out _ _ (by omega) (by omega) h3 h4
    · by_cases hp2 : p = j - 1
      · subst hp2
        rw [g0]
        exact h.out _ _ (by omega) (by omega) h3 h4
      · rw [gk p hp hp2]
        exact h.out p q h1 h2 h3 h4
theorem Ins.done {lt : Int → Int → Prop} (ok : LtOk lt) {f : Nat → Int} {a j i b : Nat} (h : Ins lt f a j i b) (haj : a ≤ j) (hji : j ≤ i) (hl : j = a ∨ ¬ lt (f j) (f (j - 1))) : Srt lt f a (i + 1) ∧ ∀ p q, a ≤ p → p < q → i + 1 ≤ q → q < b → f p < f q := by
  refine ⟨fun p q h1 h2 h3 => ?_, fun p q h1 h2 h3 h4 => h.out p q h1 h2 (by omega) h4⟩
  by_cases hp : p = j
  · subst hp
    exact h.s2 q h2 (by omega)
  · by_cases hq : q = j
    · subst hq
      have hlt : lt (f (q - 1)) (f q) := by
        refine ok.no (fun e => ?_) (hl.resolve_left (by omega))
        have := h.big (q - 1) (by omega) (by omega) (by omega)
        omega
      by_cases hp2 : p = q - 1
      · rw [hp2]
        exact hlt
      · exact ok.trans _ _ _ (h.s1 p (q - 1) h1 (by omega) (by omega) hp (by omega)) hlt
    · exact h.s1 p q h1 h2 (by omega) hp hq
/-- two runs side by side, whose left one's numbers are less -/
structure Runs (lt : Int → Int → Prop) (f : Nat → Int) (a m b : Nat) : Prop where
  l : Srt lt f a m
  r : Srt lt f m b
  x : ∀ p q, a ≤ p → p < m → m ≤ q → q < b → f p < f q
/-- one on the left is moved into the right run -/
theorem Runs.one_left {lt : Int → Int → Prop} (ok : LtOk lt) {f : Nat → Int} {a b i : Nat} (h : Runs lt f a (a + 1) b) (hi : a + 1 ≤ i) (hib : i ≤ b) (h1 : i = a + 1 ∨ lt (f (i - 1)) (f a)) (h2 : i = b ∨ lt (f a) (f i)) : Srt lt (rotF f a (a + 1) i) a b := by
  have hlo : ∀ k, a + 1 ≤ k → k < i → lt (f k) (f a) := fun k hk1 hk2 => by
    have h3 := h1.resolve_left (by omega)
    by_cases hk : k = i - 1
    · rw [hk]; exact h3
    · exact ok.trans _ _ _ (h.r k (i - 1) hk1 (by omega) (by omega)) h3
  have hhi : ∀ k, i ≤ k → k < b → lt (f a) (f k) := fun k hk1 hk2 => by
    have h3 := h2.resolve_left (by omega)
    by_cases hk : k = i
    · rw [hk]; exact h3
    · exact ok.trans _ _ _ h3 (h.r i k hi (by omega) hk2)
  have g1 : ∀ k, a ≤ k → k < i - 1 → rotF f a (a + 1) i k = f (k + 1) := fun k hk1 hk2 => by
    unfold rotF
    rw [if_pos (by omega)]
    congr 1
    omega
  have g2 : rotF f a (a + 1) i (i - 1) = f a := by
    unfold rotF
    rw [if_neg (by omega), if_pos (by omega)]
    congr 1
    omega
  have g3 : ∀ k, i ≤ k → rotF f a (a + 1) i k = f k := fun k hk => by
    unfold rotF
    rw [if_neg (by omega), if_neg (by omega)]
  intro p q hp hpq hq
  by_cases hp1 : p < i - 1
  · rw [g1 p hp hp1]
    by_cases hq1 : q < i - 1
    · rw [g1 q (by omega) hq1]
      exact h.r _ _ (by omega) (by omega) (by omega)
    · by_cases hq2 : q = i - 1
      · rw [hq2, g2]
        exact hlo _ (by omega) (by omega)
      · rw [g3 q (by omega)]
        exact h.r _ _ (by omega) (by omega) hq
  · by_cases hp2 : p = i - 1
    · rw [hp2, g2, g3 q (by omega)]
      exact hhi q (by omega) hq
    · rw [g3 p (by omega), g3 q (by omega)]
      exact h.r _ _ (by omega) hpq hq
/-- one on the right is moved into the left run -/
theorem Runs.one_right {lt : Int → Int → Prop} (ok : LtOk lt) {f : Nat → Int} {a m i : Nat} (h : Runs lt f a m (m + 1)) (hi : a ≤ i) (him : i ≤ m) (h1 : i = a ∨ lt (f (i - 1)) (f m)) (h2 : i = m ∨ lt (f m) (f i)) : Srt lt (rotF f i m (m + 1)) a (m + 1) := by
  have hlo : ∀ k, a ≤ k → k < i → lt (f k) (f m) := fun k hk1 hk2 => by
    have h3 := h1.resolve_left (by omega)
    by_cases hk : k = i - 1
    · rw [hk]; exact h3
    · exact ok.trans _ _ _ (h.l k (i - 1) hk1 (by omega) (by omega)) h3
  have hhi : ∀ k, i ≤ k → k < m → lt (f m) (f k) := fun k hk1 hk2 => by
    have h3 := h2.resolve_left (by omega)
    by_cases hk : k = i
    · rw [hk]; exact h3
    · exact ok.trans _ _ _ h3 (h.l i k hi (by omega) hk2)
  have g1 : ∀ k, k < i → rotF f i m (m + 1) k = f k := fun k hk => by
    unfold rotF
    rw [if_neg (by omega), if_neg (by omega)]
  have g2 : rotF f i m (m + 1) i = f m := by
    unfold rotF
    rw [if_pos (by omega)]
    congr 1
    omega
  have g3 : ∀ k, i < k → k ≤ m → rotF f i m (m + 1) k = f (k - 1) := fun k hk hk2 => by
    unfold rotF
    rw [if_neg (by omega), if_pos (by omega)]
    congr 1
    omega
  intro p q hp hpq hq
  by_cases hp1 : p < i
  · rw [g1 p hp1]
    by_cases hq1 : q < i
    · rw [g1 q hq1]
      exact h.l _ _ hp hpq (by omega)
    · by_cases hq2 : q = i
      · rw [hq2, g2]
        exact hlo p hp hp1
      · rw [g3 q (by omega) (by omega)]
        exact h.l _ _ hp (by omega) (by omega)
  · by_cases hp2 : p = i
    · rw [hp2, g2, g3 q (by omega) (by omega)]
      exact hhi _ (by omega) (by omega)
    · rw [g3 p (by omega) (by omega), g3 q (by omega) (by omega)]
      exact h.l _ _ (by omega) (by omega) (by omega)
/-- where two runs are cut, so that what is on the left is less than what is on the right -/
structure CutAt (lt : Int → Int → Prop) (f : Nat → Int) (a m b mid s : Nat) : Prop where
  as : a ≤ s
  sm : s ≤ m
  smid : s ≤ mid
  em : m ≤ mid + m - s
  eb : mid + m - s ≤ b
  lo : s = a ∨ mid + m - s = b ∨ lt (f (s - 1)) (f (mid + m - s))
  hi : s = m ∨ s = mid ∨ lt (f (mid + m - s - 1)) (f s)
theorem CutAt.rot {lt : Int → Int → Prop} (ok : LtOk lt) {f : Nat → Int} {a m b mid s : Nat} (h : Runs lt f a m b) (c : CutAt lt f a m b mid s) (g : Nat → Int) (hg : ∀ k, g k = rotF f s m (mid + m - s) k) :
    Runs lt g a s mid ∧ Runs lt g mid (mid + m - s) b ∧ ∀ p q, a ≤ p → p < mid → mid ≤ q → q < b → lt (g p) (g q) := by
  obtain ⟨e, he⟩ : ∃ e, mid + m - s = e := ⟨_, rfl⟩
  have c1 := c.as
  have c2 := c.sm
  have c3 := c.smid
  have c4 := c.em
  have c5 := c.eb
  have c6 := c.lo
  have c7 := c.hi
  rw [he] at hg c4 c5 c6 c7
  have hem : e - m = mid - s := by omega
  have hms : m - s = e - mid := by omega
  have g1 : ∀ k, k < s → g k = f k := fun k hk => by
    rw [hg]
    unfold rotF
    rw [if_neg (by omega), if_neg (by omega)]
  have g2 : ∀ k, s ≤ k → k < mid → g k = f (k + (m - s)) := fun k h1 h2 => by
    rw [hg]
    unfold rotF
    rw [if_pos (by omega)]
  have g3 : ∀ k, mid ≤ k → k < e → g k = f (k - (e - m)) := fun k h1 h2 => by
    rw [hg]
    unfold rotF
    rw [if_neg (by omega), if_pos (by omega)]
  have g4 : ∀ k, e ≤ k → g k = f k := fun k h1 => by
    rw [hg]
    unfold rotF
    rw [if_neg (by omega), if_neg (by omega)]
  have hl : ∀ p q, a ≤ p → p < s → e ≤ q → q < b → lt (f p) (f q) := fun p q h1 h2 h3 h4 => by
    have h5 := (c6.resolve_left (by omega)).resolve_left (by omega)
    have h6 : lt (f p) (f e) := by
      by_cases hp : p = s - 1
      · rw [hp]; exact h5
      · exact ok.trans _ _ _ (h.l p (s - 1) h1 (by omega) (by omega)) h5
    by_cases hq : q = e
    · rw [hq]; exact h6
    · exact ok.trans _ _ _ h6 (h.r e q c4 (by omega) h4)
  have hr : ∀ p q, m ≤ p → p < e → s ≤ q → q < m → lt (f p) (f q) := fun p q h1 h2 h3 h4 => by
    have h5 := (c7.resolve_left (by omega)).resolve_left (by omega)
    have h6 : lt (f p) (f s) := by
      by_cases hp : p = e - 1
      · rw [hp]; exact h5
      · exact ok.trans _ _ _ (h.r p (e - 1) h1 (by omega) (by omega)) h5
    by_cases hq : q = s
    · rw [hq]; exact h6
    · exact ok.trans _ _ _ h6 (h.l s q c1 (by omega) h4)
  rw [he]
  refine ⟨⟨fun p q h1 h2 h3 => ?_, fun p q h1 h2 h3 => ?_, fun p q h1 h2 h3 h4 => ?_⟩, ⟨fun p q h1 h2 h3 => ?_, fun p q h1 h2 h3 => ?_, fun p q h1 h2 h3 h4 => ?_⟩, fun p q h1 h2 h3 h4 => ?_⟩
  · rw [g1 p (by omega), g1 q h3]
    exact h.l p q h1 h2 (by omega)
  · rw [g2 p h1 (by omega), g2 q (by omega) h3]
    exact h.r _ _ (by omega) (by omega) (by omega)
  · rw [g1 p h2, g2 q h3 h4]
    exact h.x _ _ h1 (by omega) (by omega) (by omega)
  · rw [g3 p h1 (by omega), g3 q (by omega) h3]
    exact h.l _ _ (by omega) (by omega) (by omega)
  · rw [g4 p h1, g4 q (by omega)]
    exact h.r _ _ (by omega) h2 h3
  · rw [g3 p h1 h2, g4 q h3]
    exact h.x _ _ (by omega) (by omega) (by omega) h4
  · by_cases hp : p < s
    · rw [g1 p hp]
      by_cases hq : q < e
      · rw [g3 q h3 hq]
        exact h.l _ _ h1 (by omega) (by omega)
      · rw [g4 q (by omega)]
        exact hl p q h1 hp (by omega) h4
    · rw [g2 p (by omega) h2]
      by_cases hq : q < e
      · rw [g3 q h3 hq]
        exact hr _ _ (by omega) (by omega) (by omega) (by omega)
      · rw [g4 q (by omega)]
        exact h.r _ _ (by omega) (by omega) h4
/-- two halves, each sorted by itself, whose left one is less -/
theorem halves {lt : Int → Int → Prop} {f g : Nat → Int} {a mid b : Nat} (hx : ∀ p q, a ≤ p → p < mid → mid ≤ q → q < b → lt (f p) (f q)) (h1 : ∀ p, a ≤ p → p < mid → ∃ p', a ≤ p' ∧ p' < mid ∧ g p = f p') (h2 : ∀ q, mid ≤ q → q < b → ∃ q', mid ≤ q' ∧ q' < b ∧ g q = f q') (s1 : Srt lt g a mid) (s2 : Srt lt g mid b) : Srt lt g a b := by
  intro p q hp hpq hq
  by_cases hpm : p < mid
  · by_cases hqm : q < mid
    · exact s1 p q hp hpq hqm
    · obtain ⟨p', a1, a2, a3⟩ := h1 p hp hpm
      obtain ⟨q', b1, b2, b3⟩ := h2 q (by omega) hq
      rw [a3, b3]
      exact hx p' q' a1 a2 b1 b2
  · exact s2 p q (by omega) hpq hq
end Go.Proofs.YtieobcaegegboaaDoor
namespace Go.Proofs.YtieobcaegegboaaDoor
/-- each number stays in its block of s places; the blocks below a are sorted -/
structure Blk1 (lt : Int → Int → Prop) (s n a : Nat) (f : Nat → Int) : Prop where
  home : ∀ i, i < n → f i / (s : Int) = ((i / s : Nat) : Int)
  done : ∀ p q, p < q → q < a → q < n → p / s = q / s → lt (f p) (f q)
  rest : ∀ i, a ≤ i → i < n → f i = (i : Int)
theorem Blk1.start {lt : Int → Int → Prop} {s n : Nat} {f : Nat → Int} (h : ∀ i, i < n → f i = (i : Int)) : Blk1 lt s n 0 f :=
  ⟨fun i hi => by rw [h i hi, Int.natCast_ediv], fun p q _ h2 => by omega, fun i _ hi => h i hi⟩
theorem div_in {s a i : Nat} (hs : 0 < s) (ha : a % s = 0) (h1 : a ≤ i) (h2 : i < a + s) : i / s = a / s := by
  obtain ⟨k, hk⟩ : ∃ k, a = s * k := ⟨a / s, by have := Nat.div_add_mod a s; omega⟩
  subst hk
  rw [Nat.mul_div_cancel_left _ hs, Nat.div_eq_of_lt_le]
  · rw [Nat.mul_comm]; exact h1
  · rw [Nat.succ_mul, Nat.mul_comm]; exact h2
theorem div_ne {s a p q : Nat} (hs : 0 < s) (ha : a % s = 0) (h1 : p < a) (h2 : a ≤ q) : p / s ≠ q / s := by
  obtain ⟨k, hk⟩ : ∃ k, a = s * k := ⟨a / s, by have := Nat.div_add_mod a s; omega⟩
  subst hk
  have e1 : p / s < k := by
    rw [Nat.div_lt_iff_lt_mul hs, Nat.mul_comm]
    exact h1
  have e2 : k ≤ q / s := by
    rw [Nat.le_div_iff_mul_le hs, Nat.mul_comm]
    exact h2
  omega
/-- one more block has been sorted: [a, b), b is a + s or n -/
theorem Blk1.step {lt : Int → Int → Prop} {s n a b : Nat} {f g : Nat → Int} (hs : 0 < s) (ha : a % s = 0) (h : Blk1 lt s n a f) (hab : a ≤ b) (hb : b ≤ a + s) (hbn : b ≤ n) (sg : Seg f g a b) (st : Srt lt g a b) : Blk1 lt s n b g := by
  refine ⟨fun i hi => ?_, fun p q h1 h2 h3 h4 => ?_, fun i h1 h2 => ?_⟩
  · by_cases hin : a ≤ i ∧ i < b
    · obtain ⟨j, j1, j2, j3⟩ := sg.ins i hin.1 hin.2
      rw [j3, h.home j (by omega), div_in hs ha j1 (by omega), div_in hs ha hin.1 (by omega)]
    · rw [sg.out i (by omega)]
      exact h.home i hi
  · by_cases hp : p < a
    · by_cases hq : q < a
      · rw [sg.out p (.inl hp), sg.out q (.inl hq)]
        exact h.done p q h1 hq h3 h4
      · exact absurd h4 (div_ne hs ha hp (by omega))
    · exact st p q (by omega) h1 h2
  · rw [sg.out i (.inr h1)]
    exact h.rest i (by omega) h2
/-- blocks of 2 s below a are sorted, those of s from a on -/
structure Blk2 (lt : Int → Int → Prop) (s n a : Nat) (f : Nat → Int) : Prop where
  home : ∀ i, i < n → f i / ((2 * s : Nat) : Int) = ((i / (2 * s) : Nat) : Int)
  half : ∀ i, a ≤ i → i < n → f i / (s : Int) = ((i / s : Nat) : Int)
  done : ∀ p q, p < q → q < a → q < n → p / (2 * s) = q / (2 * s) → lt (f p) (f q)
  rest : ∀ p q, a ≤ p → p < q → q < n → p / s = q / s → lt (f p) (f q)
/-- all blocks of s places are sorted -/
structure BlkS (lt : Int → Int → Prop) (s n : Nat) (f : Nat → Int) : Prop where
  home : ∀ i, i < n → f i / (s : Int) = ((i / s : Nat) : Int)
  done : ∀ p q, p < q → q < n → p / s = q / s → lt (f p) (f q)
theorem Blk1.all {lt : Int → Int → Prop} {s n : Nat} {f : Nat → Int} (h : Blk1 lt s n n f) : BlkS lt s n f := ⟨h.home, fun p q h1 h2 h3 => h.done p q h1 h2 h2 h3⟩
theorem BlkS.start {lt : Int → Int → Prop} {s n : Nat} {f : Nat → Int} (h : BlkS lt s n f) : Blk2 lt s n 0 f := by
  refine ⟨fun i hi => ?_, fun i _ hi => h.home i hi, fun p q _ h2 => by omega, fun p q _ h2 h3 h4 => h.done p q h2 h3 h4⟩
  have e := h.home i hi
  have e2 : f i / ((2 * s : Nat) : Int) = f i / (s : Int) / 2 := by
    rw [Int.ediv_ediv_of_nonneg (by omega)]
    congr 1
    omega
  rw [e2, e, Nat.mul_comm, ← Nat.div_div_eq_div_mul]
  omega
theorem BlkS.end_ {lt : Int → Int → Prop} {s n : Nat} {f : Nat → Int} (h : BlkS lt s n f) (hn : n ≤ s) : Srt lt f 0 n := fun p q _ h2 h3 => h.done p q h2 h3 (by rw [Nat.div_eq_of_lt (by omega), Nat.div_eq_of_lt (by omega)])
theorem Blk2.all {lt : Int → Int → Prop} {s n a : Nat} {f : Nat → Int} (h : Blk2 lt s n a f) (hs : 0 < s) (ha : a % (2 * s) = 0) (hn : n ≤ a + s) : BlkS lt (2 * s) n f := by
  refine ⟨h.home, fun p q h1 h2 h3 => ?_⟩
  by_cases hq : q < a
  · exact h.done p q h1 hq h2 h3
  · by_cases hp : p < a
    · exact absurd h3 (div_ne (by omega) ha hp (by omega))
    · have ha2 : a % s = 0 := by
        obtain ⟨k, hk⟩ : ∃ k, a = 2 * s * k := ⟨a / (2 * s), by have := Nat.div_add_mod a (2 * s); omega⟩
        rw [hk, Nat.mul_comm 2 s, Nat.mul_assoc]
        exact Nat.mul_mod_right _ _
      exact h.rest p q (by omega) h1 h2 ((div_in (i := p) hs ha2 (by omega) (by omega)).trans (div_in (i := q) hs ha2 (by omega) (by omega)).symm)
theorem Blk2.runs {lt : Int → Int → Prop} {s n a b : Nat} {f : Nat → Int} (h : Blk2 lt s n a f) (hs : 0 < s) (ha : a % (2 * s) = 0) (hm : a + s ≤ b) (hb : b ≤ a + 2 * s) (hbn : b ≤ n) : Runs lt f a (a + s) b := by
  have ha2 : a % s = 0 := by
    obtain ⟨k, hk⟩ : ∃ k, a = 2 * s * k := ⟨a / (2 * s), by have := Nat.div_add_mod a (2 * s); omega⟩
    rw [hk, Nat.mul_comm 2 s, Nat.mul_assoc]
    exact Nat.mul_mod_right _ _
  have ha3 : (a + s) % s = 0 := by rw [Nat.add_mod_right]; exact ha2
  refine ⟨fun p q h1 h2 h3 => h.rest p q h1 h2 (by omega) ((div_in (i := p) hs ha2 h1 (by omega)).trans (div_in (i := q) hs ha2 (by omega) h3).symm), fun p q h1 h2 h3 => h.rest p q (by omega) h2 (by omega) ((div_in (i := p) hs ha3 h1 (by omega)).trans (div_in (i := q) hs ha3 (by omega) (by omega)).symm), fun p q h1 h2 h3 h4 => ?_⟩
  have e1 := h.half p h1 (by omega)
  have e2 := h.half q (by omega) (by omega)
  rw [div_in hs ha2 h1 h2] at e1
  rw [div_in hs ha3 h3 (by omega), Nat.add_div_right _ hs] at e2
  have h5 : f p / (s : Int) < f q / (s : Int) := by
    rw [e1, e2]
    omega
  apply Classical.byContradiction
  intro hc
  have h6 : f q / (s : Int) ≤ f p / (s : Int) := Int.ediv_le_ediv (by omega) (by omega)
  omega
theorem Blk2.step {lt : Int → Int → Prop} {s n a b : Nat} {f g : Nat → Int} (hs : 0 < s) (ha : a % (2 * s) = 0) (h : Blk2 lt s n a f) (hab : a ≤ b) (hb : b ≤ a + 2 * s) (hbn : b ≤ n) (sg : Seg f g a b) (st : Srt lt g a b) : Blk2 lt s n b g := by
  refine ⟨fun i hi => ?_, fun i h1 h2 => ?_, fun p q h1 h2 h3 h4 => ?_, fun p q h1 h2 h3 h4 => ?_⟩
  · by_cases hin : a ≤ i ∧ i < b
    · obtain ⟨j, j1, j2, j3⟩ := sg.ins i hin.1 hin.2
      rw [j3, h.home j (by omega), div_in (by omega) ha j1 (by omega), div_in (by omega) ha hin.1 (by omega)]
    · rw [sg.out i (by omega)]
      exact h.home i hi
  · rw [sg.out i (.inr h1)]
    exact h.half i (by omega) h2
  · by_cases hp : p < a
    · by_cases hq : q < a
      · rw [sg.out p (.inl hp), sg.out q (.inl hq)]
        exact h.done p q h1 hq h3 h4
      · exact absurd h4 (div_ne (by omega) ha hp (by omega))
    · exact st p q (by omega) h1 h2
  · rw [sg.out p (.inr h1), sg.out q (.inr (by omega))]
    exact h.rest p q (by omega) h2 h3 h4
/-- what is sorted, and is of the same numbers, is one -/
theorem sorted_one {lt : Int → Int → Prop} (ok : LtOk lt) {M N : List Int} (hp : M.Perm N) (h1 : Srt lt (lf M) 0 M.length) (h2 : Srt lt (lf N) 0 N.length) : M = N := by
  have hpw : ∀ {L : List Int}, Srt lt (lf L) 0 L.length → L.Pairwise lt := fun {L} h => by
    rw [List.pairwise_iff_getElem]
    intro i j hi hj hij
    have := h i j (by omega) hij hj
    rwa [lf_get hi, lf_get hj] at this
  exact List.Perm.eq_of_pairwise (le := lt) (fun a b _ _ hab hba => absurd (ok.trans _ _ _ hab hba) (ok.irr a)) (hpw h1) (hpw h2) hp
end Go.Proofs.YtieobcaegegboaaDoor
namespace Go.Proofs.YtieobcaegegboaaDoor
theorem rotF_same {f : Nat → Int} {s m e : Nat} (h : s = m ∨ m = e) (hs : s ≤ m) (hm : m ≤ e) : rotF f s m e = f := by
  funext k
  unfold rotF
  rcases h with rfl | rfl
  · split
    · rw [Nat.sub_self, Nat.add_zero]
    · rw [if_neg (by omega)]
  · rw [if_neg (by omega)]
    split
    · rw [Nat.sub_self, Nat.sub_zero]
    · rfl
/-- where the search begins, and where it ends at the latest -/
def cutLo (a m b mid : Nat) : Nat := if mid < m then mid + m - b else a
def cutHi (m mid : Nat) : Nat := if mid < m then mid else m
structure Sch (lt : Int → Int → Prop) (f : Nat → Int) (a m b mid s r : Nat) : Prop where
  from_ : cutLo a m b mid ≤ s
  le : s ≤ r
  upto : r ≤ cutHi m mid
  lo : s = cutLo a m b mid ∨ lt (f (s - 1)) (f (mid + m - s))
  hi : r = cutHi m mid ∨ lt (f (mid + m - 1 - r)) (f r)
theorem cut_at {a m b mid c : Nat} (hmid : (a + b) / 2 = mid) (ham : a < m) (hmb : m < b) (h1 : cutLo a m b mid ≤ c) (h2 : c < cutHi m mid) : a ≤ c ∧ c < m ∧ m ≤ mid + m - 1 - c ∧ mid + m - 1 - c < b := by
  unfold cutLo at h1
  unfold cutHi at h2
  split at h1
  · rename_i h
    rw [if_pos h] at h2
    omega
  · rename_i h
    rw [if_neg h] at h2
    omega
theorem Sch.start {lt : Int → Int → Prop} {f : Nat → Int} {a m b mid : Nat} (hmid : (a + b) / 2 = mid) (ham : a < m) (hmb : m < b) : Sch lt f a m b mid (cutLo a m b mid) (cutHi m mid) :=
  ⟨Nat.le_refl _, by
    unfold cutLo cutHi
    split <;> omega, Nat.le_refl _, .inl rfl, .inl rfl⟩
theorem Sch.left {lt : Int → Int → Prop} {f : Nat → Int} {a m b mid s r c : Nat} (h : Sch lt f a m b mid s r) (h1 : s ≤ c) (h2 : c < r) (hl : lt (f (mid + m - 1 - c)) (f c)) : Sch lt f a m b mid s c :=
  ⟨h.from_, h1, by have := h.upto; omega, h.lo, .inr hl⟩
theorem Sch.right {lt : Int → Int → Prop} {f : Nat → Int} {a m b mid s r c : Nat} (h : Sch lt f a m b mid s r) (h1 : s ≤ c) (h2 : c < r) (hl : lt (f c) (f (mid + m - 1 - c))) : Sch lt f a m b mid (c + 1) r :=
  ⟨by have := h.from_; omega, h2, h.upto, .inr (by rw [Nat.add_sub_cancel, show mid + m - (c + 1) = mid + m - 1 - c by omega]; exact hl), h.hi⟩
theorem Sch.cut {lt : Int → Int → Prop} {f : Nat → Int} {a m b mid s : Nat} (hmid : (a + b) / 2 = mid) (ham : a < m) (hmb : m < b) (h : Sch lt f a m b mid s s) : CutAt lt f a m b mid s := by
  have ha := h.from_
  have hc := h.upto
  have hlo := h.lo
  have hhi := h.hi
  unfold cutLo at ha hlo
  unfold cutHi at hc hhi
  by_cases hm : mid < m
  · rw [if_pos hm] at ha hlo hc hhi
    refine ⟨by omega, by omega, by omega, by omega, by omega, ?_, ?_⟩
    · exact hlo.elim (fun e => .inr (.inl (by omega))) fun e => .inr (.inr e)
    · exact hhi.elim (fun e => .inr (.inl e)) fun e => .inr (.inr (by rw [show mid + m - s - 1 = mid + m - 1 - s by omega]; exact e))
  · rw [if_neg hm] at ha hlo hc hhi
    refine ⟨by omega, by omega, by omega, by omega, by omega, ?_, ?_⟩
    · exact hlo.elim .inl fun e => .inr (.inr e)
    · exact hhi.elim .inl fun e => .inr (.inr (by rw [show mid + m - s - 1 = mid + m - 1 - s by omega]; exact e))
theorem Runs.empty {lt : Int → Int → Prop} {f : Nat → Int} {a s b : Nat} (h : Runs lt f a s b) (hs : s = a ∨ s = b) : Srt lt f a b := by
  rcases hs with rfl | rfl
  · exact h.r
  · exact h.l
theorem Runs.ext {lt : Int → Int → Prop} {f g : Nat → Int} {a s b : Nat} (h : Runs lt f a s b) (he : ∀ i, a ≤ i → i < b → g i = f i) (has : a ≤ s) (hsb : s ≤ b) : Runs lt g a s b := by
  refine ⟨fun i j h1 h2 h3 => ?_, fun i j h1 h2 h3 => ?_, fun p q h1 h2 h3 h4 => ?_⟩
  · rw [he i h1 (by omega), he j (by omega) (by omega)]
    exact h.l i j h1 h2 h3
  · rw [he i (by omega) (by omega), he j (by omega) h3]
    exact h.r i j h1 h2 h3
  · rw [he p h1 (by omega), he q (by omega) h4]
    exact h.x p q h1 h2 h3 h4
theorem Srt.ext {lt : Int → Int → Prop} {f g : Nat → Int} {a b : Nat} (h : Srt lt f a b) (he : ∀ i, a ≤ i → i < b → g i = f i) : Srt lt g a b := fun i j h1 h2 h3 => by
  rw [he i h1 (by omega), he j (by omega) h3]
  exact h i j h1 h2 h3
/-- both sides of the cut sorted, the whole is -/
theorem merged {lt : Int → Int → Prop} {f g g2 : Nat → Int} {a mid b : Nat} (hx : ∀ p q, a ≤ p → p < mid → mid ≤ q → q < b → lt (f p) (f q)) (s1 : Seg f g a mid) (s2 : Seg g g2 mid b) (h1 : Srt lt g a mid) (h2 : Srt lt g2 mid b) : Srt lt g2 a b := by
  refine halves hx (fun p hp1 hp2 => ?_) (fun q hq1 hq2 => ?_) (h1.ext fun i _ hi => s2.out i (.inl hi)) h2
  · rw [s2.out p (.inl hp2)]
    exact s1.ins p hp1 hp2
  · obtain ⟨j, j1, j2, j3⟩ := s2.ins q hq1 hq2
    exact ⟨j, j1, j2, by rw [j3, s1.out j (.inr j1)]⟩
theorem Seg.refl (f : Nat → Int) (a b : Nat) : Seg f f a b := ⟨fun _ _ => rfl, fun i h1 h2 => ⟨i, h1, h2, rfl⟩⟩
end Go.Proofs.YtieobcaegegboaaDoor
namespace Go.Proofs.YtieobcaegegboaaDoor
/-- a fee and a size -/
structure Wt where
  fee : Nat
  size : Int
def sz (a : Wt) : Nat := (max a.size 1).toNat
theorem sz_pos (a : Wt) : 0 < sz a := by
  unfold sz
  omega
/-- pays less a byte -/
def lessW (a b : Wt) : Prop := a.fee * sz b < b.fee * sz a
def leW (a b : Wt) : Prop := a.fee * sz b ≤ b.fee * sz a
instance (a b : Wt) : Decidable (lessW a b) := inferInstanceAs (Decidable (_ < _))
instance (a b : Wt) : Decidable (leW a b) := inferInstanceAs (Decidable (_ ≤ _))
theorem lessW_irr (a : Wt) : ¬ lessW a a := Nat.lt_irrefl _
theorem lessW_not {a b : Wt} : ¬ lessW a b ↔ leW b a := Nat.not_lt
theorem leW_of {a b : Wt} (h : lessW a b) : leW a b := Nat.le_of_lt h
theorem three {x y z p q r : Nat} : x * r * q = x * q * r ∧ y * p * r = y * r * p ∧ z * q * p = z * p * q := by
  refine ⟨?_, ?_, ?_⟩ <;> rw [Nat.mul_assoc, Nat.mul_assoc] <;> congr 1 <;> exact Nat.mul_comm _ _
theorem leW_trans {a b c : Wt} (h1 : leW a b) (h2 : leW b c) : leW a c := by
  obtain ⟨e1, e2, e3⟩ := three (x := a.fee) (y := b.fee) (z := c.fee) (p := sz a) (q := sz b) (r := sz c)
  have k1 : a.fee * sz b * sz c ≤ b.fee * sz a * sz c := Nat.mul_le_mul_right _ h1
  have k2 : b.fee * sz c * sz a ≤ c.fee * sz b * sz a := Nat.mul_le_mul_right _ h2
  have k3 : a.fee * sz c * sz b ≤ c.fee * sz a * sz b := by omega
  exact Nat.le_of_mul_le_mul_right k3 (sz_pos b)
theorem lessW_le {a b c : Wt} (h1 : lessW a b) (h2 : leW b c) : lessW a c := by
  obtain ⟨e1, e2, e3⟩ := three (x := a.fee) (y := b.fee) (z := c.fee) (p := sz a) (q := sz b) (r := sz c)
  have k1 : a.fee * sz b * sz c < b.fee * sz a * sz c := Nat.mul_lt_mul_of_pos_right h1 (sz_pos c)
  have k2 : b.fee * sz c * sz a ≤ c.fee * sz b * sz a := Nat.mul_le_mul_right _ h2
  have k3 : a.fee * sz c * sz b < c.fee * sz a * sz b := by omega
  exact Nat.lt_of_mul_lt_mul_right k3
theorem leW_less {a b c : Wt} (h1 : leW a b) (h2 : lessW b c) : lessW a c := by
  obtain ⟨e1, e2, e3⟩ := three (x := a.fee) (y := b.fee) (z := c.fee) (p := sz a) (q := sz b) (r := sz c)
  have k1 : a.fee * sz b * sz c ≤ b.fee * sz a * sz c := Nat.mul_le_mul_right _ h1
  have k2 : b.fee * sz c * sz a < c.fee * sz b * sz a := Nat.mul_lt_mul_of_pos_right h2 (sz_pos a)
  have k3 : a.fee * sz c * sz b < c.fee * sz a * sz b := by omega
  exact Nat.lt_of_mul_lt_mul_right k3
theorem lessW_trans {a b c : Wt} (h1 : lessW a b) (h2 : lessW b c) : lessW a c := lessW_le h1 (leW_of h2)
theorem lessW_asym {a b : Wt} (h1 : lessW a b) (h2 : lessW b a) : False := lessW_irr a (lessW_trans h1 h2)
/-- with more bytes and no more fee one is no better -/
theorem more_bytes {a b : Wt} (hf : a.fee ≤ b.fee) (hs : b.size ≤ a.size) : ¬ lessW b a := by
  rw [lessW_not]
  unfold leW
  exact Nat.mul_le_mul hf (by unfold sz; omega)
/-- the weight at a place -/
def wAt (l : List Wt) (x : Int) : Wt := (l[x.toNat]?).getD ⟨0, 0⟩
/-- which of two places comes first: the better payer's; of equals the first -/
def ltP (l : List Wt) (x y : Int) : Prop := lessW (wAt l y) (wAt l x) ∨ (¬ lessW (wAt l x) (wAt l y) ∧ x < y)
theorem ltP_ok (l : List Wt) : LtOk (ltP l) := by
  refine ⟨fun x h => ?_, fun x y z h1 h2 => ?_, fun x y hne => ?_⟩
  · rcases h with h | h
    · exact lessW_irr _ h
    · omega
  · rcases h1 with h1 | ⟨h1, h1'⟩
    · rcases h2 with h2 | ⟨h2, _⟩
      · exact .inl (lessW_trans h2 h1)
      · exact .inl (leW_less (lessW_not.1 h2) h1)
    · rcases h2 with h2 | ⟨h2, h2'⟩
      · exact .inl (lessW_le h2 (lessW_not.1 h1))
      · exact .inr ⟨lessW_not.2 (leW_trans (lessW_not.1 h2) (lessW_not.1 h1)), by omega⟩
  · by_cases h1 : lessW (wAt l y) (wAt l x)
    · exact .inl (.inl h1)
    · by_cases h2 : lessW (wAt l x) (wAt l y)
      · exact .inr (.inl h2)
      · by_cases h3 : x < y
        · exact .inl (.inr ⟨h2, h3⟩)
        · exact .inr (.inr ⟨h1, by omega⟩)
/-- of two places, the one on the left less as a number, the right one comes first just if it is better -/
theorem ltP_cross {l : List Wt} {x y : Int} (h : x < y) : ltP l y x ↔ lessW (wAt l x) (wAt l y) := by
  unfold ltP
  constructor
  · rintro (h1 | ⟨_, h2⟩)
    · exact h1
    · omega
  · exact .inl
/-- the places 0, 1 .. -/
def places (n : Nat) : List Int := (List.range n).map fun (i : Nat) => (i : Int)
theorem places_len (n : Nat) : (places n).length = n := by simp [places]
theorem lf_places {n i : Nat} (h : i < n) : lf (places n) i = i := by
  rw [lf_get (by rw [places_len]; exact h)]
  simp [places]
theorem places_nodup (n : Nat) : (places n).Nodup := by
  unfold places
  rw [List.nodup_iff_pairwise_ne, List.pairwise_map]
  exact (List.pairwise_lt_range (n := n)).imp fun {a b} h => by omega
/-- the worst place so far; -1: none -/
def worstK (l : List Wt) : Nat → Int
  | 0 => -1
  | k + 1 => if worstK l k < 0 ∨ lessW (wAt l k) (wAt l (worstK l k)) then k else worstK l k
theorem worstK_spec (l : List Wt) : ∀ k, (k = 0 → worstK l k = -1) ∧ (0 < k → 0 ≤ worstK l k ∧ worstK l k < k ∧ (∀ i : Nat, i < k → ¬ lessW (wAt l i) (wAt l (worstK l k))) ∧ ∀ i : Nat, (i : Int) < worstK l k → lessW (wAt l (worstK l k)) (wAt l i))
  | 0 => ⟨fun _ => rfl, fun h => absurd h (by omega)⟩
  | k + 1 => by
    refine ⟨fun h => absurd h (by omega), fun _ => ?_⟩
    obtain ⟨h0, h1⟩ := worstK_spec l k
    unfold worstK
    by_cases hc : worstK l k < 0 ∨ lessW (wAt l k) (wAt l (worstK l k))
    · rw [if_pos hc]
      by_cases hk : k = 0
      · subst hk
        refine ⟨by omega, by omega, fun i hi => ?_, fun i hi => by omega⟩
        have : i = 0 := by omega
        subst this
        exact lessW_irr _
      · obtain ⟨a1, a2, a3, a4⟩ := h1 (by omega)
        have hl := hc.resolve_left (by omega)
        refine ⟨by omega, by omega, fun i hi => ?_, fun i hi => ?_⟩
        · by_cases hik : i = k
          · subst hik
            exact lessW_irr _
          · intro hh
            exact a3 i (by omega) (lessW_trans hh hl)
        · exact lessW_le hl (lessW_not.1 (a3 i (by omega)))
    · rw [if_neg hc]
      rw [not_or] at hc
      have hk : k ≠ 0 := fun e => hc.1 (by rw [h0 e]; omega)
      obtain ⟨a1, a2, a3, a4⟩ := h1 (by omega)
      refine ⟨a1, by omega, fun i hi => ?_, a4⟩
      by_cases hik : i = k
      · subst hik
        exact hc.2
      · exact a3 i (by omega)
end Go.Proofs.YtieobcaegegboaaDoor
namespace Go.Proofs.YtieobcaegegboaaDoor
/-- behind how many of the first k of p a place comes that is no better than these -/
def posK (l : List Wt) (p : List Int) (i : Int) : Nat → Nat
  | 0 => 0
  | k + 1 => if lessW (wAt l (lf p k)) (wAt l i) then posK l p i k else k + 1
theorem posK_spec (l : List Wt) (p : List Int) (i : Int) : ∀ k, posK l p i k ≤ k ∧ (posK l p i k = 0 ∨ ¬ lessW (wAt l (lf p (posK l p i k - 1))) (wAt l i)) ∧ ∀ j, posK l p i k ≤ j → j < k → lessW (wAt l (lf p j)) (wAt l i)
  | 0 => ⟨by simp [posK], .inl rfl, fun j _ h => by omega⟩
  | k + 1 => by
    obtain ⟨h1, h2, h3⟩ := posK_spec l p i k
    unfold posK
    by_cases h : lessW (wAt l (lf p k)) (wAt l i)
    · rw [if_pos h]
      refine ⟨by omega, h2, fun j hj hk => ?_⟩
      by_cases e : j = k
      · subst e
        exact h
      · exact h3 j hj (by omega)
    · rw [if_neg h]
      exact ⟨by omega, .inr h, fun j hj hk => by omega⟩
/-- the first k places in order -/
def ordK (l : List Wt) : Nat → List Int
  | 0 => []
  | k + 1 => (ordK l k).take (posK l (ordK l k) k (ordK l k).length) ++ (k : Int) :: (ordK l k).drop (posK l (ordK l k) k (ordK l k).length)
theorem places_next (k : Nat) : places (k + 1) = places k ++ [(k : Int)] := by
  unfold places
  rw [List.range_succ, List.map_append]
  rfl
theorem ordK_perm (l : List Wt) : ∀ k, (ordK l k).Perm (places k)
  | 0 => List.Perm.refl _
  | k + 1 => by
    rw [places_next]
    unfold ordK
    refine (List.perm_middle).trans ?_
    rw [List.take_append_drop]
    exact ((ordK_perm l k).cons _).trans (List.perm_append_comm (l₁ := [(k : Int)]))
theorem places_mem {n : Nat} {x : Int} : x ∈ places n ↔ 0 ≤ x ∧ x < n := by
  unfold places
  rw [List.mem_map]
  constructor
  · rintro ⟨i, hi, rfl⟩
    have := List.mem_range.1 hi
    omega
  · rintro ⟨h1, h2⟩
    exact ⟨x.toNat, List.mem_range.2 (by omega), by omega⟩
theorem ordK_len (l : List Wt) (k : Nat) : (ordK l k).length = k := by rw [(ordK_perm l k).length_eq, places_len]
theorem ordK_sorted (l : List Wt) : ∀ k, (ordK l k).Pairwise (ltP l)
  | 0 => List.Pairwise.nil
  | k + 1 => by
    have ih := ordK_sorted l k
    have ok := ltP_ok l
    unfold ordK
    obtain ⟨p, hp⟩ : ∃ p, ordK l k = p := ⟨_, rfl⟩
    have hlen := ordK_len l k
    have hlt : ∀ x ∈ p, x < (k : Int) := fun x hx => by
      rw [← hp] at hx
      exact (places_mem.1 ((ordK_perm l k).mem_iff.1 hx)).2
    rw [hp] at ih hlen ⊢
    obtain ⟨h1, h2, h3⟩ := posK_spec l p k p.length
    obtain ⟨q, hq⟩ : ∃ q, posK l p k p.length = q := ⟨_, rfl⟩
    rw [hq] at h1 h2 h3 ⊢
    have hpi := List.pairwise_iff_getElem.1 ih
    have hhi : ∀ y ∈ p.drop q, ltP l k y := fun y hy => by
      obtain ⟨j, hj, rfl⟩ := List.mem_iff_getElem.1 hy
      rw [List.length_drop] at hj
      have h4 := h3 (q + j) (by omega) (by omega)
      rw [lf_get (by omega)] at h4
      rw [List.getElem_drop]
      exact .inl h4
    have hlo : ∀ x ∈ p.take q, ltP l x k := fun x hx => by
      obtain ⟨j, hj, rfl⟩ := List.mem_iff_getElem.1 hx
      rw [List.length_take] at hj
      have h5 := h2.resolve_left (by omega)
      rw [lf_get (by omega)] at h5
      have h6 : ltP l (p[q - 1]'(by omega)) k := .inr ⟨h5, hlt _ (List.getElem_mem _)⟩
      rw [List.getElem_take]
      by_cases e : j = q - 1
      · subst e
        exact h6
      · exact ok.trans _ _ _ (hpi j (q - 1) (by omega) (by omega) (by omega)) h6
    rw [List.pairwise_append, List.pairwise_cons]
    refine ⟨ih.sublist (List.take_sublist _ _), ⟨hhi, ih.sublist (List.drop_sublist _ _)⟩, fun x hx y hy => ?_⟩
    rcases List.mem_cons.1 hy with rfl | hy
    · exact hlo x hx
    · exact ok.trans _ _ _ (hlo x hx) (hhi y hy)
theorem srt_of {lt : Int → Int → Prop} {L : List Int} (h : L.Pairwise lt) : Srt lt (lf L) 0 L.length := fun i j _ h2 h3 => by
  rw [lf_get (by omega), lf_get h3]
  exact List.pairwise_iff_getElem.1 h i j (by omega) h3 h2
/-- what is sorted in place is the document's order -/
theorem order_one (l : List Wt) {n : Nat} {M : List Int} (hp : M.Perm (places n)) (hs : Srt (ltP l) (lf M) 0 n) : M = ordK l n := by
  have hl : M.length = n := by rw [hp.length_eq, places_len]
  refine sorted_one (ltP_ok l) (hp.trans (ordK_perm l n).symm) (by rw [hl]; exact hs) ?_
  exact srt_of (ordK_sorted l n)
/-- is a place one than which none is less -/
def leastB (l : List Wt) (i : Nat) : Bool := (List.range l.length).all fun j => !decide (lessW (wAt l j) (wAt l i))
theorem leastB_iff {l : List Wt} {i : Nat} : leastB l i = true ↔ ∀ j : Nat, j < l.length → ¬ lessW (wAt l j) (wAt l i) := by
  unfold leastB
  rw [List.all_eq_true]
  constructor
  · intro h j hj
    have := h j (List.mem_range.2 hj)
    simpa using this
  · intro h j hj
    have := h j (List.mem_range.1 hj)
    simpa using this
/-- the first least place is the worst one -/
theorem worst_first {l : List Wt} {i : Nat} (hi : i < l.length) (hl : leastB l i = true) (hno : ∀ j : Nat, j < i → leastB l j = false) : worstK l l.length = i := by
  obtain ⟨a1, a2, a3, a4⟩ := (worstK_spec l l.length).2 (by omega)
  obtain ⟨m, hm⟩ : ∃ m : Nat, worstK l l.length = m := ⟨(worstK l l.length).toNat, by omega⟩
  rw [hm] at a2 a3 a4 ⊢
  by_cases h1 : i < m
  · exact absurd (a4 i (by omega)) (leastB_iff.1 hl m (by omega))
  · by_cases h2 : m < i
    · have h3 := hno m h2
      have h4 : leastB l m = true := leastB_iff.2 a3
      rw [h4] at h3
      cases h3
    · omega
theorem worst_some {l : List Wt} (h : 0 < l.length) : ∃ i, i < l.length ∧ leastB l i = true := by
  obtain ⟨a1, a2, a3, _⟩ := (worstK_spec l l.length).2 h
  obtain ⟨m, hm⟩ : ∃ m : Nat, worstK l l.length = m := ⟨(worstK l l.length).toNat, by omega⟩
  rw [hm] at a2 a3
  exact ⟨m, by omega, leastB_iff.2 a3⟩
end Go.Proofs.YtieobcaegegboaaDoor
namespace Go.Proofs.YtieobcaegegboaaDoor
/-- spends an output: of which transaction, which one; the key -/
structure PIn where
  tx : List (BitVec 8)
  n : Nat
  key : List (BitVec 8)
/-- so much for whoever opens the lock -/
structure POut where
  value : Nat
  lock : List (BitVec 8)
structure PTx where
  ver : Nat
  ins : List PIn
  outs : List POut
def ptOf (x : PIn) : List (BitVec 8) × Nat := (x.tx, x.n)
def formB (t : PTx) : Bool := (t.ins.all fun x => decide (x.key.length ≤ 64)) && (decide (t.ins.length ≤ 8) && decide (t.outs.length ≤ 8))
/-- is each value some money, and are all of them no more than there is -/
def moneyB (o : List POut) : Bool := (o.all fun x => decide (x.value ≠ 0) && decide (x.value ≤ 1125899906842624)) && decide ((o.map POut.value).sum ≤ 1125899906842624)
/-- the points that stand in a list, each once, as they come -/
def once : List (List (BitVec 8) × Nat) → List (List (BitVec 8) × Nat) → List (List (BitVec 8) × Nat)
  | acc, [] => acc
  | acc, p :: r => if p ∈ acc then once acc r else once (acc ++ [p]) r
def twiceB (t : PTx) : Bool := decide ((once [] (t.ins.map ptOf)).length < t.ins.length)
/-- the number of what may not be; 0: nothing -/
def checkN (t : PTx) : Nat := if formB t then (if t.ins = [] ∨ t.outs = [] then 9 else if moneyB t.outs then (if twiceB t then 12 else 0) else 11) else 5
theorem once_le : ∀ (r acc : List (List (BitVec 8) × Nat)), (once acc r).length ≤ acc.length + r.length
  | [], acc => by simp [once]
  | p :: r, acc => by
    unfold once
    split
    · have := once_le r acc
      simp only [List.length_cons]
      omega
    · have := once_le r (acc ++ [p])
      simp only [List.length_append, List.length_cons, List.length_nil] at this ⊢
      omega
theorem once_snoc (p : List (BitVec 8) × Nat) : ∀ (r acc : List (List (BitVec 8) × Nat)), once acc (r ++ [p]) = if p ∈ once acc r then once acc r else once acc r ++ [p]
  | [], acc => by
    simp only [List.nil_append]
    rfl
  | q :: r, acc => by
    rw [List.cons_append]
    unfold once
    split
    · exact once_snoc p r _
    · exact once_snoc p r _
theorem once_mem {q : List (BitVec 8) × Nat} : ∀ {r acc : List (List (BitVec 8) × Nat)}, q ∈ once acc r ↔ q ∈ acc ∨ q ∈ r
  | [], acc => by simp [once]
  | p :: r, acc => by
    unfold once
    split
    · rename_i h
      rw [once_mem (r := r), List.mem_cons]
      constructor
      · rintro (h1 | h1)
        · exact .inl h1
        · exact .inr (.inr h1)
      · rintro (h1 | rfl | h1)
        · exact .inl h1
        · exact .inl h
        · exact .inr h1
    · rw [once_mem (r := r), List.mem_append, List.mem_singleton, List.mem_cons]
      constructor
      · rintro ((h1 | h1) | h1)
        · exact .inl h1
        · exact .inr (.inl h1)
        · exact .inr (.inr h1)
      · rintro (h1 | h1 | h1)
        · exact .inl (.inl h1)
        · exact .inl (.inr h1)
        · exact .inr h1
/-- all points are unlike just if none was left out -/
theorem once_nodup : ∀ (r acc : List (List (BitVec 8) × Nat)), ((once acc r).length = acc.length + r.length) ↔ (r.Nodup ∧ ∀ q ∈ r, q ∉ acc)
  | [], acc => by simp [once]
  | p :: r, acc => by
    unfold once
    by_cases h : p ∈ acc
    · rw [if_pos h]
      have h1 := once_le r acc
      constructor
      · intro h2
        simp only [List.length_cons] at h2
        omega
      · rintro ⟨_, h2⟩
        exact absurd h (h2 p (by simp))
    · rw [if_neg h]
      have ih := once_nodup r (acc ++ [p])
      simp only [List.length_append, List.length_cons, List.length_nil] at ih ⊢
      rw [show acc.length + (r.length + 1) = acc.length + (0 + 1) + r.length by omega, ih, List.nodup_cons]
      constructor
      · rintro ⟨h1, h2⟩
        refine ⟨⟨fun hp => (h2 p hp) (by simp), h1⟩, fun q hq => ?_⟩
        rcases List.mem_cons.1 hq with rfl | hq
        · exact h
        · intro hqa
          exact h2 q hq (by simp [hqa])
      · rintro ⟨⟨h1, h2⟩, h3⟩
        refine ⟨h2, fun q hq => ?_⟩
        rw [List.mem_append, List.mem_singleton, not_or]
        refine ⟨h3 q (by simp [hq]), ?_⟩
        rintro rfl
        exact h1 hq
theorem twice_iff (t : PTx) : twiceB t = true ↔ ¬ (t.ins.map ptOf).Nodup := by
  unfold twiceB
  rw [decide_eq_true_eq]
  have h1 := once_nodup (t.ins.map ptOf) []
  have h2 := once_le (t.ins.map ptOf) []
  simp only [List.length_nil, Nat.zero_add, List.length_map, List.not_mem_nil, not_false_eq_true, implies_true, and_true] at h1 h2
  rw [← h1]
  omega
/-- the document's way: what is left of the money, value by value; none: too much, or nothing -/
def leftM : Nat → List POut → Option Nat
  | m, [] => some m
  | m, x :: r => if x.value = 0 ∨ m < x.value then none else leftM (m - x.value) r
theorem leftM_iff : ∀ (o : List POut) (m : Nat), m ≤ 1125899906842624 → ((leftM m o).isSome = true ↔ (∀ x ∈ o, x.value ≠ 0 ∧ x.value ≤ 1125899906842624) ∧ (o.map POut.value).sum ≤ m)
  | [], m, _ => by simp [leftM]
  | x :: r, m, hm => by
    unfold leftM
    rw [List.map_cons, List.sum_cons]
    by_cases h : x.value = 0 ∨ m < x.value
    · rw [if_pos h]
      constructor
      · intro h1
        cases h1
      · rintro ⟨h1, h2⟩
        have := (h1 x (by simp)).1
        omega
    · rw [if_neg h, leftM_iff r (m - x.value) (by omega)]
      rw [not_or] at h
      constructor
      · rintro ⟨h1, h2⟩
        refine ⟨fun y hy => ?_, by omega⟩
        rcases List.mem_cons.1 hy with rfl | hy
        · exact ⟨h.1, by omega⟩
        · exact h1 y hy
      · rintro ⟨h1, h2⟩
        exact ⟨fun y hy => h1 y (by simp [hy]), by omega⟩
theorem money_left (o : List POut) : moneyB o = (leftM 1125899906842624 o).isSome := by
  rw [Bool.eq_iff_iff, leftM_iff o _ (Nat.le_refl _)]
  unfold moneyB
  simp only [Bool.and_eq_true, List.all_eq_true, decide_eq_true_eq]
end Go.Proofs.YtieobcaegegboaaDoor
namespace Go.Proofs.YtieobcaegegboaaDoor
abbrev HFn := List (BitVec 8) → List (BitVec 8)
/-- does each key open its lock -/
def lockB (H : HFn) : List PIn → List POut → Bool
  | x :: r, o :: q => decide (H x.key = o.lock) && lockB H r q
  | _, _ => true
def sumO (o : List POut) : Nat := (o.map POut.value).sum
/-- what is paid, and what may not be -/
def payN (H : HFn) (t : PTx) (prev : List POut) : Nat × Nat :=
  if checkN t ≠ 0 then (0, checkN t) else if prev.length ≠ t.ins.length then (0, 2) else if lockB H t.ins prev then (if sumO prev < 18446744073709551616 ∧ sumO t.outs ≤ sumO prev then (sumO prev - sumO t.outs, 0) else (0, 11)) else (0, 13)
theorem check_cases (t : PTx) : (checkN t = 5 ∧ formB t = false) ∨ (checkN t = 9 ∧ formB t = true) ∨ (checkN t = 11 ∧ formB t = true) ∨ (checkN t = 12 ∧ formB t = true) ∨ checkN t = 0 := by
  unfold checkN
  cases formB t with
  | false => exact .inl ⟨rfl, rfl⟩
  | true =>
    rw [if_pos rfl]
    split
    · exact .inr (.inl ⟨rfl, rfl⟩)
    · split
      · split
        · exact .inr (.inr (.inr (.inl ⟨rfl, rfl⟩)))
        · exact .inr (.inr (.inr (.inr rfl)))
      · exact .inr (.inr (.inl ⟨rfl, rfl⟩))
structure TOk (t : PTx) : Prop where
  form : formB t = true
  ins : t.ins ≠ []
  outs : t.outs ≠ []
  money : moneyB t.outs = true
  once : twiceB t = false
theorem check_ok {t : PTx} : checkN t = 0 ↔ TOk t := by
  unfold checkN
  constructor
  · intro h
    split at h
    · rename_i h1
      split at h
      · cases h
      · rename_i h2
        rw [not_or] at h2
        split at h
        · rename_i h3
          split at h
          · cases h
          · rename_i h4
            exact ⟨h1, h2.1, h2.2, h3, by simpa using h4⟩
        · cases h
    · cases h
  · intro h
    have hno : ¬ (t.ins = [] ∨ t.outs = []) := fun c => c.elim h.ins h.outs
    rw [if_pos h.form, if_neg hno, if_pos h.money, if_neg (by rw [h.once]; simp)]
theorem TOk.small {t : PTx} (h : TOk t) : (∀ x ∈ t.ins, x.key.length ≤ 64) ∧ t.ins.length ≤ 8 ∧ t.outs.length ≤ 8 ∧ (∀ x ∈ t.outs, 0 < x.value ∧ x.value ≤ 1125899906842624) ∧ sumO t.outs ≤ 1125899906842624 := by
  have h1 := h.form
  have h2 := h.money
  unfold formB at h1
  unfold moneyB at h2
  simp only [Bool.and_eq_true, List.all_eq_true, decide_eq_true_eq] at h1 h2
  exact ⟨h1.1, h1.2.1, h1.2.2, fun x hx => ⟨Nat.pos_of_ne_zero (h2.1 x hx).1, (h2.1 x hx).2⟩, h2.2⟩
theorem pay_ok {H : HFn} {t : PTx} {prev : List POut} (h : (payN H t prev).2 = 0) : TOk t ∧ prev.length = t.ins.length ∧ lockB H t.ins prev = true ∧ sumO prev < 18446744073709551616 ∧ sumO t.outs ≤ sumO prev ∧ (payN H t prev).1 = sumO prev - sumO t.outs := by
  unfold payN at h ⊢
  by_cases h1 : checkN t ≠ 0
  · rw [if_pos h1] at h
    exact absurd h h1
  · rw [if_neg h1] at h ⊢
    by_cases h2 : prev.length ≠ t.ins.length
    · rw [if_pos h2] at h
      cases h
    · rw [if_neg h2] at h ⊢
      by_cases h3 : lockB H t.ins prev = true
      · rw [if_pos h3] at h ⊢
        by_cases h4 : sumO prev < 18446744073709551616 ∧ sumO t.outs ≤ sumO prev
        · rw [if_pos h4]
          exact ⟨check_ok.1 (Classical.not_not.1 h1), Classical.not_not.1 h2, h3, h4.1, h4.2, rfl⟩
        · rw [if_neg h4] at h
          cases h
      · rw [if_neg h3] at h
        cases h
theorem pay_zero {H : HFn} {t : PTx} {prev : List POut} (h : (payN H t prev).2 ≠ 0) : (payN H t prev).1 = 0 := by
  unfold payN at h ⊢
  split
  · rfl
  · rename_i h1
    rw [if_neg h1] at h
    split
    · rfl
    · rename_i h2
      rw [if_neg h2] at h
      split
      · rename_i h3
        rw [if_pos h3] at h
        split
        · rename_i h4
          rw [if_pos h4] at h
          exact absurd rfl h
        · rfl
      · rfl
theorem lock_at {H : HFn} : ∀ {ins : List PIn} {prev : List POut}, lockB H ins prev = true → ∀ k (h1 : k < ins.length) (h2 : k < prev.length), H ins[k].key = prev[k].lock
  | x :: r, o :: q, h, 0, _, _ => by
    unfold lockB at h
    simp only [Bool.and_eq_true, decide_eq_true_eq] at h
    exact h.1
  | x :: r, o :: q, h, k + 1, h1, h2 => by
    unfold lockB at h
    simp only [Bool.and_eq_true, decide_eq_true_eq] at h
    exact lock_at h.2 k (by simpa using h1) (by simpa using h2)
  | [], _, _, k, h1, _ => absurd h1 (by simp)
  | _ :: _, [], _, k, _, h2 => absurd h2 (by simp)
theorem lock_of {H : HFn} : ∀ {ins : List PIn} {prev : List POut}, (∀ k (h1 : k < ins.length) (h2 : k < prev.length), H ins[k].key = prev[k].lock) → lockB H ins prev = true
  | x :: r, o :: q, h => by
    unfold lockB
    rw [Bool.and_eq_true, decide_eq_true_eq]
    refine ⟨h 0 (by simp) (by simp), lock_of fun k h1 h2 => ?_⟩
    exact h (k + 1) (by simpa using h1) (by simpa using h2)
  | [], _, _ => by simp [lockB]
  | _ :: _, [], _ => by simp [lockB]
end Go.Proofs.YtieobcaegegboaaDoor
