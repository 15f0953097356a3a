/- Arguments that the caller hands in (slices, slices of slices) read as lists. Conditions: those that stand ahead of each theorem. -/
import Derived.Test.YtieobcaegegboaaDoorSep
import Derived.ProofKit
import Derived.Deep.Slices
import Derived.WideKeyArr2
import Derived.Carry
namespace Go.Px
open Go.ChangeShapes Go.WideShapes

theorem chunks_flatten {α : Type} (L : List α) (n len : Nat) : ((List.range len).map fun i => (L.drop (i * n)).take n).flatten = L.take (len * n) := by
  induction len with
  | zero => simp
  | succ k ih => rw [List.range_succ, List.map_append, List.flatten_append, ih, Nat.succ_mul, List.take_add]; simp
theorem cell_at {w : World} {a : Addr} {C : Array Value} {T : TypeId} {fr : Nat × Nat} (hb : w.heap[a.block]? = some (.cells C T fr)) (hs : a.spot = none) (k : Nat) : w.cell? (a.add k) = C[a.off + k]? := by
  obtain ⟨b, off, spot⟩ := a
  cases hs
  unfold Addr.add
  split
  · rename_i hk
    subst hk
    simp [World.cell?, hb]
  · simp [World.cell?, hb]
/-- a slice each of whose elements can be read reads as a list -/
theorem rd_of {w : World} {base : Nat} {n len cap : Nat} {a : Addr} {C : Array Value} {T : TypeId} {fr : Nat × Nat} (hb : w.heap[a.block]? = some (.cells C T fr)) (hs : a.spot = none) (hl : len ≤ cap) (hm : cap ≤ maxLen)
    {Q : List Value → Prop} (hel : ∀ i, i < len → ∃ cs, w.cells? base (a.add (i * n)) n = some cs ∧ Q cs) : ∃ l : List (List Value), Rd n w (.slice (some a) len cap) l ∧ (∀ x ∈ l, Q x) ∧ l.length = len := by
  have one : ∀ i, i < len → ((C.toList.drop a.off).drop (i * n)).take n = ((C.toList.drop a.off).drop (i * n)).take n ∧ (((C.toList.drop a.off).drop (i * n)).take n).length = n ∧ Q (((C.toList.drop a.off).drop (i * n)).take n) := by
    intro i hi
    obtain ⟨cs, h1, h2⟩ := hel i hi
    obtain ⟨_, h4, h5⟩ := World.cells?_some h1
    have e : ((C.toList.drop a.off).drop (i * n)).take n = cs := by
      apply List.ext_getElem?
      intro j
      by_cases hj : j < n
      · rw [← h5 j hj, Go.Deep.add_add, cell_at hb hs, List.getElem?_take_of_lt hj, List.getElem?_drop, List.getElem?_drop]
        simp
      · rw [List.getElem?_eq_none (by rw [List.length_take]; omega), List.getElem?_eq_none (by omega)]
    rw [e]
    exact ⟨rfl, h4, h2⟩
  refine ⟨(List.range len).map fun i => ((C.toList.drop a.off).drop (i * n)).take n, ⟨some a, cap, by simp, by simpa using hl, hm, ?_, ?_⟩, ?_, by simp⟩
  · intro x hx
    obtain ⟨i, hi, rfl⟩ := List.mem_map.1 hx
    exact (one i (List.mem_range.1 hi)).2.1
  · intro _
    refine ⟨a.block, a.off, ?_, C, T, fr, hb, ?_⟩
    · obtain ⟨b, off, spot⟩ := a
      cases hs
      rfl
    · rw [flatten_length (n := n) (by
        intro x hx
        obtain ⟨i, hi, rfl⟩ := List.mem_map.1 hx
        exact (one i (List.mem_range.1 hi)).2.1), chunks_flatten]
      simp
  · intro x hx
    obtain ⟨i, hi, rfl⟩ := List.mem_map.1 hx
    exact (one i (List.mem_range.1 hi)).2.2
theorem has_block {P : Program} {w : World} {r : Reach} {base : Nat} {a : Addr} {e n : Nat} (h : w.has P r base a e n) : a.spot = none ∧ ∃ C T fr, w.heap[a.block]? = some (.cells C T fr) := by
  obtain ⟨_, hs, row, cells, hsh, _⟩ := h
  refine ⟨hs, ?_⟩
  unfold World.shape? at hsh
  split at hsh
  · rename_i c el fr hc
    exact ⟨c, el, fr, hc⟩
  · cases hsh
/-- a slice that the caller handed in reads as a list -/
theorem open_rd {H : Type} {enc : TypeId × Value → H} {P : Program} {w : World} {base b0 : Nat} {sp : Nat → Bool} {held : Bool} {r : Reach} {t e n : Nat} (ht : P.underlying t = some (.slice e)) (hn : P.cellsOf e = n) {v : Value} {d : DataW H} {ps : List MemPlace}
    (hval : Value.okWide P w r b0 t v) (h : DataW.Trod enc P w base sp held t v d ps) {Q : List Value → Prop} (hQ : ∀ fuel cs x, DataW.trod enc P w base sp held fuel e cs = some x → Q cs) :
    ∃ l : List (List Value), Rd n w v l ∧ (∀ x ∈ l, Q x) ∧ ∀ j, sblk v j → j < w.heap.size := by
  obtain ⟨A, len, cap, rfl⟩ := okWide_slice ht hval
  obtain ⟨fuel, hf⟩ := h
  rcases Go.Deep.open_slice ht hf with ⟨hc, _⟩ | ⟨a, len', cap', m, k, D, Pl, hc, hb, hl, hm, hmm, hx, hel⟩
  · simp [Value.cells] at hc
    obtain ⟨rfl, rfl, rfl⟩ := hc
    exact ⟨[], Rd.nil, by simp, fun j hj => hj.elim⟩
  · simp [Value.cells] at hc
    obtain ⟨rfl, rfl, rfl⟩ := hc
    simp only [Value.okWide, ht, Cell.okWide, Cell.ok] at hval
    obtain ⟨hs, C, T, fr, hC⟩ := has_block hval.2.2
    subst hn
    have hlm : len ≤ m := by
      rw [hmm]
      split <;> omega
    obtain ⟨l, h1, h2, h3⟩ := rd_of (Q := Q) hC hs hl hm (fun i hi => by
      obtain ⟨cs, h1, h2⟩ := hel i (by omega)
      exact ⟨cs, h1, hQ _ _ _ h2⟩)
    exact ⟨l, h1, h2, fun j hj => by
      have hj' : j = a.block := hj
      rw [hj']
      exact (Array.getElem?_eq_some_iff.1 hC).1⟩
theorem cells_block {w : World} {base n : Nat} {a : Addr} {cs : List Value} (hn : 0 < n) (h : w.cells? base a n = some cs) : a.spot = none ∧ ∃ C T fr, w.heap[a.block]? = some (.cells C T fr) := by
  obtain ⟨_, h4, h5⟩ := World.cells?_some h
  have h0 := h5 0 hn
  have e : a.add 0 = a := by simp [Addr.add]
  rw [e, List.getElem?_eq_getElem (by omega)] at h0
  unfold World.cell? at h0
  split at h0
  · rename_i C T fr hC
    split at h0
    · cases h0
    · rename_i hs
      exact ⟨by cases hh : a.spot <;> simp_all, C, T, fr, hC⟩
  · cases h0
theorem trod_rd {H : Type} {enc : TypeId × Value → H} {P : Program} {w : World} {base : Nat} {sp : Nat → Bool} {held : Bool} {t e n : Nat} (ht : P.underlying t = some (.slice e)) (hn : P.cellsOf e = n) (hpos : 0 < n) {fuel : Nat} {cs : List Value} {x : DataW H × List MemPlace}
    (h : DataW.trod enc P w base sp held fuel t cs = some x) {Q : List Value → Prop} (hQ : ∀ fuel cs x, DataW.trod enc P w base sp held fuel e cs = some x → Q cs) : ∃ u l, cs = [u] ∧ Rd n w u l ∧ ∀ x ∈ l, Q x := by
  rcases Go.Deep.open_slice ht h with ⟨rfl, _⟩ | ⟨a, len, cap, m, k, D, Pl, rfl, hb, hl, hm, hmm, hx, hel⟩
  · exact ⟨_, [], rfl, Rd.nil, by simp⟩
  · subst hn
    refine ⟨.slice (some a) len cap, ?_⟩
    rcases Nat.eq_zero_or_pos len with h0 | h0
    · subst h0
      exact ⟨[], rfl, ⟨some a, cap, rfl, hl, hm, by simp, fun h => absurd rfl h⟩, by simp⟩
    · have hlm : len ≤ m := by
        rw [hmm]
        split <;> omega
      obtain ⟨cs0, h1, _⟩ := hel 0 (by omega)
      rw [Nat.zero_mul, show a.add 0 = a by simp [Addr.add]] at h1
      obtain ⟨hs, C, T, fr, hC⟩ := cells_block hpos h1
      obtain ⟨l, g1, g2, g3⟩ := rd_of (Q := Q) hC hs hl hm (fun i hi => by
        obtain ⟨cs, h1, h2⟩ := hel i (by omega)
        exact ⟨cs, h1, hQ _ _ _ h2⟩)
      exact ⟨l, rfl, g1, g2⟩
theorem rows_split {R : Value → List (List Value) → Prop} : ∀ {l : List (List Value)}, (∀ c ∈ l, ∃ u x, c = [u] ∧ R u x) → ∃ (us : List Value) (ls : List (List (List Value))), l = us.map (fun u => [u]) ∧ us.length = ls.length ∧ ∀ i (h : i < us.length) (h' : i < ls.length), R us[i] ls[i]
  | [], _ => ⟨[], [], rfl, rfl, fun i h => by simp at h⟩
  | c :: l, h => by
    obtain ⟨u, x, rfl, hr⟩ := h c (by simp)
    obtain ⟨us, ls, rfl, h2, h3⟩ := rows_split (l := l) fun c hc => h c (by simp [hc])
    refine ⟨u :: us, x :: ls, by simp, by simp [h2], fun i hi hi' => ?_⟩
    cases i with
    | zero => exact hr
    | succ i => exact h3 i (by simpa using hi) (by simpa using hi')
end Go.Px
