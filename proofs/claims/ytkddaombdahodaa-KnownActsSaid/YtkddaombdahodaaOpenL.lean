/- An argument that is a slice of slices of ids reads as a list of lists. Conditions: those that stand ahead of each theorem. -/
import Derived.Test.YtkddaombdahodaaOpen
import Derived.Test.YtkddaombdahodaaSep
namespace Go.Px
open Go.ChangeShapes Go.WideShapes
theorem cells_block {w : World} {base n : Nat} {a : Addr} {cs : List Value} (hn : 0 < n) (h : w.cells? base a n = some cs) : a.spot = none ∧ ∃ C T fr, w.heap[a.block]? = some (.cells C T fr) := by
  obtain ⟨_, h4, h5⟩ := World.cells?_some h
  have h0 := h5 0 hn
  have e : a.add 0 = a := by simp [Addr.add]
  rw [e, List.getElem?_eq_getElem (by omega)] at h0
  unfold World.cell? at h0
  split at h0
  · rename_i C T fr hC
    split at h0
    · cases h0
    · rename_i hs
      exact ⟨by cases hh : a.spot <;> simp_all, C, T, fr, hC⟩
  · cases h0
theorem trod_rd {H : Type} {enc : TypeId × Value → H} {P : Program} {w : World} {base : Nat} {sp : Nat → Bool} {held : Bool} {t e n : Nat} (ht : P.underlying t = some (.slice e)) (hn : P.cellsOf e = n) (hpos : 0 < n) {fuel : Nat} {cs : List Value} {x : DataW H × List MemPlace}
    (h : DataW.trod enc P w base sp held fuel t cs = some x) {Q : List Value → Prop} (hQ : ∀ fuel cs x, DataW.trod enc P w base sp held fuel e cs = some x → Q cs) : ∃ u l, cs = [u] ∧ Rd n w u l ∧ ∀ x ∈ l, Q x := by
  rcases Go.Deep.open_slice ht h with ⟨rfl, _⟩ | ⟨a, len, cap, m, k, D, Pl, rfl, hb, hl, hm, hmm, hx, hel⟩
  · exact ⟨_, [], rfl, Rd.nil, by simp⟩
  · subst hn
    refine ⟨.slice (some a) len cap, ?_⟩
    rcases Nat.eq_zero_or_pos len with h0 | h0
    · subst h0
      exact ⟨[], rfl, ⟨some a, cap, rfl, hl, hm, by simp, fun h => absurd rfl h⟩, by simp⟩
    · have hlm : len ≤ m := by
        rw [hmm]
        split <;> omega
      obtain ⟨cs0, h1, _⟩ := hel 0 (by omega)
      rw [Nat.zero_mul, show a.add 0 = a by simp [Addr.add]] at h1
      obtain ⟨hs, C, T, fr, hC⟩ := cells_block hpos h1
      obtain ⟨l, g1, g2, g3⟩ := rd_of (Q := Q) hC hs hl hm (fun i hi => by
        obtain ⟨cs, h1, h2⟩ := hel i (by omega)
        exact ⟨cs, h1, hQ _ _ _ h2⟩)
      exact ⟨l, rfl, g1, g2⟩
theorem rows_split {R : Value → List (List Value) → Prop} : ∀ {l : List (List Value)}, (∀ c ∈ l, ∃ u x, c = [u] ∧ R u x) → ∃ (us : List Value) (ls : List (List (List Value))), l = us.map (fun u => [u]) ∧ us.length = ls.length ∧ ∀ i (h : i < us.length) (h' : i < ls.length), R us[i] ls[i]
  | [], _ => ⟨[], [], rfl, rfl, fun i h => by simp at h⟩
  | c :: l, h => by
    obtain ⟨u, x, rfl, hr⟩ := h c (by simp)
    obtain ⟨us, ls, rfl, h2, h3⟩ := rows_split (l := l) fun c hc => h c (by simp [hc])
    refine ⟨u :: us, x :: ls, by simp, by simp [h2], fun i hi hi' => ?_⟩
    cases i with
    | zero => exact hr
    | succ i => exact h3 i (by simpa using hi) (by simpa using hi')
end Go.Px
namespace Go.Proofs.Ytkddaombdahodaa
open Go.ChangeShapes Go.WideShapes Go.ChangeAt Go.RowKit Go.Px
theorem open_idss {H' : Type} {enc : TypeId × Value → H'} {w : World} {base b0 : Nat} {sp : Nat → Bool} {held : Bool} {r : Reach} {v : Value} {d : DataW H'} {ps : List MemPlace} (hval : Value.okWide Try.prog w r b0 22 v) (h : DataW.Trod enc Try.prog w base sp held 22 v d ps) :
    ∃ (us : List Value) (ls : List (List (List Value))), Rd 1 w v (us.map fun u => [u]) ∧ us.length = ls.length ∧ (∀ i (h : i < us.length) (h' : i < ls.length), RdIn All w 32 us[i] ls[i]) ∧ ∀ x ∈ ls, IsHs x := by
  obtain ⟨l, h1, h2, _⟩ := open_rd (n := 1) (Q := fun cs => ∃ u l, cs = [u] ∧ Rd 32 w u l ∧ IsHs l) Try.underlying22 (by kernel_rfl) hval h fun _ _ _ hh => trod_rd Try.underlying33 arr24.size (by omega) hh fun _ _ _ hq => trod_isH hq
  obtain ⟨us, ls, rfl, h3, h4⟩ := rows_split (R := fun u l => Rd 32 w u l ∧ IsHs l) h2
  refine ⟨us, ls, h1, h3, fun i h h' => RdIn.of (h4 i h h').1, fun x hx => ?_⟩
  obtain ⟨i, hi, rfl⟩ := List.mem_iff_getElem.1 hx
  exact (h4 i (by omega) hi).2
end Go.Proofs.Ytkddaombdahodaa
