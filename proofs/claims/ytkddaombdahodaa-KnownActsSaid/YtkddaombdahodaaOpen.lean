/- Arguments that the caller hands in (slices of ids, slices of bytes, ids) read as lists. Conditions: those that stand ahead of each theorem. -/
import Derived.Test.YtkddaombdahodaaMade
import Derived.ProofKit
import Derived.Deep.Slices
import Derived.WideKeyArr2
import Derived.Carry
namespace Go.Px
open Go.ChangeShapes Go.WideShapes

theorem chunks_flatten {α : Type} (L : List α) (n len : Nat) : ((List.range len).map fun i => (L.drop (i * n)).take n).flatten = L.take (len * n) := by
  induction len with
  | zero => simp
  | succ k ih => rw [List.range_succ, List.map_append, List.flatten_append, ih, Nat.succ_mul, List.take_add]; simp
theorem cell_at {w : World} {a : Addr} {C : Array Value} {T : TypeId} {fr : Nat × Nat} (hb : w.heap[a.block]? = some (.cells C T fr)) (hs : a.spot = none) (k : Nat) : w.cell? (a.add k) = C[a.off + k]? := by
  obtain ⟨b, off, spot⟩ := a
  cases hs
  unfold Addr.add
  split
  · rename_i hk
    subst hk
    simp [World.cell?, hb]
  · simp [World.cell?, hb]
/-- a slice each of whose elements can be read reads as a list -/
theorem rd_of {w : World} {base : Nat} {n len cap : Nat} {a : Addr} {C : Array Value} {T : TypeId} {fr : Nat × Nat} (hb : w.heap[a.block]? = some (.cells C T fr)) (hs : a.spot = none) (hl : len ≤ cap) (hm : cap ≤ maxLen)
    {Q : List Value → Prop} (hel : ∀ i, i < len → ∃ cs, w.cells? base (a.add (i * n)) n = some cs ∧ Q cs) : ∃ l : List (List Value), Rd n w (.slice (some a) len cap) l ∧ (∀ x ∈ l, Q x) ∧ l.length = len := by
  have one : ∀ i, i < len → ((C.toList.drop a.off).drop (i * n)).take n = ((C.toList.drop a.off).drop (i * n)).take n ∧ (((C.toList.drop a.off).drop (i * n)).take n).length = n ∧ Q (((C.toList.drop a.off).drop (i * n)).take n) := by
    intro i hi
    obtain ⟨cs, h1, h2⟩ := hel i hi
    obtain ⟨_, h4, h5⟩ := World.cells?_some h1
    have e : ((C.toList.drop a.off).drop (i * n)).take n = cs := by
      apply List.ext_getElem?
      intro j
      by_cases hj : j < n
      · rw [← h5 j hj, Go.Deep.add_add, cell_at hb hs, List.getElem?_take_of_lt hj, List.getElem?_drop, List.getElem?_drop]
        simp
      · rw [List.getElem?_eq_none (by rw [List.length_take]; omega), List.getElem?_eq_none (by omega)]
    rw [e]
    exact ⟨rfl, h4, h2⟩
  refine ⟨(List.range len).map fun i => ((C.toList.drop a.off).drop (i * n)).take n, ⟨some a, cap, by simp, by simpa using hl, hm, ?_, ?_⟩, ?_, by simp⟩
  · intro x hx
    obtain ⟨i, hi, rfl⟩ := List.mem_map.1 hx
    exact (one i (List.mem_range.1 hi)).2.1
  · intro _
    refine ⟨a.block, a.off, ?_, C, T, fr, hb, ?_⟩
    · obtain ⟨b, off, spot⟩ := a
      cases hs
      rfl
    · rw [flatten_length (n := n) (by
        intro x hx
        obtain ⟨i, hi, rfl⟩ := List.mem_map.1 hx
        exact (one i (List.mem_range.1 hi)).2.1), chunks_flatten]
      simp
  · intro x hx
    obtain ⟨i, hi, rfl⟩ := List.mem_map.1 hx
    exact (one i (List.mem_range.1 hi)).2.2
theorem has_block {P : Program} {w : World} {r : Reach} {base : Nat} {a : Addr} {e n : Nat} (h : w.has P r base a e n) : a.spot = none ∧ ∃ C T fr, w.heap[a.block]? = some (.cells C T fr) := by
  obtain ⟨_, hs, row, cells, hsh, _⟩ := h
  refine ⟨hs, ?_⟩
  unfold World.shape? at hsh
  split at hsh
  · rename_i c el fr hc
    exact ⟨c, el, fr, hc⟩
  · cases hsh
/-- a slice that the caller handed in reads as a list -/
theorem open_rd {H : Type} {enc : TypeId × Value → H} {P : Program} {w : World} {base b0 : Nat} {sp : Nat → Bool} {held : Bool} {r : Reach} {t e n : Nat} (ht : P.underlying t = some (.slice e)) (hn : P.cellsOf e = n) {v : Value} {d : DataW H} {ps : List MemPlace}
    (hval : Value.okWide P w r b0 t v) (h : DataW.Trod enc P w base sp held t v d ps) {Q : List Value → Prop} (hQ : ∀ fuel cs x, DataW.trod enc P w base sp held fuel e cs = some x → Q cs) :
    ∃ l : List (List Value), Rd n w v l ∧ (∀ x ∈ l, Q x) ∧ ∀ j, sblk v j → j < w.heap.size := by
  obtain ⟨A, len, cap, rfl⟩ := okWide_slice ht hval
  obtain ⟨fuel, hf⟩ := h
  rcases Go.Deep.open_slice ht hf with ⟨hc, _⟩ | ⟨a, len', cap', m, k, D, Pl, hc, hb, hl, hm, hmm, hx, hel⟩
  · simp [Value.cells] at hc
    obtain ⟨rfl, rfl, rfl⟩ := hc
    exact ⟨[], Rd.nil, by simp, fun j hj => hj.elim⟩
  · simp [Value.cells] at hc
    obtain ⟨rfl, rfl, rfl⟩ := hc
    simp only [Value.okWide, ht, Cell.okWide, Cell.ok] at hval
    obtain ⟨hs, C, T, fr, hC⟩ := has_block hval.2.2
    subst hn
    have hlm : len ≤ m := by
      rw [hmm]
      split <;> omega
    obtain ⟨l, h1, h2, h3⟩ := rd_of (Q := Q) hC hs hl hm (fun i hi => by
      obtain ⟨cs, h1, h2⟩ := hel i (by omega)
      exact ⟨cs, h1, hQ _ _ _ h2⟩)
    exact ⟨l, h1, h2, fun j hj => by
      have hj' : j = a.block := hj
      rw [hj']
      exact (Array.getElem?_eq_some_iff.1 hC).1⟩
end Go.Px
namespace Go.Proofs.Ytkddaombdahodaa
open Go.ChangeShapes Go.WideShapes Go.ChangeAt Go.RowKit Go.Px
theorem Try.own : ownKnob Try.prog.godebug = none := by kernel_rfl
theorem arr24 : Go.WideMaps.ArrKey Try.prog 24 5 32 := ⟨Try.underlying24, by kernel_rfl, by kernel_rfl, by kernel_rfl⟩
theorem sizeT : ∃ m, Try.prog.types.size = m + 1 := ⟨Try.prog.types.size - 1, by kernel_rfl⟩
section
variable {H' : Type} {enc : TypeId × Value → H'} {w : World} {base b0 : Nat} {sp : Nat → Bool} {held : Bool} {r : Reach}
theorem trod_isH {fuel : Nat} {cs : List Value} {x : DataW H' × List MemPlace} (h : DataW.trod enc Try.prog w base sp held fuel 24 cs = some x) : IsH cs := by
  have h0 := h
  cases fuel with
  | zero => simp [DataW.trod] at h
  | succ m =>
    rw [DataW.trod_step] at h
    unfold DataW.trodStep at h
    simp only [Try.underlying24] at h
    split at h
    · rename_i hlen
      rw [arr24.size] at hlen
      simp only [Option.map_eq_some_iff] at h
      obtain ⟨ys, hy, _⟩ := h
      obtain ⟨ls, _, _, hk⟩ := Go.WideMaps.open_arr (xs := cs.toArray) (d := x.1) (ps := x.2) arr24 Try.underlying5 sizeT (by simpa using hlen) ⟨m + 1, by simpa [Value.cells] using h0⟩
      refine ⟨⟨hlen, ?_⟩, ⟨_, hk⟩⟩
      intro v hv
      obtain ⟨i, hi, rfl⟩ := List.mem_iff_getElem.1 hv
      have h3 := mapM_some_get hy i i (by rw [List.getElem?_range]; omega)
      have h4 : i < ys.length := by rw [mapM_some_length hy]; simp; omega
      rw [List.getElem?_eq_getElem h4, arr24.one] at h3
      obtain ⟨q, h5, _⟩ := DataW.trod_int Try.underlying5 h3
      have h6 := congrArg (fun l => l[0]?) h5
      simp [List.getElem?_eq_getElem hi] at h6
      rw [h6]
      rfl
    · cases h
theorem open_ids {v : Value} {d : DataW H'} {ps : List MemPlace} (hval : Value.okWide Try.prog w r b0 33 v) (h : DataW.Trod enc Try.prog w base sp held 33 v d ps) :
    ∃ l : List (List Value), Rd 32 w v l ∧ IsHs l ∧ ∀ j, sblk v j → j < w.heap.size :=
  open_rd (Q := IsH) Try.underlying33 arr24.size hval h fun _ _ _ hh => trod_isH hh
theorem open_u8s {v : Value} {d : DataW H'} {ps : List MemPlace} (hval : Value.okWide Try.prog w r b0 47 v) (h : DataW.Trod enc Try.prog w base sp held 47 v d ps) :
    ∃ l : List (List Value), Rd 1 w v l ∧ (∀ q ∈ l, ∃ n : Nat, n < 256 ∧ q = [.int .u8 n]) ∧ ∀ j, sblk v j → j < w.heap.size :=
  open_rd Try.underlying47 (by kernel_rfl) hval h fun _ cs _ hh => by
    obtain ⟨q, h5, _, h6⟩ := DataW.trod_int Try.underlying5 hh
    have h7 : IntKind.u8.min ≤ q ∧ q ≤ IntKind.u8.max := by simpa [Lit.wf] using h6
    rw [show IntKind.u8.min = 0 from rfl, show IntKind.u8.max = 255 from rfl] at h7
    exact ⟨q.toNat, by omega, by rw [h5, Int.toNat_of_nonneg (by omega)]⟩
theorem open_id {v : Value} {d : DataW H'} {ps : List MemPlace} (hval : Value.okWide Try.prog w r b0 24 v) (h : DataW.Trod enc Try.prog w base sp held 24 v d ps) :
    ∃ x, v = H x ∧ IsH x ∧ ps = [] := by
  obtain ⟨xs, rfl, hn⟩ := Go.WideMaps.okWide_arr arr24 hval
  obtain ⟨ls, _, hp, _⟩ := Go.WideMaps.open_arr arr24 Try.underlying5 sizeT hn h
  obtain ⟨fuel, hf⟩ := h
  exact ⟨xs.toList, by simp [H], trod_isH hf, hp⟩
end
end Go.Proofs.Ytkddaombdahodaa
