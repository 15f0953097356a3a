/- Worlds that differ outside a set of blocks only, slices that read as lists of cells, and slices that may be written: proved is how these facts carry over from world to world. Conditions: those that stand ahead of each theorem. -/
/-
  Laws on memory for the walks: what a slice, a block, a map reads as; how the world may have changed. Over any program. No condition is added to any statement here.
-/
import Derived.WalkKit
import Derived.WalkSpells
import Derived.WalkLawsBesides
import Derived.BigQuiet
import Derived.Deep.QuietTactic
import Derived.Lib.Hide
import Derived.DeepKeys4
import Derived.Maps.Keyed
namespace Go.Px
open Go Go.RowKit

/-! ### how the world may change -/
structure Chg (S : Nat → Prop) (w w' : World) : Prop where
  os : w'.os = w.os
  tape : w'.tape = w.tape
  output : w'.output = w.output
  size : w.heap.size ≤ w'.heap.size
  block : ∀ k, k < w.heap.size → ¬ S k → w'.heap[k]? = w.heap[k]?

def No : Nat → Prop := fun _ => False

theorem Chg.refl (S : Nat → Prop) (w : World) : Chg S w w := ⟨rfl, rfl, rfl, Nat.le_refl _, fun _ _ _ => rfl⟩
theorem Chg.trans {S T U : Nat → Prop} {a b c : World} (h : Chg S a b) (k : Chg T b c) (hs : ∀ i, i < a.heap.size → S i → U i) (ht : ∀ i, i < a.heap.size → T i → U i) : Chg U a c :=
  ⟨k.os.trans h.os, k.tape.trans h.tape, k.output.trans h.output, Nat.le_trans h.size k.size, fun i hi hn =>
    (k.block i (Nat.lt_of_lt_of_le hi h.size) (fun hh => hn (ht i hi hh))).trans (h.block i hi (fun hh => hn (hs i hi hh)))⟩
theorem Chg.trans' {S : Nat → Prop} {a b c : World} (h : Chg S a b) (k : Chg S b c) : Chg S a c := h.trans k (fun _ _ h => h) (fun _ _ h => h)
theorem Chg.mono {S T : Nat → Prop} {a b : World} (h : Chg S a b) (hs : ∀ i, i < a.heap.size → S i → T i) : Chg T a b :=
  ⟨h.os, h.tape, h.output, h.size, fun i hi hn => h.block i hi (fun hh => hn (hs i hi hh))⟩
theorem Chg.drew {S : Nat → Prop} {a w : World} (h : Chg S a w) : Chg S a w.drew := ⟨h.os, h.tape, h.output, h.size, h.block⟩
theorem Chg.drewN {S : Nat → Prop} {a w : World} (h : Chg S a w) (n : Nat) : Chg S a (w.drewN n) := ⟨h.os, h.tape, h.output, h.size, h.block⟩
theorem Chg.alloc {S : Nat → Prop} {a w : World} (h : Chg S a w) (o : Obj) : Chg S a (w.alloc o) :=
  ⟨h.os, h.tape, h.output, Nat.le_trans h.size (by simp), fun i hi hn => (Below.heap_alloc w o i (Nat.lt_of_lt_of_le hi h.size)).trans (h.block i hi hn)⟩
theorem Chg.setCell {S : Nat → Prop} {a w : World} (h : Chg S a w) {p : Addr} (hp : p.block < a.heap.size → S p.block) (u : Value) : Chg S a (w.setCell p u) :=
  ⟨h.os, h.tape, h.output, by simpa [World.setCell] using h.size, fun i hi hn => (Below.heap_setCell w p u i (by rintro rfl; exact hn (hp hi))).trans (h.block i hi hn)⟩
theorem Chg.setRow {S : Nat → Prop} {a w : World} (h : Chg S a w) {g : Nat} (hp : g < a.heap.size → S g) (cs : Array Value) : Chg S a (w.setRow g cs) :=
  ⟨h.os, h.tape, h.output, by simpa using h.size, fun i hi hn => (setRow_other w g i cs (by rintro rfl; exact hn (hp hi))).trans (h.block i hi hn)⟩
/-- another object at block g -/
def setObjAt (w : World) (g : Nat) (o : Obj) : World := { w with heap := w.heap.setIfInBounds g o }
theorem setObjAt_same (w : World) (g : Nat) (o : Obj) (h : g < w.heap.size) : (setObjAt w g o).heap[g]? = some o := by simp [setObjAt, h]
theorem setObjAt_other (w : World) (g k : Nat) (o : Obj) (h : k ≠ g) : (setObjAt w g o).heap[k]? = w.heap[k]? := by simp [setObjAt, Ne.symm h]
theorem setObjAt_size (w : World) (g : Nat) (o : Obj) : (setObjAt w g o).heap.size = w.heap.size := by simp [setObjAt]
theorem Chg.setObjAt {S : Nat → Prop} {a w : World} (h : Chg S a w) {g : Nat} (hp : g < a.heap.size → S g) (o : Obj) : Chg S a (Px.setObjAt w g o) :=
  ⟨h.os, h.tape, h.output, by simpa [Px.setObjAt] using h.size, fun i hi hn => (setObjAt_other w g i o (by rintro rfl; exact hn (hp hi))).trans (h.block i hi hn)⟩
theorem Chg.below {S : Nat → Prop} {a w : World} {B : Nat} (h : Chg S a w) (hB : B ≤ a.heap.size) (hs : ∀ i, i < B → ¬ S i) : Below B a w :=
  ⟨h.os, h.tape, h.output, h.size, fun k hk => h.block k (Nat.lt_of_lt_of_le hk hB) (hs k hk)⟩
theorem Chg.of_below {a w : World} (h : Below a.heap.size a w) : Chg No a w := ⟨h.os, h.tape, h.output, h.size, fun k hk _ => h.block k hk⟩
theorem Chg.grown {S : Nat → Prop} {a w w' : World} {row : Option Nat} (h : Chg S a w) (hg : w.grownBy w' row) (hr : ∀ k, row = some k → k < a.heap.size → S k) : Chg S a w' :=
  ⟨hg.os.trans h.os, hg.tape.trans h.tape, hg.output.trans h.output, Nat.le_trans h.size hg.size, fun k hk hn =>
    (hg.block k (Nat.lt_of_lt_of_le hk h.size) (fun e => hn (hr k e.symm hk))).trans (h.block k hk hn)⟩

/-! ### cells at an address -/
def Cells (w : World) (b off : Nat) (cs : List Value) : Prop := ∃ C T fr, w.heap[b]? = some (.cells C T fr) ∧ (C.toList.drop off).take cs.length = cs

theorem Cells.lt {w : World} {b off : Nat} {cs : List Value} (h : Cells w b off cs) : b < w.heap.size := by
  obtain ⟨C, T, fr, h, _⟩ := h
  exact (Array.getElem?_eq_some_iff.1 h).1
theorem Cells.keep {w w' : World} {b off : Nat} {cs : List Value} (h : Cells w b off cs) (he : w'.heap[b]? = w.heap[b]?) : Cells w' b off cs := by
  obtain ⟨C, T, fr, h, hc⟩ := h
  exact ⟨C, T, fr, he.trans h, hc⟩
theorem Cells.chg {S : Nat → Prop} {w w' : World} {b off : Nat} {cs : List Value} (h : Cells w b off cs) (hc : Chg S w w') (hs : ¬ S b) : Cells w' b off cs := h.keep (hc.block b h.lt hs)
theorem Cells.at {w : World} {b off : Nat} {cs : List Value} (h : Cells w b off cs) {j : Nat} {v : Value} (hv : cs[j]? = some v) : w.cell? ⟨b, off + j, none⟩ = some v := by
  obtain ⟨C, T, fr, h, hc⟩ := h
  have hj : j < cs.length := (List.getElem?_eq_some_iff.1 hv).1
  rw [← hc, List.getElem?_take, if_pos hj, List.getElem?_drop] at hv
  simp [World.cell?, h]
  simpa using hv
theorem Cells.at_add {w : World} {b off : Nat} {cs : List Value} (h : Cells w b off cs) : ∀ j v, cs[j]? = some v → w.cell? ((⟨b, off, none⟩ : Addr).add j) = some v := by
  intro j v hv
  rw [Addr.add_lit]
  exact h.at hv
theorem Cells.sub {w : World} {b off : Nat} {cs : List Value} (h : Cells w b off cs) (i n : Nat) : Cells w b (off + i) ((cs.drop i).take n) := by
  obtain ⟨C, T, fr, h, hc⟩ := h
  refine ⟨C, T, fr, h, ?_⟩
  apply List.ext_getElem?
  intro j
  have e : cs[i + j]? = if i + j < cs.length then C.toList[off + (i + j)]? else none := by
    conv => lhs; rw [← hc]
    rw [List.getElem?_take]
    split <;> simp
  simp only [List.getElem?_take, List.getElem?_drop, List.length_take, List.length_drop]
  by_cases h1 : j < n <;> by_cases h2 : j < cs.length - i
  · rw [if_pos (by omega), if_pos h1, e, if_pos (by omega), Nat.add_assoc]
  · rw [if_neg (by omega), if_pos h1, List.getElem?_eq_none (by omega)]
  · rw [if_neg (by omega), if_neg h1]
  · rw [if_neg (by omega), if_neg h1]
theorem Cells.of_block {w : World} {b : Nat} {C : Array Value} {T : TypeId} {fr : Nat × Nat} (h : w.heap[b]? = some (.cells C T fr)) : Cells w b 0 C.toList := ⟨C, T, fr, h, by rw [List.drop_zero, List.take_length]⟩

/-- a block of the call's own, whole -/
def Blk (w : World) (b : Nat) (T : TypeId) (cs : List Value) : Prop := w.heap[b]? = some (.cells cs.toArray T (0, 0))
theorem Blk.lt {w : World} {b : Nat} {T : TypeId} {cs : List Value} (h : Blk w b T cs) : b < w.heap.size := (Array.getElem?_eq_some_iff.1 h).1
theorem Blk.keep {w w' : World} {b : Nat} {T : TypeId} {cs : List Value} (h : Blk w b T cs) (he : w'.heap[b]? = w.heap[b]?) : Blk w' b T cs := he.trans h
theorem Blk.chg {S : Nat → Prop} {w w' : World} {b : Nat} {T : TypeId} {cs : List Value} (h : Blk w b T cs) (hc : Chg S w w') (hs : ¬ S b) : Blk w' b T cs := h.keep (hc.block b h.lt hs)
theorem Blk.cells {w : World} {b : Nat} {T : TypeId} {cs : List Value} (h : Blk w b T cs) : Cells w b 0 cs := ⟨cs.toArray, T, (0, 0), h, by simp⟩
theorem Blk.cell {w : World} {b : Nat} {T : TypeId} {cs : List Value} (h : Blk w b T cs) (i : Nat) : w.cell? ⟨b, i, none⟩ = cs[i]? := by unfold Blk at h; simp [World.cell?, h]
theorem Blk.frozen {w : World} {b : Nat} {T : TypeId} {cs : List Value} (h : Blk w b T cs) (i : Nat) : w.frozen? ⟨b, i, none⟩ = false := by unfold Blk at h; simp [World.frozen?, h]
theorem Blk.new (w : World) (T : TypeId) (cs : Array Value) : Blk (w.alloc (.cells cs T)) w.heap.size T cs.toList := by unfold Blk; rw [heap_alloc_new]
theorem Blk.set {w : World} {b : Nat} {T : TypeId} {cs : List Value} (h : Blk w b T cs) (i : Nat) (u : Value) : Blk (w.setCell ⟨b, i, none⟩ u) b T (cs.set i u) := by
  unfold Blk at h ⊢
  rw [heap_setCell_same w b i _ T u h]
  simp
theorem Blk.row {w : World} {b : Nat} {T : TypeId} {cs : List Value} (h : Blk w b T cs) (ds : Array Value) : Blk (w.setRow b ds) b T ds.toList := by
  unfold Blk at h ⊢
  rw [setRow_heap w b _ ds T _ h]

/-! ### slices -/
def sblk : Value → Nat → Prop
  | .slice (some a) _ _ => fun k => k = a.block
  | _ => fun _ => False

/-- v is a slice of elements of n cells each; xs are its elements' cells -/
def Rd (n : Nat) (w : World) (v : Value) (xs : List (List Value)) : Prop :=
  ∃ A cap, v = .slice A xs.length cap ∧ xs.length ≤ cap ∧ cap ≤ maxLen ∧ (∀ x ∈ xs, x.length = n) ∧ (xs ≠ [] → ∃ b off, A = some ⟨b, off, none⟩ ∧ Cells w b off xs.flatten)

/-- the same, in a block that may be written -/
def Own (T : TypeId) (n : Nat) (w : World) (v : Value) (xs : List (List Value)) : Prop :=
  (∀ x ∈ xs, x.length = n) ∧ ((v = .slice none 0 0 ∧ xs = []) ∨ ∃ b off cap C, v = .slice (some ⟨b, off, none⟩) xs.length cap ∧ xs.length ≤ cap ∧ cap ≤ maxLen ∧
    w.heap[b]? = some (.cells C T (0, 0)) ∧ off + cap * n ≤ C.size ∧ (C.toList.drop off).take (xs.length * n) = xs.flatten)

theorem flatten_length {n : Nat} : ∀ {xs : List (List Value)}, (∀ x ∈ xs, x.length = n) → xs.flatten.length = xs.length * n
  | [], _ => by simp
  | x :: r, h => by
    rw [List.flatten_cons, List.length_append, h x (by simp), flatten_length (xs := r) (fun y hy => h y (by simp [hy])), List.length_cons, Nat.add_mul]
    omega
theorem flatten_take {n : Nat} : ∀ {xs : List (List Value)} (k : Nat), (∀ x ∈ xs, x.length = n) → (xs.take k).flatten = xs.flatten.take (k * n)
  | [], k, _ => by simp
  | x :: r, 0, _ => by simp
  | x :: r, k + 1, h => by
    have hx : x.length = n := h x (by simp)
    rw [List.take_succ_cons, List.flatten_cons, List.flatten_cons, flatten_take (xs := r) k (fun y hy => h y (by simp [hy])), List.take_append, hx, Nat.add_mul, Nat.one_mul]
    rw [List.take_of_length_le (l := x) (by omega)]
    congr 2
    omega
theorem flatten_drop {n : Nat} : ∀ {xs : List (List Value)} (k : Nat), (∀ x ∈ xs, x.length = n) → (xs.drop k).flatten = xs.flatten.drop (k * n)
  | [], k, _ => by simp
  | x :: r, 0, _ => by simp
  | x :: r, k + 1, h => by
    have hx : x.length = n := h x (by simp)
    rw [List.drop_succ_cons, List.flatten_cons, flatten_drop (xs := r) k (fun y hy => h y (by simp [hy])), List.drop_append, hx, Nat.add_mul, Nat.one_mul]
    rw [List.drop_eq_nil_of_le (as := x) (by omega), List.nil_append]
    congr 1
    omega
theorem flatten_at {n : Nat} {xs : List (List Value)} {k : Nat} {x : List Value} (h : ∀ x ∈ xs, x.length = n) (hk : xs[k]? = some x) : (xs.flatten.drop (k * n)).take n = x := by
  rw [← flatten_drop k h]
  have hlt := (List.getElem?_eq_some_iff.1 hk).1
  rw [List.drop_eq_getElem_cons hlt, List.flatten_cons]
  have e : xs[k] = x := (List.getElem?_eq_some_iff.1 hk).2
  rw [e]
  have hn : x.length = n := h x (by rw [← e]; exact List.getElem_mem hlt)
  rw [← hn]
  simp

theorem Rd.len {n : Nat} {w : World} {v : Value} {xs : List (List Value)} (h : Rd n w v xs) : xs.length ≤ maxLen := by
  obtain ⟨A, cap, _, h1, h2, _⟩ := h
  omega
theorem Rd.elen {n : Nat} {w : World} {v : Value} {xs : List (List Value)} (h : Rd n w v xs) : ∀ x ∈ xs, x.length = n := by
  obtain ⟨A, cap, _, h1, h2, h3, _⟩ := h
  exact h3
theorem Rd.nil {n : Nat} {w : World} : Rd n w (.slice none 0 0) [] := ⟨none, 0, rfl, by simp, by simp [maxLen], by simp, by simp⟩
theorem Rd.keep {n : Nat} {w w' : World} {v : Value} {xs : List (List Value)} (h : Rd n w v xs) (he : ∀ k, k < w.heap.size → sblk v k → w'.heap[k]? = w.heap[k]?) : Rd n w' v xs := by
  obtain ⟨A, cap, rfl, h1, h2, h3, h4⟩ := h
  refine ⟨A, cap, rfl, h1, h2, h3, fun hn => ?_⟩
  obtain ⟨b, off, rfl, hc⟩ := h4 hn
  exact ⟨b, off, rfl, hc.keep (he b hc.lt rfl)⟩
theorem Rd.chg {n : Nat} {S : Nat → Prop} {w w' : World} {v : Value} {xs : List (List Value)} (h : Rd n w v xs) (hc : Chg S w w') (hs : ∀ k, k < w.heap.size → sblk v k → ¬ S k) : Rd n w' v xs :=
  h.keep fun k hk hv => hc.block k hk (hs k hk hv)
theorem Rd.chgNo {n : Nat} {w w' : World} {v : Value} {xs : List (List Value)} (h : Rd n w v xs) (hc : Chg No w w') : Rd n w' v xs := h.chg hc fun _ _ _ h => h
theorem Own.elen {T n : Nat} {w : World} {v : Value} {xs : List (List Value)} (h : Own T n w v xs) : ∀ x ∈ xs, x.length = n := h.1
theorem Own.nil {T n : Nat} {w : World} : Own T n w (.slice none 0 0) [] := ⟨by simp, .inl ⟨rfl, rfl⟩⟩
theorem Own.rd {T n : Nat} {w : World} {v : Value} {xs : List (List Value)} (h : Own T n w v xs) : Rd n w v xs := by
  obtain ⟨h1, h2⟩ := h
  rcases h2 with ⟨rfl, rfl⟩ | ⟨b, off, cap, C, rfl, h3, h4, h5, h6, h7⟩
  · exact Rd.nil
  · exact ⟨_, cap, rfl, h3, h4, h1, fun _ => ⟨b, off, rfl, C, T, _, h5, by rw [flatten_length h1]; exact h7⟩⟩
theorem Own.keep {T n : Nat} {w w' : World} {v : Value} {xs : List (List Value)} (h : Own T n w v xs) (he : ∀ k, k < w.heap.size → sblk v k → w'.heap[k]? = w.heap[k]?) : Own T n w' v xs := by
  obtain ⟨h1, h2⟩ := h
  refine ⟨h1, ?_⟩
  rcases h2 with h2 | ⟨b, off, cap, C, rfl, h3, h4, h5, h6, h7⟩
  · exact .inl h2
  · exact .inr ⟨b, off, cap, C, rfl, h3, h4, (he b (Array.getElem?_eq_some_iff.1 h5).1 rfl).trans h5, h6, h7⟩
theorem Own.chg {T n : Nat} {S : Nat → Prop} {w w' : World} {v : Value} {xs : List (List Value)} (h : Own T n w v xs) (hc : Chg S w w') (hs : ∀ k, k < w.heap.size → sblk v k → ¬ S k) : Own T n w' v xs :=
  h.keep fun k hk hv => hc.block k hk (hs k hk hv)
theorem Own.lt {T n : Nat} {w : World} {v : Value} {xs : List (List Value)} (h : Own T n w v xs) : ∀ k, sblk v k → k < w.heap.size := by
  rcases h.2 with ⟨rfl, _⟩ | ⟨b, off, cap, C, rfl, h3, h4, h5, h6, h7⟩
  · intro k hk; cases hk
  · intro k hk
    cases hk
    exact (Array.getElem?_eq_some_iff.1 h5).1

/-- what is at place k of a slice -/
theorem Rd.at {n : Nat} {w : World} {A : Option Addr} {len cap : Nat} {xs : List (List Value)} (h : Rd n w (.slice A len cap) xs) {k : Nat} {x : List Value} (hk : xs[k]? = some x) :
    ∃ b off, A = some ⟨b, off, none⟩ ∧ Cells w b (off + k * n) x := by
  obtain ⟨A, cap, e, h1, h2, h3, h4⟩ := h
  injection e with e1 e2 e3
  subst e1
  have hne : xs ≠ [] := by rintro rfl; simp at hk
  obtain ⟨b, off, hA, hc⟩ := h4 hne
  refine ⟨b, off, hA, ?_⟩
  have := hc.sub (k * n) n
  rwa [flatten_at h3 hk] at this
theorem Rd.form {n : Nat} {w : World} {v : Value} {xs : List (List Value)} (h : Rd n w v xs) : ∃ A cap, v = .slice A xs.length cap ∧ xs.length ≤ cap ∧ cap ≤ maxLen := by
  obtain ⟨A, cap, e, h1, h2, h3, h4⟩ := h
  exact ⟨A, cap, e, h1, h2⟩

end Go.Px
