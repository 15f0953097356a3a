/- How a set of known ids lies in memory, what adding does to its list, and that the ring that holds it keeps to that list. Conditions: those that stand ahead of each theorem. -/
import Derived.Test.YtkddaombdahodaaT3
import Derived.Test.YtkddaombdahodaaNew
namespace Go.Proofs.Ytkddaombdahodaa
open Go.RowKit Go.Px

theorem info24 : (Try.prog.info? 24).map (fun i => (i.zero, i.size, i.bytes)) = some (some (.agg (List.replicate 32 (.int .u8 0)).toArray), 32, 32) := by kernel_rfl
theorem slTy33 : SlTy Try.prog 33 24 32 32 where
  ty := by kernel_rfl
  info := by
    obtain ⟨i, h1, h2, h3, h4⟩ := info_parts info24
    exact ⟨i, _, h1, h2, h3, by simp [Value.cells], h4, by simp [Value.cells]; rfl⟩
  pos := by omega
theorem zero3 (w : World) : (zeroValue 3).run Try.prog w = .ok (.int .i64 0) w := by kernel_rfl
theorem mapTy49 : MapTy Try.prog 49 24 3 (.int .i64 0) := ⟨by kernel_rfl, key24, zero3⟩

/-! ### the plain law: what a set holds -/
noncomputable def add1 (most : Nat) (L : List (List Value)) (x : List Value) : List (List Value) :=
  if mem x L then L else if L.length < most then L ++ [x] else L.drop 1 ++ [x]
noncomputable def gone1 (most : Nat) (L : List (List Value)) (x : List Value) : List (List Value) :=
  if mem x L then [] else if L.length < most then [] else L.take 1
noncomputable def adds (most : Nat) : List (List Value) → List (List Value) → List (List Value)
  | L, [] => L
  | L, x :: l => adds most (add1 most L x) l
noncomputable def gones (most : Nat) : List (List Value) → List (List Value) → List (List Value)
  | _, [] => []
  | L, x :: l => gone1 most L x ++ gones most (add1 most L x) l
theorem adds_append (most : Nat) (l r : List (List Value)) : ∀ L, adds most L (l ++ r) = adds most (adds most L l) r := by
  induction l with
  | nil => intro L; rfl
  | cons x l ih => intro L; exact ih _
theorem gones_append (most : Nat) (l r : List (List Value)) : ∀ L, gones most L (l ++ r) = gones most L l ++ gones most (adds most L l) r := by
  induction l with
  | nil => intro L; rfl
  | cons x l ih => intro L; simp only [List.cons_append, gones, adds, ih, List.append_assoc]
theorem mem_true {x : List Value} {L : List (List Value)} : mem x L = true ↔ x ∈ L := by unfold mem; simp
theorem mem_false {x : List Value} {L : List (List Value)} : mem x L = false ↔ x ∉ L := by unfold mem; simp
theorem gone1_len (most : Nat) (L : List (List Value)) (x : List Value) : (gone1 most L x).length ≤ 1 := by
  unfold gone1
  split
  · simp
  · split
    · simp
    · simp; omega
theorem gones_len (most : Nat) (l : List (List Value)) : ∀ L, (gones most L l).length ≤ l.length := by
  induction l with
  | nil => intro L; simp [gones]
  | cons x l ih =>
    intro L
    have h1 := gone1_len most L x
    have h2 := ih (add1 most L x)
    simp only [gones, List.length_append, List.length_cons]
    omega

/-! ### a set in memory -/
def one : Value := .int .i64 1
def ents1 (L : List (List Value)) : List (Value × Value) := L.map fun x => (H x, one)
structure Kinv (ring : List (List Value)) (first most : Nat) (L : List (List Value)) : Prop where
  m1 : 1 ≤ most
  m2 : most ≤ 64
  len : ring.length ≤ most
  few : ring.length < most → first = 0
  lt : first < most
  eq : L = ring.drop first ++ ring.take first
  nodup : L.Nodup
  keys : IsHs L
structure KSt (w : World) (p m : Nat) (rv : Value) (ring : List (List Value)) (first most : Nat) (M : List (Value × Value)) : Prop where
  blk : Blk w p 51 [rv, .int .i64 first, .map (some m), .int .i64 most]
  own : Own 24 32 w rv ring
  map : MapAt Try.prog 24 w m M
def kfoot (p m : Nat) (rv : Value) : Nat → Prop := fun k => k = p ∨ k = m ∨ sblk rv k
def KSet (w : World) (p most : Nat) (L : List (List Value)) (S : Nat → Prop) : Prop :=
  ∃ m rv ring first, KSt w p m rv ring first most (ents1 L) ∧ Kinv ring first most L ∧ ∀ k, S k ↔ kfoot p m rv k

theorem own_heap {T n : Nat} {w : World} {v : Value} {xs : List (List Value)} (h : Own T n w v xs) {k : Nat} (hk : sblk v k) : ∃ C, w.heap[k]? = some (.cells C T (0, 0)) := by
  rcases h.2 with ⟨rfl, _⟩ | ⟨b, off, cap, C, rfl, h3, h4, h5, h6, h7⟩
  · cases hk
  · cases hk
    exact ⟨C, h5⟩
theorem KSt.pm {w : World} {p m : Nat} {rv : Value} {ring : List (List Value)} {first most : Nat} {M : List (Value × Value)} (h : KSt w p m rv ring first most M) : p ≠ m := by
  rintro rfl
  have h1 := h.blk
  obtain ⟨es, c, h2, _⟩ := h.map.at_
  unfold Blk at h1
  rw [h1] at h2
  cases h2
theorem KSt.pr {w : World} {p m : Nat} {rv : Value} {ring : List (List Value)} {first most : Nat} {M : List (Value × Value)} (h : KSt w p m rv ring first most M) : ¬ sblk rv p := by
  intro hk
  obtain ⟨C, hC⟩ := own_heap h.own hk
  have h1 := h.blk
  unfold Blk at h1
  rw [h1] at hC
  injection hC with hC
  injection hC with _ hC
  cases hC
theorem KSt.mr {w : World} {p m : Nat} {rv : Value} {ring : List (List Value)} {first most : Nat} {M : List (Value × Value)} (h : KSt w p m rv ring first most M) : ¬ sblk rv m := by
  intro hk
  obtain ⟨C, hC⟩ := own_heap h.own hk
  obtain ⟨es, c, h2, _⟩ := h.map.at_
  rw [h2] at hC
  cases hC
theorem KSt.chg {w w' : World} {p m : Nat} {rv : Value} {ring : List (List Value)} {first most : Nat} {M : List (Value × Value)} (h : KSt w p m rv ring first most M) {S : Nat → Prop} (hc : Chg S w w') (hs : ∀ k, k < w.heap.size → kfoot p m rv k → ¬ S k) : KSt w' p m rv ring first most M :=
  ⟨h.blk.chg hc (hs p h.blk.lt (.inl rfl)), h.own.chg hc (fun k hk hv => hs k hk (.inr (.inr hv))), h.map.chg hc (hs m h.map.lt (.inr (.inl rfl)))⟩
theorem KSt.no {w w' : World} {p m : Nat} {rv : Value} {ring : List (List Value)} {first most : Nat} {M : List (Value × Value)} (h : KSt w p m rv ring first most M) (hc : Chg No w w') : KSt w' p m rv ring first most M := h.chg hc fun _ _ _ h => h
theorem KSt.lt {w : World} {p m : Nat} {rv : Value} {ring : List (List Value)} {first most : Nat} {M : List (Value × Value)} (h : KSt w p m rv ring first most M) : ∀ k, kfoot p m rv k → k < w.heap.size := by
  rintro k (rfl | rfl | hk)
  · exact h.blk.lt
  · exact h.map.lt
  · exact h.own.lt k hk
theorem KSet.lt {w : World} {p most : Nat} {L : List (List Value)} {S : Nat → Prop} (h : KSet w p most L S) : ∀ k, S k → k < w.heap.size := by
  obtain ⟨m, rv, ring, first, h1, h2, h3⟩ := h
  exact fun k hk => h1.lt k ((h3 k).1 hk)
theorem KSet.chg {w w' : World} {p most : Nat} {L : List (List Value)} {S T : Nat → Prop} (h : KSet w p most L S) (hc : Chg T w w') (hs : ∀ k, S k → ¬ T k) : KSet w' p most L S := by
  obtain ⟨m, rv, ring, first, h1, h2, h3⟩ := h
  exact ⟨m, rv, ring, first, h1.chg hc (fun k _ hk => hs k ((h3 k).2 hk)), h2, h3⟩
theorem H_inj {x y : List Value} (h : H x = H y) : x = y := by
  unfold H at h
  injection h with h
  exact List.toArray_inj h
theorem mget_ents1 {L : List (List Value)} (hn : L.Nodup) (x : List Value) : (mget (ents1 L) (H x)).getD (.int .i64 0) = if mem x L then .int .i64 1 else .int .i64 0 := by
  have hnd : ((ents1 L).map (·.1)).Nodup := by
    unfold ents1
    rw [List.map_map]
    exact List.pairwise_map.2 (hn.imp fun h e => h (H_inj e))
  split
  · rename_i h
    rw [mget_some hnd (v := one) (List.mem_map.2 ⟨x, mem_true.1 h, rfl⟩)]
    rfl
  · rename_i h
    rw [mget_none]
    · rfl
    · intro p hp
      obtain ⟨y, hy, rfl⟩ := List.mem_map.1 hp
      intro e
      exact h (mem_true.2 (H_inj e ▸ hy))
theorem mget_ents1_none {L : List (List Value)} {x : List Value} (h : mem x L = false) : mget (ents1 L) (H x) = none := by
  refine mget_none fun p hp e => ?_
  obtain ⟨y, hy, rfl⟩ := List.mem_map.1 hp
  exact mem_false.1 h (H_inj e ▸ hy)
theorem mput_ents1 {L : List (List Value)} {x : List Value} (h : mem x L = false) : mput (ents1 L) (H x) one = ents1 (L ++ [x]) := by
  unfold mput
  rw [mget_ents1_none h]
  simp [ents1]
theorem mdel_ents1 {L : List (List Value)} {x : List Value} (h : x ∉ L) : mdel (ents1 (x :: L)) (H x) = ents1 L := by
  unfold mdel ents1
  rw [List.map_cons, List.filter_cons]
  simp only [eqv_self, Bool.not_true, Bool.false_eq_true, if_false]
  refine List.filter_eq_self.2 fun p hp => ?_
  obtain ⟨y, hy, rfl⟩ := List.mem_map.1 hp
  have : eqv (H y) (H x) = false := eqv_false.2 fun e => h (H_inj e ▸ hy)
  simp [this]
theorem info33 : (Try.prog.info? 33).map (·.size) = some 1 := by kernel_rfl
theorem info3s : (Try.prog.info? 3).map (·.size) = some 1 := by kernel_rfl
/-- a set with room takes one more -/
theorem Kinv.room {ring : List (List Value)} {first most : Nat} {L : List (List Value)} (h : Kinv ring first most L) {x : List Value} (hx : mem x L = false) (kx : IsH x) (hr : ring.length < most) : L.length < most ∧ Kinv (ring ++ [x]) first most (L ++ [x]) := by
  have h0 := h.few hr
  subst h0
  have hL : L = ring := by rw [h.eq]; simp
  subst hL
  refine ⟨hr, h.m1, h.m2, by simp; omega, fun _ => rfl, h.lt, by simp, ?_, ?_⟩
  · rw [List.nodup_append]
    refine ⟨h.nodup, by simp, fun a ha b hb e => ?_⟩
    simp at hb
    subst hb; subst e
    exact mem_false.1 hx ha
  · intro y hy
    rcases List.mem_append.1 hy with hy | hy
    · exact h.keys y hy
    · simp at hy; subst hy; exact kx
theorem Kinv.length {ring : List (List Value)} {first most : Nat} {L : List (List Value)} (h : Kinv ring first most L) (hf : first ≤ ring.length) : L.length = ring.length := by
  rw [h.eq]; simp; omega
/-- a full set -/
theorem Kinv.full {ring : List (List Value)} {first most : Nat} {L : List (List Value)} (h : Kinv ring first most L) {x : List Value} (hx : mem x L = false) (kx : IsH x) (hr : ¬ ring.length < most) :
    ring.length = most ∧ L.length = most ∧ (∃ old, ring[first]? = some old ∧ L = old :: L.drop 1 ∧ old ∉ L.drop 1 ∧ IsH old) ∧ Kinv (ring.set first x) ((first + 1) % most) most (L.drop 1 ++ [x]) := by
  have hlen : ring.length = most := by have := h.len; omega
  have hlt := h.lt
  have hLl := h.length (by omega)
  have hfl : first < ring.length := by omega
  obtain ⟨old, hget⟩ : ∃ old, ring[first]? = some old := ⟨_, List.getElem?_eq_getElem hfl⟩
  have hdrop : ring.drop first = old :: ring.drop (first + 1) := by
    rw [List.drop_eq_getElem_cons hfl, (List.getElem?_eq_some_iff.1 hget).2]
  have hL0 : L = old :: (ring.drop (first + 1) ++ ring.take first) := by rw [h.eq, hdrop, List.cons_append]
  have hd1 : L.drop 1 = ring.drop (first + 1) ++ ring.take first := by rw [hL0]; rfl
  have hL : L = old :: L.drop 1 := by rw [hd1]; exact hL0
  have hnd : old ∉ L.drop 1 := by
    have := h.nodup
    rw [hL0] at this
    rw [hd1]
    exact (List.nodup_cons.1 this).1
  have hold : IsH old := h.keys _ (by rw [hL0]; simp)
  refine ⟨hlen, by omega, ⟨_, hget, hL, hnd, hold⟩, h.m1, h.m2, by simp; omega, fun hh => by simp at hh; omega, Nat.mod_lt _ (by omega), ?_, ?_, ?_⟩
  · rw [hd1]
    by_cases hw : first + 1 = most
    · rw [hw, Nat.mod_self, List.drop_eq_nil_of_le (by omega), List.nil_append, List.drop_zero, List.take_zero, List.append_nil]
      rw [List.set_eq_take_append_cons_drop, if_pos (by omega), List.drop_eq_nil_of_le (by omega)]
    · rw [Nat.mod_eq_of_lt (by omega), List.set_eq_take_append_cons_drop, if_pos (by omega)]
      have e1 : (ring.take first).length = first := by simp; omega
      have e3 : (ring.take first).drop (first + 1) = [] := List.drop_eq_nil_of_le (by omega)
      have e4 : (ring.take first).take (first + 1) = ring.take first := List.take_of_length_le (by omega)
      rw [List.drop_append, List.take_append, e1, e3, e4]
      have e2 : first + 1 - first = 1 := by omega
      rw [e2]
      simp
  · rw [List.nodup_append]
    refine ⟨h.nodup.sublist (List.drop_sublist 1 L), by simp, fun a ha b hb e => ?_⟩
    simp at hb
    subst hb; subst e
    exact mem_false.1 hx (List.mem_of_mem_drop ha)
  · intro y hy
    rcases List.mem_append.1 hy with hy | hy
    · exact h.keys y (List.mem_of_mem_drop hy)
    · simp at hy; subst hy; exact kx
theorem undrew {S : Nat → Prop} {w w' : World} (h : Chg S w.drew w') : Chg S w w' := ⟨h.os, h.tape, h.output, h.size, h.block⟩
end Go.Proofs.Ytkddaombdahodaa
