/- append, and the slice that was there is still one's own (it may share its block with what comes out). -/
import Derived.Test.YtpdanieiafjmhaaDoorSepOps
namespace Go.Px
open Go.RowKit
variable {P : Program}
/-- append to a slice in a block of one's own: what comes out, and that what was there is still one's own -/
theorem run_append2 {t e n bytes : Nat} (T : SlTy P t e n bytes) (ty : TypeId) {w : World} {s x : Value} {xs ys : List (List Value)} (hs : Own e n w s xs) (hx : Rd n w x ys) (hf : Flat ys)
    (hb : (xs.length + ys.length) * bytes ≤ 140737488355328) (hl : xs.length + ys.length ≤ maxLen) :
    ∃ v' w', (Builtin.append_ #[t, t] ty #[s, x]).run P w = .ok v' w' ∧ Own e n w' v' (xs ++ ys) ∧ Chg (sblk s) w w' ∧ (∀ k, sblk v' k → sblk s k ∨ k = w.heap.size) ∧ Own e n w' s xs := by
  obtain ⟨i, z, hi, hz, hn1, hz1, hby, hz2⟩ := T.info
  obtain ⟨A, m, c, rfl⟩ : ∃ A m c, x = .slice A m c := by obtain ⟨A, c, e, _⟩ := hx.form; exact ⟨_, _, _, e⟩
  obtain ⟨rfl, hfl, hcell, hnone⟩ := hx.src
  have hone : ∀ u ∈ ys.flatten, u.oneCell' = true := fun u hu => by
    obtain ⟨y, hy, hu⟩ := List.mem_flatten.1 hu
    exact hf y hy u hu
  have helen : ∀ q ∈ xs ++ ys, q.length = n := fun q hq => by
    rcases List.mem_append.1 hq with h | h
    · exact hs.1 q h
    · exact hx.elen q h
  have h63 : xs.length + ys.length ≤ 9223372036854775807 := by simp only [maxLen] at hl; omega
  -- a new block
  have grown : ∀ old : Nat, old < xs.length + ys.length →
      Own e n (w.drew.alloc (.cells (xs.flatten.toArray ++ ys.flatten.toArray ++ Builtin.zeroCells z.cells (grownCap w (xs.length + ys.length) old e - (xs.length + ys.length))) e))
        (.slice (some ⟨w.heap.size, 0, none⟩) (xs.length + ys.length) (grownCap w (xs.length + ys.length) old e)) (xs ++ ys) := by
    intro old ho
    have hge := grownCap_ge w (xs.length + ys.length) old e
    have hcm : grownCap w (xs.length + ys.length) old e ≤ maxLen := grownCap_le_maxLen w _ old e hl
    refine ⟨helen, .inr ⟨w.heap.size, 0, grownCap w (xs.length + ys.length) old e, _, by simp, by simpa using hge, hcm, heap_alloc_new w.drew _, ?_, ?_⟩⟩
    · simp only [Array.size_append, List.size_toArray, size_zeroCells, hz1, flatten_length hs.1, hfl]
      rw [Nat.zero_add, ← Nat.add_mul, ← Nat.add_mul]
      apply Nat.le_of_eq
      congr 1
      omega
    · simp only [Array.toList_append, List.append_assoc, List.drop_zero, List.flatten_append]
      rw [← List.append_assoc, List.length_append, Nat.add_mul, ← hfl, ← flatten_length hs.1, ← List.length_append]
      exact List.take_left
  have hchg : ∀ (C : Array Value), Chg (sblk s) w (w.drew.alloc (.cells C e)) := fun C => ((Chg.refl _ w).drew).alloc _
  rcases A with _ | ad
  · -- nothing is appended
    have hy := hnone rfl
    subst hy
    refine ⟨s, w, ?_, by simpa using hs, Chg.refl _ _, fun k hk => .inl hk, hs⟩
    rcases hs.2 with ⟨rfl, rfl⟩ | ⟨b, off, cap, C, rfl, h3, h4, h5, h6, h7⟩
    · simp [Builtin.append_, run_underlying T.ty, sizeOf, typeInfo, hi, Builtin.lenOf, Builtin.firstCells]
    · simp [Builtin.append_, run_underlying T.ty, sizeOf, typeInfo, hi, Builtin.lenOf, Builtin.firstCells, h3, storeCells]
  · have hnews := hcell ad rfl
    rcases hs.2 with ⟨rfl, rfl⟩ | ⟨b, off, cap, C, rfl, h3, h4, h5, h6, h7⟩
    · rcases Nat.eq_zero_or_pos ys.length with h0 | h0
      · have hy : ys = [] := List.eq_nil_of_length_eq_zero h0
        subst hy
        refine ⟨.slice none 0 0, w, ?_, Own.nil, Chg.refl _ _, fun k hk => .inl hk, Own.nil⟩
        simp [Builtin.append_, run_underlying T.ty, sizeOf, typeInfo, hi, Builtin.lenOf, Builtin.firstCells, loadCells, loadCellsFrom]
      · have hr := run_append_nil (P := P) w t ty e i z T.ty hi hz ad ys.length c ys.flatten (by rw [hfl, hn1]) hnews h0 (by simp at h63; omega) (by simp at hb; rw [hby]; omega)
        have hg := grown 0 (by simp; omega)
        simp only [List.length_nil, Nat.zero_add, List.nil_append, List.flatten_nil, Array.empty_append] at hg ⊢
        exact ⟨_, _, hr, by simpa using hg, hchg _, fun k hk => .inr (by simpa [sblk] using hk), Own.nil⟩
    · by_cases hroom : xs.length + ys.length ≤ cap
      · have hin : off + xs.length * n + ys.flatten.length ≤ C.size := by
          rw [hfl]
          have := Nat.mul_le_mul_right n hroom
          rw [Nat.add_mul] at this
          omega
        have hfc := run_firstCells_some (P := P) w i.size ys.length ad ys.length c ys.flatten (by rw [hfl, hn1]) hnews
        have hst := run_storeCells_at P b (off + xs.length * n) e ys.flatten 0 C w h5 (by omega) hone
        simp only [Nat.add_zero] at hst
        have hch : Chg (sblk (.slice (some ⟨b, off, none⟩) xs.length cap)) w (w.setRow b (C.toList.take (off + xs.length * n) ++ ys.flatten ++ C.toList.drop (off + xs.length * n + ys.flatten.length)).toArray) :=
          Chg.setRow (S := sblk (.slice (some ⟨b, off, none⟩) xs.length cap)) (Chg.refl _ w) (g := b) (fun _ => (rfl : b = b)) _
        have hO : Own e n (w.setRow b (C.toList.take (off + xs.length * n) ++ ys.flatten ++ C.toList.drop (off + xs.length * n + ys.flatten.length)).toArray) (.slice (some ⟨b, off, none⟩) (xs.length + ys.length) cap) (xs ++ ys) := by
          refine ⟨helen, .inr ⟨b, off, cap, _, by simp, by simpa using hroom, h4, setRow_heap w b C _ e _ h5, ?_, ?_⟩⟩
          · simp only [List.size_toArray, List.length_append, List.length_take, List.length_drop, Array.length_toList]
            omega
          · have e1 : ∀ q : List Value, (C.toList.take (off + xs.length * n) ++ q).drop off = xs.flatten ++ q := by
              intro q
              rw [List.drop_append_of_le_length (by simp; omega), List.drop_take]
              congr 1
              rw [← h7]
              congr 1
              omega
            rw [List.append_assoc, e1, List.flatten_append, List.length_append, Nat.add_mul, ← hfl, ← flatten_length hs.1, ← List.append_assoc, ← List.length_append]
            exact List.take_left
        refine ⟨.slice (some ⟨b, off, none⟩) (xs.length + ys.length) cap, _, ?_, hO, hch, fun k hk => .inl hk, ?_⟩
        · rw [← hn1] at hst
          simp [Builtin.append_, run_underlying T.ty, sizeOf, typeInfo, hi, Builtin.lenOf, hroom, hfc, Addr.add_lit, hst]
          rw [hn1]
        · have h9 := hO.cut (l := 0) (h := xs.length) (Nat.zero_le _) (by simp)
          have e9 : cutAddr (some ⟨b, off, none⟩) cap 0 n = some ⟨b, off, none⟩ := by
            unfold cutAddr
            split
            · rfl
            · simp [Addr.add]
          rw [e9] at h9
          simpa using h9
      · have holds : ∀ j u, xs.flatten[j]? = some u → w.cell? ((⟨b, off, none⟩ : Addr).add j) = some u := by
          have hc : Cells w b off xs.flatten := ⟨C, e, _, h5, by rw [flatten_length hs.1]; exact h7⟩
          exact hc.at_add
        have hr := run_append_grow (P := P) w t ty e i z T.ty hi hz ⟨b, off, none⟩ xs.length cap xs.flatten (by rw [flatten_length hs.1, hn1]) holds ad ys.length c ys.flatten (by rw [hfl, hn1]) hnews (by omega) (by omega) (growslice_fits (by omega) (by rw [hby]; exact hb))
        exact ⟨_, _, hr, grown cap (by omega), hchg _, fun k hk => .inr (by simpa [sblk] using hk), hs.chg (((Chg.refl No w).drew).alloc _) fun _ _ _ => id⟩
/-- a slice of one's own, and another that may share its block, read -/
def hOR (T n : Nat) (v : Value) (xs : List (List Value)) (u : Value) (ys : List (List Value)) : Hp :=
  ⟨fun w F => Own T n w v xs ∧ Rd n w u ys ∧ ∀ k, F k ↔ sblk v k ∨ sblk u k,
    fun ⟨h1, h2, h3⟩ he => ⟨h1.keep fun k _ hk => he k ((h3 k).2 (.inl hk)), h2.keep fun k _ hk => he k ((h3 k).2 (.inr hk)), h3⟩⟩
section
variable {R : Nat → Prop} {base w : World} {L : List Hp} {ops : Array Oper} {rest : List Oper} {o : Oper} {a : Act} {Q : Exit → Act → World → Prop}
theorem SepL.orl {T n : Nat} {v u : Value} {xs ys : List (List Value)} (h : SepL R base w (hOR T n v xs u ys :: L)) : Own T n w v xs := let ⟨_, h1⟩ := h.head; h1.1
theorem SepL.orr {T n : Nat} {v u : Value} {xs ys : List (List Value)} (h : SepL R base w (hOR T n v xs u ys :: L)) : Rd n w u ys := let ⟨_, h1⟩ := h.head; h1.2.1
/-- what was read is forgotten -/
theorem SepL.orOwn {T n : Nat} {v u : Value} {xs ys : List (List Value)} (h : SepL R base w (hOR T n v xs u ys :: L)) : SepL R base w (.own T n v xs :: L) :=
  h.upd fun _ ⟨g1, _, hf⟩ => ⟨sblk v, (by unfold Hp.own; exact ⟨g1, fun _ => Iff.rfl⟩), Chg.refl _ _, fun k hk => ⟨g1.lt k hk, .inl ((hf k).2 (.inl hk))⟩⟩
/-- the second is lent to be read -/
theorem SepL.freezeOr {T n : Nat} {v u : Value} {xs ys : List (List Value)} (h : SepL R base w (hOR T n v xs u ys :: L)) : ∃ R', SepL R' w w L ∧ RdIn R' w n u ys ∧ (∀ n v xs, RdIn R base n v xs → RdIn R' w n v xs) ∧ ∀ w' M, SepL R' w w' M → SepL R base w' (hOR T n v xs u ys :: M) := by
  obtain ⟨R', G, h1, h2, h3, h4, h5⟩ := h.freeze
  exact ⟨R', h2, ⟨h1.2.1, fun _ k hk => (h3 k ((h1.2.2 k).2 (.inr hk))).2⟩, h4, h5⟩
theorem wpS_append2 {t e n bytes : Nat} (T : SlTy P t e n bytes) {sv xv : Value} {xs ys : List (List Value)} (hS : SepL R base w (.own e n sv xs :: L)) (hgd : Region.wanted o (yielded ops a.tmps) = true)
    {s x : Operand} (ho : o.op = .call { callee := .builtin .append, args := #[s, x], argTypes := #[t, t] }) (hs : a.eval s = sv) (hx : a.eval x = xv)
    (rd : Rd n w xv ys) (hf : Flat ys) (hb : (xs.length + ys.length) * bytes ≤ 140737488355328) (hl : xs.length + ys.length ≤ maxLen)
    (hk : ∀ v' w', SepL R base w' (hOR e n sv xs v' (xs ++ ys) :: L) → wpList P ops Q rest (a.put o.dst v') w') : wpList P ops Q (o :: rest) a w := by
  obtain ⟨v', w', h1, h2, h3, h4, h5⟩ := run_append2 T o.type hS.getOwn rd hf hb hl
  refine wpList_val hgd ?_ (hk v' w' (hS.fromOwn (F' := fun k => sblk sv k ∨ sblk v' k) ⟨h5, h2.rd, fun _ => Iff.rfl⟩ h3 fun k hk => ?_))
  · unfold execOp
    simp [ho, resolve, invoke, builtin, hs, hx, h1]
  · rcases hk with hk | hk
    · exact ⟨h5.lt k hk, .inl hk⟩
    · exact ⟨h2.lt k hk, (h4 k hk).imp id fun e => by omega⟩
end
end Go.Px
