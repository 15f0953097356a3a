/- append(s, make([]T, k)...): in the model an append of the number k. Elements of one cell. -/
import Derived.Test.YtpdanieiafjmhaaDoorSepOps
import Derived.Lib.AppendZerosOnto
namespace Go.Px
open Go.RowKit
variable {P : Program}
theorem zeroCells_one (z : Value) (k : Nat) : (Builtin.zeroCells #[z] k).toList = List.replicate k z := by
  apply List.ext_getElem
  · simp [Builtin.zeroCells]
  · intro i h1 h2
    simp [Builtin.zeroCells, Nat.mod_one]
theorem flat_rep (z : Value) (k : Nat) : (List.replicate k [z]).flatten = List.replicate k z := by
  induction k with
  | zero => rfl
  | succ k ih => rw [List.replicate_succ, List.flatten_cons, ih, List.replicate_succ]; rfl
theorem run_appendZ {t tn e bytes : Nat} {kn kq : IntKind} {z : Value} (T : SlTy P t e 1 bytes) (htn : P.underlying tn = some (.int kn)) (hz : ∀ i y, P.info? e = some i → i.zero = some y → y.cells = #[z]) (ty : TypeId) {w : World} {s : Value} {xs : List (List Value)} (hs : Own e 1 w s xs) (k : Nat)
    (hb : (xs.length + k) * bytes ≤ 140737488355328) (hl : xs.length + k ≤ maxLen) :
    ∃ v' w', (Builtin.append_ #[t, tn] ty #[s, .int kq k]).run P w = .ok v' w' ∧ Own e 1 w' v' (xs ++ List.replicate k [z]) ∧ Chg (sblk s) w w' ∧ (∀ k, sblk v' k → sblk s k ∨ k = w.heap.size) := by
  obtain ⟨i, y, hi, hy, hn1, hz1, hby, hz2⟩ := T.info
  have hyc := hz i y hi hy
  have hone : z.oneCell' = true := hz2 z (by rw [hyc]; simp)
  have helen : ∀ q ∈ xs ++ List.replicate k [z], q.length = 1 := fun q hq => by
    rcases List.mem_append.1 hq with h | h
    · exact hs.1 q h
    · rw [(List.mem_replicate.1 h).2]; rfl
  have h63 : xs.length + k ≤ 9223372036854775807 := by simp only [maxLen] at hl; omega
  have hkb : k * bytes ≤ 140737488355328 := Nat.le_trans (Nat.mul_le_mul_right _ (by omega)) hb
  have hw : IntKind.i64.wrap (k : Int) = k := by rw [IntKind.wrap_i64]; omega
  have hneg : ¬ ((k : Int) < 0) := by omega
  have h48i : ¬ (281474976710656 < (k : Int) * (i.bytes : Int)) := by
    rw [← Int.natCast_mul, hby]
    omega
  -- a new block
  have grown : ∀ (C : Array Value) (old : Nat), C.toList = xs.flatten ++ List.replicate k z ++ (Builtin.zeroCells y.cells (grownCap w (xs.length + k) old e - (xs.length + k))).toList → 
      Own e 1 (w.drew.alloc (.cells C e)) (.slice (some ⟨w.heap.size, 0, none⟩) (xs.length + k) (grownCap w (xs.length + k) old e)) (xs ++ List.replicate k [z]) := by
    intro C old hC
    have hge := grownCap_ge w (xs.length + k) old e
    have hcm : grownCap w (xs.length + k) old e ≤ maxLen := grownCap_le_maxLen w _ old e hl
    have hfx := flatten_length hs.1
    refine ⟨helen, .inr ⟨w.heap.size, 0, grownCap w (xs.length + k) old e, _, by simp, by simpa using hge, hcm, heap_alloc_new w.drew _, ?_, ?_⟩⟩
    · rw [← Array.length_toList, hC]
      simp only [List.length_append, Array.length_toList, size_zeroCells, hz1, hfx, List.length_replicate]
      omega
    · rw [hC, List.drop_zero, List.flatten_append, flat_rep, List.length_append, List.length_replicate]
      have e1 : (xs.length + k) * 1 = (xs.flatten ++ List.replicate k z).length := by
        rw [List.length_append, hfx, List.length_replicate]; omega
      rw [e1]
      exact List.take_left
  have hchg : ∀ (C : Array Value), Chg (sblk s) w (w.drew.alloc (.cells C e)) := fun C => ((Chg.refl _ w).drew).alloc _
  rcases Nat.eq_zero_or_pos k with h0 | h0
  · subst h0
    refine ⟨s, w, ?_, by simpa using hs, Chg.refl _ _, fun k hk => .inl hk⟩
    have hw0 : IntKind.i64.wrap 0 = 0 := by rw [IntKind.wrap_i64]; omega
    rcases hs.2 with ⟨rfl, rfl⟩ | ⟨b, off, cap, C, rfl, h3, h4, h5, h6, h7⟩
    · simp [Builtin.append_, run_underlying T.ty, run_underlying htn, sizeOf, typeInfo, zeroValue, hi, hy, asInt, asIntOf, hw0]
    · simp [Builtin.append_, run_underlying T.ty, run_underlying htn, sizeOf, typeInfo, zeroValue, hi, hy, asInt, asIntOf, hw0, h3, storeCells]
  · rcases hs.2 with ⟨rfl, rfl⟩ | ⟨b, off, cap, C, rfl, h3, h4, h5, h6, h7⟩
    · have hr := Lib.run_append_nil_zeros (P := P) w t tn ty e i y kq kn T.ty htn hi hy k h0 (by omega) (by simp at h63; omega) (by rw [hby]; omega)
      have hg := grown (Builtin.zeroCells y.cells k ++ Builtin.zeroCells y.cells (grownCap w k 0 e - k)) 0 (by simp [hyc, zeroCells_one])
      simp only [List.length_nil, Nat.zero_add] at hg
      exact ⟨_, _, hr, hg, hchg _, fun k hk => .inr (by simpa [sblk] using hk)⟩
    · by_cases hroom : xs.length + k ≤ cap
      · have hfx := flatten_length hs.1
        have hst := run_storeCells_at P b (off + xs.length * 1) e (List.replicate k z) 0 C w h5 (by rw [List.length_replicate]; omega) (fun v hv => by rw [(List.mem_replicate.1 hv).2]; exact hone)
        simp only [Nat.add_zero] at hst
        have hch : Chg (sblk (.slice (some ⟨b, off, none⟩) xs.length cap)) w (w.setRow b (C.toList.take (off + xs.length * 1) ++ List.replicate k z ++ C.toList.drop (off + xs.length * 1 + (List.replicate k z).length)).toArray) :=
          Chg.setRow (S := sblk (.slice (some ⟨b, off, none⟩) xs.length cap)) (Chg.refl _ w) (g := b) (fun _ => (rfl : b = b)) _
        refine ⟨.slice (some ⟨b, off, none⟩) (xs.length + k) cap, _, ?_, ⟨helen, .inr ⟨b, off, cap, _, by simp, by simpa using hroom, h4, setRow_heap w b C _ e _ h5, ?_, ?_⟩⟩, hch, fun k hk => .inl hk⟩
        · have hns : ¬ (k * i.size = 0) := Nat.mul_ne_zero (by omega) (by omega)
          have hk0 : k ≠ 0 := by omega
          have hs0 : i.size ≠ 0 := by omega
          have hst2 := hst
          rw [← zeroCells_one, ← hyc] at hst2
          simp only [Nat.mul_one] at hst2
          simp [Builtin.append_, run_underlying T.ty, run_underlying htn, sizeOf, typeInfo, zeroValue, hi, hy, asInt, asIntOf, hw, hneg, h48i, hk0, hn1, hroom, Addr.add_lit, hst2]
          rw [hyc, zeroCells_one, size_zeroCells]
          simp
        · simp only [List.size_toArray, List.length_append, List.length_take, List.length_drop, Array.length_toList, List.length_replicate]
          omega
        · have e1 : ∀ q : List Value, (C.toList.take (off + xs.length * 1) ++ q).drop off = xs.flatten ++ q := by
            intro q
            rw [List.drop_append_of_le_length (by simp; omega), List.drop_take]
            congr 1
            rw [← h7]
            congr 1
            omega
          have e2 : (xs ++ List.replicate k [z]).length * 1 = (xs.flatten ++ List.replicate k z).length := by
            simp only [List.length_append, hfx, List.length_replicate]; omega
          rw [e2, List.flatten_append, flat_rep]
          simp only [List.append_assoc]
          rw [e1, ← List.append_assoc]
          exact List.take_left
      · have holds : ∀ j u, xs.flatten[j]? = some u → w.cell? ((⟨b, off, none⟩ : Addr).add j) = some u := by
          have hc : Cells w b off xs.flatten := ⟨C, e, _, h5, by rw [flatten_length hs.1]; exact h7⟩
          exact hc.at_add
        have hfo := run_firstCells_some (P := P) w.drew i.size xs.length ⟨b, off, none⟩ xs.length cap xs.flatten (by rw [flatten_length hs.1, hn1]) (by simpa using holds)
        have hr := Lib.run_append_grow_zeros (P := P) w t tn ty e i y kq kn T.ty htn hi hy (some ⟨b, off, none⟩) xs.length cap xs.flatten hfo k h0 (by omega) (by omega) (by omega) (by rw [hby]; omega) (growslice_fits (by omega) (by rw [hby]; exact hb))
        exact ⟨_, _, hr, grown _ cap (by simp [hyc, zeroCells_one]), hchg _, fun k hk => .inr (by simpa [sblk] using hk)⟩
section
variable {R : Nat → Prop} {base w : World} {L : List Hp} {ops : Array Oper} {rest : List Oper} {o : Oper} {a : Act} {Q : Exit → Act → World → Prop}
theorem wpS_appendZ {t tn e bytes : Nat} {kn kq : IntKind} {z : Value} (T : SlTy P t e 1 bytes) (htn : P.underlying tn = some (.int kn)) (hz : ∀ i y, P.info? e = some i → i.zero = some y → y.cells = #[z]) {sv : Value} {xs : List (List Value)} (hS : SepL R base w (.own e 1 sv xs :: L)) (hgd : Region.wanted o (yielded ops a.tmps) = true)
    {s x : Operand} (ho : o.op = .call { callee := .builtin .append, args := #[s, x], argTypes := #[t, tn] }) (hs : a.eval s = sv) {k : Nat} (hx : a.eval x = .int kq k)
    (hb : (xs.length + k) * bytes ≤ 140737488355328) (hl : xs.length + k ≤ maxLen)
    (hk : ∀ v' w', SepL R base w' (.own e 1 v' (xs ++ List.replicate k [z]) :: L) → wpList P ops Q rest (a.put o.dst v') w') : wpList P ops Q (o :: rest) a w := by
  obtain ⟨v', w', h1, h2, h3, h4⟩ := run_appendZ (kq := kq) T htn hz o.type hS.getOwn k hb hl
  refine wpList_val hgd ?_ (hk v' w' (hS.updOwn h2 h3 fun k hk => (h4 k hk).imp id (fun e => by omega)))
  unfold execOp
  simp [ho, resolve, invoke, builtin, hs, hx, h1]
end
end Go.Px
