/- A new set of known ids is empty; its length, its list and whether it has an id are those of its list. Conditions: those that stand ahead of each theorem. -/
import Derived.Test.YtkddaombdahodaaSet
import Derived.Test.YtkddaombdahodaaAny7
namespace Go.Proofs.Ytkddaombdahodaa
open Go.RowKit Go.Px

/-! ### known.Set: the other methods -/
theorem new_no (n : Int) (w : World) (h : n < 1 ∨ 64 < n) :
    Calls Try.prog 10 #[.int .i64 n] w (Ret fun v w' => v = .tuple #[.pointer none, .int .i64 2] ∧ w' = w) := by
  rcases h with h | h
  · go_enter Try.func10, Try.ntmps10
    go_wp2
    go_ret2
    exact ⟨rfl, rfl⟩
  · have h' : ¬ n < 1 := by omega
    go_enter Try.func10, Try.ntmps10
    go_wp2
    go_ret2
    exact ⟨rfl, rfl⟩
set_option maxHeartbeats 400000 in
theorem new_yes (n : Nat) (w : World) (h : 1 ≤ n) (h2 : n ≤ 64) :
    Calls Try.prog 10 #[.int .i64 n] w (Ret fun v w' => ∃ p S, v = .tuple #[.pointer (some ⟨p, 0, none⟩), .int .i64 0] ∧ KSet w' p n [] S ∧ Chg No w w' ∧ ∀ k, S k → w.heap.size ≤ k) := by
  have hmm := @run_makeMap Try.prog
  go_enter Try.func10, Try.ntmps10
  go_wp2
  go_ret2
  refine ⟨w.heap.size + 1, kfoot (w.heap.size + 1) w.heap.size (.slice none 0 0), rfl, ⟨w.heap.size, .slice none 0 0, [], 0, ⟨?_, Own.nil, ?_⟩, ⟨h, h2, by simp, fun _ => rfl, by omega, rfl, by simp, by intro x hx; cases hx⟩, fun _ => Iff.rfl⟩, ((Chg.refl No w).alloc _).alloc _, ?_⟩
  · unfold Blk
    exact heap_alloc2_new w _ _
  · exact ⟨⟨#[], 0, heap_alloc2_old w _ _, rfl⟩, by simp [ents1], by simp [ents1]⟩
  · rintro k (rfl | rfl | hk)
    · omega
    · omega
    · exact hk.elim
set_option maxHeartbeats 400000 in
theorem has_any (p most : Nat) (L : List (List Value)) (S : Nat → Prop) (x : List Value) (w : World) (hS : KSet w p most L S) (kx : IsH x) :
    Calls Try.prog 17 #[.pointer (some ⟨p, 0, none⟩), H x] w (Ret fun v w' => v = .bool (mem x L) ∧ Chg No w w') := by
  obtain ⟨m, rv, ring, first, hst, hinv, hfoot⟩ := hS
  obtain ⟨⟨lx, fx⟩, jx⟩ := kx
  have LX := Lib.hid lx
  clear lx
  have hg : Hid ((mget (ents1 L) (H x)).getD (.int .i64 0) = if mem x L then .int .i64 1 else .int .i64 0) := mget_ents1 hinv.nodup x
  unfold H at jx ⊢
  go_enter Try.func17, Try.ntmps17
  go_wp2_with (refine wpList_box rfl rfl (v := .agg x.toArray) rfl ?_; intro nb w1 hnb hle hB hc1)
  have hB' : Blk w1 nb 24 x := by simpa [Value.cells] using hB
  have hst1 := hst.no hc1
  have c2 : w1.cell? ⟨p, 2, none⟩ = some (.map (some m)) := hst1.blk.cell 2
  rcases hmem : mem x L with _ | _
  · have hg0 : Hid ((mget (ents1 L) (H x)).getD (.int .i64 0) = .int .i64 0) := by rw [hmem] at hg; exact hg
    have HM := Lib.hid hmem
    clear hmem
    refine wp_region_text (by kernel_rfl) (by kernel_rfl) (by repeat (first | exact Clean.body | refine Clean.then ?_ | refine Clean.inBlock ?_)) ?_
    go_wp2_with (first
      | (refine wpList_val rfl (op_load agg24 rfl rfl hB'.cells LX.out) ?_)
      | (refine wpList_val rfl (op_lookup mapTy49 rfl rfl (x := .agg x.toArray) rfl (hst1.map.keep rfl) jx) ?_; rw [show (mget (ents1 L) (.agg x.toArray)).getD (.int .i64 0) = .int .i64 0 from hg0.out])
      | (refine fin_mk (by kernel_rfl) ?_))
    go_ret
    exact ⟨by simp [HM.out], hc1.drew⟩
  · have hg0 : Hid ((mget (ents1 L) (H x)).getD (.int .i64 0) = .int .i64 1) := by rw [hmem] at hg; exact hg
    have HM := Lib.hid hmem
    clear hmem
    refine wp_region_text (by kernel_rfl) (by kernel_rfl) (by repeat (first | exact Clean.body | refine Clean.then ?_ | refine Clean.inBlock ?_)) ?_
    go_wp2_with (first
      | (refine wpList_val rfl (op_load agg24 rfl rfl hB'.cells LX.out) ?_)
      | (refine wpList_val rfl (op_lookup mapTy49 rfl rfl (x := .agg x.toArray) rfl (hst1.map.keep rfl) jx) ?_; rw [show (mget (ents1 L) (.agg x.toArray)).getD (.int .i64 0) = .int .i64 1 from hg0.out])
      | (refine fin_mk (by kernel_rfl) ?_))
    go_ret
    exact ⟨by simp [HM.out], hc1.drew⟩
set_option maxHeartbeats 400000 in
theorem len_any (p most : Nat) (L : List (List Value)) (S : Nat → Prop) (w : World) (hS : KSet w p most L S) :
    Calls Try.prog 16 #[.pointer (some ⟨p, 0, none⟩)] w (Ret fun v w' => v = .int .i64 L.length ∧ w' = w) := by
  obtain ⟨m, rv, ring, first, hst, hinv, hfoot⟩ := hS
  have c2 : w.cell? ⟨p, 2, none⟩ = some (.map (some m)) := hst.blk.cell 2
  go_enter Try.func16, Try.ntmps16
  go_wp2_with (refine wpList_val rfl (op_lenMap mapTy49 rfl rfl rfl hst.map) ?_)
  go_ret
  exact ⟨by simp [ents1], rfl⟩
set_option maxHeartbeats 1000000 in
theorem all_any (p most : Nat) (L : List (List Value)) (S : Nat → Prop) (w : World) (hS : KSet w p most L S) :
    Calls Try.prog 15 #[.pointer (some ⟨p, 0, none⟩)] w (Ret fun v w' => Own 24 32 w' v L ∧ Chg No w w' ∧ ∀ k, sblk v k → w.heap.size ≤ k) := by
  obtain ⟨m, rv, ring, first, hst, hinv, hfoot⟩ := hS
  obtain ⟨Ar, cr, rfl, hr1, hr2⟩ := hst.own.rd.form
  have hfl := hinv.lt
  have hm2 := hinv.m2
  have hrl := hinv.len
  have hfr : first ≤ ring.length := by
    rcases Nat.lt_or_ge ring.length most with h | h
    · have := hinv.few h; omega
    · omega
  have hfi : Flat ring := fun q hq v hv => (hinv.keys q (by
    rw [hinv.eq]
    rw [← List.take_append_drop first ring] at hq
    rcases List.mem_append.1 hq with h | h
    · exact List.mem_append_right _ h
    · exact List.mem_append_left _ h)).1.2 v hv
  have c0 : w.cell? ⟨p, 0, none⟩ = some (.slice Ar ring.length cr) := hst.blk.cell 0
  have HE := Lib.hid hinv.eq
  have zs24 : ∀ i z, Try.prog.info? 24 = some i → i.zero = some z → z.cells.toList = List.replicate 32 (.int .u8 0) := by
    intro i z hi hz
    have := info24
    rw [hi] at this
    simp only [Option.map_some, Option.some.injEq, Prod.mk.injEq] at this
    rw [hz] at this
    have h1 := this.1
    injection h1 with h1
    rw [h1]; rfl
  have ZS := Lib.hid zs24
  clear zs24
  go_enter Try.func15, Try.ntmps15
  go_wp2_with (refine wpList_make slTy33 (zs := List.replicate 32 (.int .u8 0)) ZS.out rfl rfl (l := 0) (c := ring.length) rfl rfl (by omega) (by omega) (by omega) ?_; intro v1 w1 hO1 hb1 hc1)
  have hst1 := hst.no hc1
  have d0 : w1.cell? ⟨p, 0, none⟩ = some (.slice Ar ring.length cr) := hst1.blk.cell 0
  have d1 : w1.cell? ⟨p, 1, none⟩ = some (.int .i64 first) := hst1.blk.cell 1
  have hO1' : Own 24 32 w1 v1 [] := by simpa using hO1
  clear hO1
  refine wp_region_text (by kernel_rfl) (by kernel_rfl) (by repeat (first | exact Clean.body | refine Clean.then ?_ | refine Clean.inBlock ?_)) ?_
  go_wp2_with (first
    | (refine wpList_val rfl (op_slice slTy33 rfl _ rfl (l := first) (h := ring.length) (Or.inr rfl) (Or.inl ⟨rfl, rfl⟩) hfr hr1) ?_)
    | (refine wpList_append slTy33 rfl rfl (sv := v1) (xv := .slice (cutAddr Ar cr first 32) (ring.length - first) (cr - first)) rfl rfl (hO1'.keep fun _ _ _ => rfl) ((hst1.own.rd.cut hfr (Nat.le_refl _)).keep fun _ _ _ => rfl) (fun q hq => hfi q (List.mem_of_mem_drop (List.mem_of_mem_take hq))) (by simp; omega) (by simp [maxLen]; omega) ?_; intro v2 w2 hO2 hc2 hs2; replace hc2 := undrew hc2)
    | (refine fin_mk (by kernel_rfl) ?_))
  have hst2 : KSt w2 p m (.slice Ar ring.length cr) ring first most (ents1 L) := hst1.chg hc2 (fun j hj hf hv => by
    have h1 := hst.lt j hf
    have h2 := hb1 j hv
    omega)
  have e0 : w2.cell? ⟨p, 0, none⟩ = some (.slice Ar ring.length cr) := hst2.blk.cell 0
  have e1 : w2.cell? ⟨p, 1, none⟩ = some (.int .i64 first) := hst2.blk.cell 1
  clear c0 d0 d1
  refine wp_region_text (by kernel_rfl) (by kernel_rfl) (by repeat (first | exact Clean.body | refine Clean.then ?_ | refine Clean.inBlock ?_)) ?_
  go_wp2_with (first
    | (refine wpList_val rfl (op_slice slTy33 rfl _ rfl (l := 0) (h := first) (Or.inl ⟨rfl, rfl⟩) (Or.inr rfl) (by omega) (by omega)) ?_)
    | (refine wpList_append slTy33 rfl rfl (sv := v2) (xv := .slice (cutAddr Ar cr 0 32) (first - 0) (cr - 0)) rfl rfl (hO2.keep fun _ _ _ => rfl) ((hst2.own.rd.cut (Nat.zero_le _) hfr).keep fun _ _ _ => rfl) (fun q hq => hfi q (List.mem_of_mem_drop (List.mem_of_mem_take hq))) (by simp; omega) (by simp [maxLen]; omega) ?_; intro v3 w3 hO3 hc3 hs3; replace hc3 := undrew hc3)
    | (refine fin_mk (by kernel_rfl) ?_))
  go_ret
  have hz1 := hc1.size
  have hz2 := hc2.size
  have hb2 : ∀ k, sblk v2 k → w.heap.size ≤ k := fun k hk => by
    rcases hs2 k hk with h | h
    · exact hb1 k h
    · have : w1.drew.heap.size = w1.heap.size := rfl
      omega
  refine ⟨?_, ?_, fun k hk => ?_⟩
  · have e : L = [] ++ (ring.drop first).take (ring.length - first) ++ (ring.drop 0).take (first - 0) := by
      refine HE.out.trans ?_
      rw [List.take_of_length_le (l := ring.drop first) (by simp)]
      simp
    rw [e]
    exact hO3
  · exact (hc1.trans hc2 (fun _ _ h => h) (fun j hj hv => by have := hb1 j hv; omega)).trans hc3 (fun _ _ h => h) (fun j hj hv => by have := hb2 j hv; omega)
  · rcases hs3 k hk with h | h
    · exact hb2 k h
    · have : w2.drew.heap.size = w2.heap.size := rfl
      omega
end Go.Proofs.Ytkddaombdahodaa
