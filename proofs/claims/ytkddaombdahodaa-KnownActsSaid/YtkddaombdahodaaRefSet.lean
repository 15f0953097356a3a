/- The contracts of the document's own set of ids. Conditions: those that stand ahead of each theorem. -/
import Derived.Test.YtkddaombdahodaaSetS
import Derived.Test.YtkddaombdahodaaNewId
namespace Go.Proofs.Ytkddaombdahodaa
open Go.RowKit Go.Px
theorem one33 : One Try.prog 33 := One.of (d := .slice 24) (by kernel_rfl) rfl (by kernel_rfl)
theorem one3 : One Try.prog 3 := One.of (d := .int .i64) (by kernel_rfl) rfl (by kernel_rfl)
theorem size33 : (Try.prog.info? 33).map (·.size) = some 1 := by kernel_rfl
def hR (p most : Nat) (L : List (List Value)) : Hp := hEx fun lv => [.blk p 39 [.int .i64 most, lv], .own 24 32 lv L]
section
variable {R : Nat → Prop} {base w : World} {F : List Hp} {p most : Nat} {L : List (List Value)}
theorem hR_open (h : SepL R base w (hR p most L :: F)) : ∃ lv, SepL R base w (.blk p 39 [.int .i64 most, lv] :: .own 24 32 lv L :: F) := h.unpack
theorem hR_close {lv : Value} (h : SepL R base w (.blk p 39 [.int .i64 most, lv] :: .own 24 32 lv L :: F)) : SepL R base w (hR p most L :: F) := h.pack (l := fun lv => [Hp.blk p 39 [.int .i64 most, lv], Hp.own 24 32 lv L]) lv
end
attribute [irreducible] hR
section
variable {R : Nat → Prop} {base : World} {F : List Hp} {p most : Nat} {L : List (List Value)}
theorem rnew_no (n : Int) (w : World) (h : n < 1 ∨ 64 < n) : Calls Try.prog 11 #[.int .i64 n] w (Ret fun v w' => v = .tuple #[.pointer none, .int .i64 2] ∧ w' = w) := by
  rcases h with h | h
  · go_enter Try.func11, Try.ntmps11
    go_wp2
    go_ret2
    exact ⟨rfl, rfl⟩
  · have h' : ¬ n < 1 := by omega
    go_enter Try.func11, Try.ntmps11
    go_wp2
    go_ret2
    exact ⟨rfl, rfl⟩
set_option maxHeartbeats 400000 in
theorem rnew_s {w : World} (hS : SepL R base w F) (n : Nat) (h1 : 1 ≤ n) (h2 : n ≤ 64) : Calls Try.prog 11 #[.int .i64 n] w (Ret fun v w' => ∃ p, v = .tuple #[.pointer (some ⟨p, 0, none⟩), .int .i64 0] ∧ SepL R base w' (hR p n [] :: F)) := by
  go_enter Try.func11, Try.ntmps11
  go_wp2_with (first
    | (show wpList _ _ _ (⟨_, .box _ _, _, _, _, _⟩ :: _) _ _; refine wpS_boxA hS rfl rfl (cs := [.int .i64 n, .slice none 0 0]) rfl ?_; clear hS; intro nb w hS; go_frame))
  go_ret2
  exact ⟨_, rfl, hR_close ((hS.nilOwn 24 32).perm (.swap _ _ _))⟩
set_option maxHeartbeats 400000 in
theorem rhas_s {w : World} (hS : SepL R base w (hR p most L :: F)) (x : List Value) (kx : IsH x) (kL : IsHs L) {b : Bool} (hb : Hid (mem x L = b)) : Calls Try.prog 18 #[.pointer (some ⟨p, 0, none⟩), H x] w (Ret fun r w' => r = .bool b ∧ SepL R base w' (hR p most L :: F)) := by
  obtain ⟨lv, hS⟩ := hR_open hS
  unfold H
  go_enter Try.func18, Try.ntmps18
  go_wp2_with (first
    | (show wpList _ _ _ (⟨_, .load 33 _, _, _, _, _⟩ :: _) _ _; refine wpList_val rfl (op_load1S one33 ((hS.bring (by repeat (first | exact t0 | apply tS)))) rfl rfl rfl) ?_; go_frame)
    | (show wpList _ _ _ (⟨_, .load 3 _, _, _, _, _⟩ :: _) _ _; refine wpList_val rfl (op_load1S one3 ((hS.bring (by repeat (first | exact t0 | apply tS)))) rfl rfl rfl) ?_; go_frame)
    | (show wpList _ _ _ (⟨_, .buildSlice 33 0 _, _, _, _, _⟩ :: _) _ _; refine wpS_build0 slTy33 hS rfl rfl ?_; clear hS; intro v w hS; go_frame)
    | (show wpList _ _ _ (⟨_, .store 33 _ _, _, _, _, _⟩ :: _) _ _; (refine wpS_store1 size33 (hS.bring (by repeat (first | exact t0 | apply tS))) rfl rfl rfl rfl (by first | rfl | exact hcell _ _) (by first | rfl | exact hone _ _) (by simp) ?_); clear hS; intro w hS; go_frame)
    | (go_at_call 18; (refine Ret.calls (rhas_s (hS.bring (by repeat (first | exact t0 | apply tS))) _ (by assumption) (by assumption) (b := _) (by assumption)) ?_); clear hS; rintro r w ⟨rfl, hS⟩)
    | (refine wp_region_text (by kernel_rfl) (by kernel_rfl) (by repeat (first | exact Clean.body | refine Clean.then ?_ | refine Clean.inBlock ?_)) ?_; replace hS := hS.drew)
    | (refine fin_mk (by kernel_rfl) ?_)
    | (go_at_call 20; refine Ret.calls (made_t hS _ (by omega) (by assumption) (by assumption) (by omega) (by assumption)) ?_; clear hS; rintro r w ⟨p, rfl, hS⟩)
    | (show wpList _ _ _ (⟨_, .box _ _, _, _, _, _⟩ :: _) _ _; refine wpS_boxA hS rfl rfl rfl ?_; clear hS; intro nb w hS; go_frame)
    | (show wpList _ _ _ (⟨_, .load 24 _, _, _, _, _⟩ :: _) _ _; refine wpList_val rfl (op_load agg24 rfl rfl ((hS.bring (by repeat (first | exact t0 | apply tS))).getBlk.cells) (IsH.len (by assumption))) ?_; go_frame)
    | (show wpList _ _ _ (⟨_, .load 24 _, _, _, _, _⟩ :: _) _ _; refine wpList_val rfl (op_loadE agg24 rfl rfl (by first | exact hS.rd (by assumption) | exact (hS.bring (by repeat (first | exact t0 | apply tS))).getOwn.rd | exact (hS.bring (by repeat (first | exact t0 | apply tS))).rd2l | exact (hS.bring (by repeat (first | exact t0 | apply tS))).rd2r | exact hS.rd (RdIn.cutV (by assumption) (by omega) (by omega)) | exact (hS.bring (by repeat (first | exact t0 | apply tS))).getOwn.rd.cutV (by omega) (by omega)) (by omega)) ?_; go_frame)
    | (show wpList _ _ _ (⟨_, .alloc 24, _, _, _, _⟩ :: _) _ _; refine wpS_alloc hS rfl rfl zero24 rfl ?_; clear hS; intro nb w hS; go_frame)
    | (show wpList _ _ _ (⟨_, .store 24 _ _, _, _, _, _⟩ :: _) _ _; (refine wpS_storeAll agg24 (hS.bring (by repeat (first | exact t0 | apply tS))) rfl rfl rfl rfl (IsH.len (by assumption)) (IsH.flat (by assumption)) (by first | rfl | simp | exact IsH.len (by assumption)) ?_); clear hS; intro w hS; go_frame)
    | (show wpList _ _ _ (⟨_, .buildSlice 33 1 _, _, _, _, _⟩ :: _) _ _; refine wpS_build1A slTy33 (by omega) hS rfl rfl rfl (IsH.len (by assumption)) ?_; clear hS; intro v w hS; go_frame)
    | (show wpList _ _ _ (⟨_, .call ⟨.builtin .len, _, _⟩, _, _, _, _⟩ :: _) _ _; refine wpList_val rfl (op_len slTy33 rfl rfl rfl (by first | exact hS.rd (by assumption) | exact (hS.bring (by repeat (first | exact t0 | apply tS))).getOwn.rd | exact (hS.bring (by repeat (first | exact t0 | apply tS))).rd2l | exact (hS.bring (by repeat (first | exact t0 | apply tS))).rd2r | exact hS.rd (RdIn.cutV (by assumption) (by omega) (by omega)) | exact (hS.bring (by repeat (first | exact t0 | apply tS))).getOwn.rd.cutV (by omega) (by omega))) ?_; go_frame)
    | (show wpList _ _ _ (⟨_, .indexAddr 33 _ _, _, _, _, _⟩ :: _) _ _; refine wpList_val rfl (op_indexAddr slTy33 rfl rfl (k := 0) rfl (by first | exact hS.rd (by assumption) | exact (hS.bring (by repeat (first | exact t0 | apply tS))).getOwn.rd | exact (hS.bring (by repeat (first | exact t0 | apply tS))).rd2l | exact (hS.bring (by repeat (first | exact t0 | apply tS))).rd2r | exact hS.rd (RdIn.cutV (by assumption) (by omega) (by omega)) | exact (hS.bring (by repeat (first | exact t0 | apply tS))).getOwn.rd.cutV (by omega) (by omega)) (by omega)) ?_; go_frame)
    | (show wpList _ _ _ (⟨_, .slice 33 _ none _ _, _, _, _, _⟩ :: _) _ _; refine wpList_val rfl (op_cut slTy33 rfl rfl (by first | exact hS.rd (by assumption) | exact (hS.bring (by repeat (first | exact t0 | apply tS))).getOwn.rd | exact (hS.bring (by repeat (first | exact t0 | apply tS))).rd2l | exact (hS.bring (by repeat (first | exact t0 | apply tS))).rd2r | exact hS.rd (RdIn.cutV (by assumption) (by omega) (by omega)) | exact (hS.bring (by repeat (first | exact t0 | apply tS))).getOwn.rd.cutV (by omega) (by omega)) (l := 0) (h := 1) (Or.inl ⟨rfl, rfl⟩) (Or.inr rfl) (by omega) (by omega)) ?_; go_frame)
    | (show wpList _ _ _ (⟨_, .slice 33 _ _ none _, _, _, _, _⟩ :: _) _ _; refine wpList_val rfl (op_cut slTy33 rfl rfl (by first | exact hS.rd (by assumption) | exact (hS.bring (by repeat (first | exact t0 | apply tS))).getOwn.rd | exact (hS.bring (by repeat (first | exact t0 | apply tS))).rd2l | exact (hS.bring (by repeat (first | exact t0 | apply tS))).rd2r | exact hS.rd (RdIn.cutV (by assumption) (by omega) (by omega)) | exact (hS.bring (by repeat (first | exact t0 | apply tS))).getOwn.rd.cutV (by omega) (by omega)) (l := 1) (h := _) (Or.inr rfl) (Or.inl ⟨rfl, rfl⟩) (by omega) (by omega)) ?_; go_frame)
    | (show wpList _ _ _ (⟨_, .call ⟨.builtin .append, _, _⟩, _, _, _, _⟩ :: _) _ _; (refine wpS_appendCut slTy33 (hS.bring (by repeat (first | exact t0 | apply tS))) rfl rfl rfl rfl (by first | exact hS.rd (by assumption) | exact (hS.bring (by repeat (first | exact t0 | apply tS))).getOwn.rd | exact (hS.bring (by repeat (first | exact t0 | apply tS))).rd2l | exact (hS.bring (by repeat (first | exact t0 | apply tS))).rd2r | exact hS.rd (RdIn.cutV (by assumption) (by omega) (by omega)) | exact (hS.bring (by repeat (first | exact t0 | apply tS))).getOwn.rd.cutV (by omega) (by omega)) (IsHs.flat (isHs1 (by assumption))) (by simp) (by omega) (by simp; omega) (by simp [maxLen]; omega) ?_); clear hS; intro v w hS; go_frame)
    | (show wpList _ _ _ (⟨_, .call ⟨.builtin .append, _, _⟩, _, _, _, _⟩ :: _) _ _; (refine wpS_append slTy33 (hS.bring (by repeat (first | exact t0 | apply tS))) rfl rfl rfl rfl (by first | exact hS.rd (by assumption) | exact (hS.bring (by repeat (first | exact t0 | apply tS))).getOwn.rd | exact (hS.bring (by repeat (first | exact t0 | apply tS))).rd2l | exact (hS.bring (by repeat (first | exact t0 | apply tS))).rd2r | exact hS.rd (RdIn.cutV (by assumption) (by omega) (by omega)) | exact (hS.bring (by repeat (first | exact t0 | apply tS))).getOwn.rd.cutV (by omega) (by omega)) (IsHs.flat (isHs1 (by assumption))) (by simp; omega) (by simp [maxLen]; omega) ?_); clear hS; intro v w hS; go_frame)
    | (go_at_call 9; refine Ret.calls (alive_s hS) ?_; clear hS; rintro r w ⟨rfl, hS⟩)
    | (go_at_call 20; refine Ret.calls (made_s hS _ (by omega) (by assumption) (by assumption) (by omega)) ?_; clear hS; rintro r w ⟨p, rfl, hS⟩)
    | (go_at_call 17; (refine Ret.calls (has_s (hS.bring (by repeat (first | exact t0 | apply tS))) _ (by assumption) (b := _) (by assumption)) ?_); clear hS; rintro r w ⟨rfl, hS⟩)
    | (go_at_call 16; (refine Ret.calls (len_s (hS.bring (by repeat (first | exact t0 | apply tS)))) ?_); clear hS; rintro r w ⟨rfl, hS⟩)
    | (go_at_call 15; (refine Ret.calls (all_s (hS.bring (by repeat (first | exact t0 | apply tS)))) ?_); clear hS; rintro r w hS)
    | (go_at_call 13; (refine Ret.calls (add_o (hS.bring (by repeat (first | exact t0 | apply tS))) (t := by repeat (first | exact t0 | apply tS)) (by assumption) (by simp)) ?_); clear hS; rintro r w hS)
    | (go_at_call 12; refine Ret.calls (same_s hS (by first | exact hS.rd (by assumption) | exact (hS.bring (by repeat (first | exact t0 | apply tS))).getOwn.rd | exact (hS.bring (by repeat (first | exact t0 | apply tS))).rd2l | exact (hS.bring (by repeat (first | exact t0 | apply tS))).rd2r | exact hS.rd (RdIn.cutV (by assumption) (by omega) (by omega)) | exact (hS.bring (by repeat (first | exact t0 | apply tS))).getOwn.rd.cutV (by omega) (by omega)) (by first | exact hS.rd (by assumption) | exact (hS.bring (by repeat (first | exact t0 | apply tS))).getOwn.rd | exact (hS.bring (by repeat (first | exact t0 | apply tS))).rd2l | exact (hS.bring (by repeat (first | exact t0 | apply tS))).rd2r | exact hS.rd (RdIn.cutV (by assumption) (by omega) (by omega)) | exact (hS.bring (by repeat (first | exact t0 | apply tS))).getOwn.rd.cutV (by omega) (by omega)) (by assumption) (by assumption) (b := _) (by assumption)) ?_; clear hS; rintro r w ⟨rfl, hS⟩)
    | (go_at_call 19; refine Ret.calls (has11_s hS (by first | exact hS.rd (by assumption) | exact (hS.bring (by repeat (first | exact t0 | apply tS))).getOwn.rd | exact (hS.bring (by repeat (first | exact t0 | apply tS))).rd2l | exact (hS.bring (by repeat (first | exact t0 | apply tS))).rd2r | exact hS.rd (RdIn.cutV (by assumption) (by omega) (by omega)) | exact (hS.bring (by repeat (first | exact t0 | apply tS))).getOwn.rd.cutV (by omega) (by omega)) (by assumption) (by assumption) (b := _) (by assumption)) ?_; clear hS; rintro r w ⟨rfl, hS⟩)
    )
  go_ret
  exact ⟨rfl, hR_close hS.tail⟩
theorem radd1 {x : List Value} (hm : 1 ≤ most) (h : mem x L = false) : add1 most L x = if most < (L ++ [x]).length then (L ++ [x]).drop 1 else L ++ [x] := by
  unfold add1
  rw [h]
  simp only [Bool.false_eq_true, if_false, List.length_append, List.length_cons, List.length_nil]
  by_cases hc : L.length < most
  · rw [if_pos hc, if_neg (by omega)]
  · rw [if_neg hc, if_pos (by omega), List.drop_append_of_le_length (by omega)]
theorem rgone1 {x : List Value} (hm : 1 ≤ most) (h : mem x L = false) : gone1 most L x = if most < (L ++ [x]).length then (L ++ [x]).take 1 else [] := by
  unfold gone1
  rw [h]
  simp only [Bool.false_eq_true, if_false, List.length_append, List.length_cons, List.length_nil]
  by_cases hc : L.length < most
  · rw [if_pos hc, if_neg (by omega)]
  · rw [if_neg hc, if_pos (by omega), List.take_append_of_le_length (by omega)]
set_option maxHeartbeats 4000000 in
theorem radd_s {w : World} (hS : SepL R base w (hR p most L :: F)) (hm1 : 1 ≤ most) (hm2 : most ≤ 64) (hle : L.length ≤ most) (kL : IsHs L) {v : Value} {l : List (List Value)} (hl : RdIn R base 32 v l) (kl : IsHs l) (hlen : l.length ≤ 1000) :
    Calls Try.prog 14 #[.pointer (some ⟨p, 0, none⟩), v] w (Ret fun r w' => SepL R base w' (.own 24 32 r (gones most L l) :: hR p most (adds most L l) :: F)) := by
  go_enter Try.func14, Try.ntmps14
  go_wp2_with (first
    | (go_at_call 20; refine Ret.calls (made_t hS _ (by omega) (by assumption) (by assumption) (by omega) (by assumption)) ?_; clear hS; rintro r w ⟨p, rfl, hS⟩)
    | (show wpList _ _ _ (⟨_, .box _ _, _, _, _, _⟩ :: _) _ _; refine wpS_boxA hS rfl rfl rfl ?_; clear hS; intro nb w hS; go_frame)
    | (show wpList _ _ _ (⟨_, .load 24 _, _, _, _, _⟩ :: _) _ _; refine wpList_val rfl (op_load agg24 rfl rfl ((hS.bring (by repeat (first | exact t0 | apply tS))).getBlk.cells) (IsH.len (by assumption))) ?_; go_frame)
    | (show wpList _ _ _ (⟨_, .load 24 _, _, _, _, _⟩ :: _) _ _; refine wpList_val rfl (op_loadE agg24 rfl rfl (by first | exact hS.rd (by assumption) | exact (hS.bring (by repeat (first | exact t0 | apply tS))).getOwn.rd | exact (hS.bring (by repeat (first | exact t0 | apply tS))).rd2l | exact (hS.bring (by repeat (first | exact t0 | apply tS))).rd2r | exact hS.rd (RdIn.cutV (by assumption) (by omega) (by omega)) | exact (hS.bring (by repeat (first | exact t0 | apply tS))).getOwn.rd.cutV (by omega) (by omega)) (by omega)) ?_; go_frame)
    | (show wpList _ _ _ (⟨_, .alloc 24, _, _, _, _⟩ :: _) _ _; refine wpS_alloc hS rfl rfl zero24 rfl ?_; clear hS; intro nb w hS; go_frame)
    | (show wpList _ _ _ (⟨_, .store 24 _ _, _, _, _, _⟩ :: _) _ _; (refine wpS_storeAll agg24 (hS.bring (by repeat (first | exact t0 | apply tS))) rfl rfl rfl rfl (IsH.len (by assumption)) (IsH.flat (by assumption)) (by first | rfl | simp | exact IsH.len (by assumption)) ?_); clear hS; intro w hS; go_frame)
    | (show wpList _ _ _ (⟨_, .buildSlice 33 1 _, _, _, _, _⟩ :: _) _ _; refine wpS_build1A slTy33 (by omega) hS rfl rfl rfl (IsH.len (by assumption)) ?_; clear hS; intro v w hS; go_frame)
    | (show wpList _ _ _ (⟨_, .call ⟨.builtin .len, _, _⟩, _, _, _, _⟩ :: _) _ _; refine wpList_val rfl (op_len slTy33 rfl rfl rfl (by first | exact hS.rd (by assumption) | exact (hS.bring (by repeat (first | exact t0 | apply tS))).getOwn.rd | exact (hS.bring (by repeat (first | exact t0 | apply tS))).rd2l | exact (hS.bring (by repeat (first | exact t0 | apply tS))).rd2r | exact hS.rd (RdIn.cutV (by assumption) (by omega) (by omega)) | exact (hS.bring (by repeat (first | exact t0 | apply tS))).getOwn.rd.cutV (by omega) (by omega))) ?_; go_frame)
    | (show wpList _ _ _ (⟨_, .indexAddr 33 _ _, _, _, _, _⟩ :: _) _ _; refine wpList_val rfl (op_indexAddr slTy33 rfl rfl (k := 0) rfl (by first | exact hS.rd (by assumption) | exact (hS.bring (by repeat (first | exact t0 | apply tS))).getOwn.rd | exact (hS.bring (by repeat (first | exact t0 | apply tS))).rd2l | exact (hS.bring (by repeat (first | exact t0 | apply tS))).rd2r | exact hS.rd (RdIn.cutV (by assumption) (by omega) (by omega)) | exact (hS.bring (by repeat (first | exact t0 | apply tS))).getOwn.rd.cutV (by omega) (by omega)) (by omega)) ?_; go_frame)
    | (show wpList _ _ _ (⟨_, .slice 33 _ none _ _, _, _, _, _⟩ :: _) _ _; refine wpList_val rfl (op_cut slTy33 rfl rfl (by first | exact hS.rd (by assumption) | exact (hS.bring (by repeat (first | exact t0 | apply tS))).getOwn.rd | exact (hS.bring (by repeat (first | exact t0 | apply tS))).rd2l | exact (hS.bring (by repeat (first | exact t0 | apply tS))).rd2r | exact hS.rd (RdIn.cutV (by assumption) (by omega) (by omega)) | exact (hS.bring (by repeat (first | exact t0 | apply tS))).getOwn.rd.cutV (by omega) (by omega)) (l := 0) (h := 1) (Or.inl ⟨rfl, rfl⟩) (Or.inr rfl) (by omega) (by omega)) ?_; go_frame)
    | (show wpList _ _ _ (⟨_, .slice 33 _ _ none _, _, _, _, _⟩ :: _) _ _; refine wpList_val rfl (op_cut slTy33 rfl rfl (by first | exact hS.rd (by assumption) | exact (hS.bring (by repeat (first | exact t0 | apply tS))).getOwn.rd | exact (hS.bring (by repeat (first | exact t0 | apply tS))).rd2l | exact (hS.bring (by repeat (first | exact t0 | apply tS))).rd2r | exact hS.rd (RdIn.cutV (by assumption) (by omega) (by omega)) | exact (hS.bring (by repeat (first | exact t0 | apply tS))).getOwn.rd.cutV (by omega) (by omega)) (l := 1) (h := _) (Or.inr rfl) (Or.inl ⟨rfl, rfl⟩) (by omega) (by omega)) ?_; go_frame)
    | (show wpList _ _ _ (⟨_, .call ⟨.builtin .append, _, _⟩, _, _, _, _⟩ :: _) _ _; (refine wpS_appendCut slTy33 (hS.bring (by repeat (first | exact t0 | apply tS))) rfl rfl rfl rfl (by first | exact hS.rd (by assumption) | exact (hS.bring (by repeat (first | exact t0 | apply tS))).getOwn.rd | exact (hS.bring (by repeat (first | exact t0 | apply tS))).rd2l | exact (hS.bring (by repeat (first | exact t0 | apply tS))).rd2r | exact hS.rd (RdIn.cutV (by assumption) (by omega) (by omega)) | exact (hS.bring (by repeat (first | exact t0 | apply tS))).getOwn.rd.cutV (by omega) (by omega)) (IsHs.flat (isHs1 (by assumption))) (by simp) (by omega) (by simp; omega) (by simp [maxLen]; omega) ?_); clear hS; intro v w hS; go_frame)
    | (show wpList _ _ _ (⟨_, .call ⟨.builtin .append, _, _⟩, _, _, _, _⟩ :: _) _ _; (refine wpS_append slTy33 (hS.bring (by repeat (first | exact t0 | apply tS))) rfl rfl rfl rfl (by first | exact hS.rd (by assumption) | exact (hS.bring (by repeat (first | exact t0 | apply tS))).getOwn.rd | exact (hS.bring (by repeat (first | exact t0 | apply tS))).rd2l | exact (hS.bring (by repeat (first | exact t0 | apply tS))).rd2r | exact hS.rd (RdIn.cutV (by assumption) (by omega) (by omega)) | exact (hS.bring (by repeat (first | exact t0 | apply tS))).getOwn.rd.cutV (by omega) (by omega)) (IsHs.flat (isHs1 (by assumption))) (by simp; omega) (by simp [maxLen]; omega) ?_); clear hS; intro v w hS; go_frame)
    | (go_at_call 9; refine Ret.calls (alive_s hS) ?_; clear hS; rintro r w ⟨rfl, hS⟩)
    | (go_at_call 20; refine Ret.calls (made_s hS _ (by omega) (by assumption) (by assumption) (by omega)) ?_; clear hS; rintro r w ⟨p, rfl, hS⟩)
    | (go_at_call 17; (refine Ret.calls (has_s (hS.bring (by repeat (first | exact t0 | apply tS))) _ (by assumption) (b := _) (by assumption)) ?_); clear hS; rintro r w ⟨rfl, hS⟩)
    | (go_at_call 16; (refine Ret.calls (len_s (hS.bring (by repeat (first | exact t0 | apply tS)))) ?_); clear hS; rintro r w ⟨rfl, hS⟩)
    | (go_at_call 15; (refine Ret.calls (all_s (hS.bring (by repeat (first | exact t0 | apply tS)))) ?_); clear hS; rintro r w hS)
    | (go_at_call 13; (refine Ret.calls (add_o (hS.bring (by repeat (first | exact t0 | apply tS))) (t := by repeat (first | exact t0 | apply tS)) (by assumption) (by simp)) ?_); clear hS; rintro r w hS)
    | (go_at_call 12; refine Ret.calls (same_s hS (by first | exact hS.rd (by assumption) | exact (hS.bring (by repeat (first | exact t0 | apply tS))).getOwn.rd | exact (hS.bring (by repeat (first | exact t0 | apply tS))).rd2l | exact (hS.bring (by repeat (first | exact t0 | apply tS))).rd2r | exact hS.rd (RdIn.cutV (by assumption) (by omega) (by omega)) | exact (hS.bring (by repeat (first | exact t0 | apply tS))).getOwn.rd.cutV (by omega) (by omega)) (by first | exact hS.rd (by assumption) | exact (hS.bring (by repeat (first | exact t0 | apply tS))).getOwn.rd | exact (hS.bring (by repeat (first | exact t0 | apply tS))).rd2l | exact (hS.bring (by repeat (first | exact t0 | apply tS))).rd2r | exact hS.rd (RdIn.cutV (by assumption) (by omega) (by omega)) | exact (hS.bring (by repeat (first | exact t0 | apply tS))).getOwn.rd.cutV (by omega) (by omega)) (by assumption) (by assumption) (b := _) (by assumption)) ?_; clear hS; rintro r w ⟨rfl, hS⟩)
    | (go_at_call 19; refine Ret.calls (has11_s hS (by first | exact hS.rd (by assumption) | exact (hS.bring (by repeat (first | exact t0 | apply tS))).getOwn.rd | exact (hS.bring (by repeat (first | exact t0 | apply tS))).rd2l | exact (hS.bring (by repeat (first | exact t0 | apply tS))).rd2r | exact hS.rd (RdIn.cutV (by assumption) (by omega) (by omega)) | exact (hS.bring (by repeat (first | exact t0 | apply tS))).getOwn.rd.cutV (by omega) (by omega)) (by assumption) (by assumption) (b := _) (by assumption)) ?_; clear hS; rintro r w ⟨rfl, hS⟩)
    )
  go_loopw [5, 10] (fun gv i wr => ∃ (k : Nat), i = .int .i64 k ∧ k ≤ l.length ∧ SepL R base wr (.own 24 32 gv (gones most L (l.take k)) :: hR p most (adds most L (l.take k)) :: F)) (fun _ i _ => l.length - (intOf i).toNat)
  case atStart => exact ⟨0, rfl, by omega, hS.nilOwn 24 32⟩
  case round =>
    clear hS
    obtain ⟨k, rfl, hk, hS⟩ := hrel
    have kM : IsHs (adds most L (l.take k)) := isHs_adds kL (kl.take k)
    have hgl : (gones most L (l.take k)).length ≤ 1000 := by
      have h1 := gones_len most (l.take k) L
      rw [List.length_take] at h1
      omega
    have hMl : (adds most L (l.take k)).length ≤ most := adds_le hm1 hle
    by_cases hlt : k < l.length
    · have kx : IsH l[k] := kl _ (List.getElem_mem hlt)
      have k1 := isHs1 kx
      have e0 : l.take (k + 1) = l.take k ++ [l[k]] := List.take_succ_eq_append_getElem hlt
      have e1 : Hid (adds most L (l.take (k + 1)) = add1 most (adds most L (l.take k)) l[k]) := by
        unfold Hid
        rw [e0, adds_append]
        rfl
      have e2 : Hid (gones most L (l.take (k + 1)) = gones most L (l.take k) ++ gone1 most (adds most L (l.take k)) l[k]) := by
        unfold Hid
        rw [e0, gones_append]
        simp [gones]
      clear e0
      generalize adds most L (l.take k) = M at *
      generalize gones most L (l.take k) = G at *
      rcases hm0 : mem l[k] M with _ | _
      · have hmm := hide hm0
        have e3 := hide (radd1 hm1 hm0)
        have e4 := hide (rgone1 hm1 hm0)
        clear hm0
        go_wp2_with (first
          | (show wpList _ _ _ (⟨_, .indexAddr 33 _ _, _, _, _, _⟩ :: _) _ _; refine wpList_val rfl (op_indexAddr slTy33 rfl rfl (k := k) rfl (by first | exact hS.rd (by assumption) | exact (hS.bring (by repeat (first | exact t0 | apply tS))).getOwn.rd | exact (hS.bring (by repeat (first | exact t0 | apply tS))).rd2l | exact (hS.bring (by repeat (first | exact t0 | apply tS))).rd2r | exact hS.rd (RdIn.cutV (by assumption) (by omega) (by omega)) | exact (hS.bring (by repeat (first | exact t0 | apply tS))).getOwn.rd.cutV (by omega) (by omega)) (by omega)) ?_; go_frame)
          | (go_at_call 18; (refine Ret.calls (rhas_s (hS.bring (by repeat (first | exact t0 | apply tS))) _ (by assumption) (by assumption) (b := _) (by assumption)) ?_); clear hS; rintro r w ⟨rfl, hS⟩)
          | (go_at_call 20; refine Ret.calls (made_t hS _ (by omega) (by assumption) (by assumption) (by omega) (by assumption)) ?_; clear hS; rintro r w ⟨p, rfl, hS⟩)
          | (show wpList _ _ _ (⟨_, .box _ _, _, _, _, _⟩ :: _) _ _; refine wpS_boxA hS rfl rfl rfl ?_; clear hS; intro nb w hS; go_frame)
          | (show wpList _ _ _ (⟨_, .load 24 _, _, _, _, _⟩ :: _) _ _; refine wpList_val rfl (op_load agg24 rfl rfl ((hS.bring (by repeat (first | exact t0 | apply tS))).getBlk.cells) (IsH.len (by assumption))) ?_; go_frame)
          | (show wpList _ _ _ (⟨_, .load 24 _, _, _, _, _⟩ :: _) _ _; refine wpList_val rfl (op_loadE agg24 rfl rfl (by first | exact hS.rd (by assumption) | exact (hS.bring (by repeat (first | exact t0 | apply tS))).getOwn.rd | exact (hS.bring (by repeat (first | exact t0 | apply tS))).rd2l | exact (hS.bring (by repeat (first | exact t0 | apply tS))).rd2r | exact hS.rd (RdIn.cutV (by assumption) (by omega) (by omega)) | exact (hS.bring (by repeat (first | exact t0 | apply tS))).getOwn.rd.cutV (by omega) (by omega)) (by omega)) ?_; go_frame)
          | (show wpList _ _ _ (⟨_, .alloc 24, _, _, _, _⟩ :: _) _ _; refine wpS_alloc hS rfl rfl zero24 rfl ?_; clear hS; intro nb w hS; go_frame)
          | (show wpList _ _ _ (⟨_, .store 24 _ _, _, _, _, _⟩ :: _) _ _; (refine wpS_storeAll agg24 (hS.bring (by repeat (first | exact t0 | apply tS))) rfl rfl rfl rfl (IsH.len (by assumption)) (IsH.flat (by assumption)) (by first | rfl | simp | exact IsH.len (by assumption)) ?_); clear hS; intro w hS; go_frame)
          | (show wpList _ _ _ (⟨_, .buildSlice 33 1 _, _, _, _, _⟩ :: _) _ _; refine wpS_build1A slTy33 (by omega) hS rfl rfl rfl (IsH.len (by assumption)) ?_; clear hS; intro v w hS; go_frame)
          | (show wpList _ _ _ (⟨_, .call ⟨.builtin .len, _, _⟩, _, _, _, _⟩ :: _) _ _; refine wpList_val rfl (op_len slTy33 rfl rfl rfl (by first | exact hS.rd (by assumption) | exact (hS.bring (by repeat (first | exact t0 | apply tS))).getOwn.rd | exact (hS.bring (by repeat (first | exact t0 | apply tS))).rd2l | exact (hS.bring (by repeat (first | exact t0 | apply tS))).rd2r | exact hS.rd (RdIn.cutV (by assumption) (by omega) (by omega)) | exact (hS.bring (by repeat (first | exact t0 | apply tS))).getOwn.rd.cutV (by omega) (by omega))) ?_; go_frame)
          | (show wpList _ _ _ (⟨_, .indexAddr 33 _ _, _, _, _, _⟩ :: _) _ _; refine wpList_val rfl (op_indexAddr slTy33 rfl rfl (k := 0) rfl (by first | exact hS.rd (by assumption) | exact (hS.bring (by repeat (first | exact t0 | apply tS))).getOwn.rd | exact (hS.bring (by repeat (first | exact t0 | apply tS))).rd2l | exact (hS.bring (by repeat (first | exact t0 | apply tS))).rd2r | exact hS.rd (RdIn.cutV (by assumption) (by omega) (by omega)) | exact (hS.bring (by repeat (first | exact t0 | apply tS))).getOwn.rd.cutV (by omega) (by omega)) (by omega)) ?_; go_frame)
          | (show wpList _ _ _ (⟨_, .slice 33 _ none _ _, _, _, _, _⟩ :: _) _ _; refine wpList_val rfl (op_cut slTy33 rfl rfl (by first | exact hS.rd (by assumption) | exact (hS.bring (by repeat (first | exact t0 | apply tS))).getOwn.rd | exact (hS.bring (by repeat (first | exact t0 | apply tS))).rd2l | exact (hS.bring (by repeat (first | exact t0 | apply tS))).rd2r | exact hS.rd (RdIn.cutV (by assumption) (by omega) (by omega)) | exact (hS.bring (by repeat (first | exact t0 | apply tS))).getOwn.rd.cutV (by omega) (by omega)) (l := 0) (h := 1) (Or.inl ⟨rfl, rfl⟩) (Or.inr rfl) (by omega) (by omega)) ?_; go_frame)
          | (show wpList _ _ _ (⟨_, .slice 33 _ _ none _, _, _, _, _⟩ :: _) _ _; refine wpList_val rfl (op_cut slTy33 rfl rfl (by first | exact hS.rd (by assumption) | exact (hS.bring (by repeat (first | exact t0 | apply tS))).getOwn.rd | exact (hS.bring (by repeat (first | exact t0 | apply tS))).rd2l | exact (hS.bring (by repeat (first | exact t0 | apply tS))).rd2r | exact hS.rd (RdIn.cutV (by assumption) (by omega) (by omega)) | exact (hS.bring (by repeat (first | exact t0 | apply tS))).getOwn.rd.cutV (by omega) (by omega)) (l := 1) (h := _) (Or.inr rfl) (Or.inl ⟨rfl, rfl⟩) (by omega) (by omega)) ?_; go_frame)
          | (show wpList _ _ _ (⟨_, .call ⟨.builtin .append, _, _⟩, _, _, _, _⟩ :: _) _ _; (refine wpS_appendCut slTy33 (hS.bring (by repeat (first | exact t0 | apply tS))) rfl rfl rfl rfl (by first | exact hS.rd (by assumption) | exact (hS.bring (by repeat (first | exact t0 | apply tS))).getOwn.rd | exact (hS.bring (by repeat (first | exact t0 | apply tS))).rd2l | exact (hS.bring (by repeat (first | exact t0 | apply tS))).rd2r | exact hS.rd (RdIn.cutV (by assumption) (by omega) (by omega)) | exact (hS.bring (by repeat (first | exact t0 | apply tS))).getOwn.rd.cutV (by omega) (by omega)) (IsHs.flat (isHs1 (by assumption))) (by simp) (by omega) (by simp; omega) (by simp [maxLen]; omega) ?_); clear hS; intro v w hS; go_frame)
          | (show wpList _ _ _ (⟨_, .call ⟨.builtin .append, _, _⟩, _, _, _, _⟩ :: _) _ _; (refine wpS_append slTy33 (hS.bring (by repeat (first | exact t0 | apply tS))) rfl rfl rfl rfl (by first | exact hS.rd (by assumption) | exact (hS.bring (by repeat (first | exact t0 | apply tS))).getOwn.rd | exact (hS.bring (by repeat (first | exact t0 | apply tS))).rd2l | exact (hS.bring (by repeat (first | exact t0 | apply tS))).rd2r | exact hS.rd (RdIn.cutV (by assumption) (by omega) (by omega)) | exact (hS.bring (by repeat (first | exact t0 | apply tS))).getOwn.rd.cutV (by omega) (by omega)) (IsHs.flat (isHs1 (by assumption))) (by simp; omega) (by simp [maxLen]; omega) ?_); clear hS; intro v w hS; go_frame)
          | (go_at_call 9; refine Ret.calls (alive_s hS) ?_; clear hS; rintro r w ⟨rfl, hS⟩)
          | (go_at_call 20; refine Ret.calls (made_s hS _ (by omega) (by assumption) (by assumption) (by omega)) ?_; clear hS; rintro r w ⟨p, rfl, hS⟩)
          | (go_at_call 17; (refine Ret.calls (has_s (hS.bring (by repeat (first | exact t0 | apply tS))) _ (by assumption) (b := _) (by assumption)) ?_); clear hS; rintro r w ⟨rfl, hS⟩)
          | (go_at_call 16; (refine Ret.calls (len_s (hS.bring (by repeat (first | exact t0 | apply tS)))) ?_); clear hS; rintro r w ⟨rfl, hS⟩)
          | (go_at_call 15; (refine Ret.calls (all_s (hS.bring (by repeat (first | exact t0 | apply tS)))) ?_); clear hS; rintro r w hS)
          | (go_at_call 13; (refine Ret.calls (add_o (hS.bring (by repeat (first | exact t0 | apply tS))) (t := by repeat (first | exact t0 | apply tS)) (by assumption) (by simp)) ?_); clear hS; rintro r w hS)
          | (go_at_call 12; refine Ret.calls (same_s hS (by first | exact hS.rd (by assumption) | exact (hS.bring (by repeat (first | exact t0 | apply tS))).getOwn.rd | exact (hS.bring (by repeat (first | exact t0 | apply tS))).rd2l | exact (hS.bring (by repeat (first | exact t0 | apply tS))).rd2r | exact hS.rd (RdIn.cutV (by assumption) (by omega) (by omega)) | exact (hS.bring (by repeat (first | exact t0 | apply tS))).getOwn.rd.cutV (by omega) (by omega)) (by first | exact hS.rd (by assumption) | exact (hS.bring (by repeat (first | exact t0 | apply tS))).getOwn.rd | exact (hS.bring (by repeat (first | exact t0 | apply tS))).rd2l | exact (hS.bring (by repeat (first | exact t0 | apply tS))).rd2r | exact hS.rd (RdIn.cutV (by assumption) (by omega) (by omega)) | exact (hS.bring (by repeat (first | exact t0 | apply tS))).getOwn.rd.cutV (by omega) (by omega)) (by assumption) (by assumption) (b := _) (by assumption)) ?_; clear hS; rintro r w ⟨rfl, hS⟩)
          | (go_at_call 19; refine Ret.calls (has11_s hS (by first | exact hS.rd (by assumption) | exact (hS.bring (by repeat (first | exact t0 | apply tS))).getOwn.rd | exact (hS.bring (by repeat (first | exact t0 | apply tS))).rd2l | exact (hS.bring (by repeat (first | exact t0 | apply tS))).rd2r | exact hS.rd (RdIn.cutV (by assumption) (by omega) (by omega)) | exact (hS.bring (by repeat (first | exact t0 | apply tS))).getOwn.rd.cutV (by omega) (by omega)) (by assumption) (by assumption) (b := _) (by assumption)) ?_; clear hS; rintro r w ⟨rfl, hS⟩)
          )
        obtain ⟨lv, hS⟩ := hR_open hS
        have he3 := e3.out
        have he4 := e4.out
        clear e3 e4
        refine wp_region_ord (by kernel_rfl) [7] [[0, 2, 3, 4, 5, 7, 1, 6, 8, 9, 10, 11, 12], [0, 2, 3, 4, 5, 7, 1, 8, 6, 9, 10, 11, 12], [0, 2, 3, 4, 5, 7, 8, 1, 6, 9, 10, 11, 12]] (by kernel_rfl) (by kernel_rfl) (fun w' => Blk w' nb 24 l[k]) Up.blk ((hS.bring (by repeat (first | exact t0 | apply tS))).getBlk) (by repeat (first | exact Clean.body | refine Clean.then ?_ | refine Clean.inBlock ?_ | refine SegQ.clean ?_ | refine FinC.clean ?_)) ?_
        replace hS := hS.drew
        refine ord_seg (by repeat (first | exact Clean.body | refine Clean.then ?_ | refine Clean.inBlock ?_ | refine SegQ.clean ?_ | refine FinC.clean ?_)) (n := 7) (rest := [[1, 6, 8, 9, 10, 11, 12], [1, 8, 6, 9, 10, 11, 12], [8, 1, 6, 9, 10, 11, 12]]) [0, 2, 3, 4, 5, 7] [⟨_, _, _, _, _, _⟩, ⟨_, _, _, _, _, _⟩, ⟨_, _, _, _, _, _⟩, ⟨_, _, _, _, _, _⟩, ⟨_, _, _, _, _, _⟩, ⟨_, _, _, _, _, _⟩] rfl (by kernel_rfl) (by simp) _ _ ?_
        go_wp2_with (first
          | (show wpList _ _ _ (⟨_, .load 33 _, _, _, _, _⟩ :: _) _ _; refine wpList_val rfl (op_load1S one33 ((hS.bring (by repeat (first | exact t0 | apply tS)))) rfl rfl rfl) ?_; go_frame)
          | (show wpList _ _ _ (⟨_, .load 24 _, _, _, _, _⟩ :: _) _ _; refine wpList_val rfl (op_load agg24 rfl rfl ((hS.bring (by repeat (first | exact t0 | apply tS))).getBlk.cells) (IsH.len (by assumption))) ?_; go_frame)
          | (show wpList _ _ _ (⟨_, .buildSlice 33 0 _, _, _, _, _⟩ :: _) _ _; refine wpS_build0 slTy33 hS rfl rfl ?_; clear hS; intro v w hS; go_frame)
          | (show wpList _ _ _ (⟨_, .buildSlice 33 1 _, _, _, _, _⟩ :: _) _ _; refine wpS_build1A slTy33 (by omega) hS rfl rfl rfl (IsH.len (by assumption)) ?_; clear hS; intro v w hS; go_frame)
          | (show wpList _ _ _ (⟨_, .store 33 _ _, _, _, _, _⟩ :: _) _ _; (refine wpS_store1 size33 (hS.bring (by repeat (first | exact t0 | apply tS))) rfl rfl rfl rfl (own_cells ((hS.bring (by repeat (first | exact t0 | apply tS))).getOwn)).1 (own_cells ((hS.bring (by repeat (first | exact t0 | apply tS))).getOwn)).2 (by simp) ?_); clear hS; intro w hS; go_frame)
          | (show wpList _ _ _ (⟨_, .call ⟨.builtin .append, _, _⟩, _, _, _, _⟩ :: _) _ _; (refine wpS_append slTy33 (hS.bring (by repeat (first | exact t0 | apply tS))) rfl rfl rfl rfl (by first | exact hS.rd (by assumption) | exact (hS.bring (by repeat (first | exact t0 | apply tS))).getOwn.rd | exact (hS.bring (by repeat (first | exact t0 | apply tS))).rd2l | exact (hS.bring (by repeat (first | exact t0 | apply tS))).rd2r | exact hS.rd (RdIn.cutV (by assumption) (by omega) (by omega)) | exact (hS.bring (by repeat (first | exact t0 | apply tS))).getOwn.rd.cutV (by omega) (by omega)) (IsHs.flat (by assumption)) (by simp; omega) (by simp [maxLen]; omega) ?_); clear hS; intro v w hS; go_frame)
          )
        refine segQ_mk ((hS.bring (by repeat (first | exact t0 | apply tS))).getBlk) ?_
        refine ord_fork (n := 6) (os1 := [[1, 6, 8, 9, 10, 11, 12], [1, 8, 6, 9, 10, 11, 12]]) (os2 := [[8, 1, 6, 9, 10, 11, 12]]) (by decide) ?_ ?_
        ·
          refine ord_seg (by repeat (first | exact Clean.body | refine Clean.then ?_ | refine Clean.inBlock ?_ | refine SegQ.clean ?_ | refine FinC.clean ?_)) (n := 6) (rest := [[6, 8, 9, 10, 11, 12], [8, 6, 9, 10, 11, 12]]) [1] [⟨_, _, _, _, _, _⟩] rfl (by kernel_rfl) (by simp) _ _ ?_
          go_wp2_with (first
            | (show wpList _ _ _ (⟨_, .load 33 _, _, _, _, _⟩ :: _) _ _; refine wpList_val rfl (op_load1S one33 ((hS.bring (by repeat (first | exact t0 | apply tS)))) rfl rfl rfl) ?_; go_frame)
            | (show wpList _ _ _ (⟨_, .load 24 _, _, _, _, _⟩ :: _) _ _; refine wpList_val rfl (op_load agg24 rfl rfl ((hS.bring (by repeat (first | exact t0 | apply tS))).getBlk.cells) (IsH.len (by assumption))) ?_; go_frame)
            | (show wpList _ _ _ (⟨_, .buildSlice 33 0 _, _, _, _, _⟩ :: _) _ _; refine wpS_build0 slTy33 hS rfl rfl ?_; clear hS; intro v w hS; go_frame)
            | (show wpList _ _ _ (⟨_, .buildSlice 33 1 _, _, _, _, _⟩ :: _) _ _; refine wpS_build1A slTy33 (by omega) hS rfl rfl rfl (IsH.len (by assumption)) ?_; clear hS; intro v w hS; go_frame)
            | (show wpList _ _ _ (⟨_, .store 33 _ _, _, _, _, _⟩ :: _) _ _; (refine wpS_store1 size33 (hS.bring (by repeat (first | exact t0 | apply tS))) rfl rfl rfl rfl (own_cells ((hS.bring (by repeat (first | exact t0 | apply tS))).getOwn)).1 (own_cells ((hS.bring (by repeat (first | exact t0 | apply tS))).getOwn)).2 (by simp) ?_); clear hS; intro w hS; go_frame)
            | (show wpList _ _ _ (⟨_, .call ⟨.builtin .append, _, _⟩, _, _, _, _⟩ :: _) _ _; (refine wpS_append slTy33 (hS.bring (by repeat (first | exact t0 | apply tS))) rfl rfl rfl rfl (by first | exact hS.rd (by assumption) | exact (hS.bring (by repeat (first | exact t0 | apply tS))).getOwn.rd | exact (hS.bring (by repeat (first | exact t0 | apply tS))).rd2l | exact (hS.bring (by repeat (first | exact t0 | apply tS))).rd2r | exact hS.rd (RdIn.cutV (by assumption) (by omega) (by omega)) | exact (hS.bring (by repeat (first | exact t0 | apply tS))).getOwn.rd.cutV (by omega) (by omega)) (IsHs.flat (by assumption)) (by simp; omega) (by simp [maxLen]; omega) ?_); clear hS; intro v w hS; go_frame)
            )
          refine segQ_mk ((hS.bring (by repeat (first | exact t0 | apply tS))).getBlk) ?_
          refine ord_fork (n := 5) (os1 := [[6, 8, 9, 10, 11, 12]]) (os2 := [[8, 6, 9, 10, 11, 12]]) (by decide) ?_ ?_
          ·
            refine ord_seg (by repeat (first | exact Clean.body | refine Clean.then ?_ | refine Clean.inBlock ?_ | refine SegQ.clean ?_ | refine FinC.clean ?_)) (n := 5) (rest := [[8, 9, 10, 11, 12]]) [6] [⟨_, _, _, _, _, _⟩] rfl (by kernel_rfl) (by simp) _ _ ?_
            go_wp2_with (first
              | (show wpList _ _ _ (⟨_, .load 33 _, _, _, _, _⟩ :: _) _ _; refine wpList_val rfl (op_load1S one33 ((hS.bring (by repeat (first | exact t0 | apply tS)))) rfl rfl rfl) ?_; go_frame)
              | (show wpList _ _ _ (⟨_, .load 24 _, _, _, _, _⟩ :: _) _ _; refine wpList_val rfl (op_load agg24 rfl rfl ((hS.bring (by repeat (first | exact t0 | apply tS))).getBlk.cells) (IsH.len (by assumption))) ?_; go_frame)
              | (show wpList _ _ _ (⟨_, .buildSlice 33 0 _, _, _, _, _⟩ :: _) _ _; refine wpS_build0 slTy33 hS rfl rfl ?_; clear hS; intro v w hS; go_frame)
              | (show wpList _ _ _ (⟨_, .buildSlice 33 1 _, _, _, _, _⟩ :: _) _ _; refine wpS_build1A slTy33 (by omega) hS rfl rfl rfl (IsH.len (by assumption)) ?_; clear hS; intro v w hS; go_frame)
              | (show wpList _ _ _ (⟨_, .store 33 _ _, _, _, _, _⟩ :: _) _ _; (refine wpS_store1 size33 (hS.bring (by repeat (first | exact t0 | apply tS))) rfl rfl rfl rfl (own_cells ((hS.bring (by repeat (first | exact t0 | apply tS))).getOwn)).1 (own_cells ((hS.bring (by repeat (first | exact t0 | apply tS))).getOwn)).2 (by simp) ?_); clear hS; intro w hS; go_frame)
              | (show wpList _ _ _ (⟨_, .call ⟨.builtin .append, _, _⟩, _, _, _, _⟩ :: _) _ _; (refine wpS_append slTy33 (hS.bring (by repeat (first | exact t0 | apply tS))) rfl rfl rfl rfl (by first | exact hS.rd (by assumption) | exact (hS.bring (by repeat (first | exact t0 | apply tS))).getOwn.rd | exact (hS.bring (by repeat (first | exact t0 | apply tS))).rd2l | exact (hS.bring (by repeat (first | exact t0 | apply tS))).rd2r | exact hS.rd (RdIn.cutV (by assumption) (by omega) (by omega)) | exact (hS.bring (by repeat (first | exact t0 | apply tS))).getOwn.rd.cutV (by omega) (by omega)) (IsHs.flat (by assumption)) (by simp; omega) (by simp [maxLen]; omega) ?_); clear hS; intro v w hS; go_frame)
              )
            refine segQ_mk ((hS.bring (by repeat (first | exact t0 | apply tS))).getBlk) ?_
            refine ord_seg (by repeat (first | exact Clean.body | refine Clean.then ?_ | refine Clean.inBlock ?_ | refine SegQ.clean ?_ | refine FinC.clean ?_)) (n := 3) (rest := [[10, 11, 12]]) [8, 9] [⟨_, _, _, _, _, _⟩, ⟨_, _, _, _, _, _⟩] rfl (by kernel_rfl) (by simp) _ _ ?_
            go_wp2_with (first
              | (show wpList _ _ _ (⟨_, .load 33 _, _, _, _, _⟩ :: _) _ _; refine wpList_val rfl (op_load1S one33 ((hS.bring (by repeat (first | exact t0 | apply tS)))) rfl rfl rfl) ?_; go_frame)
              | (show wpList _ _ _ (⟨_, .load 24 _, _, _, _, _⟩ :: _) _ _; refine wpList_val rfl (op_load agg24 rfl rfl ((hS.bring (by repeat (first | exact t0 | apply tS))).getBlk.cells) (IsH.len (by assumption))) ?_; go_frame)
              | (show wpList _ _ _ (⟨_, .buildSlice 33 0 _, _, _, _, _⟩ :: _) _ _; refine wpS_build0 slTy33 hS rfl rfl ?_; clear hS; intro v w hS; go_frame)
              | (show wpList _ _ _ (⟨_, .buildSlice 33 1 _, _, _, _, _⟩ :: _) _ _; refine wpS_build1A slTy33 (by omega) hS rfl rfl rfl (IsH.len (by assumption)) ?_; clear hS; intro v w hS; go_frame)
              | (show wpList _ _ _ (⟨_, .store 33 _ _, _, _, _, _⟩ :: _) _ _; (refine wpS_store1 size33 (hS.bring (by repeat (first | exact t0 | apply tS))) rfl rfl rfl rfl (own_cells ((hS.bring (by repeat (first | exact t0 | apply tS))).getOwn)).1 (own_cells ((hS.bring (by repeat (first | exact t0 | apply tS))).getOwn)).2 (by simp) ?_); clear hS; intro w hS; go_frame)
              | (show wpList _ _ _ (⟨_, .call ⟨.builtin .append, _, _⟩, _, _, _, _⟩ :: _) _ _; (refine wpS_append slTy33 (hS.bring (by repeat (first | exact t0 | apply tS))) rfl rfl rfl rfl (by first | exact hS.rd (by assumption) | exact (hS.bring (by repeat (first | exact t0 | apply tS))).getOwn.rd | exact (hS.bring (by repeat (first | exact t0 | apply tS))).rd2l | exact (hS.bring (by repeat (first | exact t0 | apply tS))).rd2r | exact hS.rd (RdIn.cutV (by assumption) (by omega) (by omega)) | exact (hS.bring (by repeat (first | exact t0 | apply tS))).getOwn.rd.cutV (by omega) (by omega)) (IsHs.flat (by assumption)) (by simp; omega) (by simp [maxLen]; omega) ?_); clear hS; intro v w hS; go_frame)
              )
            refine segQ_mk ((hS.bring (by repeat (first | exact t0 | apply tS))).getBlk) ?_
            refine ord_seg (by repeat (first | exact Clean.body | refine Clean.then ?_ | refine Clean.inBlock ?_ | refine SegQ.clean ?_ | refine FinC.clean ?_)) (n := 0) (rest := [[]]) [10, 11, 12] [⟨_, _, _, _, _, _⟩, ⟨_, _, _, _, _, _⟩, ⟨_, _, _, _, _, _⟩] rfl (by kernel_rfl) (by simp) _ _ ?_
            go_wp2_with (first
              | (show wpList _ _ _ (⟨_, .load 33 _, _, _, _, _⟩ :: _) _ _; refine wpList_val rfl (op_load1S one33 ((hS.bring (by repeat (first | exact t0 | apply tS)))) rfl rfl rfl) ?_; go_frame)
              | (show wpList _ _ _ (⟨_, .load 24 _, _, _, _, _⟩ :: _) _ _; refine wpList_val rfl (op_load agg24 rfl rfl ((hS.bring (by repeat (first | exact t0 | apply tS))).getBlk.cells) (IsH.len (by assumption))) ?_; go_frame)
              | (show wpList _ _ _ (⟨_, .buildSlice 33 0 _, _, _, _, _⟩ :: _) _ _; refine wpS_build0 slTy33 hS rfl rfl ?_; clear hS; intro v w hS; go_frame)
              | (show wpList _ _ _ (⟨_, .buildSlice 33 1 _, _, _, _, _⟩ :: _) _ _; refine wpS_build1A slTy33 (by omega) hS rfl rfl rfl (IsH.len (by assumption)) ?_; clear hS; intro v w hS; go_frame)
              | (show wpList _ _ _ (⟨_, .store 33 _ _, _, _, _, _⟩ :: _) _ _; (refine wpS_store1 size33 (hS.bring (by repeat (first | exact t0 | apply tS))) rfl rfl rfl rfl (own_cells ((hS.bring (by repeat (first | exact t0 | apply tS))).getOwn)).1 (own_cells ((hS.bring (by repeat (first | exact t0 | apply tS))).getOwn)).2 (by simp) ?_); clear hS; intro w hS; go_frame)
              | (show wpList _ _ _ (⟨_, .call ⟨.builtin .append, _, _⟩, _, _, _, _⟩ :: _) _ _; (refine wpS_append slTy33 (hS.bring (by repeat (first | exact t0 | apply tS))) rfl rfl rfl rfl (by first | exact hS.rd (by assumption) | exact (hS.bring (by repeat (first | exact t0 | apply tS))).getOwn.rd | exact (hS.bring (by repeat (first | exact t0 | apply tS))).rd2l | exact (hS.bring (by repeat (first | exact t0 | apply tS))).rd2r | exact hS.rd (RdIn.cutV (by assumption) (by omega) (by omega)) | exact (hS.bring (by repeat (first | exact t0 | apply tS))).getOwn.rd.cutV (by omega) (by omega)) (IsHs.flat (by assumption)) (by simp; omega) (by simp [maxLen]; omega) ?_); clear hS; intro v w hS; go_frame)
              )
            refine segQ_mk ((hS.bring (by repeat (first | exact t0 | apply tS))).getBlk) ?_
            refine finC_mk (by kernel_rfl) (by
              intro t ht
              simp only [List.mem_cons, List.not_mem_nil, or_false] at ht
              subst ht
              exact stab_blk (b := nb) (fun w h => h) 0 none) ?_
            rw [List.nil_append] at hS
            have hlx : 0 < (M ++ [l[k]]).length := by simp
            have kN : IsHs (M ++ [l[k]]) := isHs_append kM k1
            have hNl : (M ++ [l[k]]).length ≤ most + 1 := by simp; omega
            generalize M ++ [l[k]] = N at *
            have k6 : IsH N[0] := kN _ (List.getElem_mem hlx)
            have he5 : Hid ([N[0]] = N.take 1) := by
              unfold Hid
              cases N with
              | nil => simp at hlx
              | cons a t => simp
            by_cases hc : most < N.length
            · rw [if_pos hc] at he3 he4
              have hE3 := hide he3
              have hE4 := hide he4
              clear he3 he4
              go_wp2_with (first
                | (show wpList _ _ _ (⟨_, .load 33 _, _, _, _, _⟩ :: _) _ _; refine wpList_val rfl (op_load1S one33 ((hS.bring (by repeat (first | exact t0 | apply tS)))) rfl rfl rfl) ?_; go_frame)
                | (show wpList _ _ _ (⟨_, .load 3 _, _, _, _, _⟩ :: _) _ _; refine wpList_val rfl (op_load1S one3 ((hS.bring (by repeat (first | exact t0 | apply tS)))) rfl rfl rfl) ?_; go_frame)
                | (refine wp_region_text (by kernel_rfl) (by kernel_rfl) (by repeat (first | exact Clean.body | refine Clean.then ?_ | refine Clean.inBlock ?_)) ?_; replace hS := hS.drew)
                | (refine fin_mk (by kernel_rfl) ?_)
                | (show wpList _ _ _ (⟨_, .call ⟨.builtin .len, _, _⟩, _, _, _, _⟩ :: _) _ _; refine wpList_val rfl (op_len slTy33 rfl rfl rfl (by first | exact hS.rd (by assumption) | exact (hS.bring (by repeat (first | exact t0 | apply tS))).getOwn.rd | exact (hS.bring (by repeat (first | exact t0 | apply tS))).rd2l | exact (hS.bring (by repeat (first | exact t0 | apply tS))).rd2r | exact hS.rd (RdIn.cutV (by assumption) (by omega) (by omega)) | exact (hS.bring (by repeat (first | exact t0 | apply tS))).getOwn.rd.cutV (by omega) (by omega))) ?_; go_frame)
                | (show wpList _ _ _ (⟨_, .indexAddr 33 _ _, _, _, _, _⟩ :: _) _ _; refine wpList_val rfl (op_indexAddr slTy33 rfl rfl (k := 0) rfl (by first | exact hS.rd (by assumption) | exact (hS.bring (by repeat (first | exact t0 | apply tS))).getOwn.rd | exact (hS.bring (by repeat (first | exact t0 | apply tS))).rd2l | exact (hS.bring (by repeat (first | exact t0 | apply tS))).rd2r | exact hS.rd (RdIn.cutV (by assumption) (by omega) (by omega)) | exact (hS.bring (by repeat (first | exact t0 | apply tS))).getOwn.rd.cutV (by omega) (by omega)) (by omega)) ?_; go_frame)
                | (show wpList _ _ _ (⟨_, .load 24 _, _, _, _, _⟩ :: _) _ _; refine wpList_val rfl (op_loadE agg24 rfl rfl (by first | exact hS.rd (by assumption) | exact (hS.bring (by repeat (first | exact t0 | apply tS))).getOwn.rd | exact (hS.bring (by repeat (first | exact t0 | apply tS))).rd2l | exact (hS.bring (by repeat (first | exact t0 | apply tS))).rd2r | exact hS.rd (RdIn.cutV (by assumption) (by omega) (by omega)) | exact (hS.bring (by repeat (first | exact t0 | apply tS))).getOwn.rd.cutV (by omega) (by omega)) (by omega)) ?_; go_frame)
                | (show wpList _ _ _ (⟨_, .buildSlice 33 1 _, _, _, _, _⟩ :: _) _ _; refine wpS_build1A slTy33 (by omega) hS rfl rfl rfl (IsH.len (by assumption)) ?_; clear hS; intro v w hS; go_frame)
                | (show wpList _ _ _ (⟨_, .call ⟨.builtin .append, _, _⟩, _, _, _, _⟩ :: _) _ _; (refine wpS_append slTy33 (hS.bring (by repeat (first | exact t0 | apply tS))) rfl rfl rfl rfl (by first | exact hS.rd (by assumption) | exact (hS.bring (by repeat (first | exact t0 | apply tS))).getOwn.rd | exact (hS.bring (by repeat (first | exact t0 | apply tS))).rd2l | exact (hS.bring (by repeat (first | exact t0 | apply tS))).rd2r | exact hS.rd (RdIn.cutV (by assumption) (by omega) (by omega)) | exact (hS.bring (by repeat (first | exact t0 | apply tS))).getOwn.rd.cutV (by omega) (by omega)) (IsHs.flat (isHs1 (by assumption))) (by simp; omega) (by simp [maxLen]; omega) ?_); clear hS; intro v w hS; go_frame)
                | (show wpList _ _ _ (⟨_, .slice 33 _ _ none _, _, _, _, _⟩ :: _) _ _; refine wpList_val rfl (op_cut slTy33 rfl rfl (by first | exact hS.rd (by assumption) | exact (hS.bring (by repeat (first | exact t0 | apply tS))).getOwn.rd | exact (hS.bring (by repeat (first | exact t0 | apply tS))).rd2l | exact (hS.bring (by repeat (first | exact t0 | apply tS))).rd2r | exact hS.rd (RdIn.cutV (by assumption) (by omega) (by omega)) | exact (hS.bring (by repeat (first | exact t0 | apply tS))).getOwn.rd.cutV (by omega) (by omega)) (l := 1) (h := _) (Or.inr rfl) (Or.inl ⟨rfl, rfl⟩) (by omega) (by omega)) ?_; go_frame)
                | (show wpList _ _ _ (⟨_, .store 33 _ _, _, _, _, _⟩ :: _) _ _; (refine wpS_store1 size33 (hS.bring (by repeat (first | exact t0 | apply tS))) rfl rfl rfl rfl (own_cells (((hS.bring (by repeat (first | exact t0 | apply tS))).getOwn).cutV (l := 1) (by omega) (Nat.le_refl _))).1 (own_cells (((hS.bring (by repeat (first | exact t0 | apply tS))).getOwn).cutV (l := 1) (by omega) (Nat.le_refl _))).2 (by simp) ?_); clear hS; intro w hS; go_frame)
                )
              go_roundw
              case rel =>
                refine ⟨k + 1, by go_num, by omega, ?_⟩
                rw [e1.out, e2.out, hE3.out, hE4.out, ← he5.out]
                exact SepL.perm (L := hR p most _ :: .own 24 32 _ _ :: F) (hR_close (((((hS.bring (by repeat (first | exact t0 | apply tS)))) : SepL _ _ _ (Hp.own 24 32 _ N :: _)).ownCut (l := 1) (by omega)).sel (by repeat (first | exact Sel.refl | refine Sel.take (by repeat (first | exact t0 | apply tS)) ?_ | apply Sel.drop)))) (.swap _ _ _)
              case measure => simp [intOf]; omega
            · rw [if_neg hc] at he3 he4
              go_wp2_with (first
                | (show wpList _ _ _ (⟨_, .load 33 _, _, _, _, _⟩ :: _) _ _; refine wpList_val rfl (op_load1S one33 ((hS.bring (by repeat (first | exact t0 | apply tS)))) rfl rfl rfl) ?_; go_frame)
                | (show wpList _ _ _ (⟨_, .load 3 _, _, _, _, _⟩ :: _) _ _; refine wpList_val rfl (op_load1S one3 ((hS.bring (by repeat (first | exact t0 | apply tS)))) rfl rfl rfl) ?_; go_frame)
                | (refine wp_region_text (by kernel_rfl) (by kernel_rfl) (by repeat (first | exact Clean.body | refine Clean.then ?_ | refine Clean.inBlock ?_)) ?_; replace hS := hS.drew)
                | (refine fin_mk (by kernel_rfl) ?_)
                | (show wpList _ _ _ (⟨_, .call ⟨.builtin .len, _, _⟩, _, _, _, _⟩ :: _) _ _; refine wpList_val rfl (op_len slTy33 rfl rfl rfl (by first | exact hS.rd (by assumption) | exact (hS.bring (by repeat (first | exact t0 | apply tS))).getOwn.rd | exact (hS.bring (by repeat (first | exact t0 | apply tS))).rd2l | exact (hS.bring (by repeat (first | exact t0 | apply tS))).rd2r | exact hS.rd (RdIn.cutV (by assumption) (by omega) (by omega)) | exact (hS.bring (by repeat (first | exact t0 | apply tS))).getOwn.rd.cutV (by omega) (by omega))) ?_; go_frame)
                )
              go_roundw
              case rel =>
                refine ⟨k + 1, by go_num, by omega, ?_⟩
                rw [e1.out, e2.out, he3, he4, List.append_nil]
                exact SepL.perm (L := hR p most _ :: .own 24 32 _ _ :: F) (hR_close (hS.sel (by repeat (first | exact Sel.refl | refine Sel.take (by repeat (first | exact t0 | apply tS)) ?_ | apply Sel.drop)))) (.swap _ _ _)
              case measure => simp [intOf]; omega
          ·
            refine ord_seg (by repeat (first | exact Clean.body | refine Clean.then ?_ | refine Clean.inBlock ?_ | refine SegQ.clean ?_ | refine FinC.clean ?_)) (n := 4) (rest := [[9, 10, 11, 12]]) [8, 6] [⟨_, _, _, _, _, _⟩, ⟨_, _, _, _, _, _⟩] rfl (by kernel_rfl) (by simp) _ _ ?_
            go_wp2_with (first
              | (show wpList _ _ _ (⟨_, .load 33 _, _, _, _, _⟩ :: _) _ _; refine wpList_val rfl (op_load1S one33 ((hS.bring (by repeat (first | exact t0 | apply tS)))) rfl rfl rfl) ?_; go_frame)
              | (show wpList _ _ _ (⟨_, .load 24 _, _, _, _, _⟩ :: _) _ _; refine wpList_val rfl (op_load agg24 rfl rfl ((hS.bring (by repeat (first | exact t0 | apply tS))).getBlk.cells) (IsH.len (by assumption))) ?_; go_frame)
              | (show wpList _ _ _ (⟨_, .buildSlice 33 0 _, _, _, _, _⟩ :: _) _ _; refine wpS_build0 slTy33 hS rfl rfl ?_; clear hS; intro v w hS; go_frame)
              | (show wpList _ _ _ (⟨_, .buildSlice 33 1 _, _, _, _, _⟩ :: _) _ _; refine wpS_build1A slTy33 (by omega) hS rfl rfl rfl (IsH.len (by assumption)) ?_; clear hS; intro v w hS; go_frame)
              | (show wpList _ _ _ (⟨_, .store 33 _ _, _, _, _, _⟩ :: _) _ _; (refine wpS_store1 size33 (hS.bring (by repeat (first | exact t0 | apply tS))) rfl rfl rfl rfl (own_cells ((hS.bring (by repeat (first | exact t0 | apply tS))).getOwn)).1 (own_cells ((hS.bring (by repeat (first | exact t0 | apply tS))).getOwn)).2 (by simp) ?_); clear hS; intro w hS; go_frame)
              | (show wpList _ _ _ (⟨_, .call ⟨.builtin .append, _, _⟩, _, _, _, _⟩ :: _) _ _; (refine wpS_append slTy33 (hS.bring (by repeat (first | exact t0 | apply tS))) rfl rfl rfl rfl (by first | exact hS.rd (by assumption) | exact (hS.bring (by repeat (first | exact t0 | apply tS))).getOwn.rd | exact (hS.bring (by repeat (first | exact t0 | apply tS))).rd2l | exact (hS.bring (by repeat (first | exact t0 | apply tS))).rd2r | exact hS.rd (RdIn.cutV (by assumption) (by omega) (by omega)) | exact (hS.bring (by repeat (first | exact t0 | apply tS))).getOwn.rd.cutV (by omega) (by omega)) (IsHs.flat (by assumption)) (by simp; omega) (by simp [maxLen]; omega) ?_); clear hS; intro v w hS; go_frame)
              )
            refine segQ_mk ((hS.bring (by repeat (first | exact t0 | apply tS))).getBlk) ?_
            refine ord_seg (by repeat (first | exact Clean.body | refine Clean.then ?_ | refine Clean.inBlock ?_ | refine SegQ.clean ?_ | refine FinC.clean ?_)) (n := 3) (rest := [[10, 11, 12]]) [9] [⟨_, _, _, _, _, _⟩] rfl (by kernel_rfl) (by simp) _ _ ?_
            go_wp2_with (first
              | (show wpList _ _ _ (⟨_, .load 33 _, _, _, _, _⟩ :: _) _ _; refine wpList_val rfl (op_load1S one33 ((hS.bring (by repeat (first | exact t0 | apply tS)))) rfl rfl rfl) ?_; go_frame)
              | (show wpList _ _ _ (⟨_, .load 24 _, _, _, _, _⟩ :: _) _ _; refine wpList_val rfl (op_load agg24 rfl rfl ((hS.bring (by repeat (first | exact t0 | apply tS))).getBlk.cells) (IsH.len (by assumption))) ?_; go_frame)
              | (show wpList _ _ _ (⟨_, .buildSlice 33 0 _, _, _, _, _⟩ :: _) _ _; refine wpS_build0 slTy33 hS rfl rfl ?_; clear hS; intro v w hS; go_frame)
              | (show wpList _ _ _ (⟨_, .buildSlice 33 1 _, _, _, _, _⟩ :: _) _ _; refine wpS_build1A slTy33 (by omega) hS rfl rfl rfl (IsH.len (by assumption)) ?_; clear hS; intro v w hS; go_frame)
              | (show wpList _ _ _ (⟨_, .store 33 _ _, _, _, _, _⟩ :: _) _ _; (refine wpS_store1 size33 (hS.bring (by repeat (first | exact t0 | apply tS))) rfl rfl rfl rfl (own_cells ((hS.bring (by repeat (first | exact t0 | apply tS))).getOwn)).1 (own_cells ((hS.bring (by repeat (first | exact t0 | apply tS))).getOwn)).2 (by simp) ?_); clear hS; intro w hS; go_frame)
              | (show wpList _ _ _ (⟨_, .call ⟨.builtin .append, _, _⟩, _, _, _, _⟩ :: _) _ _; (refine wpS_append slTy33 (hS.bring (by repeat (first | exact t0 | apply tS))) rfl rfl rfl rfl (by first | exact hS.rd (by assumption) | exact (hS.bring (by repeat (first | exact t0 | apply tS))).getOwn.rd | exact (hS.bring (by repeat (first | exact t0 | apply tS))).rd2l | exact (hS.bring (by repeat (first | exact t0 | apply tS))).rd2r | exact hS.rd (RdIn.cutV (by assumption) (by omega) (by omega)) | exact (hS.bring (by repeat (first | exact t0 | apply tS))).getOwn.rd.cutV (by omega) (by omega)) (IsHs.flat (by assumption)) (by simp; omega) (by simp [maxLen]; omega) ?_); clear hS; intro v w hS; go_frame)
              )
            refine segQ_mk ((hS.bring (by repeat (first | exact t0 | apply tS))).getBlk) ?_
            refine ord_seg (by repeat (first | exact Clean.body | refine Clean.then ?_ | refine Clean.inBlock ?_ | refine SegQ.clean ?_ | refine FinC.clean ?_)) (n := 0) (rest := [[]]) [10, 11, 12] [⟨_, _, _, _, _, _⟩, ⟨_, _, _, _, _, _⟩, ⟨_, _, _, _, _, _⟩] rfl (by kernel_rfl) (by simp) _ _ ?_
            go_wp2_with (first
              | (show wpList _ _ _ (⟨_, .load 33 _, _, _, _, _⟩ :: _) _ _; refine wpList_val rfl (op_load1S one33 ((hS.bring (by repeat (first | exact t0 | apply tS)))) rfl rfl rfl) ?_; go_frame)
              | (show wpList _ _ _ (⟨_, .load 24 _, _, _, _, _⟩ :: _) _ _; refine wpList_val rfl (op_load agg24 rfl rfl ((hS.bring (by repeat (first | exact t0 | apply tS))).getBlk.cells) (IsH.len (by assumption))) ?_; go_frame)
              | (show wpList _ _ _ (⟨_, .buildSlice 33 0 _, _, _, _, _⟩ :: _) _ _; refine wpS_build0 slTy33 hS rfl rfl ?_; clear hS; intro v w hS; go_frame)
              | (show wpList _ _ _ (⟨_, .buildSlice 33 1 _, _, _, _, _⟩ :: _) _ _; refine wpS_build1A slTy33 (by omega) hS rfl rfl rfl (IsH.len (by assumption)) ?_; clear hS; intro v w hS; go_frame)
              | (show wpList _ _ _ (⟨_, .store 33 _ _, _, _, _, _⟩ :: _) _ _; (refine wpS_store1 size33 (hS.bring (by repeat (first | exact t0 | apply tS))) rfl rfl rfl rfl (own_cells ((hS.bring (by repeat (first | exact t0 | apply tS))).getOwn)).1 (own_cells ((hS.bring (by repeat (first | exact t0 | apply tS))).getOwn)).2 (by simp) ?_); clear hS; intro w hS; go_frame)
              | (show wpList _ _ _ (⟨_, .call ⟨.builtin .append, _, _⟩, _, _, _, _⟩ :: _) _ _; (refine wpS_append slTy33 (hS.bring (by repeat (first | exact t0 | apply tS))) rfl rfl rfl rfl (by first | exact hS.rd (by assumption) | exact (hS.bring (by repeat (first | exact t0 | apply tS))).getOwn.rd | exact (hS.bring (by repeat (first | exact t0 | apply tS))).rd2l | exact (hS.bring (by repeat (first | exact t0 | apply tS))).rd2r | exact hS.rd (RdIn.cutV (by assumption) (by omega) (by omega)) | exact (hS.bring (by repeat (first | exact t0 | apply tS))).getOwn.rd.cutV (by omega) (by omega)) (IsHs.flat (by assumption)) (by simp; omega) (by simp [maxLen]; omega) ?_); clear hS; intro v w hS; go_frame)
              )
            refine segQ_mk ((hS.bring (by repeat (first | exact t0 | apply tS))).getBlk) ?_
            refine finC_mk (by kernel_rfl) (by
              intro t ht
              simp only [List.mem_cons, List.not_mem_nil, or_false] at ht
              subst ht
              exact stab_blk (b := nb) (fun w h => h) 0 none) ?_
            rw [List.nil_append] at hS
            have hlx : 0 < (M ++ [l[k]]).length := by simp
            have kN : IsHs (M ++ [l[k]]) := isHs_append kM k1
            have hNl : (M ++ [l[k]]).length ≤ most + 1 := by simp; omega
            generalize M ++ [l[k]] = N at *
            have k6 : IsH N[0] := kN _ (List.getElem_mem hlx)
            have he5 : Hid ([N[0]] = N.take 1) := by
              unfold Hid
              cases N with
              | nil => simp at hlx
              | cons a t => simp
            by_cases hc : most < N.length
            · rw [if_pos hc] at he3 he4
              have hE3 := hide he3
              have hE4 := hide he4
              clear he3 he4
              go_wp2_with (first
                | (show wpList _ _ _ (⟨_, .load 33 _, _, _, _, _⟩ :: _) _ _; refine wpList_val rfl (op_load1S one33 ((hS.bring (by repeat (first | exact t0 | apply tS)))) rfl rfl rfl) ?_; go_frame)
                | (show wpList _ _ _ (⟨_, .load 3 _, _, _, _, _⟩ :: _) _ _; refine wpList_val rfl (op_load1S one3 ((hS.bring (by repeat (first | exact t0 | apply tS)))) rfl rfl rfl) ?_; go_frame)
                | (refine wp_region_text (by kernel_rfl) (by kernel_rfl) (by repeat (first | exact Clean.body | refine Clean.then ?_ | refine Clean.inBlock ?_)) ?_; replace hS := hS.drew)
                | (refine fin_mk (by kernel_rfl) ?_)
                | (show wpList _ _ _ (⟨_, .call ⟨.builtin .len, _, _⟩, _, _, _, _⟩ :: _) _ _; refine wpList_val rfl (op_len slTy33 rfl rfl rfl (by first | exact hS.rd (by assumption) | exact (hS.bring (by repeat (first | exact t0 | apply tS))).getOwn.rd | exact (hS.bring (by repeat (first | exact t0 | apply tS))).rd2l | exact (hS.bring (by repeat (first | exact t0 | apply tS))).rd2r | exact hS.rd (RdIn.cutV (by assumption) (by omega) (by omega)) | exact (hS.bring (by repeat (first | exact t0 | apply tS))).getOwn.rd.cutV (by omega) (by omega))) ?_; go_frame)
                | (show wpList _ _ _ (⟨_, .indexAddr 33 _ _, _, _, _, _⟩ :: _) _ _; refine wpList_val rfl (op_indexAddr slTy33 rfl rfl (k := 0) rfl (by first | exact hS.rd (by assumption) | exact (hS.bring (by repeat (first | exact t0 | apply tS))).getOwn.rd | exact (hS.bring (by repeat (first | exact t0 | apply tS))).rd2l | exact (hS.bring (by repeat (first | exact t0 | apply tS))).rd2r | exact hS.rd (RdIn.cutV (by assumption) (by omega) (by omega)) | exact (hS.bring (by repeat (first | exact t0 | apply tS))).getOwn.rd.cutV (by omega) (by omega)) (by omega)) ?_; go_frame)
                | (show wpList _ _ _ (⟨_, .load 24 _, _, _, _, _⟩ :: _) _ _; refine wpList_val rfl (op_loadE agg24 rfl rfl (by first | exact hS.rd (by assumption) | exact (hS.bring (by repeat (first | exact t0 | apply tS))).getOwn.rd | exact (hS.bring (by repeat (first | exact t0 | apply tS))).rd2l | exact (hS.bring (by repeat (first | exact t0 | apply tS))).rd2r | exact hS.rd (RdIn.cutV (by assumption) (by omega) (by omega)) | exact (hS.bring (by repeat (first | exact t0 | apply tS))).getOwn.rd.cutV (by omega) (by omega)) (by omega)) ?_; go_frame)
                | (show wpList _ _ _ (⟨_, .buildSlice 33 1 _, _, _, _, _⟩ :: _) _ _; refine wpS_build1A slTy33 (by omega) hS rfl rfl rfl (IsH.len (by assumption)) ?_; clear hS; intro v w hS; go_frame)
                | (show wpList _ _ _ (⟨_, .call ⟨.builtin .append, _, _⟩, _, _, _, _⟩ :: _) _ _; (refine wpS_append slTy33 (hS.bring (by repeat (first | exact t0 | apply tS))) rfl rfl rfl rfl (by first | exact hS.rd (by assumption) | exact (hS.bring (by repeat (first | exact t0 | apply tS))).getOwn.rd | exact (hS.bring (by repeat (first | exact t0 | apply tS))).rd2l | exact (hS.bring (by repeat (first | exact t0 | apply tS))).rd2r | exact hS.rd (RdIn.cutV (by assumption) (by omega) (by omega)) | exact (hS.bring (by repeat (first | exact t0 | apply tS))).getOwn.rd.cutV (by omega) (by omega)) (IsHs.flat (isHs1 (by assumption))) (by simp; omega) (by simp [maxLen]; omega) ?_); clear hS; intro v w hS; go_frame)
                | (show wpList _ _ _ (⟨_, .slice 33 _ _ none _, _, _, _, _⟩ :: _) _ _; refine wpList_val rfl (op_cut slTy33 rfl rfl (by first | exact hS.rd (by assumption) | exact (hS.bring (by repeat (first | exact t0 | apply tS))).getOwn.rd | exact (hS.bring (by repeat (first | exact t0 | apply tS))).rd2l | exact (hS.bring (by repeat (first | exact t0 | apply tS))).rd2r | exact hS.rd (RdIn.cutV (by assumption) (by omega) (by omega)) | exact (hS.bring (by repeat (first | exact t0 | apply tS))).getOwn.rd.cutV (by omega) (by omega)) (l := 1) (h := _) (Or.inr rfl) (Or.inl ⟨rfl, rfl⟩) (by omega) (by omega)) ?_; go_frame)
                | (show wpList _ _ _ (⟨_, .store 33 _ _, _, _, _, _⟩ :: _) _ _; (refine wpS_store1 size33 (hS.bring (by repeat (first | exact t0 | apply tS))) rfl rfl rfl rfl (own_cells (((hS.bring (by repeat (first | exact t0 | apply tS))).getOwn).cutV (l := 1) (by omega) (Nat.le_refl _))).1 (own_cells (((hS.bring (by repeat (first | exact t0 | apply tS))).getOwn).cutV (l := 1) (by omega) (Nat.le_refl _))).2 (by simp) ?_); clear hS; intro w hS; go_frame)
                )
              go_roundw
              case rel =>
                refine ⟨k + 1, by go_num, by omega, ?_⟩
                rw [e1.out, e2.out, hE3.out, hE4.out, ← he5.out]
                exact SepL.perm (L := hR p most _ :: .own 24 32 _ _ :: F) (hR_close (((((hS.bring (by repeat (first | exact t0 | apply tS)))) : SepL _ _ _ (Hp.own 24 32 _ N :: _)).ownCut (l := 1) (by omega)).sel (by repeat (first | exact Sel.refl | refine Sel.take (by repeat (first | exact t0 | apply tS)) ?_ | apply Sel.drop)))) (.swap _ _ _)
              case measure => simp [intOf]; omega
            · rw [if_neg hc] at he3 he4
              go_wp2_with (first
                | (show wpList _ _ _ (⟨_, .load 33 _, _, _, _, _⟩ :: _) _ _; refine wpList_val rfl (op_load1S one33 ((hS.bring (by repeat (first | exact t0 | apply tS)))) rfl rfl rfl) ?_; go_frame)
                | (show wpList _ _ _ (⟨_, .load 3 _, _, _, _, _⟩ :: _) _ _; refine wpList_val rfl (op_load1S one3 ((hS.bring (by repeat (first | exact t0 | apply tS)))) rfl rfl rfl) ?_; go_frame)
                | (refine wp_region_text (by kernel_rfl) (by kernel_rfl) (by repeat (first | exact Clean.body | refine Clean.then ?_ | refine Clean.inBlock ?_)) ?_; replace hS := hS.drew)
                | (refine fin_mk (by kernel_rfl) ?_)
                | (show wpList _ _ _ (⟨_, .call ⟨.builtin .len, _, _⟩, _, _, _, _⟩ :: _) _ _; refine wpList_val rfl (op_len slTy33 rfl rfl rfl (by first | exact hS.rd (by assumption) | exact (hS.bring (by repeat (first | exact t0 | apply tS))).getOwn.rd | exact (hS.bring (by repeat (first | exact t0 | apply tS))).rd2l | exact (hS.bring (by repeat (first | exact t0 | apply tS))).rd2r | exact hS.rd (RdIn.cutV (by assumption) (by omega) (by omega)) | exact (hS.bring (by repeat (first | exact t0 | apply tS))).getOwn.rd.cutV (by omega) (by omega))) ?_; go_frame)
                )
              go_roundw
              case rel =>
                refine ⟨k + 1, by go_num, by omega, ?_⟩
                rw [e1.out, e2.out, he3, he4, List.append_nil]
                exact SepL.perm (L := hR p most _ :: .own 24 32 _ _ :: F) (hR_close (hS.sel (by repeat (first | exact Sel.refl | refine Sel.take (by repeat (first | exact t0 | apply tS)) ?_ | apply Sel.drop)))) (.swap _ _ _)
              case measure => simp [intOf]; omega
        ·
          refine ord_seg (by repeat (first | exact Clean.body | refine Clean.then ?_ | refine Clean.inBlock ?_ | refine SegQ.clean ?_ | refine FinC.clean ?_)) (n := 4) (rest := [[9, 10, 11, 12]]) [8, 1, 6] [⟨_, _, _, _, _, _⟩, ⟨_, _, _, _, _, _⟩, ⟨_, _, _, _, _, _⟩] rfl (by kernel_rfl) (by simp) _ _ ?_
          go_wp2_with (first
            | (show wpList _ _ _ (⟨_, .load 33 _, _, _, _, _⟩ :: _) _ _; refine wpList_val rfl (op_load1S one33 ((hS.bring (by repeat (first | exact t0 | apply tS)))) rfl rfl rfl) ?_; go_frame)
            | (show wpList _ _ _ (⟨_, .load 24 _, _, _, _, _⟩ :: _) _ _; refine wpList_val rfl (op_load agg24 rfl rfl ((hS.bring (by repeat (first | exact t0 | apply tS))).getBlk.cells) (IsH.len (by assumption))) ?_; go_frame)
            | (show wpList _ _ _ (⟨_, .buildSlice 33 0 _, _, _, _, _⟩ :: _) _ _; refine wpS_build0 slTy33 hS rfl rfl ?_; clear hS; intro v w hS; go_frame)
            | (show wpList _ _ _ (⟨_, .buildSlice 33 1 _, _, _, _, _⟩ :: _) _ _; refine wpS_build1A slTy33 (by omega) hS rfl rfl rfl (IsH.len (by assumption)) ?_; clear hS; intro v w hS; go_frame)
            | (show wpList _ _ _ (⟨_, .store 33 _ _, _, _, _, _⟩ :: _) _ _; (refine wpS_store1 size33 (hS.bring (by repeat (first | exact t0 | apply tS))) rfl rfl rfl rfl (own_cells ((hS.bring (by repeat (first | exact t0 | apply tS))).getOwn)).1 (own_cells ((hS.bring (by repeat (first | exact t0 | apply tS))).getOwn)).2 (by simp) ?_); clear hS; intro w hS; go_frame)
            | (show wpList _ _ _ (⟨_, .call ⟨.builtin .append, _, _⟩, _, _, _, _⟩ :: _) _ _; (refine wpS_append slTy33 (hS.bring (by repeat (first | exact t0 | apply tS))) rfl rfl rfl rfl (by first | exact hS.rd (by assumption) | exact (hS.bring (by repeat (first | exact t0 | apply tS))).getOwn.rd | exact (hS.bring (by repeat (first | exact t0 | apply tS))).rd2l | exact (hS.bring (by repeat (first | exact t0 | apply tS))).rd2r | exact hS.rd (RdIn.cutV (by assumption) (by omega) (by omega)) | exact (hS.bring (by repeat (first | exact t0 | apply tS))).getOwn.rd.cutV (by omega) (by omega)) (IsHs.flat (by assumption)) (by simp; omega) (by simp [maxLen]; omega) ?_); clear hS; intro v w hS; go_frame)
            )
          refine segQ_mk ((hS.bring (by repeat (first | exact t0 | apply tS))).getBlk) ?_
          refine ord_seg (by repeat (first | exact Clean.body | refine Clean.then ?_ | refine Clean.inBlock ?_ | refine SegQ.clean ?_ | refine FinC.clean ?_)) (n := 3) (rest := [[10, 11, 12]]) [9] [⟨_, _, _, _, _, _⟩] rfl (by kernel_rfl) (by simp) _ _ ?_
          go_wp2_with (first
            | (show wpList _ _ _ (⟨_, .load 33 _, _, _, _, _⟩ :: _) _ _; refine wpList_val rfl (op_load1S one33 ((hS.bring (by repeat (first | exact t0 | apply tS)))) rfl rfl rfl) ?_; go_frame)
            | (show wpList _ _ _ (⟨_, .load 24 _, _, _, _, _⟩ :: _) _ _; refine wpList_val rfl (op_load agg24 rfl rfl ((hS.bring (by repeat (first | exact t0 | apply tS))).getBlk.cells) (IsH.len (by assumption))) ?_; go_frame)
            | (show wpList _ _ _ (⟨_, .buildSlice 33 0 _, _, _, _, _⟩ :: _) _ _; refine wpS_build0 slTy33 hS rfl rfl ?_; clear hS; intro v w hS; go_frame)
            | (show wpList _ _ _ (⟨_, .buildSlice 33 1 _, _, _, _, _⟩ :: _) _ _; refine wpS_build1A slTy33 (by omega) hS rfl rfl rfl (IsH.len (by assumption)) ?_; clear hS; intro v w hS; go_frame)
            | (show wpList _ _ _ (⟨_, .store 33 _ _, _, _, _, _⟩ :: _) _ _; (refine wpS_store1 size33 (hS.bring (by repeat (first | exact t0 | apply tS))) rfl rfl rfl rfl (own_cells ((hS.bring (by repeat (first | exact t0 | apply tS))).getOwn)).1 (own_cells ((hS.bring (by repeat (first | exact t0 | apply tS))).getOwn)).2 (by simp) ?_); clear hS; intro w hS; go_frame)
            | (show wpList _ _ _ (⟨_, .call ⟨.builtin .append, _, _⟩, _, _, _, _⟩ :: _) _ _; (refine wpS_append slTy33 (hS.bring (by repeat (first | exact t0 | apply tS))) rfl rfl rfl rfl (by first | exact hS.rd (by assumption) | exact (hS.bring (by repeat (first | exact t0 | apply tS))).getOwn.rd | exact (hS.bring (by repeat (first | exact t0 | apply tS))).rd2l | exact (hS.bring (by repeat (first | exact t0 | apply tS))).rd2r | exact hS.rd (RdIn.cutV (by assumption) (by omega) (by omega)) | exact (hS.bring (by repeat (first | exact t0 | apply tS))).getOwn.rd.cutV (by omega) (by omega)) (IsHs.flat (by assumption)) (by simp; omega) (by simp [maxLen]; omega) ?_); clear hS; intro v w hS; go_frame)
            )
          refine segQ_mk ((hS.bring (by repeat (first | exact t0 | apply tS))).getBlk) ?_
          refine ord_seg (by repeat (first | exact Clean.body | refine Clean.then ?_ | refine Clean.inBlock ?_ | refine SegQ.clean ?_ | refine FinC.clean ?_)) (n := 0) (rest := [[]]) [10, 11, 12] [⟨_, _, _, _, _, _⟩, ⟨_, _, _, _, _, _⟩, ⟨_, _, _, _, _, _⟩] rfl (by kernel_rfl) (by simp) _ _ ?_
          go_wp2_with (first
            | (show wpList _ _ _ (⟨_, .load 33 _, _, _, _, _⟩ :: _) _ _; refine wpList_val rfl (op_load1S one33 ((hS.bring (by repeat (first | exact t0 | apply tS)))) rfl rfl rfl) ?_; go_frame)
            | (show wpList _ _ _ (⟨_, .load 24 _, _, _, _, _⟩ :: _) _ _; refine wpList_val rfl (op_load agg24 rfl rfl ((hS.bring (by repeat (first | exact t0 | apply tS))).getBlk.cells) (IsH.len (by assumption))) ?_; go_frame)
            | (show wpList _ _ _ (⟨_, .buildSlice 33 0 _, _, _, _, _⟩ :: _) _ _; refine wpS_build0 slTy33 hS rfl rfl ?_; clear hS; intro v w hS; go_frame)
            | (show wpList _ _ _ (⟨_, .buildSlice 33 1 _, _, _, _, _⟩ :: _) _ _; refine wpS_build1A slTy33 (by omega) hS rfl rfl rfl (IsH.len (by assumption)) ?_; clear hS; intro v w hS; go_frame)
            | (show wpList _ _ _ (⟨_, .store 33 _ _, _, _, _, _⟩ :: _) _ _; (refine wpS_store1 size33 (hS.bring (by repeat (first | exact t0 | apply tS))) rfl rfl rfl rfl (own_cells ((hS.bring (by repeat (first | exact t0 | apply tS))).getOwn)).1 (own_cells ((hS.bring (by repeat (first | exact t0 | apply tS))).getOwn)).2 (by simp) ?_); clear hS; intro w hS; go_frame)
            | (show wpList _ _ _ (⟨_, .call ⟨.builtin .append, _, _⟩, _, _, _, _⟩ :: _) _ _; (refine wpS_append slTy33 (hS.bring (by repeat (first | exact t0 | apply tS))) rfl rfl rfl rfl (by first | exact hS.rd (by assumption) | exact (hS.bring (by repeat (first | exact t0 | apply tS))).getOwn.rd | exact (hS.bring (by repeat (first | exact t0 | apply tS))).rd2l | exact (hS.bring (by repeat (first | exact t0 | apply tS))).rd2r | exact hS.rd (RdIn.cutV (by assumption) (by omega) (by omega)) | exact (hS.bring (by repeat (first | exact t0 | apply tS))).getOwn.rd.cutV (by omega) (by omega)) (IsHs.flat (by assumption)) (by simp; omega) (by simp [maxLen]; omega) ?_); clear hS; intro v w hS; go_frame)
            )
          refine segQ_mk ((hS.bring (by repeat (first | exact t0 | apply tS))).getBlk) ?_
          refine finC_mk (by kernel_rfl) (by
            intro t ht
            simp only [List.mem_cons, List.not_mem_nil, or_false] at ht
            subst ht
            exact stab_blk (b := nb) (fun w h => h) 0 none) ?_
          rw [List.nil_append] at hS
          have hlx : 0 < (M ++ [l[k]]).length := by simp
          have kN : IsHs (M ++ [l[k]]) := isHs_append kM k1
          have hNl : (M ++ [l[k]]).length ≤ most + 1 := by simp; omega
          generalize M ++ [l[k]] = N at *
          have k6 : IsH N[0] := kN _ (List.getElem_mem hlx)
          have he5 : Hid ([N[0]] = N.take 1) := by
            unfold Hid
            cases N with
            | nil => simp at hlx
            | cons a t => simp
          by_cases hc : most < N.length
          · rw [if_pos hc] at he3 he4
            have hE3 := hide he3
            have hE4 := hide he4
            clear he3 he4
            go_wp2_with (first
              | (show wpList _ _ _ (⟨_, .load 33 _, _, _, _, _⟩ :: _) _ _; refine wpList_val rfl (op_load1S one33 ((hS.bring (by repeat (first | exact t0 | apply tS)))) rfl rfl rfl) ?_; go_frame)
              | (show wpList _ _ _ (⟨_, .load 3 _, _, _, _, _⟩ :: _) _ _; refine wpList_val rfl (op_load1S one3 ((hS.bring (by repeat (first | exact t0 | apply tS)))) rfl rfl rfl) ?_; go_frame)
              | (refine wp_region_text (by kernel_rfl) (by kernel_rfl) (by repeat (first | exact Clean.body | refine Clean.then ?_ | refine Clean.inBlock ?_)) ?_; replace hS := hS.drew)
              | (refine fin_mk (by kernel_rfl) ?_)
              | (show wpList _ _ _ (⟨_, .call ⟨.builtin .len, _, _⟩, _, _, _, _⟩ :: _) _ _; refine wpList_val rfl (op_len slTy33 rfl rfl rfl (by first | exact hS.rd (by assumption) | exact (hS.bring (by repeat (first | exact t0 | apply tS))).getOwn.rd | exact (hS.bring (by repeat (first | exact t0 | apply tS))).rd2l | exact (hS.bring (by repeat (first | exact t0 | apply tS))).rd2r | exact hS.rd (RdIn.cutV (by assumption) (by omega) (by omega)) | exact (hS.bring (by repeat (first | exact t0 | apply tS))).getOwn.rd.cutV (by omega) (by omega))) ?_; go_frame)
              | (show wpList _ _ _ (⟨_, .indexAddr 33 _ _, _, _, _, _⟩ :: _) _ _; refine wpList_val rfl (op_indexAddr slTy33 rfl rfl (k := 0) rfl (by first | exact hS.rd (by assumption) | exact (hS.bring (by repeat (first | exact t0 | apply tS))).getOwn.rd | exact (hS.bring (by repeat (first | exact t0 | apply tS))).rd2l | exact (hS.bring (by repeat (first | exact t0 | apply tS))).rd2r | exact hS.rd (RdIn.cutV (by assumption) (by omega) (by omega)) | exact (hS.bring (by repeat (first | exact t0 | apply tS))).getOwn.rd.cutV (by omega) (by omega)) (by omega)) ?_; go_frame)
              | (show wpList _ _ _ (⟨_, .load 24 _, _, _, _, _⟩ :: _) _ _; refine wpList_val rfl (op_loadE agg24 rfl rfl (by first | exact hS.rd (by assumption) | exact (hS.bring (by repeat (first | exact t0 | apply tS))).getOwn.rd | exact (hS.bring (by repeat (first | exact t0 | apply tS))).rd2l | exact (hS.bring (by repeat (first | exact t0 | apply tS))).rd2r | exact hS.rd (RdIn.cutV (by assumption) (by omega) (by omega)) | exact (hS.bring (by repeat (first | exact t0 | apply tS))).getOwn.rd.cutV (by omega) (by omega)) (by omega)) ?_; go_frame)
              | (show wpList _ _ _ (⟨_, .buildSlice 33 1 _, _, _, _, _⟩ :: _) _ _; refine wpS_build1A slTy33 (by omega) hS rfl rfl rfl (IsH.len (by assumption)) ?_; clear hS; intro v w hS; go_frame)
              | (show wpList _ _ _ (⟨_, .call ⟨.builtin .append, _, _⟩, _, _, _, _⟩ :: _) _ _; (refine wpS_append slTy33 (hS.bring (by repeat (first | exact t0 | apply tS))) rfl rfl rfl rfl (by first | exact hS.rd (by assumption) | exact (hS.bring (by repeat (first | exact t0 | apply tS))).getOwn.rd | exact (hS.bring (by repeat (first | exact t0 | apply tS))).rd2l | exact (hS.bring (by repeat (first | exact t0 | apply tS))).rd2r | exact hS.rd (RdIn.cutV (by assumption) (by omega) (by omega)) | exact (hS.bring (by repeat (first | exact t0 | apply tS))).getOwn.rd.cutV (by omega) (by omega)) (IsHs.flat (isHs1 (by assumption))) (by simp; omega) (by simp [maxLen]; omega) ?_); clear hS; intro v w hS; go_frame)
              | (show wpList _ _ _ (⟨_, .slice 33 _ _ none _, _, _, _, _⟩ :: _) _ _; refine wpList_val rfl (op_cut slTy33 rfl rfl (by first | exact hS.rd (by assumption) | exact (hS.bring (by repeat (first | exact t0 | apply tS))).getOwn.rd | exact (hS.bring (by repeat (first | exact t0 | apply tS))).rd2l | exact (hS.bring (by repeat (first | exact t0 | apply tS))).rd2r | exact hS.rd (RdIn.cutV (by assumption) (by omega) (by omega)) | exact (hS.bring (by repeat (first | exact t0 | apply tS))).getOwn.rd.cutV (by omega) (by omega)) (l := 1) (h := _) (Or.inr rfl) (Or.inl ⟨rfl, rfl⟩) (by omega) (by omega)) ?_; go_frame)
              | (show wpList _ _ _ (⟨_, .store 33 _ _, _, _, _, _⟩ :: _) _ _; (refine wpS_store1 size33 (hS.bring (by repeat (first | exact t0 | apply tS))) rfl rfl rfl rfl (own_cells (((hS.bring (by repeat (first | exact t0 | apply tS))).getOwn).cutV (l := 1) (by omega) (Nat.le_refl _))).1 (own_cells (((hS.bring (by repeat (first | exact t0 | apply tS))).getOwn).cutV (l := 1) (by omega) (Nat.le_refl _))).2 (by simp) ?_); clear hS; intro w hS; go_frame)
              )
            go_roundw
            case rel =>
              refine ⟨k + 1, by go_num, by omega, ?_⟩
              rw [e1.out, e2.out, hE3.out, hE4.out, ← he5.out]
              exact SepL.perm (L := hR p most _ :: .own 24 32 _ _ :: F) (hR_close (((((hS.bring (by repeat (first | exact t0 | apply tS)))) : SepL _ _ _ (Hp.own 24 32 _ N :: _)).ownCut (l := 1) (by omega)).sel (by repeat (first | exact Sel.refl | refine Sel.take (by repeat (first | exact t0 | apply tS)) ?_ | apply Sel.drop)))) (.swap _ _ _)
            case measure => simp [intOf]; omega
          · rw [if_neg hc] at he3 he4
            go_wp2_with (first
              | (show wpList _ _ _ (⟨_, .load 33 _, _, _, _, _⟩ :: _) _ _; refine wpList_val rfl (op_load1S one33 ((hS.bring (by repeat (first | exact t0 | apply tS)))) rfl rfl rfl) ?_; go_frame)
              | (show wpList _ _ _ (⟨_, .load 3 _, _, _, _, _⟩ :: _) _ _; refine wpList_val rfl (op_load1S one3 ((hS.bring (by repeat (first | exact t0 | apply tS)))) rfl rfl rfl) ?_; go_frame)
              | (refine wp_region_text (by kernel_rfl) (by kernel_rfl) (by repeat (first | exact Clean.body | refine Clean.then ?_ | refine Clean.inBlock ?_)) ?_; replace hS := hS.drew)
              | (refine fin_mk (by kernel_rfl) ?_)
              | (show wpList _ _ _ (⟨_, .call ⟨.builtin .len, _, _⟩, _, _, _, _⟩ :: _) _ _; refine wpList_val rfl (op_len slTy33 rfl rfl rfl (by first | exact hS.rd (by assumption) | exact (hS.bring (by repeat (first | exact t0 | apply tS))).getOwn.rd | exact (hS.bring (by repeat (first | exact t0 | apply tS))).rd2l | exact (hS.bring (by repeat (first | exact t0 | apply tS))).rd2r | exact hS.rd (RdIn.cutV (by assumption) (by omega) (by omega)) | exact (hS.bring (by repeat (first | exact t0 | apply tS))).getOwn.rd.cutV (by omega) (by omega))) ?_; go_frame)
              )
            go_roundw
            case rel =>
              refine ⟨k + 1, by go_num, by omega, ?_⟩
              rw [e1.out, e2.out, he3, he4, List.append_nil]
              exact SepL.perm (L := hR p most _ :: .own 24 32 _ _ :: F) (hR_close (hS.sel (by repeat (first | exact Sel.refl | refine Sel.take (by repeat (first | exact t0 | apply tS)) ?_ | apply Sel.drop)))) (.swap _ _ _)
            case measure => simp [intOf]; omega
      · have hmm := hide hm0
        have e3 : Hid (add1 most M l[k] = M) := add1_in (mem_true.1 hm0)
        have e4 : Hid (gone1 most M l[k] = []) := gone1_in (mem_true.1 hm0)
        clear hm0
        go_wp2_with (first
          | (show wpList _ _ _ (⟨_, .indexAddr 33 _ _, _, _, _, _⟩ :: _) _ _; refine wpList_val rfl (op_indexAddr slTy33 rfl rfl (k := k) rfl (by first | exact hS.rd (by assumption) | exact (hS.bring (by repeat (first | exact t0 | apply tS))).getOwn.rd | exact (hS.bring (by repeat (first | exact t0 | apply tS))).rd2l | exact (hS.bring (by repeat (first | exact t0 | apply tS))).rd2r | exact hS.rd (RdIn.cutV (by assumption) (by omega) (by omega)) | exact (hS.bring (by repeat (first | exact t0 | apply tS))).getOwn.rd.cutV (by omega) (by omega)) (by omega)) ?_; go_frame)
          | (go_at_call 18; (refine Ret.calls (rhas_s (hS.bring (by repeat (first | exact t0 | apply tS))) _ (by assumption) (by assumption) (b := _) (by assumption)) ?_); clear hS; rintro r w ⟨rfl, hS⟩)
          | (go_at_call 20; refine Ret.calls (made_t hS _ (by omega) (by assumption) (by assumption) (by omega) (by assumption)) ?_; clear hS; rintro r w ⟨p, rfl, hS⟩)
          | (show wpList _ _ _ (⟨_, .box _ _, _, _, _, _⟩ :: _) _ _; refine wpS_boxA hS rfl rfl rfl ?_; clear hS; intro nb w hS; go_frame)
          | (show wpList _ _ _ (⟨_, .load 24 _, _, _, _, _⟩ :: _) _ _; refine wpList_val rfl (op_load agg24 rfl rfl ((hS.bring (by repeat (first | exact t0 | apply tS))).getBlk.cells) (IsH.len (by assumption))) ?_; go_frame)
          | (show wpList _ _ _ (⟨_, .load 24 _, _, _, _, _⟩ :: _) _ _; refine wpList_val rfl (op_loadE agg24 rfl rfl (by first | exact hS.rd (by assumption) | exact (hS.bring (by repeat (first | exact t0 | apply tS))).getOwn.rd | exact (hS.bring (by repeat (first | exact t0 | apply tS))).rd2l | exact (hS.bring (by repeat (first | exact t0 | apply tS))).rd2r | exact hS.rd (RdIn.cutV (by assumption) (by omega) (by omega)) | exact (hS.bring (by repeat (first | exact t0 | apply tS))).getOwn.rd.cutV (by omega) (by omega)) (by omega)) ?_; go_frame)
          | (show wpList _ _ _ (⟨_, .alloc 24, _, _, _, _⟩ :: _) _ _; refine wpS_alloc hS rfl rfl zero24 rfl ?_; clear hS; intro nb w hS; go_frame)
          | (show wpList _ _ _ (⟨_, .store 24 _ _, _, _, _, _⟩ :: _) _ _; (refine wpS_storeAll agg24 (hS.bring (by repeat (first | exact t0 | apply tS))) rfl rfl rfl rfl (IsH.len (by assumption)) (IsH.flat (by assumption)) (by first | rfl | simp | exact IsH.len (by assumption)) ?_); clear hS; intro w hS; go_frame)
          | (show wpList _ _ _ (⟨_, .buildSlice 33 1 _, _, _, _, _⟩ :: _) _ _; refine wpS_build1A slTy33 (by omega) hS rfl rfl rfl (IsH.len (by assumption)) ?_; clear hS; intro v w hS; go_frame)
          | (show wpList _ _ _ (⟨_, .call ⟨.builtin .len, _, _⟩, _, _, _, _⟩ :: _) _ _; refine wpList_val rfl (op_len slTy33 rfl rfl rfl (by first | exact hS.rd (by assumption) | exact (hS.bring (by repeat (first | exact t0 | apply tS))).getOwn.rd | exact (hS.bring (by repeat (first | exact t0 | apply tS))).rd2l | exact (hS.bring (by repeat (first | exact t0 | apply tS))).rd2r | exact hS.rd (RdIn.cutV (by assumption) (by omega) (by omega)) | exact (hS.bring (by repeat (first | exact t0 | apply tS))).getOwn.rd.cutV (by omega) (by omega))) ?_; go_frame)
          | (show wpList _ _ _ (⟨_, .indexAddr 33 _ _, _, _, _, _⟩ :: _) _ _; refine wpList_val rfl (op_indexAddr slTy33 rfl rfl (k := 0) rfl (by first | exact hS.rd (by assumption) | exact (hS.bring (by repeat (first | exact t0 | apply tS))).getOwn.rd | exact (hS.bring (by repeat (first | exact t0 | apply tS))).rd2l | exact (hS.bring (by repeat (first | exact t0 | apply tS))).rd2r | exact hS.rd (RdIn.cutV (by assumption) (by omega) (by omega)) | exact (hS.bring (by repeat (first | exact t0 | apply tS))).getOwn.rd.cutV (by omega) (by omega)) (by omega)) ?_; go_frame)
          | (show wpList _ _ _ (⟨_, .slice 33 _ none _ _, _, _, _, _⟩ :: _) _ _; refine wpList_val rfl (op_cut slTy33 rfl rfl (by first | exact hS.rd (by assumption) | exact (hS.bring (by repeat (first | exact t0 | apply tS))).getOwn.rd | exact (hS.bring (by repeat (first | exact t0 | apply tS))).rd2l | exact (hS.bring (by repeat (first | exact t0 | apply tS))).rd2r | exact hS.rd (RdIn.cutV (by assumption) (by omega) (by omega)) | exact (hS.bring (by repeat (first | exact t0 | apply tS))).getOwn.rd.cutV (by omega) (by omega)) (l := 0) (h := 1) (Or.inl ⟨rfl, rfl⟩) (Or.inr rfl) (by omega) (by omega)) ?_; go_frame)
          | (show wpList _ _ _ (⟨_, .slice 33 _ _ none _, _, _, _, _⟩ :: _) _ _; refine wpList_val rfl (op_cut slTy33 rfl rfl (by first | exact hS.rd (by assumption) | exact (hS.bring (by repeat (first | exact t0 | apply tS))).getOwn.rd | exact (hS.bring (by repeat (first | exact t0 | apply tS))).rd2l | exact (hS.bring (by repeat (first | exact t0 | apply tS))).rd2r | exact hS.rd (RdIn.cutV (by assumption) (by omega) (by omega)) | exact (hS.bring (by repeat (first | exact t0 | apply tS))).getOwn.rd.cutV (by omega) (by omega)) (l := 1) (h := _) (Or.inr rfl) (Or.inl ⟨rfl, rfl⟩) (by omega) (by omega)) ?_; go_frame)
          | (show wpList _ _ _ (⟨_, .call ⟨.builtin .append, _, _⟩, _, _, _, _⟩ :: _) _ _; (refine wpS_appendCut slTy33 (hS.bring (by repeat (first | exact t0 | apply tS))) rfl rfl rfl rfl (by first | exact hS.rd (by assumption) | exact (hS.bring (by repeat (first | exact t0 | apply tS))).getOwn.rd | exact (hS.bring (by repeat (first | exact t0 | apply tS))).rd2l | exact (hS.bring (by repeat (first | exact t0 | apply tS))).rd2r | exact hS.rd (RdIn.cutV (by assumption) (by omega) (by omega)) | exact (hS.bring (by repeat (first | exact t0 | apply tS))).getOwn.rd.cutV (by omega) (by omega)) (IsHs.flat (isHs1 (by assumption))) (by simp) (by omega) (by simp; omega) (by simp [maxLen]; omega) ?_); clear hS; intro v w hS; go_frame)
          | (show wpList _ _ _ (⟨_, .call ⟨.builtin .append, _, _⟩, _, _, _, _⟩ :: _) _ _; (refine wpS_append slTy33 (hS.bring (by repeat (first | exact t0 | apply tS))) rfl rfl rfl rfl (by first | exact hS.rd (by assumption) | exact (hS.bring (by repeat (first | exact t0 | apply tS))).getOwn.rd | exact (hS.bring (by repeat (first | exact t0 | apply tS))).rd2l | exact (hS.bring (by repeat (first | exact t0 | apply tS))).rd2r | exact hS.rd (RdIn.cutV (by assumption) (by omega) (by omega)) | exact (hS.bring (by repeat (first | exact t0 | apply tS))).getOwn.rd.cutV (by omega) (by omega)) (IsHs.flat (isHs1 (by assumption))) (by simp; omega) (by simp [maxLen]; omega) ?_); clear hS; intro v w hS; go_frame)
          | (go_at_call 9; refine Ret.calls (alive_s hS) ?_; clear hS; rintro r w ⟨rfl, hS⟩)
          | (go_at_call 20; refine Ret.calls (made_s hS _ (by omega) (by assumption) (by assumption) (by omega)) ?_; clear hS; rintro r w ⟨p, rfl, hS⟩)
          | (go_at_call 17; (refine Ret.calls (has_s (hS.bring (by repeat (first | exact t0 | apply tS))) _ (by assumption) (b := _) (by assumption)) ?_); clear hS; rintro r w ⟨rfl, hS⟩)
          | (go_at_call 16; (refine Ret.calls (len_s (hS.bring (by repeat (first | exact t0 | apply tS)))) ?_); clear hS; rintro r w ⟨rfl, hS⟩)
          | (go_at_call 15; (refine Ret.calls (all_s (hS.bring (by repeat (first | exact t0 | apply tS)))) ?_); clear hS; rintro r w hS)
          | (go_at_call 13; (refine Ret.calls (add_o (hS.bring (by repeat (first | exact t0 | apply tS))) (t := by repeat (first | exact t0 | apply tS)) (by assumption) (by simp)) ?_); clear hS; rintro r w hS)
          | (go_at_call 12; refine Ret.calls (same_s hS (by first | exact hS.rd (by assumption) | exact (hS.bring (by repeat (first | exact t0 | apply tS))).getOwn.rd | exact (hS.bring (by repeat (first | exact t0 | apply tS))).rd2l | exact (hS.bring (by repeat (first | exact t0 | apply tS))).rd2r | exact hS.rd (RdIn.cutV (by assumption) (by omega) (by omega)) | exact (hS.bring (by repeat (first | exact t0 | apply tS))).getOwn.rd.cutV (by omega) (by omega)) (by first | exact hS.rd (by assumption) | exact (hS.bring (by repeat (first | exact t0 | apply tS))).getOwn.rd | exact (hS.bring (by repeat (first | exact t0 | apply tS))).rd2l | exact (hS.bring (by repeat (first | exact t0 | apply tS))).rd2r | exact hS.rd (RdIn.cutV (by assumption) (by omega) (by omega)) | exact (hS.bring (by repeat (first | exact t0 | apply tS))).getOwn.rd.cutV (by omega) (by omega)) (by assumption) (by assumption) (b := _) (by assumption)) ?_; clear hS; rintro r w ⟨rfl, hS⟩)
          | (go_at_call 19; refine Ret.calls (has11_s hS (by first | exact hS.rd (by assumption) | exact (hS.bring (by repeat (first | exact t0 | apply tS))).getOwn.rd | exact (hS.bring (by repeat (first | exact t0 | apply tS))).rd2l | exact (hS.bring (by repeat (first | exact t0 | apply tS))).rd2r | exact hS.rd (RdIn.cutV (by assumption) (by omega) (by omega)) | exact (hS.bring (by repeat (first | exact t0 | apply tS))).getOwn.rd.cutV (by omega) (by omega)) (by assumption) (by assumption) (b := _) (by assumption)) ?_; clear hS; rintro r w ⟨rfl, hS⟩)
          )
        go_roundw
        case rel =>
          refine ⟨k + 1, by go_num, by omega, ?_⟩
          rw [e1.out, e2.out, e3.out, e4.out, List.append_nil]
          exact hS.sel (by repeat (first | exact Sel.refl | refine Sel.take (by repeat (first | exact t0 | apply tS)) ?_ | apply Sel.drop))
        case measure => simp [intOf]; omega
    · have hk2 : k = l.length := by omega
      subst hk2
      rw [List.take_length] at hS
      go_wp2_with fail
      go_ret
      exact hS
end
end Go.Proofs.Ytkddaombdahodaa
