/- The comparison of two products, a part, and what bytes cost are the document's: the law returns true. Conditions: those that stand ahead of each theorem. -/
import Derived.Test.YtcaameljecokpaaLAmong
import Derived.Test.YtcaameljecokpaaAny9
namespace Go.Proofs.Ytcaameljecokpaa
open Go.RowKit Go.Px Go.Shelf Go.Calc
section
variable {R : Nat → Prop} {base w : World} {F : List Hp}
theorem rcmp_t {a b c d : Nat} (hS : SepL R base w F) (ha : a < 18446744073709551616) (hb : b < 18446744073709551616) (hc : c < 18446744073709551616) (hd : d < 18446744073709551616) {n : Int} (hn : Hid (cmpN (a * b) (c * d) = n)) :
    Calls Try.prog 21 #[U a, U b, U c, U d] w (Ret fun r w' => r = .int .i64 n ∧ SepL R base w' F) := by
  have := rcmp_s a b c d ha hb hc hd hS
  rwa [hn.out] at this
theorem rpart_t {x n d : Nat} (hS : SepL R base w F) (hx : x < 18446744073709551616) (hn : n < 18446744073709551616) (hd : d < 18446744073709551616) {q e : Nat} (hq : Hid (partN x n d = q)) (he : Hid (partE x n d = e)) :
    Calls Try.prog 17 #[U x, U n, U d] w (Ret fun r w' => r = .tuple #[U q, .int .i64 e] ∧ SepL R base w' F) := by
  have := rpart_s x n d hx hn hd hS
  rwa [hq.out, he.out] at this
theorem rneed_t {x n : Nat} (hS : SepL R base w F) (hx : x < 18446744073709551616) (hn : n < 18446744073709551616) {q e : Nat} (hq : Hid (needN x n = q)) (he : Hid (needE x n = e)) :
    Calls Try.prog 19 #[U x, U n] w (Ret fun r w' => r = .tuple #[U q, .int .i64 e] ∧ SepL R base w' F) := by
  have := rneed_s x n hx hn hS
  rwa [hq.out, he.out] at this
end
set_option maxRecDepth 100000 in
set_option maxHeartbeats 4000000 in
theorem calcParts_w {W : World} (a b c d : Nat) (ha : a < 18446744073709551616) (hb : b < 18446744073709551616) (hc : c < 18446744073709551616) (hd : d < 18446744073709551616) :
    Calls Try.prog 4 #[.agg #[U a, U b, U c, U d]] W (Ret fun r w' => r = .bool true ∧ Chg No W w') := by
  have hS := SepL.start W
  obtain ⟨q, hq⟩ : ∃ x, Hid (partN a b c = x) := ⟨_, Eq.refl _⟩
  obtain ⟨e, he⟩ : ∃ x, Hid (partE a b c = x) := ⟨_, Eq.refl _⟩
  obtain ⟨q2, hq2⟩ : ∃ x, Hid (needN a d = x) := ⟨_, Eq.refl _⟩
  obtain ⟨e2, he2⟩ : ∃ x, Hid (needE a d = x) := ⟨_, Eq.refl _⟩
  obtain ⟨x, hx⟩ : ∃ x, Hid (cmpN (a * b) (c * d) = x) := ⟨_, Eq.refl _⟩
  go_enter Try.func4, Try.ntmps4
  go_wp2_with (first
    | go_big_skip
    | (show wpList _ _ _ (⟨_, .load 22 _, _, _, _, _⟩ :: _) _ _; refine wpList_val rfl (op_load1S oneU ((hS.bring (by repeat (first | exact t0 | apply tS)))) rfl rfl rfl) ?_; go_frame)
    | (go_at_call 11; refine Ret.calls (alive_s hS) ?_; clear hS; rintro r w ⟨rfl, hS⟩)
    | (show wpList _ _ _ (⟨_, .binOp .eql 25 _ _ _, _, _, _, _⟩ :: _) _ _; refine wpList_val rfl (op_eqI rfl rfl rfl rfl) ?_; go_frame)
    | (show wpList _ _ _ (⟨_, .box 33 _, _, _, _, _⟩ :: _) _ _; refine wpS_boxA (cs := [U a, U b, U c, U d]) hS rfl rfl rfl ?_; clear hS; intro nb w hS; go_frame)
    | (go_at_call 16; refine Ret.calls (part_t hS ha hb hc hq he) ?_; clear hS; rintro r w ⟨rfl, hS⟩)
    | (go_at_call 17; refine Ret.calls (rpart_t hS ha hb hc hq he) ?_; clear hS; rintro r w ⟨rfl, hS⟩)
    | (go_at_call 18; refine Ret.calls (need_t hS ha hd hq2 he2) ?_; clear hS; rintro r w ⟨rfl, hS⟩)
    | (go_at_call 19; refine Ret.calls (rneed_t hS ha hd hq2 he2) ?_; clear hS; rintro r w ⟨rfl, hS⟩)
    | (go_at_call 20; refine Ret.calls (cmp_s hS ha hb hc hd hx) ?_; clear hS; rintro r w ⟨rfl, hS⟩)
    | (go_at_call 21; refine Ret.calls (rcmp_t hS ha hb hc hd hx) ?_; clear hS; rintro r w ⟨rfl, hS⟩)
    | (show wpList _ _ _ (⟨_, .binOp .eql 22 _ _ _, _, _, _, _⟩ :: _) _ _; refine wpList_val rfl (opU_eql rfl rfl rfl (r := true) (by simp)) ?_; go_frame)
    | (show wpList _ _ _ (⟨_, .binOp .eql 3 _ _ _, _, _, _, _⟩ :: _) _ _; refine wpList_val rfl (op_eqI rfl rfl rfl rfl) ?_; go_frame)
    )
  refine wp_region_ord (by kernel_rfl) [68, 70, 72, 74, 77, 79, 81, 83] [[0, 1, 2, 3, 4, 5, 6, 7, 8, 9, 10, 11, 12, 13, 14, 15, 16, 17, 18, 19, 20, 21, 22, 23, 24, 25, 26, 28, 29, 30, 31, 32, 33, 34, 35, 27, 36, 37, 38, 39]] (by kernel_rfl) (by kernel_rfl) (fun w' => Blk w' nb 33 [U a, U b, U c, U d]) Up.blk ((hS.bring (by repeat (first | exact t0 | apply tS))).getBlk) (by repeat (first | exact Clean.body | refine Clean.then ?_ | refine Clean.inBlock ?_ | refine SegQ.clean ?_ | refine FinC.clean ?_)) ?_
  replace hS := hS.drew
  refine ord_seg (by repeat (first | exact Clean.body | refine Clean.then ?_ | refine Clean.inBlock ?_ | refine SegQ.clean ?_ | refine FinC.clean ?_)) (n := 30) (rest := [[10, 11, 12, 13, 14, 15, 16, 17, 18, 19, 20, 21, 22, 23, 24, 25, 26, 28, 29, 30, 31, 32, 33, 34, 35, 27, 36, 37, 38, 39]]) [0, 1, 2, 3, 4, 5, 6, 7, 8, 9] [⟨_, _, _, _, _, _⟩, ⟨_, _, _, _, _, _⟩, ⟨_, _, _, _, _, _⟩, ⟨_, _, _, _, _, _⟩, ⟨_, _, _, _, _, _⟩, ⟨_, _, _, _, _, _⟩, ⟨_, _, _, _, _, _⟩, ⟨_, _, _, _, _, _⟩, ⟨_, _, _, _, _, _⟩, ⟨_, _, _, _, _, _⟩] rfl (by kernel_rfl) (by simp) _ _ ?_
  go_wp2_with (first
    | go_big_skip
    | (show wpList _ _ _ (⟨_, .load 22 _, _, _, _, _⟩ :: _) _ _; refine wpList_val rfl (op_load1S oneU ((hS.bring (by repeat (first | exact t0 | apply tS)))) rfl rfl rfl) ?_; go_frame)
    | (go_at_call 11; refine Ret.calls (alive_s hS) ?_; clear hS; rintro r w ⟨rfl, hS⟩)
    | (show wpList _ _ _ (⟨_, .binOp .eql 25 _ _ _, _, _, _, _⟩ :: _) _ _; refine wpList_val rfl (op_eqI rfl rfl rfl rfl) ?_; go_frame)
    | (show wpList _ _ _ (⟨_, .box 33 _, _, _, _, _⟩ :: _) _ _; refine wpS_boxA (cs := [U a, U b, U c, U d]) hS rfl rfl rfl ?_; clear hS; intro nb w hS; go_frame)
    | (go_at_call 16; refine Ret.calls (part_t hS ha hb hc hq he) ?_; clear hS; rintro r w ⟨rfl, hS⟩)
    | (go_at_call 17; refine Ret.calls (rpart_t hS ha hb hc hq he) ?_; clear hS; rintro r w ⟨rfl, hS⟩)
    | (go_at_call 18; refine Ret.calls (need_t hS ha hd hq2 he2) ?_; clear hS; rintro r w ⟨rfl, hS⟩)
    | (go_at_call 19; refine Ret.calls (rneed_t hS ha hd hq2 he2) ?_; clear hS; rintro r w ⟨rfl, hS⟩)
    | (go_at_call 20; refine Ret.calls (cmp_s hS ha hb hc hd hx) ?_; clear hS; rintro r w ⟨rfl, hS⟩)
    | (go_at_call 21; refine Ret.calls (rcmp_t hS ha hb hc hd hx) ?_; clear hS; rintro r w ⟨rfl, hS⟩)
    | (show wpList _ _ _ (⟨_, .binOp .eql 22 _ _ _, _, _, _, _⟩ :: _) _ _; refine wpList_val rfl (opU_eql rfl rfl rfl (r := true) (by simp)) ?_; go_frame)
    | (show wpList _ _ _ (⟨_, .binOp .eql 3 _ _ _, _, _, _, _⟩ :: _) _ _; refine wpList_val rfl (op_eqI rfl rfl rfl rfl) ?_; go_frame)
    )
  refine segQ_mk ((hS.bring (by repeat (first | exact t0 | apply tS))).getBlk) ?_
  refine ord_seg (by repeat (first | exact Clean.body | refine Clean.then ?_ | refine Clean.inBlock ?_ | refine SegQ.clean ?_ | refine FinC.clean ?_)) (n := 21) (rest := [[19, 20, 21, 22, 23, 24, 25, 26, 28, 29, 30, 31, 32, 33, 34, 35, 27, 36, 37, 38, 39]]) [10, 11, 12, 13, 14, 15, 16, 17, 18] [⟨_, _, _, _, _, _⟩, ⟨_, _, _, _, _, _⟩, ⟨_, _, _, _, _, _⟩, ⟨_, _, _, _, _, _⟩, ⟨_, _, _, _, _, _⟩, ⟨_, _, _, _, _, _⟩, ⟨_, _, _, _, _, _⟩, ⟨_, _, _, _, _, _⟩, ⟨_, _, _, _, _, _⟩] rfl (by kernel_rfl) (by simp) _ _ ?_
  go_wp2_with (first
    | go_big_skip
    | (show wpList _ _ _ (⟨_, .load 22 _, _, _, _, _⟩ :: _) _ _; refine wpList_val rfl (op_load1S oneU ((hS.bring (by repeat (first | exact t0 | apply tS)))) rfl rfl rfl) ?_; go_frame)
    | (go_at_call 11; refine Ret.calls (alive_s hS) ?_; clear hS; rintro r w ⟨rfl, hS⟩)
    | (show wpList _ _ _ (⟨_, .binOp .eql 25 _ _ _, _, _, _, _⟩ :: _) _ _; refine wpList_val rfl (op_eqI rfl rfl rfl rfl) ?_; go_frame)
    | (show wpList _ _ _ (⟨_, .box 33 _, _, _, _, _⟩ :: _) _ _; refine wpS_boxA (cs := [U a, U b, U c, U d]) hS rfl rfl rfl ?_; clear hS; intro nb w hS; go_frame)
    | (go_at_call 16; refine Ret.calls (part_t hS ha hb hc hq he) ?_; clear hS; rintro r w ⟨rfl, hS⟩)
    | (go_at_call 17; refine Ret.calls (rpart_t hS ha hb hc hq he) ?_; clear hS; rintro r w ⟨rfl, hS⟩)
    | (go_at_call 18; refine Ret.calls (need_t hS ha hd hq2 he2) ?_; clear hS; rintro r w ⟨rfl, hS⟩)
    | (go_at_call 19; refine Ret.calls (rneed_t hS ha hd hq2 he2) ?_; clear hS; rintro r w ⟨rfl, hS⟩)
    | (go_at_call 20; refine Ret.calls (cmp_s hS ha hb hc hd hx) ?_; clear hS; rintro r w ⟨rfl, hS⟩)
    | (go_at_call 21; refine Ret.calls (rcmp_t hS ha hb hc hd hx) ?_; clear hS; rintro r w ⟨rfl, hS⟩)
    | (show wpList _ _ _ (⟨_, .binOp .eql 22 _ _ _, _, _, _, _⟩ :: _) _ _; refine wpList_val rfl (opU_eql rfl rfl rfl (r := true) (by simp)) ?_; go_frame)
    | (show wpList _ _ _ (⟨_, .binOp .eql 3 _ _ _, _, _, _, _⟩ :: _) _ _; refine wpList_val rfl (op_eqI rfl rfl rfl rfl) ?_; go_frame)
    )
  refine segQ_mk ((hS.bring (by repeat (first | exact t0 | apply tS))).getBlk) ?_
  refine ord_seg (by repeat (first | exact Clean.body | refine Clean.then ?_ | refine Clean.inBlock ?_ | refine SegQ.clean ?_ | refine FinC.clean ?_)) (n := 13) (rest := [[28, 29, 30, 31, 32, 33, 34, 35, 27, 36, 37, 38, 39]]) [19, 20, 21, 22, 23, 24, 25, 26] [⟨_, _, _, _, _, _⟩, ⟨_, _, _, _, _, _⟩, ⟨_, _, _, _, _, _⟩, ⟨_, _, _, _, _, _⟩, ⟨_, _, _, _, _, _⟩, ⟨_, _, _, _, _, _⟩, ⟨_, _, _, _, _, _⟩, ⟨_, _, _, _, _, _⟩] rfl (by kernel_rfl) (by simp) _ _ ?_
  go_wp2_with (first
    | go_big_skip
    | (show wpList _ _ _ (⟨_, .load 22 _, _, _, _, _⟩ :: _) _ _; refine wpList_val rfl (op_load1S oneU ((hS.bring (by repeat (first | exact t0 | apply tS)))) rfl rfl rfl) ?_; go_frame)
    | (go_at_call 11; refine Ret.calls (alive_s hS) ?_; clear hS; rintro r w ⟨rfl, hS⟩)
    | (show wpList _ _ _ (⟨_, .binOp .eql 25 _ _ _, _, _, _, _⟩ :: _) _ _; refine wpList_val rfl (op_eqI rfl rfl rfl rfl) ?_; go_frame)
    | (show wpList _ _ _ (⟨_, .box 33 _, _, _, _, _⟩ :: _) _ _; refine wpS_boxA (cs := [U a, U b, U c, U d]) hS rfl rfl rfl ?_; clear hS; intro nb w hS; go_frame)
    | (go_at_call 16; refine Ret.calls (part_t hS ha hb hc hq he) ?_; clear hS; rintro r w ⟨rfl, hS⟩)
    | (go_at_call 17; refine Ret.calls (rpart_t hS ha hb hc hq he) ?_; clear hS; rintro r w ⟨rfl, hS⟩)
    | (go_at_call 18; refine Ret.calls (need_t hS ha hd hq2 he2) ?_; clear hS; rintro r w ⟨rfl, hS⟩)
    | (go_at_call 19; refine Ret.calls (rneed_t hS ha hd hq2 he2) ?_; clear hS; rintro r w ⟨rfl, hS⟩)
    | (go_at_call 20; refine Ret.calls (cmp_s hS ha hb hc hd hx) ?_; clear hS; rintro r w ⟨rfl, hS⟩)
    | (go_at_call 21; refine Ret.calls (rcmp_t hS ha hb hc hd hx) ?_; clear hS; rintro r w ⟨rfl, hS⟩)
    | (show wpList _ _ _ (⟨_, .binOp .eql 22 _ _ _, _, _, _, _⟩ :: _) _ _; refine wpList_val rfl (opU_eql rfl rfl rfl (r := true) (by simp)) ?_; go_frame)
    | (show wpList _ _ _ (⟨_, .binOp .eql 3 _ _ _, _, _, _, _⟩ :: _) _ _; refine wpList_val rfl (op_eqI rfl rfl rfl rfl) ?_; go_frame)
    )
  refine segQ_mk ((hS.bring (by repeat (first | exact t0 | apply tS))).getBlk) ?_
  refine ord_seg (by repeat (first | exact Clean.body | refine Clean.then ?_ | refine Clean.inBlock ?_ | refine SegQ.clean ?_ | refine FinC.clean ?_)) (n := 4) (rest := [[36, 37, 38, 39]]) [28, 29, 30, 31, 32, 33, 34, 35, 27] [⟨_, _, _, _, _, _⟩, ⟨_, _, _, _, _, _⟩, ⟨_, _, _, _, _, _⟩, ⟨_, _, _, _, _, _⟩, ⟨_, _, _, _, _, _⟩, ⟨_, _, _, _, _, _⟩, ⟨_, _, _, _, _, _⟩, ⟨_, _, _, _, _, _⟩, ⟨_, _, _, _, _, _⟩] rfl (by kernel_rfl) (by simp) _ _ ?_
  go_wp2_with (first
    | go_big_skip
    | (show wpList _ _ _ (⟨_, .load 22 _, _, _, _, _⟩ :: _) _ _; refine wpList_val rfl (op_load1S oneU ((hS.bring (by repeat (first | exact t0 | apply tS)))) rfl rfl rfl) ?_; go_frame)
    | (go_at_call 11; refine Ret.calls (alive_s hS) ?_; clear hS; rintro r w ⟨rfl, hS⟩)
    | (show wpList _ _ _ (⟨_, .binOp .eql 25 _ _ _, _, _, _, _⟩ :: _) _ _; refine wpList_val rfl (op_eqI rfl rfl rfl rfl) ?_; go_frame)
    | (show wpList _ _ _ (⟨_, .box 33 _, _, _, _, _⟩ :: _) _ _; refine wpS_boxA (cs := [U a, U b, U c, U d]) hS rfl rfl rfl ?_; clear hS; intro nb w hS; go_frame)
    | (go_at_call 16; refine Ret.calls (part_t hS ha hb hc hq he) ?_; clear hS; rintro r w ⟨rfl, hS⟩)
    | (go_at_call 17; refine Ret.calls (rpart_t hS ha hb hc hq he) ?_; clear hS; rintro r w ⟨rfl, hS⟩)
    | (go_at_call 18; refine Ret.calls (need_t hS ha hd hq2 he2) ?_; clear hS; rintro r w ⟨rfl, hS⟩)
    | (go_at_call 19; refine Ret.calls (rneed_t hS ha hd hq2 he2) ?_; clear hS; rintro r w ⟨rfl, hS⟩)
    | (go_at_call 20; refine Ret.calls (cmp_s hS ha hb hc hd hx) ?_; clear hS; rintro r w ⟨rfl, hS⟩)
    | (go_at_call 21; refine Ret.calls (rcmp_t hS ha hb hc hd hx) ?_; clear hS; rintro r w ⟨rfl, hS⟩)
    | (show wpList _ _ _ (⟨_, .binOp .eql 22 _ _ _, _, _, _, _⟩ :: _) _ _; refine wpList_val rfl (opU_eql rfl rfl rfl (r := true) (by simp)) ?_; go_frame)
    | (show wpList _ _ _ (⟨_, .binOp .eql 3 _ _ _, _, _, _, _⟩ :: _) _ _; refine wpList_val rfl (op_eqI rfl rfl rfl rfl) ?_; go_frame)
    )
  refine segQ_mk ((hS.bring (by repeat (first | exact t0 | apply tS))).getBlk) ?_
  refine ord_seg (by repeat (first | exact Clean.body | refine Clean.then ?_ | refine Clean.inBlock ?_ | refine SegQ.clean ?_ | refine FinC.clean ?_)) (n := 3) (rest := [[37, 38, 39]]) [36] [⟨_, _, _, _, _, _⟩] rfl (by kernel_rfl) (by simp) _ _ ?_
  go_wp2_with (first
    | go_big_skip
    | (show wpList _ _ _ (⟨_, .load 22 _, _, _, _, _⟩ :: _) _ _; refine wpList_val rfl (op_load1S oneU ((hS.bring (by repeat (first | exact t0 | apply tS)))) rfl rfl rfl) ?_; go_frame)
    | (go_at_call 11; refine Ret.calls (alive_s hS) ?_; clear hS; rintro r w ⟨rfl, hS⟩)
    | (show wpList _ _ _ (⟨_, .binOp .eql 25 _ _ _, _, _, _, _⟩ :: _) _ _; refine wpList_val rfl (op_eqI rfl rfl rfl rfl) ?_; go_frame)
    | (show wpList _ _ _ (⟨_, .box 33 _, _, _, _, _⟩ :: _) _ _; refine wpS_boxA (cs := [U a, U b, U c, U d]) hS rfl rfl rfl ?_; clear hS; intro nb w hS; go_frame)
    | (go_at_call 16; refine Ret.calls (part_t hS ha hb hc hq he) ?_; clear hS; rintro r w ⟨rfl, hS⟩)
    | (go_at_call 17; refine Ret.calls (rpart_t hS ha hb hc hq he) ?_; clear hS; rintro r w ⟨rfl, hS⟩)
    | (go_at_call 18; refine Ret.calls (need_t hS ha hd hq2 he2) ?_; clear hS; rintro r w ⟨rfl, hS⟩)
    | (go_at_call 19; refine Ret.calls (rneed_t hS ha hd hq2 he2) ?_; clear hS; rintro r w ⟨rfl, hS⟩)
    | (go_at_call 20; refine Ret.calls (cmp_s hS ha hb hc hd hx) ?_; clear hS; rintro r w ⟨rfl, hS⟩)
    | (go_at_call 21; refine Ret.calls (rcmp_t hS ha hb hc hd hx) ?_; clear hS; rintro r w ⟨rfl, hS⟩)
    | (show wpList _ _ _ (⟨_, .binOp .eql 22 _ _ _, _, _, _, _⟩ :: _) _ _; refine wpList_val rfl (opU_eql rfl rfl rfl (r := true) (by simp)) ?_; go_frame)
    | (show wpList _ _ _ (⟨_, .binOp .eql 3 _ _ _, _, _, _, _⟩ :: _) _ _; refine wpList_val rfl (op_eqI rfl rfl rfl rfl) ?_; go_frame)
    )
  refine segQ_mk ((hS.bring (by repeat (first | exact t0 | apply tS))).getBlk) ?_
  refine ord_seg (by repeat (first | exact Clean.body | refine Clean.then ?_ | refine Clean.inBlock ?_ | refine SegQ.clean ?_ | refine FinC.clean ?_)) (n := 0) (rest := [[]]) [37, 38, 39] [⟨_, _, _, _, _, _⟩, ⟨_, _, _, _, _, _⟩, ⟨_, _, _, _, _, _⟩] rfl (by kernel_rfl) (by simp) _ _ ?_
  go_wp2_with (first
    | go_big_skip
    | (show wpList _ _ _ (⟨_, .load 22 _, _, _, _, _⟩ :: _) _ _; refine wpList_val rfl (op_load1S oneU ((hS.bring (by repeat (first | exact t0 | apply tS)))) rfl rfl rfl) ?_; go_frame)
    | (go_at_call 11; refine Ret.calls (alive_s hS) ?_; clear hS; rintro r w ⟨rfl, hS⟩)
    | (show wpList _ _ _ (⟨_, .binOp .eql 25 _ _ _, _, _, _, _⟩ :: _) _ _; refine wpList_val rfl (op_eqI rfl rfl rfl rfl) ?_; go_frame)
    | (show wpList _ _ _ (⟨_, .box 33 _, _, _, _, _⟩ :: _) _ _; refine wpS_boxA (cs := [U a, U b, U c, U d]) hS rfl rfl rfl ?_; clear hS; intro nb w hS; go_frame)
    | (go_at_call 16; refine Ret.calls (part_t hS ha hb hc hq he) ?_; clear hS; rintro r w ⟨rfl, hS⟩)
    | (go_at_call 17; refine Ret.calls (rpart_t hS ha hb hc hq he) ?_; clear hS; rintro r w ⟨rfl, hS⟩)
    | (go_at_call 18; refine Ret.calls (need_t hS ha hd hq2 he2) ?_; clear hS; rintro r w ⟨rfl, hS⟩)
    | (go_at_call 19; refine Ret.calls (rneed_t hS ha hd hq2 he2) ?_; clear hS; rintro r w ⟨rfl, hS⟩)
    | (go_at_call 20; refine Ret.calls (cmp_s hS ha hb hc hd hx) ?_; clear hS; rintro r w ⟨rfl, hS⟩)
    | (go_at_call 21; refine Ret.calls (rcmp_t hS ha hb hc hd hx) ?_; clear hS; rintro r w ⟨rfl, hS⟩)
    | (show wpList _ _ _ (⟨_, .binOp .eql 22 _ _ _, _, _, _, _⟩ :: _) _ _; refine wpList_val rfl (opU_eql rfl rfl rfl (r := true) (by simp)) ?_; go_frame)
    | (show wpList _ _ _ (⟨_, .binOp .eql 3 _ _ _, _, _, _, _⟩ :: _) _ _; refine wpList_val rfl (op_eqI rfl rfl rfl rfl) ?_; go_frame)
    )
  refine segQ_mk ((hS.bring (by repeat (first | exact t0 | apply tS))).getBlk) ?_
  refine finC_mk (by kernel_rfl) (by
    intro t ht
    simp only [List.mem_cons, List.not_mem_nil, or_false] at ht
    rcases ht with rfl | rfl | rfl | rfl | rfl | rfl | rfl | rfl
    all_goals exact stab_blk (b := nb) (fun w h => h) _ none) ?_
  go_wp2_with fail
  go_ret
  exact ⟨rfl, hS.chg⟩
end Go.Proofs.Ytcaameljecokpaa
