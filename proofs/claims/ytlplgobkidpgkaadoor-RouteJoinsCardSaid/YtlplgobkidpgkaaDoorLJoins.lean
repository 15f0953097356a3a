/- Who joined is a successor, if there was room: the law returns true. Conditions: those that stand ahead of each theorem. -/
import Derived.Test.YtlplgobkidpgkaaDoorRlX
namespace Go.Proofs.YtlplgobkidpgkaaDoor
open Go Go.RowKit Go.Px Go.Sha
set_option maxRecDepth 100000 in
set_option maxHeartbeats 8000000 in
theorem routeJoins_w {W : World} (hK : CIn All W 1 (kTab.map W32)) (hF : CIn All W 0 (first.map W32)) {sa : List Byte} (hsa : sa.length = 32) {v : Value} {L : List (Value × RA)} (hv : AIn All W v L) (hao : ∀ x ∈ L, AOk x.2) (q : Int) :
    Calls Tryd.prog 5 #[HV sa, v, I64 q] W (Ret fun r w' => r = .bool true ∧ Chg No W w') := by
  have hS := SepL.start W
  have HSL : Hid ((sa.map B8).length = 32) := by simp [Hid, hsa]
  have HAO := hide hao
  have hok := runs_ok (L.map (·.2))
  obtain ⟨r, hr⟩ : ∃ r, runs (L.map (·.2)) = r := ⟨_, rfl⟩
  have HQ := hide hr
  rw [hr] at hok
  have HOK := hide hok
  unfold HV
  clear hr hao
  cases hg : greatR (L.map (·.2)) with
  | true =>
    have HGR := hide hg
    clear hg
    go_enter Tryd.func5, Tryd.ntmps5
    go_wp2_with (first
      | go_big_skip
      | (show wpList _ _ _ (⟨_, .box 23 _, _, _, _, _⟩ :: _) _ _; refine wpS_boxA (cs := sa.map B8) hS rfl rfl rfl ?_; clear hS; intro nh w hS; go_frame)
      | (go_at_call 10; refine Ret.calls (alive_s hS hK hF) ?_; clear hS; rintro r1 w ⟨rfl, hS⟩)
      | (go_at_call 11; refine Ret.calls (great_s hS hv HGR.out) ?_; clear hS; rintro r1 w ⟨rfl, hS⟩)
      )
    go_ret
    exact ⟨rfl, hS.chg⟩
  | false =>
    have HGR := hide hg
    clear hg hok
    obtain ⟨r2, hr2⟩ : ∃ r2, joinR r q = r2 := ⟨_, rfl⟩
    have HJ := hide hr2
    by_cases h1 : q < 0
    · have H1 : Hid (decide (q < 0) = true) := decide_eq_true h1
      have HT := same_eq (hr2.symm.trans (if_pos (.inl h1)))
      clear h1 hr2
      go_enter Tryd.func5, Tryd.ntmps5
      go_wp2_with (first
        | go_big_skip
        | (show wpList _ _ _ (⟨_, .box 23 _, _, _, _, _⟩ :: _) _ _; refine wpS_boxA (cs := sa.map B8) hS rfl rfl rfl ?_; clear hS; intro nh w hS; go_frame)
        | (go_at_call 10; refine Ret.calls (alive_s hS hK hF) ?_; clear hS; rintro r1 w ⟨rfl, hS⟩)
        | (go_at_call 11; refine Ret.calls (great_s hS hv HGR.out) ?_; clear hS; rintro r1 w ⟨rfl, hS⟩)
        | (show wpList _ _ _ (⟨_, .load 23 _, _, _, _, _⟩ :: _) _ _; refine wpList_val rfl (op_load agg32b rfl rfl (SepL.getBlk (b := nh) (T := 23) ((hS.bring (by repeat (first | exact t0 | apply tS))))).cells HSL.out) ?_; go_frame)
        | (go_at_call 12; refine Ret.calls (grown_s hS hsa hv HAO.out HGR.out) ?_; clear hS; rintro r1 w ⟨p, rfl, hS⟩; rw [HQ.out] at hS)
        | (show wpList _ _ _ (⟨some 8, .alloc _, _, _, _, _⟩ :: _) _ _; refine wpS_alloc hS rfl rfl Tryd.zeroValue29 (zs := [.int .i64 0, .int .i64 0]) rfl ?_; clear hS; intro n8 w hS; go_frame)
        | (show wpList _ _ _ (⟨some 9, .alloc _, _, _, _, _⟩ :: _) _ _; refine wpS_alloc hS rfl rfl Tryd.zeroValue29 (zs := [.int .i64 0, .int .i64 0]) rfl ?_; clear hS; intro n9 w hS; go_frame)
        | (show wpList _ _ _ (⟨_, .store 29 (.tmp 8) _, _, _, _, _⟩ :: _) _ _; (refine wpS_storeAll (b := n8) agg2 (hS.bring (by repeat (first | exact t0 | apply tS))) rfl rfl rfl (vs := [I64 r.s0, I64 r.s1]) rfl rfl (two_one _ _) rfl ?_); clear hS; intro w hS; go_frame)
        | (show wpList _ _ _ (⟨_, .store 29 (.tmp 9) _, _, _, _, _⟩ :: _) _ _; (refine wpS_storeAll (b := n9) agg2 (hS.bring (by repeat (first | exact t0 | apply tS))) rfl rfl rfl (vs := [I64 r2.s0, I64 r2.s1]) rfl rfl (two_one _ _) rfl ?_); clear hS; intro w hS; go_frame)
        | (go_at_call 13; (first | (with_reducible refine Ret.calls (succ_s (p := p) (sa := sa) (r := r) hS hsa) ?_) | (with_reducible refine Ret.calls (succ_s (p := p) (sa := sa) (r := r2) hS hsa) ?_)); clear hS; rintro r1 w ⟨rfl, hS⟩)
        | (go_at_call 16; (refine Ret.calls (joined_s (p := p) (sa := sa) (r := r) (q := q) (hS.bring (by repeat (first | exact t0 | apply tS))) hsa) ?_); clear hS; rintro r1 w hS; rw [HJ.out] at hS)
        | (show wpList _ _ _ (⟨some 26, .binOp _ _ _ _ _, _, _, _, _⟩ :: _) _ _; refine wpList_val rfl (op_ilss rfl rfl rfl H1.out) ?_; go_frame)
        | (show wpList _ _ _ (⟨_, .indexAddr _ (.tmp 8) (.const (.int .i64 0)), _, _, _, _⟩ :: _) _ _; refine wpList_val rfl (op_indexArrZ arr2i rfl (b := n8) (off := 0) rfl rfl 0 rfl (by omega)) ?_; go_frame)
        | (show wpList _ _ _ (⟨_, .indexAddr _ (.tmp 8) (.const (.int .i64 1)), _, _, _, _⟩ :: _) _ _; refine wpList_val rfl (op_indexArrZ arr2i rfl (b := n8) (off := 0) rfl rfl 1 rfl (by omega)) ?_; go_frame)
        | (show wpList _ _ _ (⟨_, .load 3 _, _, _, _, _⟩ :: _) _ _; refine wpList_val rfl (op_load1S (b := n8) (T := 29) oneInt ((hS.bring (by repeat (first | exact t0 | apply tS)))) rfl rfl rfl) ?_; go_frame)
        | (show wpList _ _ _ (⟨some 31, .binOp _ _ _ _ _, _, _, _, _⟩ :: _) _ _; refine wpList_val rfl (op_eqI' rfl rfl rfl H2.out) ?_; go_frame)
        | (show wpList _ _ _ (⟨some 37, .binOp _ _ _ _ _, _, _, _, _⟩ :: _) _ _; refine wpList_val rfl (op_eqI' rfl rfl rfl H3.out) ?_; go_frame)
        | (show wpList _ _ _ (⟨some 45, .binOp _ _ _ _ _, _, _, _, _⟩ :: _) _ _; refine wpList_val rfl (op_eqI' rfl rfl rfl H4.out) ?_; go_frame)
        | (show wpList _ _ _ (⟨some 55, .binOp _ _ _ _ _, _, _, _, _⟩ :: _) _ _; refine wpList_val rfl (op_eqI' rfl rfl rfl H5.out) ?_; go_frame)
        | (show wpList _ _ _ (⟨_, .load 29 (.tmp 8), _, _, _, _⟩ :: _) _ _; refine wpList_val rfl (op_load agg2 rfl rfl (SepL.getBlk (b := n8) (T := 29) ((hS.bring (by repeat (first | exact t0 | apply tS))))).cells rfl) ?_; go_frame)
        | (show wpList _ _ _ (⟨_, .load 29 (.tmp 9), _, _, _, _⟩ :: _) _ _; refine wpList_val rfl (op_load agg2 rfl rfl (SepL.getBlk (b := n9) (T := 29) ((hS.bring (by repeat (first | exact t0 | apply tS))))).cells rfl) ?_; go_frame)
        | (show wpList _ _ _ (⟨some 50, .build _ _, _, _, _, _⟩ :: _) _ _; refine wpList_val rfl (op_build (ps := #[(0, .int .i64 q), (1, .int .i64 r.s1)]) rfl rfl (buildSucc q r.s1) _) ?_; go_frame)
        | (show wpList _ _ _ (⟨some 60, .build _ _, _, _, _, _⟩ :: _) _ _; refine wpList_val rfl (op_build (ps := #[(0, .int .i64 r.s0), (1, .int .i64 q)]) rfl rfl (buildSucc r.s0 q) _) ?_; go_frame)
        | (show wpList _ _ _ (⟨_, .binOp .eql 29 _ _ _, _, _, _, _⟩ :: _) _ _; refine wpList_val rfl (op_eqP rfl rfl rfl HT.out) ?_; go_frame)
        )
      go_ret
      exact ⟨rfl, hS.chg⟩
    have H1 : Hid (decide (q < 0) = false) := decide_eq_false h1
    by_cases h2 : r.s0 = q
    · have H2 := eqT h2
      have HT := same_eq (hr2.symm.trans (if_pos (.inr (.inl h2))))
      clear h1 h2 hr2
      go_enter Tryd.func5, Tryd.ntmps5
      go_wp2_with (first
        | go_big_skip
        | (show wpList _ _ _ (⟨_, .box 23 _, _, _, _, _⟩ :: _) _ _; refine wpS_boxA (cs := sa.map B8) hS rfl rfl rfl ?_; clear hS; intro nh w hS; go_frame)
        | (go_at_call 10; refine Ret.calls (alive_s hS hK hF) ?_; clear hS; rintro r1 w ⟨rfl, hS⟩)
        | (go_at_call 11; refine Ret.calls (great_s hS hv HGR.out) ?_; clear hS; rintro r1 w ⟨rfl, hS⟩)
        | (show wpList _ _ _ (⟨_, .load 23 _, _, _, _, _⟩ :: _) _ _; refine wpList_val rfl (op_load agg32b rfl rfl (SepL.getBlk (b := nh) (T := 23) ((hS.bring (by repeat (first | exact t0 | apply tS))))).cells HSL.out) ?_; go_frame)
        | (go_at_call 12; refine Ret.calls (grown_s hS hsa hv HAO.out HGR.out) ?_; clear hS; rintro r1 w ⟨p, rfl, hS⟩; rw [HQ.out] at hS)
        | (show wpList _ _ _ (⟨some 8, .alloc _, _, _, _, _⟩ :: _) _ _; refine wpS_alloc hS rfl rfl Tryd.zeroValue29 (zs := [.int .i64 0, .int .i64 0]) rfl ?_; clear hS; intro n8 w hS; go_frame)
        | (show wpList _ _ _ (⟨some 9, .alloc _, _, _, _, _⟩ :: _) _ _; refine wpS_alloc hS rfl rfl Tryd.zeroValue29 (zs := [.int .i64 0, .int .i64 0]) rfl ?_; clear hS; intro n9 w hS; go_frame)
        | (show wpList _ _ _ (⟨_, .store 29 (.tmp 8) _, _, _, _, _⟩ :: _) _ _; (refine wpS_storeAll (b := n8) agg2 (hS.bring (by repeat (first | exact t0 | apply tS))) rfl rfl rfl (vs := [I64 r.s0, I64 r.s1]) rfl rfl (two_one _ _) rfl ?_); clear hS; intro w hS; go_frame)
        | (show wpList _ _ _ (⟨_, .store 29 (.tmp 9) _, _, _, _, _⟩ :: _) _ _; (refine wpS_storeAll (b := n9) agg2 (hS.bring (by repeat (first | exact t0 | apply tS))) rfl rfl rfl (vs := [I64 r2.s0, I64 r2.s1]) rfl rfl (two_one _ _) rfl ?_); clear hS; intro w hS; go_frame)
        | (go_at_call 13; (first | (with_reducible refine Ret.calls (succ_s (p := p) (sa := sa) (r := r) hS hsa) ?_) | (with_reducible refine Ret.calls (succ_s (p := p) (sa := sa) (r := r2) hS hsa) ?_)); clear hS; rintro r1 w ⟨rfl, hS⟩)
        | (go_at_call 16; (refine Ret.calls (joined_s (p := p) (sa := sa) (r := r) (q := q) (hS.bring (by repeat (first | exact t0 | apply tS))) hsa) ?_); clear hS; rintro r1 w hS; rw [HJ.out] at hS)
        | (show wpList _ _ _ (⟨some 26, .binOp _ _ _ _ _, _, _, _, _⟩ :: _) _ _; refine wpList_val rfl (op_ilss rfl rfl rfl H1.out) ?_; go_frame)
        | (show wpList _ _ _ (⟨_, .indexAddr _ (.tmp 8) (.const (.int .i64 0)), _, _, _, _⟩ :: _) _ _; refine wpList_val rfl (op_indexArrZ arr2i rfl (b := n8) (off := 0) rfl rfl 0 rfl (by omega)) ?_; go_frame)
        | (show wpList _ _ _ (⟨_, .indexAddr _ (.tmp 8) (.const (.int .i64 1)), _, _, _, _⟩ :: _) _ _; refine wpList_val rfl (op_indexArrZ arr2i rfl (b := n8) (off := 0) rfl rfl 1 rfl (by omega)) ?_; go_frame)
        | (show wpList _ _ _ (⟨_, .load 3 _, _, _, _, _⟩ :: _) _ _; refine wpList_val rfl (op_load1S (b := n8) (T := 29) oneInt ((hS.bring (by repeat (first | exact t0 | apply tS)))) rfl rfl rfl) ?_; go_frame)
        | (show wpList _ _ _ (⟨some 31, .binOp _ _ _ _ _, _, _, _, _⟩ :: _) _ _; refine wpList_val rfl (op_eqI' rfl rfl rfl H2.out) ?_; go_frame)
        | (show wpList _ _ _ (⟨some 37, .binOp _ _ _ _ _, _, _, _, _⟩ :: _) _ _; refine wpList_val rfl (op_eqI' rfl rfl rfl H3.out) ?_; go_frame)
        | (show wpList _ _ _ (⟨some 45, .binOp _ _ _ _ _, _, _, _, _⟩ :: _) _ _; refine wpList_val rfl (op_eqI' rfl rfl rfl H4.out) ?_; go_frame)
        | (show wpList _ _ _ (⟨some 55, .binOp _ _ _ _ _, _, _, _, _⟩ :: _) _ _; refine wpList_val rfl (op_eqI' rfl rfl rfl H5.out) ?_; go_frame)
        | (show wpList _ _ _ (⟨_, .load 29 (.tmp 8), _, _, _, _⟩ :: _) _ _; refine wpList_val rfl (op_load agg2 rfl rfl (SepL.getBlk (b := n8) (T := 29) ((hS.bring (by repeat (first | exact t0 | apply tS))))).cells rfl) ?_; go_frame)
        | (show wpList _ _ _ (⟨_, .load 29 (.tmp 9), _, _, _, _⟩ :: _) _ _; refine wpList_val rfl (op_load agg2 rfl rfl (SepL.getBlk (b := n9) (T := 29) ((hS.bring (by repeat (first | exact t0 | apply tS))))).cells rfl) ?_; go_frame)
        | (show wpList _ _ _ (⟨some 50, .build _ _, _, _, _, _⟩ :: _) _ _; refine wpList_val rfl (op_build (ps := #[(0, .int .i64 q), (1, .int .i64 r.s1)]) rfl rfl (buildSucc q r.s1) _) ?_; go_frame)
        | (show wpList _ _ _ (⟨some 60, .build _ _, _, _, _, _⟩ :: _) _ _; refine wpList_val rfl (op_build (ps := #[(0, .int .i64 r.s0), (1, .int .i64 q)]) rfl rfl (buildSucc r.s0 q) _) ?_; go_frame)
        | (show wpList _ _ _ (⟨_, .binOp .eql 29 _ _ _, _, _, _, _⟩ :: _) _ _; refine wpList_val rfl (op_eqP rfl rfl rfl HT.out) ?_; go_frame)
        )
      go_ret
      exact ⟨rfl, hS.chg⟩
    have H2 := eqF h2
    by_cases h3 : r.s1 = q
    · have H3 := eqT h3
      have HT := same_eq (hr2.symm.trans (if_pos (.inr (.inr h3))))
      clear h1 h2 h3 hr2
      go_enter Tryd.func5, Tryd.ntmps5
      go_wp2_with (first
        | go_big_skip
        | (show wpList _ _ _ (⟨_, .box 23 _, _, _, _, _⟩ :: _) _ _; refine wpS_boxA (cs := sa.map B8) hS rfl rfl rfl ?_; clear hS; intro nh w hS; go_frame)
        | (go_at_call 10; refine Ret.calls (alive_s hS hK hF) ?_; clear hS; rintro r1 w ⟨rfl, hS⟩)
        | (go_at_call 11; refine Ret.calls (great_s hS hv HGR.out) ?_; clear hS; rintro r1 w ⟨rfl, hS⟩)
        | (show wpList _ _ _ (⟨_, .load 23 _, _, _, _, _⟩ :: _) _ _; refine wpList_val rfl (op_load agg32b rfl rfl (SepL.getBlk (b := nh) (T := 23) ((hS.bring (by repeat (first | exact t0 | apply tS))))).cells HSL.out) ?_; go_frame)
        | (go_at_call 12; refine Ret.calls (grown_s hS hsa hv HAO.out HGR.out) ?_; clear hS; rintro r1 w ⟨p, rfl, hS⟩; rw [HQ.out] at hS)
        | (show wpList _ _ _ (⟨some 8, .alloc _, _, _, _, _⟩ :: _) _ _; refine wpS_alloc hS rfl rfl Tryd.zeroValue29 (zs := [.int .i64 0, .int .i64 0]) rfl ?_; clear hS; intro n8 w hS; go_frame)
        | (show wpList _ _ _ (⟨some 9, .alloc _, _, _, _, _⟩ :: _) _ _; refine wpS_alloc hS rfl rfl Tryd.zeroValue29 (zs := [.int .i64 0, .int .i64 0]) rfl ?_; clear hS; intro n9 w hS; go_frame)
        | (show wpList _ _ _ (⟨_, .store 29 (.tmp 8) _, _, _, _, _⟩ :: _) _ _; (refine wpS_storeAll (b := n8) agg2 (hS.bring (by repeat (first | exact t0 | apply tS))) rfl rfl rfl (vs := [I64 r.s0, I64 r.s1]) rfl rfl (two_one _ _) rfl ?_); clear hS; intro w hS; go_frame)
        | (show wpList _ _ _ (⟨_, .store 29 (.tmp 9) _, _, _, _, _⟩ :: _) _ _; (refine wpS_storeAll (b := n9) agg2 (hS.bring (by repeat (first | exact t0 | apply tS))) rfl rfl rfl (vs := [I64 r2.s0, I64 r2.s1]) rfl rfl (two_one _ _) rfl ?_); clear hS; intro w hS; go_frame)
        | (go_at_call 13; (first | (with_reducible refine Ret.calls (succ_s (p := p) (sa := sa) (r := r) hS hsa) ?_) | (with_reducible refine Ret.calls (succ_s (p := p) (sa := sa) (r := r2) hS hsa) ?_)); clear hS; rintro r1 w ⟨rfl, hS⟩)
        | (go_at_call 16; (refine Ret.calls (joined_s (p := p) (sa := sa) (r := r) (q := q) (hS.bring (by repeat (first | exact t0 | apply tS))) hsa) ?_); clear hS; rintro r1 w hS; rw [HJ.out] at hS)
        | (show wpList _ _ _ (⟨some 26, .binOp _ _ _ _ _, _, _, _, _⟩ :: _) _ _; refine wpList_val rfl (op_ilss rfl rfl rfl H1.out) ?_; go_frame)
        | (show wpList _ _ _ (⟨_, .indexAddr _ (.tmp 8) (.const (.int .i64 0)), _, _, _, _⟩ :: _) _ _; refine wpList_val rfl (op_indexArrZ arr2i rfl (b := n8) (off := 0) rfl rfl 0 rfl (by omega)) ?_; go_frame)
        | (show wpList _ _ _ (⟨_, .indexAddr _ (.tmp 8) (.const (.int .i64 1)), _, _, _, _⟩ :: _) _ _; refine wpList_val rfl (op_indexArrZ arr2i rfl (b := n8) (off := 0) rfl rfl 1 rfl (by omega)) ?_; go_frame)
        | (show wpList _ _ _ (⟨_, .load 3 _, _, _, _, _⟩ :: _) _ _; refine wpList_val rfl (op_load1S (b := n8) (T := 29) oneInt ((hS.bring (by repeat (first | exact t0 | apply tS)))) rfl rfl rfl) ?_; go_frame)
        | (show wpList _ _ _ (⟨some 31, .binOp _ _ _ _ _, _, _, _, _⟩ :: _) _ _; refine wpList_val rfl (op_eqI' rfl rfl rfl H2.out) ?_; go_frame)
        | (show wpList _ _ _ (⟨some 37, .binOp _ _ _ _ _, _, _, _, _⟩ :: _) _ _; refine wpList_val rfl (op_eqI' rfl rfl rfl H3.out) ?_; go_frame)
        | (show wpList _ _ _ (⟨some 45, .binOp _ _ _ _ _, _, _, _, _⟩ :: _) _ _; refine wpList_val rfl (op_eqI' rfl rfl rfl H4.out) ?_; go_frame)
        | (show wpList _ _ _ (⟨some 55, .binOp _ _ _ _ _, _, _, _, _⟩ :: _) _ _; refine wpList_val rfl (op_eqI' rfl rfl rfl H5.out) ?_; go_frame)
        | (show wpList _ _ _ (⟨_, .load 29 (.tmp 8), _, _, _, _⟩ :: _) _ _; refine wpList_val rfl (op_load agg2 rfl rfl (SepL.getBlk (b := n8) (T := 29) ((hS.bring (by repeat (first | exact t0 | apply tS))))).cells rfl) ?_; go_frame)
        | (show wpList _ _ _ (⟨_, .load 29 (.tmp 9), _, _, _, _⟩ :: _) _ _; refine wpList_val rfl (op_load agg2 rfl rfl (SepL.getBlk (b := n9) (T := 29) ((hS.bring (by repeat (first | exact t0 | apply tS))))).cells rfl) ?_; go_frame)
        | (show wpList _ _ _ (⟨some 50, .build _ _, _, _, _, _⟩ :: _) _ _; refine wpList_val rfl (op_build (ps := #[(0, .int .i64 q), (1, .int .i64 r.s1)]) rfl rfl (buildSucc q r.s1) _) ?_; go_frame)
        | (show wpList _ _ _ (⟨some 60, .build _ _, _, _, _, _⟩ :: _) _ _; refine wpList_val rfl (op_build (ps := #[(0, .int .i64 r.s0), (1, .int .i64 q)]) rfl rfl (buildSucc r.s0 q) _) ?_; go_frame)
        | (show wpList _ _ _ (⟨_, .binOp .eql 29 _ _ _, _, _, _, _⟩ :: _) _ _; refine wpList_val rfl (op_eqP rfl rfl rfl HT.out) ?_; go_frame)
        )
      go_ret
      exact ⟨rfl, hS.chg⟩
    have H3 := eqF h3
    have h12 : ¬ (q < 0 ∨ r.s0 = q ∨ r.s1 = q) := by
      rintro (h | h | h)
      · exact h1 h
      · exact h2 h
      · exact h3 h
    unfold joinR at hr2
    rw [if_neg h12] at hr2
    by_cases h4 : r.s0 = -1
    · have H4 := eqT h4
      rw [if_pos h4] at hr2
      have HT : Hid ((r2.s0 == q && r2.s1 == r.s1) = true) := by
        rw [← hr2]
        simp [Hid]
      clear h1 h2 h3 h4 h12 hr2
      go_enter Tryd.func5, Tryd.ntmps5
      go_wp2_with (first
        | go_big_skip
        | (show wpList _ _ _ (⟨_, .box 23 _, _, _, _, _⟩ :: _) _ _; refine wpS_boxA (cs := sa.map B8) hS rfl rfl rfl ?_; clear hS; intro nh w hS; go_frame)
        | (go_at_call 10; refine Ret.calls (alive_s hS hK hF) ?_; clear hS; rintro r1 w ⟨rfl, hS⟩)
        | (go_at_call 11; refine Ret.calls (great_s hS hv HGR.out) ?_; clear hS; rintro r1 w ⟨rfl, hS⟩)
        | (show wpList _ _ _ (⟨_, .load 23 _, _, _, _, _⟩ :: _) _ _; refine wpList_val rfl (op_load agg32b rfl rfl (SepL.getBlk (b := nh) (T := 23) ((hS.bring (by repeat (first | exact t0 | apply tS))))).cells HSL.out) ?_; go_frame)
        | (go_at_call 12; refine Ret.calls (grown_s hS hsa hv HAO.out HGR.out) ?_; clear hS; rintro r1 w ⟨p, rfl, hS⟩; rw [HQ.out] at hS)
        | (show wpList _ _ _ (⟨some 8, .alloc _, _, _, _, _⟩ :: _) _ _; refine wpS_alloc hS rfl rfl Tryd.zeroValue29 (zs := [.int .i64 0, .int .i64 0]) rfl ?_; clear hS; intro n8 w hS; go_frame)
        | (show wpList _ _ _ (⟨some 9, .alloc _, _, _, _, _⟩ :: _) _ _; refine wpS_alloc hS rfl rfl Tryd.zeroValue29 (zs := [.int .i64 0, .int .i64 0]) rfl ?_; clear hS; intro n9 w hS; go_frame)
        | (show wpList _ _ _ (⟨_, .store 29 (.tmp 8) _, _, _, _, _⟩ :: _) _ _; (refine wpS_storeAll (b := n8) agg2 (hS.bring (by repeat (first | exact t0 | apply tS))) rfl rfl rfl (vs := [I64 r.s0, I64 r.s1]) rfl rfl (two_one _ _) rfl ?_); clear hS; intro w hS; go_frame)
        | (show wpList _ _ _ (⟨_, .store 29 (.tmp 9) _, _, _, _, _⟩ :: _) _ _; (refine wpS_storeAll (b := n9) agg2 (hS.bring (by repeat (first | exact t0 | apply tS))) rfl rfl rfl (vs := [I64 r2.s0, I64 r2.s1]) rfl rfl (two_one _ _) rfl ?_); clear hS; intro w hS; go_frame)
        | (go_at_call 13; (first | (with_reducible refine Ret.calls (succ_s (p := p) (sa := sa) (r := r) hS hsa) ?_) | (with_reducible refine Ret.calls (succ_s (p := p) (sa := sa) (r := r2) hS hsa) ?_)); clear hS; rintro r1 w ⟨rfl, hS⟩)
        | (go_at_call 16; (refine Ret.calls (joined_s (p := p) (sa := sa) (r := r) (q := q) (hS.bring (by repeat (first | exact t0 | apply tS))) hsa) ?_); clear hS; rintro r1 w hS; rw [HJ.out] at hS)
        | (show wpList _ _ _ (⟨some 26, .binOp _ _ _ _ _, _, _, _, _⟩ :: _) _ _; refine wpList_val rfl (op_ilss rfl rfl rfl H1.out) ?_; go_frame)
        | (show wpList _ _ _ (⟨_, .indexAddr _ (.tmp 8) (.const (.int .i64 0)), _, _, _, _⟩ :: _) _ _; refine wpList_val rfl (op_indexArrZ arr2i rfl (b := n8) (off := 0) rfl rfl 0 rfl (by omega)) ?_; go_frame)
        | (show wpList _ _ _ (⟨_, .indexAddr _ (.tmp 8) (.const (.int .i64 1)), _, _, _, _⟩ :: _) _ _; refine wpList_val rfl (op_indexArrZ arr2i rfl (b := n8) (off := 0) rfl rfl 1 rfl (by omega)) ?_; go_frame)
        | (show wpList _ _ _ (⟨_, .load 3 _, _, _, _, _⟩ :: _) _ _; refine wpList_val rfl (op_load1S (b := n8) (T := 29) oneInt ((hS.bring (by repeat (first | exact t0 | apply tS)))) rfl rfl rfl) ?_; go_frame)
        | (show wpList _ _ _ (⟨some 31, .binOp _ _ _ _ _, _, _, _, _⟩ :: _) _ _; refine wpList_val rfl (op_eqI' rfl rfl rfl H2.out) ?_; go_frame)
        | (show wpList _ _ _ (⟨some 37, .binOp _ _ _ _ _, _, _, _, _⟩ :: _) _ _; refine wpList_val rfl (op_eqI' rfl rfl rfl H3.out) ?_; go_frame)
        | (show wpList _ _ _ (⟨some 45, .binOp _ _ _ _ _, _, _, _, _⟩ :: _) _ _; refine wpList_val rfl (op_eqI' rfl rfl rfl H4.out) ?_; go_frame)
        | (show wpList _ _ _ (⟨some 55, .binOp _ _ _ _ _, _, _, _, _⟩ :: _) _ _; refine wpList_val rfl (op_eqI' rfl rfl rfl H5.out) ?_; go_frame)
        | (show wpList _ _ _ (⟨_, .load 29 (.tmp 8), _, _, _, _⟩ :: _) _ _; refine wpList_val rfl (op_load agg2 rfl rfl (SepL.getBlk (b := n8) (T := 29) ((hS.bring (by repeat (first | exact t0 | apply tS))))).cells rfl) ?_; go_frame)
        | (show wpList _ _ _ (⟨_, .load 29 (.tmp 9), _, _, _, _⟩ :: _) _ _; refine wpList_val rfl (op_load agg2 rfl rfl (SepL.getBlk (b := n9) (T := 29) ((hS.bring (by repeat (first | exact t0 | apply tS))))).cells rfl) ?_; go_frame)
        | (show wpList _ _ _ (⟨some 50, .build _ _, _, _, _, _⟩ :: _) _ _; refine wpList_val rfl (op_build (ps := #[(0, .int .i64 q), (1, .int .i64 r.s1)]) rfl rfl (buildSucc q r.s1) _) ?_; go_frame)
        | (show wpList _ _ _ (⟨some 60, .build _ _, _, _, _, _⟩ :: _) _ _; refine wpList_val rfl (op_build (ps := #[(0, .int .i64 r.s0), (1, .int .i64 q)]) rfl rfl (buildSucc r.s0 q) _) ?_; go_frame)
        | (show wpList _ _ _ (⟨_, .binOp .eql 29 _ _ _, _, _, _, _⟩ :: _) _ _; refine wpList_val rfl (op_eqP rfl rfl rfl HT.out) ?_; go_frame)
        )
      go_ret
      exact ⟨rfl, hS.chg⟩
    have H4 := eqF h4
    rw [if_neg h4] at hr2
    by_cases h5 : r.s1 = -1
    · have H5 := eqT h5
      rw [if_pos h5] at hr2
      have HT : Hid ((r2.s0 == r.s0 && r2.s1 == q) = true) := by
        rw [← hr2]
        simp [Hid]
      clear h1 h2 h3 h4 h5 h12 hr2
      go_enter Tryd.func5, Tryd.ntmps5
      go_wp2_with (first
        | go_big_skip
        | (show wpList _ _ _ (⟨_, .box 23 _, _, _, _, _⟩ :: _) _ _; refine wpS_boxA (cs := sa.map B8) hS rfl rfl rfl ?_; clear hS; intro nh w hS; go_frame)
        | (go_at_call 10; refine Ret.calls (alive_s hS hK hF) ?_; clear hS; rintro r1 w ⟨rfl, hS⟩)
        | (go_at_call 11; refine Ret.calls (great_s hS hv HGR.out) ?_; clear hS; rintro r1 w ⟨rfl, hS⟩)
        | (show wpList _ _ _ (⟨_, .load 23 _, _, _, _, _⟩ :: _) _ _; refine wpList_val rfl (op_load agg32b rfl rfl (SepL.getBlk (b := nh) (T := 23) ((hS.bring (by repeat (first | exact t0 | apply tS))))).cells HSL.out) ?_; go_frame)
        | (go_at_call 12; refine Ret.calls (grown_s hS hsa hv HAO.out HGR.out) ?_; clear hS; rintro r1 w ⟨p, rfl, hS⟩; rw [HQ.out] at hS)
        | (show wpList _ _ _ (⟨some 8, .alloc _, _, _, _, _⟩ :: _) _ _; refine wpS_alloc hS rfl rfl Tryd.zeroValue29 (zs := [.int .i64 0, .int .i64 0]) rfl ?_; clear hS; intro n8 w hS; go_frame)
        | (show wpList _ _ _ (⟨some 9, .alloc _, _, _, _, _⟩ :: _) _ _; refine wpS_alloc hS rfl rfl Tryd.zeroValue29 (zs := [.int .i64 0, .int .i64 0]) rfl ?_; clear hS; intro n9 w hS; go_frame)
        | (show wpList _ _ _ (⟨_, .store 29 (.tmp 8) _, _, _, _, _⟩ :: _) _ _; (refine wpS_storeAll (b := n8) agg2 (hS.bring (by repeat (first | exact t0 | apply tS))) rfl rfl rfl (vs := [I64 r.s0, I64 r.s1]) rfl rfl (two_one _ _) rfl ?_); clear hS; intro w hS; go_frame)
        | (show wpList _ _ _ (⟨_, .store 29 (.tmp 9) _, _, _, _, _⟩ :: _) _ _; (refine wpS_storeAll (b := n9) agg2 (hS.bring (by repeat (first | exact t0 | apply tS))) rfl rfl rfl (vs := [I64 r2.s0, I64 r2.s1]) rfl rfl (two_one _ _) rfl ?_); clear hS; intro w hS; go_frame)
        | (go_at_call 13; (first | (with_reducible refine Ret.calls (succ_s (p := p) (sa := sa) (r := r) hS hsa) ?_) | (with_reducible refine Ret.calls (succ_s (p := p) (sa := sa) (r := r2) hS hsa) ?_)); clear hS; rintro r1 w ⟨rfl, hS⟩)
        | (go_at_call 16; (refine Ret.calls (joined_s (p := p) (sa := sa) (r := r) (q := q) (hS.bring (by repeat (first | exact t0 | apply tS))) hsa) ?_); clear hS; rintro r1 w hS; rw [HJ.out] at hS)
        | (show wpList _ _ _ (⟨some 26, .binOp _ _ _ _ _, _, _, _, _⟩ :: _) _ _; refine wpList_val rfl (op_ilss rfl rfl rfl H1.out) ?_; go_frame)
        | (show wpList _ _ _ (⟨_, .indexAddr _ (.tmp 8) (.const (.int .i64 0)), _, _, _, _⟩ :: _) _ _; refine wpList_val rfl (op_indexArrZ arr2i rfl (b := n8) (off := 0) rfl rfl 0 rfl (by omega)) ?_; go_frame)
        | (show wpList _ _ _ (⟨_, .indexAddr _ (.tmp 8) (.const (.int .i64 1)), _, _, _, _⟩ :: _) _ _; refine wpList_val rfl (op_indexArrZ arr2i rfl (b := n8) (off := 0) rfl rfl 1 rfl (by omega)) ?_; go_frame)
        | (show wpList _ _ _ (⟨_, .load 3 _, _, _, _, _⟩ :: _) _ _; refine wpList_val rfl (op_load1S (b := n8) (T := 29) oneInt ((hS.bring (by repeat (first | exact t0 | apply tS)))) rfl rfl rfl) ?_; go_frame)
        | (show wpList _ _ _ (⟨some 31, .binOp _ _ _ _ _, _, _, _, _⟩ :: _) _ _; refine wpList_val rfl (op_eqI' rfl rfl rfl H2.out) ?_; go_frame)
        | (show wpList _ _ _ (⟨some 37, .binOp _ _ _ _ _, _, _, _, _⟩ :: _) _ _; refine wpList_val rfl (op_eqI' rfl rfl rfl H3.out) ?_; go_frame)
        | (show wpList _ _ _ (⟨some 45, .binOp _ _ _ _ _, _, _, _, _⟩ :: _) _ _; refine wpList_val rfl (op_eqI' rfl rfl rfl H4.out) ?_; go_frame)
        | (show wpList _ _ _ (⟨some 55, .binOp _ _ _ _ _, _, _, _, _⟩ :: _) _ _; refine wpList_val rfl (op_eqI' rfl rfl rfl H5.out) ?_; go_frame)
        | (show wpList _ _ _ (⟨_, .load 29 (.tmp 8), _, _, _, _⟩ :: _) _ _; refine wpList_val rfl (op_load agg2 rfl rfl (SepL.getBlk (b := n8) (T := 29) ((hS.bring (by repeat (first | exact t0 | apply tS))))).cells rfl) ?_; go_frame)
        | (show wpList _ _ _ (⟨_, .load 29 (.tmp 9), _, _, _, _⟩ :: _) _ _; refine wpList_val rfl (op_load agg2 rfl rfl (SepL.getBlk (b := n9) (T := 29) ((hS.bring (by repeat (first | exact t0 | apply tS))))).cells rfl) ?_; go_frame)
        | (show wpList _ _ _ (⟨some 50, .build _ _, _, _, _, _⟩ :: _) _ _; refine wpList_val rfl (op_build (ps := #[(0, .int .i64 q), (1, .int .i64 r.s1)]) rfl rfl (buildSucc q r.s1) _) ?_; go_frame)
        | (show wpList _ _ _ (⟨some 60, .build _ _, _, _, _, _⟩ :: _) _ _; refine wpList_val rfl (op_build (ps := #[(0, .int .i64 r.s0), (1, .int .i64 q)]) rfl rfl (buildSucc r.s0 q) _) ?_; go_frame)
        | (show wpList _ _ _ (⟨_, .binOp .eql 29 _ _ _, _, _, _, _⟩ :: _) _ _; refine wpList_val rfl (op_eqP rfl rfl rfl HT.out) ?_; go_frame)
        )
      go_ret
      exact ⟨rfl, hS.chg⟩
    have H5 := eqF h5
    rw [if_neg h5] at hr2
    have HT := same_eq hr2.symm
    clear h1 h2 h3 h4 h5 h12 hr2
    go_enter Tryd.func5, Tryd.ntmps5
    go_wp2_with (first
      | go_big_skip
      | (show wpList _ _ _ (⟨_, .box 23 _, _, _, _, _⟩ :: _) _ _; refine wpS_boxA (cs := sa.map B8) hS rfl rfl rfl ?_; clear hS; intro nh w hS; go_frame)
      | (go_at_call 10; refine Ret.calls (alive_s hS hK hF) ?_; clear hS; rintro r1 w ⟨rfl, hS⟩)
      | (go_at_call 11; refine Ret.calls (great_s hS hv HGR.out) ?_; clear hS; rintro r1 w ⟨rfl, hS⟩)
      | (show wpList _ _ _ (⟨_, .load 23 _, _, _, _, _⟩ :: _) _ _; refine wpList_val rfl (op_load agg32b rfl rfl (SepL.getBlk (b := nh) (T := 23) ((hS.bring (by repeat (first | exact t0 | apply tS))))).cells HSL.out) ?_; go_frame)
      | (go_at_call 12; refine Ret.calls (grown_s hS hsa hv HAO.out HGR.out) ?_; clear hS; rintro r1 w ⟨p, rfl, hS⟩; rw [HQ.out] at hS)
      | (show wpList _ _ _ (⟨some 8, .alloc _, _, _, _, _⟩ :: _) _ _; refine wpS_alloc hS rfl rfl Tryd.zeroValue29 (zs := [.int .i64 0, .int .i64 0]) rfl ?_; clear hS; intro n8 w hS; go_frame)
      | (show wpList _ _ _ (⟨some 9, .alloc _, _, _, _, _⟩ :: _) _ _; refine wpS_alloc hS rfl rfl Tryd.zeroValue29 (zs := [.int .i64 0, .int .i64 0]) rfl ?_; clear hS; intro n9 w hS; go_frame)
      | (show wpList _ _ _ (⟨_, .store 29 (.tmp 8) _, _, _, _, _⟩ :: _) _ _; (refine wpS_storeAll (b := n8) agg2 (hS.bring (by repeat (first | exact t0 | apply tS))) rfl rfl rfl (vs := [I64 r.s0, I64 r.s1]) rfl rfl (two_one _ _) rfl ?_); clear hS; intro w hS; go_frame)
      | (show wpList _ _ _ (⟨_, .store 29 (.tmp 9) _, _, _, _, _⟩ :: _) _ _; (refine wpS_storeAll (b := n9) agg2 (hS.bring (by repeat (first | exact t0 | apply tS))) rfl rfl rfl (vs := [I64 r2.s0, I64 r2.s1]) rfl rfl (two_one _ _) rfl ?_); clear hS; intro w hS; go_frame)
      | (go_at_call 13; (first | (with_reducible refine Ret.calls (succ_s (p := p) (sa := sa) (r := r) hS hsa) ?_) | (with_reducible refine Ret.calls (succ_s (p := p) (sa := sa) (r := r2) hS hsa) ?_)); clear hS; rintro r1 w ⟨rfl, hS⟩)
      | (go_at_call 16; (refine Ret.calls (joined_s (p := p) (sa := sa) (r := r) (q := q) (hS.bring (by repeat (first | exact t0 | apply tS))) hsa) ?_); clear hS; rintro r1 w hS; rw [HJ.out] at hS)
      | (show wpList _ _ _ (⟨some 26, .binOp _ _ _ _ _, _, _, _, _⟩ :: _) _ _; refine wpList_val rfl (op_ilss rfl rfl rfl H1.out) ?_; go_frame)
      | (show wpList _ _ _ (⟨_, .indexAddr _ (.tmp 8) (.const (.int .i64 0)), _, _, _, _⟩ :: _) _ _; refine wpList_val rfl (op_indexArrZ arr2i rfl (b := n8) (off := 0) rfl rfl 0 rfl (by omega)) ?_; go_frame)
      | (show wpList _ _ _ (⟨_, .indexAddr _ (.tmp 8) (.const (.int .i64 1)), _, _, _, _⟩ :: _) _ _; refine wpList_val rfl (op_indexArrZ arr2i rfl (b := n8) (off := 0) rfl rfl 1 rfl (by omega)) ?_; go_frame)
      | (show wpList _ _ _ (⟨_, .load 3 _, _, _, _, _⟩ :: _) _ _; refine wpList_val rfl (op_load1S (b := n8) (T := 29) oneInt ((hS.bring (by repeat (first | exact t0 | apply tS)))) rfl rfl rfl) ?_; go_frame)
      | (show wpList _ _ _ (⟨some 31, .binOp _ _ _ _ _, _, _, _, _⟩ :: _) _ _; refine wpList_val rfl (op_eqI' rfl rfl rfl H2.out) ?_; go_frame)
      | (show wpList _ _ _ (⟨some 37, .binOp _ _ _ _ _, _, _, _, _⟩ :: _) _ _; refine wpList_val rfl (op_eqI' rfl rfl rfl H3.out) ?_; go_frame)
      | (show wpList _ _ _ (⟨some 45, .binOp _ _ _ _ _, _, _, _, _⟩ :: _) _ _; refine wpList_val rfl (op_eqI' rfl rfl rfl H4.out) ?_; go_frame)
      | (show wpList _ _ _ (⟨some 55, .binOp _ _ _ _ _, _, _, _, _⟩ :: _) _ _; refine wpList_val rfl (op_eqI' rfl rfl rfl H5.out) ?_; go_frame)
      | (show wpList _ _ _ (⟨_, .load 29 (.tmp 8), _, _, _, _⟩ :: _) _ _; refine wpList_val rfl (op_load agg2 rfl rfl (SepL.getBlk (b := n8) (T := 29) ((hS.bring (by repeat (first | exact t0 | apply tS))))).cells rfl) ?_; go_frame)
      | (show wpList _ _ _ (⟨_, .load 29 (.tmp 9), _, _, _, _⟩ :: _) _ _; refine wpList_val rfl (op_load agg2 rfl rfl (SepL.getBlk (b := n9) (T := 29) ((hS.bring (by repeat (first | exact t0 | apply tS))))).cells rfl) ?_; go_frame)
      | (show wpList _ _ _ (⟨some 50, .build _ _, _, _, _, _⟩ :: _) _ _; refine wpList_val rfl (op_build (ps := #[(0, .int .i64 q), (1, .int .i64 r.s1)]) rfl rfl (buildSucc q r.s1) _) ?_; go_frame)
      | (show wpList _ _ _ (⟨some 60, .build _ _, _, _, _, _⟩ :: _) _ _; refine wpList_val rfl (op_build (ps := #[(0, .int .i64 r.s0), (1, .int .i64 q)]) rfl rfl (buildSucc r.s0 q) _) ?_; go_frame)
      | (show wpList _ _ _ (⟨_, .binOp .eql 29 _ _ _, _, _, _, _⟩ :: _) _ _; refine wpList_val rfl (op_eqP rfl rfl rfl HT.out) ?_; go_frame)
      )
    go_ret
    exact ⟨rfl, hS.chg⟩
end Go.Proofs.YtlplgobkidpgkaaDoor
