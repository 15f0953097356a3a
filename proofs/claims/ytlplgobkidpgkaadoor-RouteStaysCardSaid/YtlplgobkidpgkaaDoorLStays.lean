/- Ahead of the epoch's end a router stays as it is, at its end the next one begins: the law returns true. Conditions: those that stand ahead of each theorem. -/
import Derived.Test.YtlplgobkidpgkaaDoorRlX
namespace Go.Proofs.YtlplgobkidpgkaaDoor
open Go Go.RowKit Go.Px Go.Sha
set_option maxRecDepth 100000 in
set_option maxHeartbeats 8000000 in
theorem routeStays_w {W : World} (hK : CIn All W 1 (kTab.map W32)) (hF : CIn All W 0 (first.map W32)) {sa : List Byte} (hsa : sa.length = 32) {v : Value} {L : List (Value × RA)} (hv : AIn All W v L) (hao : ∀ x ∈ L, AOk x.2) {ua : Value} {s : RA} (hu : Rd 1 W ua (s.peers.map fun z => [I64 z])) (ha : AOk s) :
    Calls Tryd.prog 9 #[HV sa, v, .agg (aC (ua, s)).toArray] W (Ret fun r w' => r = .bool true ∧ Chg No W w') := by
  have hS := SepL.start W
  have HSL : Hid ((sa.map B8).length = 32) := by simp [Hid, hsa]
  have HAO := hide hao
  have hok := runs_ok (L.map (·.2))
  obtain ⟨r, hr⟩ : ∃ r, runs (L.map (·.2)) = r := ⟨_, rfl⟩
  have HQ := hide hr
  rw [hr] at hok
  have HOK := hide hok
  unfold HV
  clear hr hao
  have HUR := hide (RdIn.of hu)
  have HBN : Hid ((s.peers.map fun z => [I64 z]).length = s.peers.length) := by simp [Hid]
  cases hg : greatR (L.map (·.2)) with
  | true =>
    have HGR := hide hg
    clear hg hok
    go_enter Tryd.func9, Tryd.ntmps9
    go_wp2_with (first
      | go_big_skip
      | (show wpList _ _ _ (⟨_, .box 23 _, _, _, _, _⟩ :: _) _ _; refine wpS_boxA (cs := sa.map B8) hS rfl rfl rfl ?_; clear hS; intro nh w hS; go_frame)
      | (go_at_call 10; refine Ret.calls (alive_s hS hK hF) ?_; clear hS; rintro r1 w ⟨rfl, hS⟩)
      | (go_at_call 11; refine Ret.calls (great_s hS hv HGR.out) ?_; clear hS; rintro r1 w ⟨rfl, hS⟩)
      | (show wpList _ _ _ (⟨_, .box 38 _, _, _, _, _⟩ :: _) _ _; refine wpS_boxA (cs := aC (ua, s)) hS rfl rfl rfl ?_; clear hS; intro nb w hS; go_frame)
      | (show wpList _ _ _ (⟨some 20, .load _ _, _, _, _, _⟩ :: _) _ _; refine wpList_val rfl (op_load1S (b := nb) (T := 38) oneInts ((hS.bring (by repeat (first | exact t0 | apply tS)))) rfl rfl rfl) ?_; go_frame)
      | (show wpList _ _ _ (⟨some 21, .call _, _, _, _, _⟩ :: _) _ _; refine wpList_val rfl (op_len slInt rfl rfl (v := ua) (xs := s.peers.map fun z => [I64 z]) rfl (hS.rd HUR.out)) ?_; rw [HBN.out]; go_frame)
      | (show wpList _ _ _ (⟨some 22, .binOp _ _ _ _ _, _, _, _, _⟩ :: _) _ _; refine wpList_val rfl (op_igtr rfl rfl rfl HG7.out) ?_; go_frame)
      )
    go_ret
    exact ⟨rfl, hS.chg⟩
  | false =>
    have HGR := hide hg
    by_cases hl : 70 < s.peers.length
    · have HG7 : Hid (decide ((70 : Int) < (s.peers.length : Int)) = true) := decide_eq_true (by omega)
      clear hg hok hl
      go_enter Tryd.func9, Tryd.ntmps9
      go_wp2_with (first
        | go_big_skip
        | (show wpList _ _ _ (⟨_, .box 23 _, _, _, _, _⟩ :: _) _ _; refine wpS_boxA (cs := sa.map B8) hS rfl rfl rfl ?_; clear hS; intro nh w hS; go_frame)
        | (go_at_call 10; refine Ret.calls (alive_s hS hK hF) ?_; clear hS; rintro r1 w ⟨rfl, hS⟩)
        | (go_at_call 11; refine Ret.calls (great_s hS hv HGR.out) ?_; clear hS; rintro r1 w ⟨rfl, hS⟩)
        | (show wpList _ _ _ (⟨_, .box 38 _, _, _, _, _⟩ :: _) _ _; refine wpS_boxA (cs := aC (ua, s)) hS rfl rfl rfl ?_; clear hS; intro nb w hS; go_frame)
        | (show wpList _ _ _ (⟨some 20, .load _ _, _, _, _, _⟩ :: _) _ _; refine wpList_val rfl (op_load1S (b := nb) (T := 38) oneInts ((hS.bring (by repeat (first | exact t0 | apply tS)))) rfl rfl rfl) ?_; go_frame)
        | (show wpList _ _ _ (⟨some 21, .call _, _, _, _, _⟩ :: _) _ _; refine wpList_val rfl (op_len slInt rfl rfl (v := ua) (xs := s.peers.map fun z => [I64 z]) rfl (hS.rd HUR.out)) ?_; rw [HBN.out]; go_frame)
        | (show wpList _ _ _ (⟨some 22, .binOp _ _ _ _ _, _, _, _, _⟩ :: _) _ _; refine wpList_val rfl (op_igtr rfl rfl rfl HG7.out) ?_; go_frame)
        )
      go_ret
      exact ⟨rfl, hS.chg⟩
    · have HG7 : Hid (decide ((70 : Int) < (s.peers.length : Int)) = false) := decide_eq_false (by omega)
      have HPL : Hid (s.peers.length ≤ 1000000) := by
        unfold Hid
        omega
      have HNW := hide ha.now
      have HD1 := hide ha.d1
      have HD2 := hide ha.d2
      by_cases hn : s.now < r.fin
      · have HTK : Hid (tickR r s.now s.peers s.d0 s.d1 s.d2 = r) := if_pos hn
        have HBG : Hid ((!decide (s.now < r.fin)) = false) := by
          unfold Hid
          rw [decide_eq_true hn]
          rfl
        have HGE : Hid (decide (r.fin ≤ s.now) = false) := decide_eq_false (by omega)
        have HT := and_self2 r.s0 r.s1
        have HEE := nat_self r.epoch
        have HFF := nat_self r.fin
        clear hg hok hl hn hu ha
        go_enter Tryd.func9, Tryd.ntmps9
        go_wp2_with (first
          | go_big_skip
          | (show wpList _ _ _ (⟨_, .box 23 _, _, _, _, _⟩ :: _) _ _; refine wpS_boxA (cs := sa.map B8) hS rfl rfl rfl ?_; clear hS; intro nh w hS; go_frame)
          | (go_at_call 10; refine Ret.calls (alive_s hS hK hF) ?_; clear hS; rintro r1 w ⟨rfl, hS⟩)
          | (go_at_call 11; refine Ret.calls (great_s hS hv HGR.out) ?_; clear hS; rintro r1 w ⟨rfl, hS⟩)
          | (show wpList _ _ _ (⟨_, .box 38 _, _, _, _, _⟩ :: _) _ _; refine wpS_boxA (cs := aC (ua, s)) hS rfl rfl rfl ?_; clear hS; intro nb w hS; go_frame)
          | (show wpList _ _ _ (⟨some 20, .load _ _, _, _, _, _⟩ :: _) _ _; refine wpList_val rfl (op_load1S (b := nb) (T := 38) oneInts ((hS.bring (by repeat (first | exact t0 | apply tS)))) rfl rfl rfl) ?_; go_frame)
          | (show wpList _ _ _ (⟨some 21, .call _, _, _, _, _⟩ :: _) _ _; refine wpList_val rfl (op_len slInt rfl rfl (v := ua) (xs := s.peers.map fun z => [I64 z]) rfl (hS.rd HUR.out)) ?_; rw [HBN.out]; go_frame)
          | (show wpList _ _ _ (⟨some 22, .binOp _ _ _ _ _, _, _, _, _⟩ :: _) _ _; refine wpList_val rfl (op_igtr rfl rfl rfl HG7.out) ?_; go_frame)
          | (show wpList _ _ _ (⟨_, .load 23 _, _, _, _, _⟩ :: _) _ _; refine wpList_val rfl (op_load agg32b rfl rfl (SepL.getBlk (b := nh) (T := 23) ((hS.bring (by repeat (first | exact t0 | apply tS))))).cells HSL.out) ?_; go_frame)
          | (go_at_call 12; refine Ret.calls (grown_s hS hsa hv HAO.out HGR.out) ?_; clear hS; rintro r1 w ⟨p, rfl, hS⟩; rw [HQ.out] at hS)
          | (show wpList _ _ _ (⟨some 8, .alloc _, _, _, _, _⟩ :: _) _ _; refine wpS_alloc hS rfl rfl Tryd.zeroValue29 (zs := [.int .i64 0, .int .i64 0]) rfl ?_; clear hS; intro n8 w hS; go_frame)
          | (show wpList _ _ _ (⟨_, .store 29 (.tmp 8) _, _, _, _, _⟩ :: _) _ _; (refine wpS_storeAll (b := n8) agg2 (hS.bring (by repeat (first | exact t0 | apply tS))) rfl rfl rfl (vs := [I64 r.s0, I64 r.s1]) rfl rfl (two_one _ _) rfl ?_); clear hS; intro w hS; go_frame)
          | (go_at_call 13; (refine Ret.calls (succ_s (p := p) (sa := sa) (r := r) (hS.bring (by repeat (first | exact t0 | apply tS))) hsa) ?_); clear hS; rintro r1 w ⟨rfl, hS⟩)
          | (go_at_call 26; (refine Ret.calls (epoch_s (p := p) (sa := sa) (r := r) (hS.bring (by repeat (first | exact t0 | apply tS))) hsa) ?_); clear hS; rintro r1 w ⟨rfl, hS⟩)
          | (go_at_call 27; (refine Ret.calls (end_s (p := p) (sa := sa) (r := r) (hS.bring (by repeat (first | exact t0 | apply tS))) hsa) ?_); clear hS; rintro r1 w ⟨rfl, hS⟩)
          | (go_at_call 25; (refine Ret.calls (stems_s (p := p) (sa := sa) (r := r) (hS.bring (by repeat (first | exact t0 | apply tS))) hsa) ?_); clear hS; rintro r1 w ⟨rfl, hS⟩)
          | (show wpList _ _ _ (⟨_, .load 33 _, _, _, _, _⟩ :: _) _ _; refine wpList_val rfl (op_load1S (b := nb) (T := 38) oneU64 ((hS.bring (by repeat (first | exact t0 | apply tS)))) rfl rfl rfl) ?_; go_frame)
          | (show wpList _ _ _ (⟨_, .load 34 _, _, _, _, _⟩ :: _) _ _; refine wpList_val rfl (op_load1S (b := nb) (T := 38) oneInts ((hS.bring (by repeat (first | exact t0 | apply tS)))) rfl rfl rfl) ?_; go_frame)
          | (show wpList _ _ _ (⟨_, .load 36 _, _, _, _, _⟩ :: _) _ _; refine wpList_val rfl (op_load agg3u rfl rfl ((SepL.getBlk (b := nb) (T := 38) ((hS.bring (by repeat (first | exact t0 | apply tS))))).cells.subN 5 3 (ds := [.int .u16 s.d0, .int .u16 s.d1, .int .u16 s.d2]) rfl) rfl) ?_; go_frame)
          | (go_at_call 33; (refine Ret.calls (tick_s (p := p) (r := r) (peers := s.peers) (hS.bring (by repeat (first | exact t0 | apply tS))) hsa HOK.out HUR.out HPL.out HNW.out HD1.out HD2.out) ?_); clear hS; rintro r1 w ⟨rfl, hS⟩; rw [HTK.out] at hS; rw [HBG.out])
          | (show wpList _ _ _ (⟨some 47, .binOp _ _ _ _ _, _, _, _, _⟩ :: _) _ _; refine wpList_val rfl (opU_geq rfl rfl rfl HGE.out) ?_; go_frame)
          | (show wpList _ _ _ (⟨_, .binOp .neq 4 _ _ _, _, _, _, _⟩ :: _) _ _; refine wpList_val rfl (op_neBool rfl rfl rfl) ?_; go_frame)
          )
        refine wp_region_ord (by kernel_rfl) [8] [[0, 2, 1, 3, 4, 5, 7, 6, 8, 9, 10, 11, 13, 12, 14, 15, 16, 17, 19, 18, 20, 21, 22]] (by kernel_rfl) (by kernel_rfl) (fun w' => Blk w' n8 29 [I64 r.s0, I64 r.s1]) Up.blk ((hS.bring (by repeat (first | exact t0 | apply tS))).getBlk) (by repeat (first | exact Clean.body | refine Clean.then ?_ | refine Clean.inBlock ?_ | refine SegQ.clean ?_ | refine FinC.clean ?_)) ?_
        replace hS := hS.drew
        refine ord_seg (by repeat (first | exact Clean.body | refine Clean.then ?_ | refine Clean.inBlock ?_ | refine SegQ.clean ?_ | refine FinC.clean ?_)) (n := 20) (rest := [[3, 4, 5, 7, 6, 8, 9, 10, 11, 13, 12, 14, 15, 16, 17, 19, 18, 20, 21, 22]]) [0, 2, 1] [⟨_, _, _, _, _, _⟩, ⟨_, _, _, _, _, _⟩, ⟨_, _, _, _, _, _⟩] rfl (by kernel_rfl) (by simp) _ _ ?_
        go_wp2_with (first
          | go_big_skip
          | (go_at_call 13; (refine Ret.calls (succ_s (p := p) (sa := sa) (r := r) (hS.bring (by repeat (first | exact t0 | apply tS))) hsa) ?_); clear hS; rintro r1 w ⟨rfl, hS⟩)
          | (go_at_call 26; (refine Ret.calls (epoch_s (p := p) (sa := sa) (r := r) (hS.bring (by repeat (first | exact t0 | apply tS))) hsa) ?_); clear hS; rintro r1 w ⟨rfl, hS⟩)
          | (go_at_call 27; (refine Ret.calls (end_s (p := p) (sa := sa) (r := r) (hS.bring (by repeat (first | exact t0 | apply tS))) hsa) ?_); clear hS; rintro r1 w ⟨rfl, hS⟩)
          | (go_at_call 25; (refine Ret.calls (stems_s (p := p) (sa := sa) (r := r) (hS.bring (by repeat (first | exact t0 | apply tS))) hsa) ?_); clear hS; rintro r1 w ⟨rfl, hS⟩)
          | (show wpList _ _ _ (⟨_, .load 29 _, _, _, _, _⟩ :: _) _ _; refine wpList_val rfl (op_load agg2 rfl rfl (SepL.getBlk (b := n8) (T := 29) ((hS.bring (by repeat (first | exact t0 | apply tS))))).cells rfl) ?_; go_frame)
          | (show wpList _ _ _ (⟨_, .binOp .eql 29 _ _ _, _, _, _, _⟩ :: _) _ _; refine wpList_val rfl (op_eqP rfl rfl rfl HT.out) ?_; go_frame)
          | (show wpList _ _ _ (⟨some 59, .binOp _ _ _ _ _, _, _, _, _⟩ :: _) _ _; refine wpList_val rfl (opU_eql rfl rfl rfl HEE.out) ?_; go_frame)
          | (show wpList _ _ _ (⟨some 65, .binOp _ _ _ _ _, _, _, _, _⟩ :: _) _ _; refine wpList_val rfl (opU_eql rfl rfl rfl HFF.out) ?_; go_frame)
          | (show wpList _ _ _ (⟨_, .binOp .eql 4 _ _ _, _, _, _, _⟩ :: _) _ _; refine wpList_val rfl (op_eqBool rfl rfl rfl) ?_; go_frame)
          )
        refine segQ_mk (((hS.bring (by repeat (first | exact t0 | apply tS))).getBlk) : Blk _ n8 29 [I64 r.s0, I64 r.s1]) ?_
        refine ord_seg (by repeat (first | exact Clean.body | refine Clean.then ?_ | refine Clean.inBlock ?_ | refine SegQ.clean ?_ | refine FinC.clean ?_)) (n := 19) (rest := [[4, 5, 7, 6, 8, 9, 10, 11, 13, 12, 14, 15, 16, 17, 19, 18, 20, 21, 22]]) [3] [⟨_, _, _, _, _, _⟩] rfl (by kernel_rfl) (by simp) _ _ ?_
        go_wp2_with (first
          | go_big_skip
          | (go_at_call 13; (refine Ret.calls (succ_s (p := p) (sa := sa) (r := r) (hS.bring (by repeat (first | exact t0 | apply tS))) hsa) ?_); clear hS; rintro r1 w ⟨rfl, hS⟩)
          | (go_at_call 26; (refine Ret.calls (epoch_s (p := p) (sa := sa) (r := r) (hS.bring (by repeat (first | exact t0 | apply tS))) hsa) ?_); clear hS; rintro r1 w ⟨rfl, hS⟩)
          | (go_at_call 27; (refine Ret.calls (end_s (p := p) (sa := sa) (r := r) (hS.bring (by repeat (first | exact t0 | apply tS))) hsa) ?_); clear hS; rintro r1 w ⟨rfl, hS⟩)
          | (go_at_call 25; (refine Ret.calls (stems_s (p := p) (sa := sa) (r := r) (hS.bring (by repeat (first | exact t0 | apply tS))) hsa) ?_); clear hS; rintro r1 w ⟨rfl, hS⟩)
          | (show wpList _ _ _ (⟨_, .load 29 _, _, _, _, _⟩ :: _) _ _; refine wpList_val rfl (op_load agg2 rfl rfl (SepL.getBlk (b := n8) (T := 29) ((hS.bring (by repeat (first | exact t0 | apply tS))))).cells rfl) ?_; go_frame)
          | (show wpList _ _ _ (⟨_, .binOp .eql 29 _ _ _, _, _, _, _⟩ :: _) _ _; refine wpList_val rfl (op_eqP rfl rfl rfl HT.out) ?_; go_frame)
          | (show wpList _ _ _ (⟨some 59, .binOp _ _ _ _ _, _, _, _, _⟩ :: _) _ _; refine wpList_val rfl (opU_eql rfl rfl rfl HEE.out) ?_; go_frame)
          | (show wpList _ _ _ (⟨some 65, .binOp _ _ _ _ _, _, _, _, _⟩ :: _) _ _; refine wpList_val rfl (opU_eql rfl rfl rfl HFF.out) ?_; go_frame)
          | (show wpList _ _ _ (⟨_, .binOp .eql 4 _ _ _, _, _, _, _⟩ :: _) _ _; refine wpList_val rfl (op_eqBool rfl rfl rfl) ?_; go_frame)
          )
        refine segQ_mk (((hS.bring (by repeat (first | exact t0 | apply tS))).getBlk) : Blk _ n8 29 [I64 r.s0, I64 r.s1]) ?_
        refine ord_seg (by repeat (first | exact Clean.body | refine Clean.then ?_ | refine Clean.inBlock ?_ | refine SegQ.clean ?_ | refine FinC.clean ?_)) (n := 15) (rest := [[8, 9, 10, 11, 13, 12, 14, 15, 16, 17, 19, 18, 20, 21, 22]]) [4, 5, 7, 6] [⟨_, _, _, _, _, _⟩, ⟨_, _, _, _, _, _⟩, ⟨_, _, _, _, _, _⟩, ⟨_, _, _, _, _, _⟩] rfl (by kernel_rfl) (by simp) _ _ ?_
        go_wp2_with (first
          | go_big_skip
          | (go_at_call 13; (refine Ret.calls (succ_s (p := p) (sa := sa) (r := r) (hS.bring (by repeat (first | exact t0 | apply tS))) hsa) ?_); clear hS; rintro r1 w ⟨rfl, hS⟩)
          | (go_at_call 26; (refine Ret.calls (epoch_s (p := p) (sa := sa) (r := r) (hS.bring (by repeat (first | exact t0 | apply tS))) hsa) ?_); clear hS; rintro r1 w ⟨rfl, hS⟩)
          | (go_at_call 27; (refine Ret.calls (end_s (p := p) (sa := sa) (r := r) (hS.bring (by repeat (first | exact t0 | apply tS))) hsa) ?_); clear hS; rintro r1 w ⟨rfl, hS⟩)
          | (go_at_call 25; (refine Ret.calls (stems_s (p := p) (sa := sa) (r := r) (hS.bring (by repeat (first | exact t0 | apply tS))) hsa) ?_); clear hS; rintro r1 w ⟨rfl, hS⟩)
          | (show wpList _ _ _ (⟨_, .load 29 _, _, _, _, _⟩ :: _) _ _; refine wpList_val rfl (op_load agg2 rfl rfl (SepL.getBlk (b := n8) (T := 29) ((hS.bring (by repeat (first | exact t0 | apply tS))))).cells rfl) ?_; go_frame)
          | (show wpList _ _ _ (⟨_, .binOp .eql 29 _ _ _, _, _, _, _⟩ :: _) _ _; refine wpList_val rfl (op_eqP rfl rfl rfl HT.out) ?_; go_frame)
          | (show wpList _ _ _ (⟨some 59, .binOp _ _ _ _ _, _, _, _, _⟩ :: _) _ _; refine wpList_val rfl (opU_eql rfl rfl rfl HEE.out) ?_; go_frame)
          | (show wpList _ _ _ (⟨some 65, .binOp _ _ _ _ _, _, _, _, _⟩ :: _) _ _; refine wpList_val rfl (opU_eql rfl rfl rfl HFF.out) ?_; go_frame)
          | (show wpList _ _ _ (⟨_, .binOp .eql 4 _ _ _, _, _, _, _⟩ :: _) _ _; refine wpList_val rfl (op_eqBool rfl rfl rfl) ?_; go_frame)
          )
        refine segQ_mk (((hS.bring (by repeat (first | exact t0 | apply tS))).getBlk) : Blk _ n8 29 [I64 r.s0, I64 r.s1]) ?_
        refine ord_seg (by repeat (first | exact Clean.body | refine Clean.then ?_ | refine Clean.inBlock ?_ | refine SegQ.clean ?_ | refine FinC.clean ?_)) (n := 9) (rest := [[14, 15, 16, 17, 19, 18, 20, 21, 22]]) [8, 9, 10, 11, 13, 12] [⟨_, _, _, _, _, _⟩, ⟨_, _, _, _, _, _⟩, ⟨_, _, _, _, _, _⟩, ⟨_, _, _, _, _, _⟩, ⟨_, _, _, _, _, _⟩, ⟨_, _, _, _, _, _⟩] rfl (by kernel_rfl) (by simp) _ _ ?_
        go_wp2_with (first
          | go_big_skip
          | (go_at_call 13; (refine Ret.calls (succ_s (p := p) (sa := sa) (r := r) (hS.bring (by repeat (first | exact t0 | apply tS))) hsa) ?_); clear hS; rintro r1 w ⟨rfl, hS⟩)
          | (go_at_call 26; (refine Ret.calls (epoch_s (p := p) (sa := sa) (r := r) (hS.bring (by repeat (first | exact t0 | apply tS))) hsa) ?_); clear hS; rintro r1 w ⟨rfl, hS⟩)
          | (go_at_call 27; (refine Ret.calls (end_s (p := p) (sa := sa) (r := r) (hS.bring (by repeat (first | exact t0 | apply tS))) hsa) ?_); clear hS; rintro r1 w ⟨rfl, hS⟩)
          | (go_at_call 25; (refine Ret.calls (stems_s (p := p) (sa := sa) (r := r) (hS.bring (by repeat (first | exact t0 | apply tS))) hsa) ?_); clear hS; rintro r1 w ⟨rfl, hS⟩)
          | (show wpList _ _ _ (⟨_, .load 29 _, _, _, _, _⟩ :: _) _ _; refine wpList_val rfl (op_load agg2 rfl rfl (SepL.getBlk (b := n8) (T := 29) ((hS.bring (by repeat (first | exact t0 | apply tS))))).cells rfl) ?_; go_frame)
          | (show wpList _ _ _ (⟨_, .binOp .eql 29 _ _ _, _, _, _, _⟩ :: _) _ _; refine wpList_val rfl (op_eqP rfl rfl rfl HT.out) ?_; go_frame)
          | (show wpList _ _ _ (⟨some 59, .binOp _ _ _ _ _, _, _, _, _⟩ :: _) _ _; refine wpList_val rfl (opU_eql rfl rfl rfl HEE.out) ?_; go_frame)
          | (show wpList _ _ _ (⟨some 65, .binOp _ _ _ _ _, _, _, _, _⟩ :: _) _ _; refine wpList_val rfl (opU_eql rfl rfl rfl HFF.out) ?_; go_frame)
          | (show wpList _ _ _ (⟨_, .binOp .eql 4 _ _ _, _, _, _, _⟩ :: _) _ _; refine wpList_val rfl (op_eqBool rfl rfl rfl) ?_; go_frame)
          )
        refine segQ_mk (((hS.bring (by repeat (first | exact t0 | apply tS))).getBlk) : Blk _ n8 29 [I64 r.s0, I64 r.s1]) ?_
        refine ord_seg (by repeat (first | exact Clean.body | refine Clean.then ?_ | refine Clean.inBlock ?_ | refine SegQ.clean ?_ | refine FinC.clean ?_)) (n := 3) (rest := [[20, 21, 22]]) [14, 15, 16, 17, 19, 18] [⟨_, _, _, _, _, _⟩, ⟨_, _, _, _, _, _⟩, ⟨_, _, _, _, _, _⟩, ⟨_, _, _, _, _, _⟩, ⟨_, _, _, _, _, _⟩, ⟨_, _, _, _, _, _⟩] rfl (by kernel_rfl) (by simp) _ _ ?_
        go_wp2_with (first
          | go_big_skip
          | (go_at_call 13; (refine Ret.calls (succ_s (p := p) (sa := sa) (r := r) (hS.bring (by repeat (first | exact t0 | apply tS))) hsa) ?_); clear hS; rintro r1 w ⟨rfl, hS⟩)
          | (go_at_call 26; (refine Ret.calls (epoch_s (p := p) (sa := sa) (r := r) (hS.bring (by repeat (first | exact t0 | apply tS))) hsa) ?_); clear hS; rintro r1 w ⟨rfl, hS⟩)
          | (go_at_call 27; (refine Ret.calls (end_s (p := p) (sa := sa) (r := r) (hS.bring (by repeat (first | exact t0 | apply tS))) hsa) ?_); clear hS; rintro r1 w ⟨rfl, hS⟩)
          | (go_at_call 25; (refine Ret.calls (stems_s (p := p) (sa := sa) (r := r) (hS.bring (by repeat (first | exact t0 | apply tS))) hsa) ?_); clear hS; rintro r1 w ⟨rfl, hS⟩)
          | (show wpList _ _ _ (⟨_, .load 29 _, _, _, _, _⟩ :: _) _ _; refine wpList_val rfl (op_load agg2 rfl rfl (SepL.getBlk (b := n8) (T := 29) ((hS.bring (by repeat (first | exact t0 | apply tS))))).cells rfl) ?_; go_frame)
          | (show wpList _ _ _ (⟨_, .binOp .eql 29 _ _ _, _, _, _, _⟩ :: _) _ _; refine wpList_val rfl (op_eqP rfl rfl rfl HT.out) ?_; go_frame)
          | (show wpList _ _ _ (⟨some 59, .binOp _ _ _ _ _, _, _, _, _⟩ :: _) _ _; refine wpList_val rfl (opU_eql rfl rfl rfl HEE.out) ?_; go_frame)
          | (show wpList _ _ _ (⟨some 65, .binOp _ _ _ _ _, _, _, _, _⟩ :: _) _ _; refine wpList_val rfl (opU_eql rfl rfl rfl HFF.out) ?_; go_frame)
          | (show wpList _ _ _ (⟨_, .binOp .eql 4 _ _ _, _, _, _, _⟩ :: _) _ _; refine wpList_val rfl (op_eqBool rfl rfl rfl) ?_; go_frame)
          )
        refine segQ_mk (((hS.bring (by repeat (first | exact t0 | apply tS))).getBlk) : Blk _ n8 29 [I64 r.s0, I64 r.s1]) ?_
        refine ord_seg (by repeat (first | exact Clean.body | refine Clean.then ?_ | refine Clean.inBlock ?_ | refine SegQ.clean ?_ | refine FinC.clean ?_)) (n := 0) (rest := [[]]) [20, 21, 22] [⟨_, _, _, _, _, _⟩, ⟨_, _, _, _, _, _⟩, ⟨_, _, _, _, _, _⟩] rfl (by kernel_rfl) (by simp) _ _ ?_
        go_wp2_with (first
          | go_big_skip
          | (go_at_call 13; (refine Ret.calls (succ_s (p := p) (sa := sa) (r := r) (hS.bring (by repeat (first | exact t0 | apply tS))) hsa) ?_); clear hS; rintro r1 w ⟨rfl, hS⟩)
          | (go_at_call 26; (refine Ret.calls (epoch_s (p := p) (sa := sa) (r := r) (hS.bring (by repeat (first | exact t0 | apply tS))) hsa) ?_); clear hS; rintro r1 w ⟨rfl, hS⟩)
          | (go_at_call 27; (refine Ret.calls (end_s (p := p) (sa := sa) (r := r) (hS.bring (by repeat (first | exact t0 | apply tS))) hsa) ?_); clear hS; rintro r1 w ⟨rfl, hS⟩)
          | (go_at_call 25; (refine Ret.calls (stems_s (p := p) (sa := sa) (r := r) (hS.bring (by repeat (first | exact t0 | apply tS))) hsa) ?_); clear hS; rintro r1 w ⟨rfl, hS⟩)
          | (show wpList _ _ _ (⟨_, .load 29 _, _, _, _, _⟩ :: _) _ _; refine wpList_val rfl (op_load agg2 rfl rfl (SepL.getBlk (b := n8) (T := 29) ((hS.bring (by repeat (first | exact t0 | apply tS))))).cells rfl) ?_; go_frame)
          | (show wpList _ _ _ (⟨_, .binOp .eql 29 _ _ _, _, _, _, _⟩ :: _) _ _; refine wpList_val rfl (op_eqP rfl rfl rfl HT.out) ?_; go_frame)
          | (show wpList _ _ _ (⟨some 59, .binOp _ _ _ _ _, _, _, _, _⟩ :: _) _ _; refine wpList_val rfl (opU_eql rfl rfl rfl HEE.out) ?_; go_frame)
          | (show wpList _ _ _ (⟨some 65, .binOp _ _ _ _ _, _, _, _, _⟩ :: _) _ _; refine wpList_val rfl (opU_eql rfl rfl rfl HFF.out) ?_; go_frame)
          | (show wpList _ _ _ (⟨_, .binOp .eql 4 _ _ _, _, _, _, _⟩ :: _) _ _; refine wpList_val rfl (op_eqBool rfl rfl rfl) ?_; go_frame)
          )
        refine segQ_mk (((hS.bring (by repeat (first | exact t0 | apply tS))).getBlk) : Blk _ n8 29 [I64 r.s0, I64 r.s1]) ?_
        refine finC_mk (by kernel_rfl) (by
          intro t ht
          simp only [List.mem_cons, List.not_mem_nil, or_false] at ht
          rcases ht with rfl
          exact stab_blk (b := n8) (fun w h => h) _ none) ?_
        go_wp2_with fail
        go_ret
        exact ⟨rfl, hS.chg⟩
      · have HBG : Hid ((!decide (s.now < r.fin)) = true) := by
          unfold Hid
          rw [decide_eq_false hn]
          rfl
        have HGE : Hid (decide (r.fin ≤ s.now) = true) := decide_eq_true (by omega)
        have hep := hok.ep
        obtain ⟨t1, t2, t3, t4⟩ := tick_new hok ha.now hn s.peers s.d0 s.d1 s.d2
        have hok2 := hok.tick (by omega) s.now s.peers s.d0 s.d1 s.d2
        have hep2 : (tickR r s.now s.peers s.d0 s.d1 s.d2).epoch = capU (r.epoch + 1) := by
          unfold tickR
          rw [if_neg hn]
        obtain ⟨r2, hr2⟩ : ∃ r2, tickR r s.now s.peers s.d0 s.d1 s.d2 = r2 := ⟨_, rfl⟩
        rw [hr2] at t1 t2 t3 t4 hok2 hep2
        have HTK := hide hr2
        have HMS := hide t1
        have HOK2 := hide hok2
        have HFN : Hid (decide (s.now ≤ r2.fin) = true) := decide_eq_true t2
        obtain ⟨bb, hbb⟩ : ∃ b, decide (0 < s.d0 % 10) = b := ⟨_, rfl⟩
        have HSB : Hid (r2.stems = bb) := t4.trans hbb
        have HDB : Hid ((((s.d0 % 10 : Nat) : Int) != 0) = bb) := by
          unfold Hid
          rw [← hbb, Bool.eq_iff_iff, bne_iff_ne, decide_eq_true_eq]
          omega
        by_cases hm : r.epoch < 18446744073709551615
        · obtain ⟨e1, he1⟩ : ∃ e, (r.epoch + 1) % 18446744073709551616 = e := ⟨_, rfl⟩
          have HE1 := hide he1
          have HEQ : Hid ((r2.epoch == e1) = true) := by
            unfold Hid
            rw [hep2, ← capStep hm, he1, beq_iff_eq]
          clear hg hok hl hn hu ha hep t1 t2 t3 t4 hok2 hep2 hr2 hbb hm he1
          go_enter Tryd.func9, Tryd.ntmps9
          go_wp2_with (first
            | go_big_skip
            | (show wpList _ _ _ (⟨_, .box 23 _, _, _, _, _⟩ :: _) _ _; refine wpS_boxA (cs := sa.map B8) hS rfl rfl rfl ?_; clear hS; intro nh w hS; go_frame)
            | (go_at_call 10; refine Ret.calls (alive_s hS hK hF) ?_; clear hS; rintro r1 w ⟨rfl, hS⟩)
            | (go_at_call 11; refine Ret.calls (great_s hS hv HGR.out) ?_; clear hS; rintro r1 w ⟨rfl, hS⟩)
            | (show wpList _ _ _ (⟨_, .box 38 _, _, _, _, _⟩ :: _) _ _; refine wpS_boxA (cs := aC (ua, s)) hS rfl rfl rfl ?_; clear hS; intro nb w hS; go_frame)
            | (show wpList _ _ _ (⟨some 20, .load _ _, _, _, _, _⟩ :: _) _ _; refine wpList_val rfl (op_load1S (b := nb) (T := 38) oneInts ((hS.bring (by repeat (first | exact t0 | apply tS)))) rfl rfl rfl) ?_; go_frame)
            | (show wpList _ _ _ (⟨some 21, .call _, _, _, _, _⟩ :: _) _ _; refine wpList_val rfl (op_len slInt rfl rfl (v := ua) (xs := s.peers.map fun z => [I64 z]) rfl (hS.rd HUR.out)) ?_; rw [HBN.out]; go_frame)
            | (show wpList _ _ _ (⟨some 22, .binOp _ _ _ _ _, _, _, _, _⟩ :: _) _ _; refine wpList_val rfl (op_igtr rfl rfl rfl HG7.out) ?_; go_frame)
            | (show wpList _ _ _ (⟨_, .load 23 _, _, _, _, _⟩ :: _) _ _; refine wpList_val rfl (op_load agg32b rfl rfl (SepL.getBlk (b := nh) (T := 23) ((hS.bring (by repeat (first | exact t0 | apply tS))))).cells HSL.out) ?_; go_frame)
            | (go_at_call 12; refine Ret.calls (grown_s hS hsa hv HAO.out HGR.out) ?_; clear hS; rintro r1 w ⟨p, rfl, hS⟩; rw [HQ.out] at hS)
            | (show wpList _ _ _ (⟨some 8, .alloc _, _, _, _, _⟩ :: _) _ _; refine wpS_alloc hS rfl rfl Tryd.zeroValue29 (zs := [.int .i64 0, .int .i64 0]) rfl ?_; clear hS; intro n8 w hS; go_frame)
            | (show wpList _ _ _ (⟨_, .store 29 (.tmp 8) _, _, _, _, _⟩ :: _) _ _; (refine wpS_storeAll (b := n8) agg2 (hS.bring (by repeat (first | exact t0 | apply tS))) rfl rfl rfl (vs := [I64 r.s0, I64 r.s1]) rfl rfl (two_one _ _) rfl ?_); clear hS; intro w hS; go_frame)
            | (go_at_call 13; (refine Ret.calls (succ_s (p := p) (sa := sa) (r := r) (hS.bring (by repeat (first | exact t0 | apply tS))) hsa) ?_); clear hS; rintro r1 w ⟨rfl, hS⟩)
            | (go_at_call 26; (refine Ret.calls (epoch_s (p := p) (sa := sa) (r := r) (hS.bring (by repeat (first | exact t0 | apply tS))) hsa) ?_); clear hS; rintro r1 w ⟨rfl, hS⟩)
            | (go_at_call 27; (refine Ret.calls (end_s (p := p) (sa := sa) (r := r) (hS.bring (by repeat (first | exact t0 | apply tS))) hsa) ?_); clear hS; rintro r1 w ⟨rfl, hS⟩)
            | (go_at_call 25; (refine Ret.calls (stems_s (p := p) (sa := sa) (r := r) (hS.bring (by repeat (first | exact t0 | apply tS))) hsa) ?_); clear hS; rintro r1 w ⟨rfl, hS⟩)
            | (show wpList _ _ _ (⟨_, .load 33 _, _, _, _, _⟩ :: _) _ _; refine wpList_val rfl (op_load1S (b := nb) (T := 38) oneU64 ((hS.bring (by repeat (first | exact t0 | apply tS)))) rfl rfl rfl) ?_; go_frame)
            | (show wpList _ _ _ (⟨_, .load 34 _, _, _, _, _⟩ :: _) _ _; refine wpList_val rfl (op_load1S (b := nb) (T := 38) oneInts ((hS.bring (by repeat (first | exact t0 | apply tS)))) rfl rfl rfl) ?_; go_frame)
            | (show wpList _ _ _ (⟨_, .load 36 _, _, _, _, _⟩ :: _) _ _; refine wpList_val rfl (op_load agg3u rfl rfl ((SepL.getBlk (b := nb) (T := 38) ((hS.bring (by repeat (first | exact t0 | apply tS))))).cells.subN 5 3 (ds := [.int .u16 s.d0, .int .u16 s.d1, .int .u16 s.d2]) rfl) rfl) ?_; go_frame)
            | (go_at_call 33; (refine Ret.calls (tick_s (p := p) (r := r) (peers := s.peers) (hS.bring (by repeat (first | exact t0 | apply tS))) hsa HOK.out HUR.out HPL.out HNW.out HD1.out HD2.out) ?_); clear hS; rintro r1 w ⟨rfl, hS⟩; rw [HTK.out] at hS; rw [HBG.out])
            | (show wpList _ _ _ (⟨some 47, .binOp _ _ _ _ _, _, _, _, _⟩ :: _) _ _; refine wpList_val rfl (opU_geq rfl rfl rfl HGE.out) ?_; go_frame)
            | (show wpList _ _ _ (⟨_, .binOp .neq 4 _ _ _, _, _, _, _⟩ :: _) _ _; refine wpList_val rfl (op_neBool rfl rfl rfl) ?_; go_frame)
            )
          go_loopw [73] (fun iv wr => ∃ k : Nat, iv = .int .i64 k ∧ k ≤ 65 ∧ SepL All W wr [.blk n8 29 [I64 r.s0, I64 r.s1], .blk nb 38 (aC (ua, s)), .blk p 58 (rtC sa r2)]) (fun iv _ => 65 - (intOf iv).toNat)
          case atStart => exact ⟨0, rfl, by omega, hS.sel (by repeat (first | exact Sel.refl | refine Sel.take (by repeat (first | exact t0 | apply tS)) ?_ | apply Sel.drop))⟩
          case round =>
            clear hS
            obtain ⟨k, rfl, hk, hS⟩ := hrel
            by_cases hlt : k < 65
            · have HMZ := hide (HMS.out (k : Int))
              go_wp2_with (first
                | (go_at_call 28; (refine Ret.calls (misses_s (MM := 3) (p := p) (sa := sa) (r := r2) (s := (k : Nat)) (hS.bring (by repeat (first | exact t0 | apply tS))) hsa HOK2.out) ?_); clear hS; rintro r1 w ⟨rfl, hS⟩; rw [HMZ.out])
                | (show wpList _ _ _ (⟨some 79, .binOp _ _ _ _ _, _, _, _, _⟩ :: _) _ _; refine wpList_val rfl (op_ineI rfl rfl rfl (r := false) rfl) ?_; go_frame)
                )
              go_roundw
              case rel => exact ⟨k + 1, by go_num, by omega, hS.sel (by repeat (first | exact Sel.refl | refine Sel.take (by repeat (first | exact t0 | apply tS)) ?_ | apply Sel.drop))⟩
              case measure => simp [intOf]; omega
            · go_wp2_with fail
              refine wp_region_ord (by kernel_rfl) [83, 101] [[0, 2, 3, 1, 4, 5, 6, 8, 9, 7, 10, 11, 12, 13, 14, 15, 16, 17, 19, 20, 21, 22, 23, 18, 24, 25, 26]] (by kernel_rfl) (by kernel_rfl) (fun w' => Blk w' nb 38 (aC (ua, s))) Up.blk ((hS.bring (by repeat (first | exact t0 | apply tS))).getBlk) (by repeat (first | exact Clean.body | refine Clean.then ?_ | refine Clean.inBlock ?_ | refine SegQ.clean ?_ | refine FinC.clean ?_)) ?_
              replace hS := hS.drew
              refine ord_seg (by repeat (first | exact Clean.body | refine Clean.then ?_ | refine Clean.inBlock ?_ | refine SegQ.clean ?_ | refine FinC.clean ?_)) (n := 23) (rest := [[4, 5, 6, 8, 9, 7, 10, 11, 12, 13, 14, 15, 16, 17, 19, 20, 21, 22, 23, 18, 24, 25, 26]]) [0, 2, 3, 1] [⟨_, _, _, _, _, _⟩, ⟨_, _, _, _, _, _⟩, ⟨_, _, _, _, _, _⟩, ⟨_, _, _, _, _, _⟩] rfl (by kernel_rfl) (by simp) _ _ ?_
              go_wp2_with (first
                | go_big_skip
                | (go_at_call 26; (refine Ret.calls (epoch_s (p := p) (sa := sa) (r := r2) (hS.bring (by repeat (first | exact t0 | apply tS))) hsa) ?_); clear hS; rintro r1 w ⟨rfl, hS⟩)
                | (go_at_call 27; (refine Ret.calls (end_s (p := p) (sa := sa) (r := r2) (hS.bring (by repeat (first | exact t0 | apply tS))) hsa) ?_); clear hS; rintro r1 w ⟨rfl, hS⟩)
                | (go_at_call 25; (refine Ret.calls (stems_s (p := p) (sa := sa) (r := r2) (hS.bring (by repeat (first | exact t0 | apply tS))) hsa) ?_); clear hS; rintro r1 w ⟨rfl, hS⟩; rw [HSB.out])
                | (show wpList _ _ _ (⟨_, .load 33 _, _, _, _, _⟩ :: _) _ _; refine wpList_val rfl (op_load1S (b := nb) (T := 38) oneU64 ((hS.bring (by repeat (first | exact t0 | apply tS)))) rfl rfl rfl) ?_; go_frame)
                | (show wpList _ _ _ (⟨some 101, .indexAddr _ _ _, _, _, _, _⟩ :: _) _ _; refine wpList_val rfl (op_indexArrZ arr3u rfl (b := nb) (off := 5) rfl rfl 0 rfl (by omega)) ?_; go_frame)
                | (show wpList _ _ _ (⟨_, .load 35 _, _, _, _, _⟩ :: _) _ _; refine wpList_val rfl (op_load1S (b := nb) (T := 38) oneU16 ((hS.bring (by repeat (first | exact t0 | apply tS)))) rfl rfl rfl) ?_; go_frame)
                | (show wpList _ _ _ (⟨some 85, .binOp _ _ _ _ _, _, _, _, _⟩ :: _) _ _; refine wpList_val rfl (opU_geq rfl rfl rfl HFN.out) ?_; go_frame)
                | (show wpList _ _ _ (⟨some 90, .binOp _ _ _ _ _, _, _, _, _⟩ :: _) _ _; refine wpList_val rfl (opU_addW rfl rfl (b := 1) rfl e1 HE1.out) ?_; go_frame)
                | (show wpList _ _ _ (⟨some 91, .binOp _ _ _ _ _, _, _, _, _⟩ :: _) _ _; refine wpList_val rfl (opU_eql rfl rfl rfl HEQ.out) ?_; go_frame)
                | (show wpList _ _ _ (⟨some 94, .binOp _ _ _ _ _, _, _, _, _⟩ :: _) _ _; refine wpList_val rfl (opU_eql rfl rfl (b := 18446744073709551615) rfl HEM.out) ?_; go_frame)
                | (show wpList _ _ _ (⟨some 103, .binOp _ _ _ _ _, _, _, _, _⟩ :: _) _ _; refine wpList_val rfl (op_u16rem rfl (a := s.d0) (b := 10) rfl rfl (by omega)) ?_; go_frame)
                | (show wpList _ _ _ (⟨some 104, .binOp _ _ _ _ _, _, _, _, _⟩ :: _) _ _; refine wpList_val rfl (op_ineI rfl rfl rfl HDB.out) ?_; go_frame)
                | (show wpList _ _ _ (⟨_, .binOp .eql 4 _ _ _, _, _, _, _⟩ :: _) _ _; refine wpList_val rfl (op_eqBool rfl rfl rfl) ?_; go_frame)
                )
              refine segQ_mk (((hS.bring (by repeat (first | exact t0 | apply tS))).getBlk) : Blk _ nb 38 (aC (ua, s))) ?_
              refine ord_seg (by repeat (first | exact Clean.body | refine Clean.then ?_ | refine Clean.inBlock ?_ | refine SegQ.clean ?_ | refine FinC.clean ?_)) (n := 17) (rest := [[10, 11, 12, 13, 14, 15, 16, 17, 19, 20, 21, 22, 23, 18, 24, 25, 26]]) [4, 5, 6, 8, 9, 7] [⟨_, _, _, _, _, _⟩, ⟨_, _, _, _, _, _⟩, ⟨_, _, _, _, _, _⟩, ⟨_, _, _, _, _, _⟩, ⟨_, _, _, _, _, _⟩, ⟨_, _, _, _, _, _⟩] rfl (by kernel_rfl) (by simp) _ _ ?_
              go_wp2_with (first
                | go_big_skip
                | (go_at_call 26; (refine Ret.calls (epoch_s (p := p) (sa := sa) (r := r2) (hS.bring (by repeat (first | exact t0 | apply tS))) hsa) ?_); clear hS; rintro r1 w ⟨rfl, hS⟩)
                | (go_at_call 27; (refine Ret.calls (end_s (p := p) (sa := sa) (r := r2) (hS.bring (by repeat (first | exact t0 | apply tS))) hsa) ?_); clear hS; rintro r1 w ⟨rfl, hS⟩)
                | (go_at_call 25; (refine Ret.calls (stems_s (p := p) (sa := sa) (r := r2) (hS.bring (by repeat (first | exact t0 | apply tS))) hsa) ?_); clear hS; rintro r1 w ⟨rfl, hS⟩; rw [HSB.out])
                | (show wpList _ _ _ (⟨_, .load 33 _, _, _, _, _⟩ :: _) _ _; refine wpList_val rfl (op_load1S (b := nb) (T := 38) oneU64 ((hS.bring (by repeat (first | exact t0 | apply tS)))) rfl rfl rfl) ?_; go_frame)
                | (show wpList _ _ _ (⟨some 101, .indexAddr _ _ _, _, _, _, _⟩ :: _) _ _; refine wpList_val rfl (op_indexArrZ arr3u rfl (b := nb) (off := 5) rfl rfl 0 rfl (by omega)) ?_; go_frame)
                | (show wpList _ _ _ (⟨_, .load 35 _, _, _, _, _⟩ :: _) _ _; refine wpList_val rfl (op_load1S (b := nb) (T := 38) oneU16 ((hS.bring (by repeat (first | exact t0 | apply tS)))) rfl rfl rfl) ?_; go_frame)
                | (show wpList _ _ _ (⟨some 85, .binOp _ _ _ _ _, _, _, _, _⟩ :: _) _ _; refine wpList_val rfl (opU_geq rfl rfl rfl HFN.out) ?_; go_frame)
                | (show wpList _ _ _ (⟨some 90, .binOp _ _ _ _ _, _, _, _, _⟩ :: _) _ _; refine wpList_val rfl (opU_addW rfl rfl (b := 1) rfl e1 HE1.out) ?_; go_frame)
                | (show wpList _ _ _ (⟨some 91, .binOp _ _ _ _ _, _, _, _, _⟩ :: _) _ _; refine wpList_val rfl (opU_eql rfl rfl rfl HEQ.out) ?_; go_frame)
                | (show wpList _ _ _ (⟨some 94, .binOp _ _ _ _ _, _, _, _, _⟩ :: _) _ _; refine wpList_val rfl (opU_eql rfl rfl (b := 18446744073709551615) rfl HEM.out) ?_; go_frame)
                | (show wpList _ _ _ (⟨some 103, .binOp _ _ _ _ _, _, _, _, _⟩ :: _) _ _; refine wpList_val rfl (op_u16rem rfl (a := s.d0) (b := 10) rfl rfl (by omega)) ?_; go_frame)
                | (show wpList _ _ _ (⟨some 104, .binOp _ _ _ _ _, _, _, _, _⟩ :: _) _ _; refine wpList_val rfl (op_ineI rfl rfl rfl HDB.out) ?_; go_frame)
                | (show wpList _ _ _ (⟨_, .binOp .eql 4 _ _ _, _, _, _, _⟩ :: _) _ _; refine wpList_val rfl (op_eqBool rfl rfl rfl) ?_; go_frame)
                )
              refine segQ_mk (((hS.bring (by repeat (first | exact t0 | apply tS))).getBlk) : Blk _ nb 38 (aC (ua, s))) ?_
              refine ord_seg (by repeat (first | exact Clean.body | refine Clean.then ?_ | refine Clean.inBlock ?_ | refine SegQ.clean ?_ | refine FinC.clean ?_)) (n := 3) (rest := [[24, 25, 26]]) [10, 11, 12, 13, 14, 15, 16, 17, 19, 20, 21, 22, 23, 18] [⟨_, _, _, _, _, _⟩, ⟨_, _, _, _, _, _⟩, ⟨_, _, _, _, _, _⟩, ⟨_, _, _, _, _, _⟩, ⟨_, _, _, _, _, _⟩, ⟨_, _, _, _, _, _⟩, ⟨_, _, _, _, _, _⟩, ⟨_, _, _, _, _, _⟩, ⟨_, _, _, _, _, _⟩, ⟨_, _, _, _, _, _⟩, ⟨_, _, _, _, _, _⟩, ⟨_, _, _, _, _, _⟩, ⟨_, _, _, _, _, _⟩, ⟨_, _, _, _, _, _⟩] rfl (by kernel_rfl) (by simp) _ _ ?_
              go_wp2_with (first
                | go_big_skip
                | (go_at_call 26; (refine Ret.calls (epoch_s (p := p) (sa := sa) (r := r2) (hS.bring (by repeat (first | exact t0 | apply tS))) hsa) ?_); clear hS; rintro r1 w ⟨rfl, hS⟩)
                | (go_at_call 27; (refine Ret.calls (end_s (p := p) (sa := sa) (r := r2) (hS.bring (by repeat (first | exact t0 | apply tS))) hsa) ?_); clear hS; rintro r1 w ⟨rfl, hS⟩)
                | (go_at_call 25; (refine Ret.calls (stems_s (p := p) (sa := sa) (r := r2) (hS.bring (by repeat (first | exact t0 | apply tS))) hsa) ?_); clear hS; rintro r1 w ⟨rfl, hS⟩; rw [HSB.out])
                | (show wpList _ _ _ (⟨_, .load 33 _, _, _, _, _⟩ :: _) _ _; refine wpList_val rfl (op_load1S (b := nb) (T := 38) oneU64 ((hS.bring (by repeat (first | exact t0 | apply tS)))) rfl rfl rfl) ?_; go_frame)
                | (show wpList _ _ _ (⟨some 101, .indexAddr _ _ _, _, _, _, _⟩ :: _) _ _; refine wpList_val rfl (op_indexArrZ arr3u rfl (b := nb) (off := 5) rfl rfl 0 rfl (by omega)) ?_; go_frame)
                | (show wpList _ _ _ (⟨_, .load 35 _, _, _, _, _⟩ :: _) _ _; refine wpList_val rfl (op_load1S (b := nb) (T := 38) oneU16 ((hS.bring (by repeat (first | exact t0 | apply tS)))) rfl rfl rfl) ?_; go_frame)
                | (show wpList _ _ _ (⟨some 85, .binOp _ _ _ _ _, _, _, _, _⟩ :: _) _ _; refine wpList_val rfl (opU_geq rfl rfl rfl HFN.out) ?_; go_frame)
                | (show wpList _ _ _ (⟨some 90, .binOp _ _ _ _ _, _, _, _, _⟩ :: _) _ _; refine wpList_val rfl (opU_addW rfl rfl (b := 1) rfl e1 HE1.out) ?_; go_frame)
                | (show wpList _ _ _ (⟨some 91, .binOp _ _ _ _ _, _, _, _, _⟩ :: _) _ _; refine wpList_val rfl (opU_eql rfl rfl rfl HEQ.out) ?_; go_frame)
                | (show wpList _ _ _ (⟨some 94, .binOp _ _ _ _ _, _, _, _, _⟩ :: _) _ _; refine wpList_val rfl (opU_eql rfl rfl (b := 18446744073709551615) rfl HEM.out) ?_; go_frame)
                | (show wpList _ _ _ (⟨some 103, .binOp _ _ _ _ _, _, _, _, _⟩ :: _) _ _; refine wpList_val rfl (op_u16rem rfl (a := s.d0) (b := 10) rfl rfl (by omega)) ?_; go_frame)
                | (show wpList _ _ _ (⟨some 104, .binOp _ _ _ _ _, _, _, _, _⟩ :: _) _ _; refine wpList_val rfl (op_ineI rfl rfl rfl HDB.out) ?_; go_frame)
                | (show wpList _ _ _ (⟨_, .binOp .eql 4 _ _ _, _, _, _, _⟩ :: _) _ _; refine wpList_val rfl (op_eqBool rfl rfl rfl) ?_; go_frame)
                )
              refine segQ_mk (((hS.bring (by repeat (first | exact t0 | apply tS))).getBlk) : Blk _ nb 38 (aC (ua, s))) ?_
              refine ord_seg (by repeat (first | exact Clean.body | refine Clean.then ?_ | refine Clean.inBlock ?_ | refine SegQ.clean ?_ | refine FinC.clean ?_)) (n := 0) (rest := [[]]) [24, 25, 26] [⟨_, _, _, _, _, _⟩, ⟨_, _, _, _, _, _⟩, ⟨_, _, _, _, _, _⟩] rfl (by kernel_rfl) (by simp) _ _ ?_
              go_wp2_with (first
                | go_big_skip
                | (go_at_call 26; (refine Ret.calls (epoch_s (p := p) (sa := sa) (r := r2) (hS.bring (by repeat (first | exact t0 | apply tS))) hsa) ?_); clear hS; rintro r1 w ⟨rfl, hS⟩)
                | (go_at_call 27; (refine Ret.calls (end_s (p := p) (sa := sa) (r := r2) (hS.bring (by repeat (first | exact t0 | apply tS))) hsa) ?_); clear hS; rintro r1 w ⟨rfl, hS⟩)
                | (go_at_call 25; (refine Ret.calls (stems_s (p := p) (sa := sa) (r := r2) (hS.bring (by repeat (first | exact t0 | apply tS))) hsa) ?_); clear hS; rintro r1 w ⟨rfl, hS⟩; rw [HSB.out])
                | (show wpList _ _ _ (⟨_, .load 33 _, _, _, _, _⟩ :: _) _ _; refine wpList_val rfl (op_load1S (b := nb) (T := 38) oneU64 ((hS.bring (by repeat (first | exact t0 | apply tS)))) rfl rfl rfl) ?_; go_frame)
                | (show wpList _ _ _ (⟨some 101, .indexAddr _ _ _, _, _, _, _⟩ :: _) _ _; refine wpList_val rfl (op_indexArrZ arr3u rfl (b := nb) (off := 5) rfl rfl 0 rfl (by omega)) ?_; go_frame)
                | (show wpList _ _ _ (⟨_, .load 35 _, _, _, _, _⟩ :: _) _ _; refine wpList_val rfl (op_load1S (b := nb) (T := 38) oneU16 ((hS.bring (by repeat (first | exact t0 | apply tS)))) rfl rfl rfl) ?_; go_frame)
                | (show wpList _ _ _ (⟨some 85, .binOp _ _ _ _ _, _, _, _, _⟩ :: _) _ _; refine wpList_val rfl (opU_geq rfl rfl rfl HFN.out) ?_; go_frame)
                | (show wpList _ _ _ (⟨some 90, .binOp _ _ _ _ _, _, _, _, _⟩ :: _) _ _; refine wpList_val rfl (opU_addW rfl rfl (b := 1) rfl e1 HE1.out) ?_; go_frame)
                | (show wpList _ _ _ (⟨some 91, .binOp _ _ _ _ _, _, _, _, _⟩ :: _) _ _; refine wpList_val rfl (opU_eql rfl rfl rfl HEQ.out) ?_; go_frame)
                | (show wpList _ _ _ (⟨some 94, .binOp _ _ _ _ _, _, _, _, _⟩ :: _) _ _; refine wpList_val rfl (opU_eql rfl rfl (b := 18446744073709551615) rfl HEM.out) ?_; go_frame)
                | (show wpList _ _ _ (⟨some 103, .binOp _ _ _ _ _, _, _, _, _⟩ :: _) _ _; refine wpList_val rfl (op_u16rem rfl (a := s.d0) (b := 10) rfl rfl (by omega)) ?_; go_frame)
                | (show wpList _ _ _ (⟨some 104, .binOp _ _ _ _ _, _, _, _, _⟩ :: _) _ _; refine wpList_val rfl (op_ineI rfl rfl rfl HDB.out) ?_; go_frame)
                | (show wpList _ _ _ (⟨_, .binOp .eql 4 _ _ _, _, _, _, _⟩ :: _) _ _; refine wpList_val rfl (op_eqBool rfl rfl rfl) ?_; go_frame)
                )
              refine segQ_mk (((hS.bring (by repeat (first | exact t0 | apply tS))).getBlk) : Blk _ nb 38 (aC (ua, s))) ?_
              refine finC_mk (by kernel_rfl) (by
                intro t ht
                simp only [List.mem_cons, List.not_mem_nil, or_false] at ht
                rcases ht with rfl | rfl <;> exact stab_blk (b := nb) (fun w h => h) _ none) ?_
              go_wp2_with fail
              go_ret
              exact ⟨rfl, hS.chg⟩
        · obtain ⟨e1, he1⟩ : ∃ e, (r.epoch + 1) % 18446744073709551616 = e := ⟨_, rfl⟩
          have HE1 := hide he1
          have hz : e1 = 0 := by
            have e0 : r.epoch = 18446744073709551615 := by omega
            rw [← he1, e0]
          have HEQ : Hid ((r2.epoch == e1) = false) := by
            unfold Hid
            rw [hep2, capEnd hm hep, beq_eq_false_iff_ne]
            omega
          have HEM : Hid ((r.epoch == 18446744073709551615) = true) := by
            unfold Hid
            rw [beq_iff_eq]
            omega
          clear hg hok hl hn hu ha hep t1 t2 t3 t4 hok2 hep2 hr2 hbb hm he1 hz
          go_enter Tryd.func9, Tryd.ntmps9
          go_wp2_with (first
            | go_big_skip
            | (show wpList _ _ _ (⟨_, .box 23 _, _, _, _, _⟩ :: _) _ _; refine wpS_boxA (cs := sa.map B8) hS rfl rfl rfl ?_; clear hS; intro nh w hS; go_frame)
            | (go_at_call 10; refine Ret.calls (alive_s hS hK hF) ?_; clear hS; rintro r1 w ⟨rfl, hS⟩)
            | (go_at_call 11; refine Ret.calls (great_s hS hv HGR.out) ?_; clear hS; rintro r1 w ⟨rfl, hS⟩)
            | (show wpList _ _ _ (⟨_, .box 38 _, _, _, _, _⟩ :: _) _ _; refine wpS_boxA (cs := aC (ua, s)) hS rfl rfl rfl ?_; clear hS; intro nb w hS; go_frame)
            | (show wpList _ _ _ (⟨some 20, .load _ _, _, _, _, _⟩ :: _) _ _; refine wpList_val rfl (op_load1S (b := nb) (T := 38) oneInts ((hS.bring (by repeat (first | exact t0 | apply tS)))) rfl rfl rfl) ?_; go_frame)
            | (show wpList _ _ _ (⟨some 21, .call _, _, _, _, _⟩ :: _) _ _; refine wpList_val rfl (op_len slInt rfl rfl (v := ua) (xs := s.peers.map fun z => [I64 z]) rfl (hS.rd HUR.out)) ?_; rw [HBN.out]; go_frame)
            | (show wpList _ _ _ (⟨some 22, .binOp _ _ _ _ _, _, _, _, _⟩ :: _) _ _; refine wpList_val rfl (op_igtr rfl rfl rfl HG7.out) ?_; go_frame)
            | (show wpList _ _ _ (⟨_, .load 23 _, _, _, _, _⟩ :: _) _ _; refine wpList_val rfl (op_load agg32b rfl rfl (SepL.getBlk (b := nh) (T := 23) ((hS.bring (by repeat (first | exact t0 | apply tS))))).cells HSL.out) ?_; go_frame)
            | (go_at_call 12; refine Ret.calls (grown_s hS hsa hv HAO.out HGR.out) ?_; clear hS; rintro r1 w ⟨p, rfl, hS⟩; rw [HQ.out] at hS)
            | (show wpList _ _ _ (⟨some 8, .alloc _, _, _, _, _⟩ :: _) _ _; refine wpS_alloc hS rfl rfl Tryd.zeroValue29 (zs := [.int .i64 0, .int .i64 0]) rfl ?_; clear hS; intro n8 w hS; go_frame)
            | (show wpList _ _ _ (⟨_, .store 29 (.tmp 8) _, _, _, _, _⟩ :: _) _ _; (refine wpS_storeAll (b := n8) agg2 (hS.bring (by repeat (first | exact t0 | apply tS))) rfl rfl rfl (vs := [I64 r.s0, I64 r.s1]) rfl rfl (two_one _ _) rfl ?_); clear hS; intro w hS; go_frame)
            | (go_at_call 13; (refine Ret.calls (succ_s (p := p) (sa := sa) (r := r) (hS.bring (by repeat (first | exact t0 | apply tS))) hsa) ?_); clear hS; rintro r1 w ⟨rfl, hS⟩)
            | (go_at_call 26; (refine Ret.calls (epoch_s (p := p) (sa := sa) (r := r) (hS.bring (by repeat (first | exact t0 | apply tS))) hsa) ?_); clear hS; rintro r1 w ⟨rfl, hS⟩)
            | (go_at_call 27; (refine Ret.calls (end_s (p := p) (sa := sa) (r := r) (hS.bring (by repeat (first | exact t0 | apply tS))) hsa) ?_); clear hS; rintro r1 w ⟨rfl, hS⟩)
            | (go_at_call 25; (refine Ret.calls (stems_s (p := p) (sa := sa) (r := r) (hS.bring (by repeat (first | exact t0 | apply tS))) hsa) ?_); clear hS; rintro r1 w ⟨rfl, hS⟩)
            | (show wpList _ _ _ (⟨_, .load 33 _, _, _, _, _⟩ :: _) _ _; refine wpList_val rfl (op_load1S (b := nb) (T := 38) oneU64 ((hS.bring (by repeat (first | exact t0 | apply tS)))) rfl rfl rfl) ?_; go_frame)
            | (show wpList _ _ _ (⟨_, .load 34 _, _, _, _, _⟩ :: _) _ _; refine wpList_val rfl (op_load1S (b := nb) (T := 38) oneInts ((hS.bring (by repeat (first | exact t0 | apply tS)))) rfl rfl rfl) ?_; go_frame)
            | (show wpList _ _ _ (⟨_, .load 36 _, _, _, _, _⟩ :: _) _ _; refine wpList_val rfl (op_load agg3u rfl rfl ((SepL.getBlk (b := nb) (T := 38) ((hS.bring (by repeat (first | exact t0 | apply tS))))).cells.subN 5 3 (ds := [.int .u16 s.d0, .int .u16 s.d1, .int .u16 s.d2]) rfl) rfl) ?_; go_frame)
            | (go_at_call 33; (refine Ret.calls (tick_s (p := p) (r := r) (peers := s.peers) (hS.bring (by repeat (first | exact t0 | apply tS))) hsa HOK.out HUR.out HPL.out HNW.out HD1.out HD2.out) ?_); clear hS; rintro r1 w ⟨rfl, hS⟩; rw [HTK.out] at hS; rw [HBG.out])
            | (show wpList _ _ _ (⟨some 47, .binOp _ _ _ _ _, _, _, _, _⟩ :: _) _ _; refine wpList_val rfl (opU_geq rfl rfl rfl HGE.out) ?_; go_frame)
            | (show wpList _ _ _ (⟨_, .binOp .neq 4 _ _ _, _, _, _, _⟩ :: _) _ _; refine wpList_val rfl (op_neBool rfl rfl rfl) ?_; go_frame)
            )
          go_loopw [73] (fun iv wr => ∃ k : Nat, iv = .int .i64 k ∧ k ≤ 65 ∧ SepL All W wr [.blk n8 29 [I64 r.s0, I64 r.s1], .blk nb 38 (aC (ua, s)), .blk p 58 (rtC sa r2)]) (fun iv _ => 65 - (intOf iv).toNat)
          case atStart => exact ⟨0, rfl, by omega, hS.sel (by repeat (first | exact Sel.refl | refine Sel.take (by repeat (first | exact t0 | apply tS)) ?_ | apply Sel.drop))⟩
          case round =>
            clear hS
            obtain ⟨k, rfl, hk, hS⟩ := hrel
            by_cases hlt : k < 65
            · have HMZ := hide (HMS.out (k : Int))
              go_wp2_with (first
                | (go_at_call 28; (refine Ret.calls (misses_s (MM := 3) (p := p) (sa := sa) (r := r2) (s := (k : Nat)) (hS.bring (by repeat (first | exact t0 | apply tS))) hsa HOK2.out) ?_); clear hS; rintro r1 w ⟨rfl, hS⟩; rw [HMZ.out])
                | (show wpList _ _ _ (⟨some 79, .binOp _ _ _ _ _, _, _, _, _⟩ :: _) _ _; refine wpList_val rfl (op_ineI rfl rfl rfl (r := false) rfl) ?_; go_frame)
                )
              go_roundw
              case rel => exact ⟨k + 1, by go_num, by omega, hS.sel (by repeat (first | exact Sel.refl | refine Sel.take (by repeat (first | exact t0 | apply tS)) ?_ | apply Sel.drop))⟩
              case measure => simp [intOf]; omega
            · go_wp2_with fail
              refine wp_region_ord (by kernel_rfl) [83, 101] [[0, 2, 3, 1, 4, 5, 6, 8, 9, 7, 10, 11, 12, 13, 14, 15, 16, 17, 19, 20, 21, 22, 23, 18, 24, 25, 26]] (by kernel_rfl) (by kernel_rfl) (fun w' => Blk w' nb 38 (aC (ua, s))) Up.blk ((hS.bring (by repeat (first | exact t0 | apply tS))).getBlk) (by repeat (first | exact Clean.body | refine Clean.then ?_ | refine Clean.inBlock ?_ | refine SegQ.clean ?_ | refine FinC.clean ?_)) ?_
              replace hS := hS.drew
              refine ord_seg (by repeat (first | exact Clean.body | refine Clean.then ?_ | refine Clean.inBlock ?_ | refine SegQ.clean ?_ | refine FinC.clean ?_)) (n := 23) (rest := [[4, 5, 6, 8, 9, 7, 10, 11, 12, 13, 14, 15, 16, 17, 19, 20, 21, 22, 23, 18, 24, 25, 26]]) [0, 2, 3, 1] [⟨_, _, _, _, _, _⟩, ⟨_, _, _, _, _, _⟩, ⟨_, _, _, _, _, _⟩, ⟨_, _, _, _, _, _⟩] rfl (by kernel_rfl) (by simp) _ _ ?_
              go_wp2_with (first
                | go_big_skip
                | (go_at_call 26; (refine Ret.calls (epoch_s (p := p) (sa := sa) (r := r2) (hS.bring (by repeat (first | exact t0 | apply tS))) hsa) ?_); clear hS; rintro r1 w ⟨rfl, hS⟩)
                | (go_at_call 27; (refine Ret.calls (end_s (p := p) (sa := sa) (r := r2) (hS.bring (by repeat (first | exact t0 | apply tS))) hsa) ?_); clear hS; rintro r1 w ⟨rfl, hS⟩)
                | (go_at_call 25; (refine Ret.calls (stems_s (p := p) (sa := sa) (r := r2) (hS.bring (by repeat (first | exact t0 | apply tS))) hsa) ?_); clear hS; rintro r1 w ⟨rfl, hS⟩; rw [HSB.out])
                | (show wpList _ _ _ (⟨_, .load 33 _, _, _, _, _⟩ :: _) _ _; refine wpList_val rfl (op_load1S (b := nb) (T := 38) oneU64 ((hS.bring (by repeat (first | exact t0 | apply tS)))) rfl rfl rfl) ?_; go_frame)
                | (show wpList _ _ _ (⟨some 101, .indexAddr _ _ _, _, _, _, _⟩ :: _) _ _; refine wpList_val rfl (op_indexArrZ arr3u rfl (b := nb) (off := 5) rfl rfl 0 rfl (by omega)) ?_; go_frame)
                | (show wpList _ _ _ (⟨_, .load 35 _, _, _, _, _⟩ :: _) _ _; refine wpList_val rfl (op_load1S (b := nb) (T := 38) oneU16 ((hS.bring (by repeat (first | exact t0 | apply tS)))) rfl rfl rfl) ?_; go_frame)
                | (show wpList _ _ _ (⟨some 85, .binOp _ _ _ _ _, _, _, _, _⟩ :: _) _ _; refine wpList_val rfl (opU_geq rfl rfl rfl HFN.out) ?_; go_frame)
                | (show wpList _ _ _ (⟨some 90, .binOp _ _ _ _ _, _, _, _, _⟩ :: _) _ _; refine wpList_val rfl (opU_addW rfl rfl (b := 1) rfl e1 HE1.out) ?_; go_frame)
                | (show wpList _ _ _ (⟨some 91, .binOp _ _ _ _ _, _, _, _, _⟩ :: _) _ _; refine wpList_val rfl (opU_eql rfl rfl rfl HEQ.out) ?_; go_frame)
                | (show wpList _ _ _ (⟨some 94, .binOp _ _ _ _ _, _, _, _, _⟩ :: _) _ _; refine wpList_val rfl (opU_eql rfl rfl (b := 18446744073709551615) rfl HEM.out) ?_; go_frame)
                | (show wpList _ _ _ (⟨some 103, .binOp _ _ _ _ _, _, _, _, _⟩ :: _) _ _; refine wpList_val rfl (op_u16rem rfl (a := s.d0) (b := 10) rfl rfl (by omega)) ?_; go_frame)
                | (show wpList _ _ _ (⟨some 104, .binOp _ _ _ _ _, _, _, _, _⟩ :: _) _ _; refine wpList_val rfl (op_ineI rfl rfl rfl HDB.out) ?_; go_frame)
                | (show wpList _ _ _ (⟨_, .binOp .eql 4 _ _ _, _, _, _, _⟩ :: _) _ _; refine wpList_val rfl (op_eqBool rfl rfl rfl) ?_; go_frame)
                )
              refine segQ_mk (((hS.bring (by repeat (first | exact t0 | apply tS))).getBlk) : Blk _ nb 38 (aC (ua, s))) ?_
              refine ord_seg (by repeat (first | exact Clean.body | refine Clean.then ?_ | refine Clean.inBlock ?_ | refine SegQ.clean ?_ | refine FinC.clean ?_)) (n := 17) (rest := [[10, 11, 12, 13, 14, 15, 16, 17, 19, 20, 21, 22, 23, 18, 24, 25, 26]]) [4, 5, 6, 8, 9, 7] [⟨_, _, _, _, _, _⟩, ⟨_, _, _, _, _, _⟩, ⟨_, _, _, _, _, _⟩, ⟨_, _, _, _, _, _⟩, ⟨_, _, _, _, _, _⟩, ⟨_, _, _, _, _, _⟩] rfl (by kernel_rfl) (by simp) _ _ ?_
              go_wp2_with (first
                | go_big_skip
                | (go_at_call 26; (refine Ret.calls (epoch_s (p := p) (sa := sa) (r := r2) (hS.bring (by repeat (first | exact t0 | apply tS))) hsa) ?_); clear hS; rintro r1 w ⟨rfl, hS⟩)
                | (go_at_call 27; (refine Ret.calls (end_s (p := p) (sa := sa) (r := r2) (hS.bring (by repeat (first | exact t0 | apply tS))) hsa) ?_); clear hS; rintro r1 w ⟨rfl, hS⟩)
                | (go_at_call 25; (refine Ret.calls (stems_s (p := p) (sa := sa) (r := r2) (hS.bring (by repeat (first | exact t0 | apply tS))) hsa) ?_); clear hS; rintro r1 w ⟨rfl, hS⟩; rw [HSB.out])
                | (show wpList _ _ _ (⟨_, .load 33 _, _, _, _, _⟩ :: _) _ _; refine wpList_val rfl (op_load1S (b := nb) (T := 38) oneU64 ((hS.bring (by repeat (first | exact t0 | apply tS)))) rfl rfl rfl) ?_; go_frame)
                | (show wpList _ _ _ (⟨some 101, .indexAddr _ _ _, _, _, _, _⟩ :: _) _ _; refine wpList_val rfl (op_indexArrZ arr3u rfl (b := nb) (off := 5) rfl rfl 0 rfl (by omega)) ?_; go_frame)
                | (show wpList _ _ _ (⟨_, .load 35 _, _, _, _, _⟩ :: _) _ _; refine wpList_val rfl (op_load1S (b := nb) (T := 38) oneU16 ((hS.bring (by repeat (first | exact t0 | apply tS)))) rfl rfl rfl) ?_; go_frame)
                | (show wpList _ _ _ (⟨some 85, .binOp _ _ _ _ _, _, _, _, _⟩ :: _) _ _; refine wpList_val rfl (opU_geq rfl rfl rfl HFN.out) ?_; go_frame)
                | (show wpList _ _ _ (⟨some 90, .binOp _ _ _ _ _, _, _, _, _⟩ :: _) _ _; refine wpList_val rfl (opU_addW rfl rfl (b := 1) rfl e1 HE1.out) ?_; go_frame)
                | (show wpList _ _ _ (⟨some 91, .binOp _ _ _ _ _, _, _, _, _⟩ :: _) _ _; refine wpList_val rfl (opU_eql rfl rfl rfl HEQ.out) ?_; go_frame)
                | (show wpList _ _ _ (⟨some 94, .binOp _ _ _ _ _, _, _, _, _⟩ :: _) _ _; refine wpList_val rfl (opU_eql rfl rfl (b := 18446744073709551615) rfl HEM.out) ?_; go_frame)
                | (show wpList _ _ _ (⟨some 103, .binOp _ _ _ _ _, _, _, _, _⟩ :: _) _ _; refine wpList_val rfl (op_u16rem rfl (a := s.d0) (b := 10) rfl rfl (by omega)) ?_; go_frame)
                | (show wpList _ _ _ (⟨some 104, .binOp _ _ _ _ _, _, _, _, _⟩ :: _) _ _; refine wpList_val rfl (op_ineI rfl rfl rfl HDB.out) ?_; go_frame)
                | (show wpList _ _ _ (⟨_, .binOp .eql 4 _ _ _, _, _, _, _⟩ :: _) _ _; refine wpList_val rfl (op_eqBool rfl rfl rfl) ?_; go_frame)
                )
              refine segQ_mk (((hS.bring (by repeat (first | exact t0 | apply tS))).getBlk) : Blk _ nb 38 (aC (ua, s))) ?_
              refine ord_seg (by repeat (first | exact Clean.body | refine Clean.then ?_ | refine Clean.inBlock ?_ | refine SegQ.clean ?_ | refine FinC.clean ?_)) (n := 3) (rest := [[24, 25, 26]]) [10, 11, 12, 13, 14, 15, 16, 17, 19, 20, 21, 22, 23, 18] [⟨_, _, _, _, _, _⟩, ⟨_, _, _, _, _, _⟩, ⟨_, _, _, _, _, _⟩, ⟨_, _, _, _, _, _⟩, ⟨_, _, _, _, _, _⟩, ⟨_, _, _, _, _, _⟩, ⟨_, _, _, _, _, _⟩, ⟨_, _, _, _, _, _⟩, ⟨_, _, _, _, _, _⟩, ⟨_, _, _, _, _, _⟩, ⟨_, _, _, _, _, _⟩, ⟨_, _, _, _, _, _⟩, ⟨_, _, _, _, _, _⟩, ⟨_, _, _, _, _, _⟩] rfl (by kernel_rfl) (by simp) _ _ ?_
              go_wp2_with (first
                | go_big_skip
                | (go_at_call 26; (refine Ret.calls (epoch_s (p := p) (sa := sa) (r := r2) (hS.bring (by repeat (first | exact t0 | apply tS))) hsa) ?_); clear hS; rintro r1 w ⟨rfl, hS⟩)
                | (go_at_call 27; (refine Ret.calls (end_s (p := p) (sa := sa) (r := r2) (hS.bring (by repeat (first | exact t0 | apply tS))) hsa) ?_); clear hS; rintro r1 w ⟨rfl, hS⟩)
                | (go_at_call 25; (refine Ret.calls (stems_s (p := p) (sa := sa) (r := r2) (hS.bring (by repeat (first | exact t0 | apply tS))) hsa) ?_); clear hS; rintro r1 w ⟨rfl, hS⟩; rw [HSB.out])
                | (show wpList _ _ _ (⟨_, .load 33 _, _, _, _, _⟩ :: _) _ _; refine wpList_val rfl (op_load1S (b := nb) (T := 38) oneU64 ((hS.bring (by repeat (first | exact t0 | apply tS)))) rfl rfl rfl) ?_; go_frame)
                | (show wpList _ _ _ (⟨some 101, .indexAddr _ _ _, _, _, _, _⟩ :: _) _ _; refine wpList_val rfl (op_indexArrZ arr3u rfl (b := nb) (off := 5) rfl rfl 0 rfl (by omega)) ?_; go_frame)
                | (show wpList _ _ _ (⟨_, .load 35 _, _, _, _, _⟩ :: _) _ _; refine wpList_val rfl (op_load1S (b := nb) (T := 38) oneU16 ((hS.bring (by repeat (first | exact t0 | apply tS)))) rfl rfl rfl) ?_; go_frame)
                | (show wpList _ _ _ (⟨some 85, .binOp _ _ _ _ _, _, _, _, _⟩ :: _) _ _; refine wpList_val rfl (opU_geq rfl rfl rfl HFN.out) ?_; go_frame)
                | (show wpList _ _ _ (⟨some 90, .binOp _ _ _ _ _, _, _, _, _⟩ :: _) _ _; refine wpList_val rfl (opU_addW rfl rfl (b := 1) rfl e1 HE1.out) ?_; go_frame)
                | (show wpList _ _ _ (⟨some 91, .binOp _ _ _ _ _, _, _, _, _⟩ :: _) _ _; refine wpList_val rfl (opU_eql rfl rfl rfl HEQ.out) ?_; go_frame)
                | (show wpList _ _ _ (⟨some 94, .binOp _ _ _ _ _, _, _, _, _⟩ :: _) _ _; refine wpList_val rfl (opU_eql rfl rfl (b := 18446744073709551615) rfl HEM.out) ?_; go_frame)
                | (show wpList _ _ _ (⟨some 103, .binOp _ _ _ _ _, _, _, _, _⟩ :: _) _ _; refine wpList_val rfl (op_u16rem rfl (a := s.d0) (b := 10) rfl rfl (by omega)) ?_; go_frame)
                | (show wpList _ _ _ (⟨some 104, .binOp _ _ _ _ _, _, _, _, _⟩ :: _) _ _; refine wpList_val rfl (op_ineI rfl rfl rfl HDB.out) ?_; go_frame)
                | (show wpList _ _ _ (⟨_, .binOp .eql 4 _ _ _, _, _, _, _⟩ :: _) _ _; refine wpList_val rfl (op_eqBool rfl rfl rfl) ?_; go_frame)
                )
              refine segQ_mk (((hS.bring (by repeat (first | exact t0 | apply tS))).getBlk) : Blk _ nb 38 (aC (ua, s))) ?_
              refine ord_seg (by repeat (first | exact Clean.body | refine Clean.then ?_ | refine Clean.inBlock ?_ | refine SegQ.clean ?_ | refine FinC.clean ?_)) (n := 0) (rest := [[]]) [24, 25, 26] [⟨_, _, _, _, _, _⟩, ⟨_, _, _, _, _, _⟩, ⟨_, _, _, _, _, _⟩] rfl (by kernel_rfl) (by simp) _ _ ?_
              go_wp2_with (first
                | go_big_skip
                | (go_at_call 26; (refine Ret.calls (epoch_s (p := p) (sa := sa) (r := r2) (hS.bring (by repeat (first | exact t0 | apply tS))) hsa) ?_); clear hS; rintro r1 w ⟨rfl, hS⟩)
                | (go_at_call 27; (refine Ret.calls (end_s (p := p) (sa := sa) (r := r2) (hS.bring (by repeat (first | exact t0 | apply tS))) hsa) ?_); clear hS; rintro r1 w ⟨rfl, hS⟩)
                | (go_at_call 25; (refine Ret.calls (stems_s (p := p) (sa := sa) (r := r2) (hS.bring (by repeat (first | exact t0 | apply tS))) hsa) ?_); clear hS; rintro r1 w ⟨rfl, hS⟩; rw [HSB.out])
                | (show wpList _ _ _ (⟨_, .load 33 _, _, _, _, _⟩ :: _) _ _; refine wpList_val rfl (op_load1S (b := nb) (T := 38) oneU64 ((hS.bring (by repeat (first | exact t0 | apply tS)))) rfl rfl rfl) ?_; go_frame)
                | (show wpList _ _ _ (⟨some 101, .indexAddr _ _ _, _, _, _, _⟩ :: _) _ _; refine wpList_val rfl (op_indexArrZ arr3u rfl (b := nb) (off := 5) rfl rfl 0 rfl (by omega)) ?_; go_frame)
                | (show wpList _ _ _ (⟨_, .load 35 _, _, _, _, _⟩ :: _) _ _; refine wpList_val rfl (op_load1S (b := nb) (T := 38) oneU16 ((hS.bring (by repeat (first | exact t0 | apply tS)))) rfl rfl rfl) ?_; go_frame)
                | (show wpList _ _ _ (⟨some 85, .binOp _ _ _ _ _, _, _, _, _⟩ :: _) _ _; refine wpList_val rfl (opU_geq rfl rfl rfl HFN.out) ?_; go_frame)
                | (show wpList _ _ _ (⟨some 90, .binOp _ _ _ _ _, _, _, _, _⟩ :: _) _ _; refine wpList_val rfl (opU_addW rfl rfl (b := 1) rfl e1 HE1.out) ?_; go_frame)
                | (show wpList _ _ _ (⟨some 91, .binOp _ _ _ _ _, _, _, _, _⟩ :: _) _ _; refine wpList_val rfl (opU_eql rfl rfl rfl HEQ.out) ?_; go_frame)
                | (show wpList _ _ _ (⟨some 94, .binOp _ _ _ _ _, _, _, _, _⟩ :: _) _ _; refine wpList_val rfl (opU_eql rfl rfl (b := 18446744073709551615) rfl HEM.out) ?_; go_frame)
                | (show wpList _ _ _ (⟨some 103, .binOp _ _ _ _ _, _, _, _, _⟩ :: _) _ _; refine wpList_val rfl (op_u16rem rfl (a := s.d0) (b := 10) rfl rfl (by omega)) ?_; go_frame)
                | (show wpList _ _ _ (⟨some 104, .binOp _ _ _ _ _, _, _, _, _⟩ :: _) _ _; refine wpList_val rfl (op_ineI rfl rfl rfl HDB.out) ?_; go_frame)
                | (show wpList _ _ _ (⟨_, .binOp .eql 4 _ _ _, _, _, _, _⟩ :: _) _ _; refine wpList_val rfl (op_eqBool rfl rfl rfl) ?_; go_frame)
                )
              refine segQ_mk (((hS.bring (by repeat (first | exact t0 | apply tS))).getBlk) : Blk _ nb 38 (aC (ua, s))) ?_
              refine finC_mk (by kernel_rfl) (by
                intro t ht
                simp only [List.mem_cons, List.not_mem_nil, or_false] at ht
                rcases ht with rfl | rfl <;> exact stab_blk (b := nb) (fun w h => h) _ none) ?_
              go_wp2_with fail
              go_ret
              exact ⟨rfl, hS.chg⟩
end Go.Proofs.YtlplgobkidpgkaaDoor
