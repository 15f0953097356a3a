/- A hasher asked for its sum stays as it is: the law returns true. Conditions: those that stand ahead of each theorem. -/
import Derived.Test.YtpdanieiafjmhaaDoorCheck
namespace Go.Proofs.YtpdanieiafjmhaaDoor
open Go.RowKit Go.Px Go.Sha
theorem cells_two {u v : Value} (hu : u.cells = #[u]) (hv : v.cells = #[v]) : [u, v].map (fun v => v.cells.toList) = [[u], [v]] := by simp [hu, hv]
theorem cells_two_size {u v : Value} (hu : u.cells = #[u]) (hv : v.cells = #[v]) : ∀ x ∈ [u, v], x.cells.size = 1 := by simp [hu, hv]
set_option maxRecDepth 100000 in
set_option maxHeartbeats 4000000 in
theorem shaLooks_w {W : World} (hK : CIn All W 0 (kTab.map W32)) (hF : CIn All W 1 (first.map W32)) {va vb : Value} {bs cs : List Byte} (ha : RdIn All W 1 va (bytes bs)) (hb : RdIn All W 1 vb (bytes cs)) :
    Calls Tryd.prog 4 #[va, vb] W (Ret fun r w' => r = .bool true ∧ Chg No W w') := by
  have hS := SepL.start W
  have hca := RdIn.cell1 ha
  have hcb := RdIn.cell1 hb
  obtain ⟨n, hn⟩ : ∃ n, bs.length = n := ⟨_, rfl⟩
  obtain ⟨m, hm⟩ : ∃ n, cs.length = n := ⟨_, rfl⟩
  have HNA := hide hn
  have HNB := hide hm
  obtain ⟨da, hda⟩ : ∃ d, decide ((2000 : Int) < (n : Int)) = d := ⟨_, rfl⟩
  obtain ⟨db, hdb⟩ : ∃ d, decide ((2000 : Int) < (m : Int)) = d := ⟨_, rfl⟩
  have HDA := hide hda
  have HDB := hide hdb
  cases da
  · cases db
    · rw [decide_eq_false_iff_not] at hda hdb
      have HA : Hid (bs.length < 4611686018427386000) := by
        unfold Hid
        omega
      have HAB : Hid (bs.length + cs.length < 4611686018427386000) := by
        unfold Hid
        omega
      have hc2 := cells_two_size hca hcb
      have hcl2 := cells_two hca hcb
      have h1n : (absorb new bs).n = n := by rw [absorb_n, new_n, hn, Nat.zero_add]
      have h1o : (absorb new bs).op.length = 64 := by rw [absorb_op, new_op]
      have HS1 : Hid (sumH (absorb new bs) = sum bs) := sum_eq bs
      have HS2 : Hid (sumH (absorb (absorb new bs) cs) = sum (bs ++ cs)) := by
        unfold Hid
        rw [← absorb_append, sum_eq]
      have HW1 : Hid (new.n + bs.length < 4611686018427387904) := by
        unfold Hid
        rw [new_n]
        omega
      obtain ⟨g1, hg1⟩ : ∃ g, absorb new bs = g := ⟨_, rfl⟩
      rw [hg1] at h1n h1o HS1 HS2
      have h2n : (absorb g1 cs).n = n + m := by rw [absorb_n, h1n, hm]
      have h2o : (absorb g1 cs).op.length = 64 := by rw [absorb_op, h1o]
      obtain ⟨g2, hg2⟩ : ∃ g, absorb g1 cs = g := ⟨_, rfl⟩
      rw [hg2] at h2n h2o HS2
      have HW2 : Hid (g1.n + cs.length < 4611686018427387904) := by
        unfold Hid
        omega
      have HG1N : Hid (g1.n < 4611686018427387000) := by
        unfold Hid
        omega
      have HG2N : Hid (g2.n < 4611686018427387000) := by
        unfold Hid
        omega
      have HO0 := hide new_op
      have HO1 := hide h1o
      have HO2 := hide h2o
      have HE1 := hide hg1
      have HE2 := hide hg2
      clear hg1 hg2 h1n h1o h2n h2o hn hm hda hdb
      go_enter Tryd.func4, Tryd.ntmps4
      go_wp2_with (first
        | (show wpList _ _ _ (⟨some 6, .alloc _, _, _, _, _⟩ :: _) _ _; refine wpS_alloc hS rfl rfl zero32b (zs := (List.replicate 32 (0 : Byte)).map B8) rfl ?_; clear hS; intro n6 w hS; go_frame)
        | (show wpList _ _ _ (⟨some 8, .alloc _, _, _, _, _⟩ :: _) _ _; refine wpS_alloc hS rfl rfl zero32b (zs := (List.replicate 32 (0 : Byte)).map B8) rfl ?_; clear hS; intro n8 w hS; go_frame)
        | (show wpList _ _ _ (⟨some 10, .alloc _, _, _, _, _⟩ :: _) _ _; refine wpS_alloc hS rfl rfl zero32b (zs := (List.replicate 32 (0 : Byte)).map B8) rfl ?_; clear hS; intro n10 w hS; go_frame)
        | (go_at_call 17; refine Ret.calls (alive_s hS hK hF) ?_; clear hS; rintro r w ⟨rfl, hS⟩)
        | (show wpList _ _ _ (⟨_, .alloc 34, _, _, _, _⟩ :: _) _ _; refine wpS_alloc hS rfl rfl zero32b (zs := (List.replicate 32 (0 : Byte)).map B8) rfl ?_; clear hS; intro nb w hS; go_frame)
        | (show wpList _ _ _ (⟨_, .load 34 _, _, _, _, _⟩ :: _) _ _; refine wpList_val rfl (op_load agg32b rfl rfl ((hS.bring (by repeat (first | exact t0 | apply tS))).getBlk.cells) (by rw [List.length_map]; first | exact sum_len _ | exact twice_len _ | exact sumH_len _)) ?_; go_frame)
        | (show wpList _ _ _ (⟨_, .store 34 _ _, _, _, _, _⟩ :: _) _ _; (refine wpS_storeAll agg32b (hS.bring (by repeat (first | exact t0 | apply tS))) rfl rfl rfl (vs := List.map B8 _) rfl (by rw [List.length_map]; first | exact sum_len _ | exact twice_len _ | exact sumH_len _) (B8_one _) (by rw [List.length_map, List.length_replicate]) ?_); clear hS; intro w hS; go_frame)
        | (show wpList _ _ _ (⟨_, .slice 34 _ none none _, _, _, _, _⟩ :: _) _ _; refine wpList_val rfl (op_sliceArr arr32b rfl rfl (l := 0) (h := 32) (Or.inl ⟨rfl, rfl⟩) (Or.inl ⟨rfl, rfl⟩) (by omega) (by omega)) ?_; rw [if_neg (by omega)]; go_frame)
        | (show wpList _ _ _ (⟨some 15, .call _, _, _, _, _⟩ :: _) _ _; refine wpList_val rfl (op_lenB slBytes rfl rfl rfl (hS.rd ha) HNA.out) ?_; go_frame)
        | (show wpList _ _ _ (⟨some 16, .binOp .gtr _ _ _ _, _, _, _, _⟩ :: _) _ _; refine wpList_val rfl (op_igtr rfl rfl rfl HDA.out) ?_; go_frame)
        | (show wpList _ _ _ (⟨some 19, .call _, _, _, _, _⟩ :: _) _ _; refine wpList_val rfl (op_lenB slBytes rfl rfl rfl (hS.rd hb) HNB.out) ?_; go_frame)
        | (show wpList _ _ _ (⟨some 20, .binOp .gtr _ _ _ _, _, _, _, _⟩ :: _) _ _; refine wpList_val rfl (op_igtr rfl rfl rfl HDB.out) ?_; go_frame)
        | (go_at_call 20; refine Ret.calls (new_s hS hF) ?_; clear hS; rintro r w ⟨p, rfl, hS⟩)
        | (show wpList _ _ _ (⟨some 25, .buildSlice _ _ _, _, _, _, _⟩ :: _) _ _; refine wpS_build11 slPieces hS rfl rfl rfl hca ?_; clear hS; intro v2 w hS; go_frame)
        | (show wpList _ _ _ (⟨some 39, .buildSlice _ _ _, _, _, _, _⟩ :: _) _ _; refine wpS_build11 slPieces hS rfl rfl rfl hcb ?_; clear hS; intro v3 w hS; go_frame)
        | (go_at_call 21; refine Ret.calls (write_one hS hK HO0.out ha HW1.out) ?_; clear hS; rintro r w ⟨rfl, hS⟩; rw [HE1.out] at hS)
        | (go_at_call 21; refine Ret.calls (write_one (hd2 (by repeat (first | exact t0 | apply tS)) hS) hK HO1.out hb HW2.out) ?_; clear hS; rintro r w ⟨rfl, hS⟩; rw [HE2.out] at hS; clear HW2)
        | (replace HW2 := HW2; go_at_call 22; (refine Ret.calls (sum_m (h := g1) (hS.bring (by repeat (first | exact t0 | apply tS))) hK HO1.out HG1N.out) ?_); clear hS; rintro r w ⟨rfl, hS⟩)
        | (go_at_call 22; (refine Ret.calls (sum_m (h := g2) (hS.bring (by repeat (first | exact t0 | apply tS))) hK HO2.out HG2N.out) ?_); clear hS; rintro r w ⟨rfl, hS⟩)
        )
      refine wp_region_ord (by kernel_rfl) [6, 8, 10] [[0, 1, 2, 3, 4, 5, 6, 7, 8, 9, 10, 11, 12, 13, 14, 15, 16, 17, 18, 19, 20, 21, 22, 23, 24, 25, 26, 27, 28, 29, 30]] (by kernel_rfl) (by kernel_rfl) (fun w' => (Blk w' n6 34 ((sumH g1).map B8) ∧ Blk w' n8 34 ((sumH g1).map B8)) ∧ Blk w' n10 34 ((sumH g2).map B8)) (Up.and (Up.and Up.blk Up.blk) Up.blk) ⟨⟨((hS.bring (by repeat (first | exact t0 | apply tS))).getBlk), ((hS.bring (by repeat (first | exact t0 | apply tS))).getBlk)⟩, ((hS.bring (by repeat (first | exact t0 | apply tS))).getBlk)⟩ (by repeat (first | exact Clean.body | refine Clean.then ?_ | refine Clean.inBlock ?_ | refine SegQ.clean ?_ | refine FinC.clean ?_)) ?_
      replace hS := hS.drew
      refine ord_seg (by repeat (first | exact Clean.body | refine Clean.then ?_ | refine Clean.inBlock ?_ | refine SegQ.clean ?_ | refine FinC.clean ?_)) (n := 17) (rest := [[14, 15, 16, 17, 18, 19, 20, 21, 22, 23, 24, 25, 26, 27, 28, 29, 30]]) [0, 1, 2, 3, 4, 5, 6, 7, 8, 9, 10, 11, 12, 13] [⟨_, _, _, _, _, _⟩, ⟨_, _, _, _, _, _⟩, ⟨_, _, _, _, _, _⟩, ⟨_, _, _, _, _, _⟩, ⟨_, _, _, _, _, _⟩, ⟨_, _, _, _, _, _⟩, ⟨_, _, _, _, _, _⟩, ⟨_, _, _, _, _, _⟩, ⟨_, _, _, _, _, _⟩, ⟨_, _, _, _, _, _⟩, ⟨_, _, _, _, _, _⟩, ⟨_, _, _, _, _, _⟩, ⟨_, _, _, _, _, _⟩, ⟨_, _, _, _, _, _⟩] rfl (by kernel_rfl) (by simp) _ _ ?_
      go_wp2_with (first
        | (go_at_call 17; refine Ret.calls (alive_s hS hK hF) ?_; clear hS; rintro r w ⟨rfl, hS⟩)
        | (show wpList _ _ _ (⟨_, .alloc 34, _, _, _, _⟩ :: _) _ _; refine wpS_alloc hS rfl rfl zero32b (zs := (List.replicate 32 (0 : Byte)).map B8) rfl ?_; clear hS; intro nb w hS; go_frame)
        | (show wpList _ _ _ (⟨_, .load 34 _, _, _, _, _⟩ :: _) _ _; refine wpList_val rfl (op_load agg32b rfl rfl ((hS.bring (by repeat (first | exact t0 | apply tS))).getBlk.cells) (by rw [List.length_map]; first | exact sum_len _ | exact twice_len _ | exact sumH_len _)) ?_; go_frame)
        | (show wpList _ _ _ (⟨_, .store 34 _ _, _, _, _, _⟩ :: _) _ _; (refine wpS_storeAll agg32b (hS.bring (by repeat (first | exact t0 | apply tS))) rfl rfl rfl (vs := List.map B8 _) rfl (by rw [List.length_map]; first | exact sum_len _ | exact twice_len _ | exact sumH_len _) (B8_one _) (by rw [List.length_map, List.length_replicate]) ?_); clear hS; intro w hS; go_frame)
        | (show wpList _ _ _ (⟨_, .slice 34 _ none none _, _, _, _, _⟩ :: _) _ _; refine wpList_val rfl (op_sliceArr arr32b rfl rfl (l := 0) (h := 32) (Or.inl ⟨rfl, rfl⟩) (Or.inl ⟨rfl, rfl⟩) (by omega) (by omega)) ?_; rw [if_neg (by omega)]; go_frame)
        | (show wpList _ _ _ (⟨_, .buildSlice _ 1 _, _, _, _, _⟩ :: _) _ _; refine wpS_build11 slPieces hS rfl rfl rfl hca ?_; clear hS; intro v2 w hS; go_frame)
        | (show wpList _ _ _ (⟨_, .buildSlice _ 2 _, _, _, _, _⟩ :: _) _ _; refine wpS_buildL slPieces hS rfl rfl [va, vb] rfl rfl (by omega) (by omega) hc2 ?_; clear hS; intro v2 w hS; rw [hcl2] at hS; go_frame)
        | (go_at_call 23; (first | (with_reducible refine Ret.calls (sum_arg1 hS hK hF ha HA.out) ?_) | (with_reducible refine Ret.calls (sum_arg2 hS hK hF ha hb HAB.out) ?_)); clear hS; rintro r w ⟨rfl, hS⟩)
        | (show wpList _ _ _ (⟨_, .binOp .eql 34 _ _ _, _, _, _, _⟩ :: _) _ _; refine wpList_val rfl (op_eqHash rfl rfl rfl (by first | exact sum_len _ | exact sumH_len _) (by first | rfl | exact HS1.out | exact HS2.out)) ?_; go_frame)
        )
      refine segQ_mk ⟨⟨((hS.bring (by repeat (first | exact t0 | apply tS))).getBlk), ((hS.bring (by repeat (first | exact t0 | apply tS))).getBlk)⟩, ((hS.bring (by repeat (first | exact t0 | apply tS))).getBlk)⟩ ?_
      refine ord_seg (by repeat (first | exact Clean.body | refine Clean.then ?_ | refine Clean.inBlock ?_ | refine SegQ.clean ?_ | refine FinC.clean ?_)) (n := 11) (rest := [[20, 21, 22, 23, 24, 25, 26, 27, 28, 29, 30]]) [14, 15, 16, 17, 18, 19] [⟨_, _, _, _, _, _⟩, ⟨_, _, _, _, _, _⟩, ⟨_, _, _, _, _, _⟩, ⟨_, _, _, _, _, _⟩, ⟨_, _, _, _, _, _⟩, ⟨_, _, _, _, _, _⟩] rfl (by kernel_rfl) (by simp) _ _ ?_
      go_wp2_with (first
        | (go_at_call 17; refine Ret.calls (alive_s hS hK hF) ?_; clear hS; rintro r w ⟨rfl, hS⟩)
        | (show wpList _ _ _ (⟨_, .alloc 34, _, _, _, _⟩ :: _) _ _; refine wpS_alloc hS rfl rfl zero32b (zs := (List.replicate 32 (0 : Byte)).map B8) rfl ?_; clear hS; intro nb w hS; go_frame)
        | (show wpList _ _ _ (⟨_, .load 34 _, _, _, _, _⟩ :: _) _ _; refine wpList_val rfl (op_load agg32b rfl rfl ((hS.bring (by repeat (first | exact t0 | apply tS))).getBlk.cells) (by rw [List.length_map]; first | exact sum_len _ | exact twice_len _ | exact sumH_len _)) ?_; go_frame)
        | (show wpList _ _ _ (⟨_, .store 34 _ _, _, _, _, _⟩ :: _) _ _; (refine wpS_storeAll agg32b (hS.bring (by repeat (first | exact t0 | apply tS))) rfl rfl rfl (vs := List.map B8 _) rfl (by rw [List.length_map]; first | exact sum_len _ | exact twice_len _ | exact sumH_len _) (B8_one _) (by rw [List.length_map, List.length_replicate]) ?_); clear hS; intro w hS; go_frame)
        | (show wpList _ _ _ (⟨_, .slice 34 _ none none _, _, _, _, _⟩ :: _) _ _; refine wpList_val rfl (op_sliceArr arr32b rfl rfl (l := 0) (h := 32) (Or.inl ⟨rfl, rfl⟩) (Or.inl ⟨rfl, rfl⟩) (by omega) (by omega)) ?_; rw [if_neg (by omega)]; go_frame)
        | (show wpList _ _ _ (⟨_, .buildSlice _ 1 _, _, _, _, _⟩ :: _) _ _; refine wpS_build11 slPieces hS rfl rfl rfl hca ?_; clear hS; intro v2 w hS; go_frame)
        | (show wpList _ _ _ (⟨_, .buildSlice _ 2 _, _, _, _, _⟩ :: _) _ _; refine wpS_buildL slPieces hS rfl rfl [va, vb] rfl rfl (by omega) (by omega) hc2 ?_; clear hS; intro v2 w hS; rw [hcl2] at hS; go_frame)
        | (go_at_call 23; (first | (with_reducible refine Ret.calls (sum_arg1 hS hK hF ha HA.out) ?_) | (with_reducible refine Ret.calls (sum_arg2 hS hK hF ha hb HAB.out) ?_)); clear hS; rintro r w ⟨rfl, hS⟩)
        | (show wpList _ _ _ (⟨_, .binOp .eql 34 _ _ _, _, _, _, _⟩ :: _) _ _; refine wpList_val rfl (op_eqHash rfl rfl rfl (by first | exact sum_len _ | exact sumH_len _) (by first | rfl | exact HS1.out | exact HS2.out)) ?_; go_frame)
        )
      refine segQ_mk ⟨⟨((hS.bring (by repeat (first | exact t0 | apply tS))).getBlk), ((hS.bring (by repeat (first | exact t0 | apply tS))).getBlk)⟩, ((hS.bring (by repeat (first | exact t0 | apply tS))).getBlk)⟩ ?_
      refine ord_seg (by repeat (first | exact Clean.body | refine Clean.then ?_ | refine Clean.inBlock ?_ | refine SegQ.clean ?_ | refine FinC.clean ?_)) (n := 10) (rest := [[21, 22, 23, 24, 25, 26, 27, 28, 29, 30]]) [20] [⟨_, _, _, _, _, _⟩] rfl (by kernel_rfl) (by simp) _ _ ?_
      go_wp2_with (first
        | (go_at_call 17; refine Ret.calls (alive_s hS hK hF) ?_; clear hS; rintro r w ⟨rfl, hS⟩)
        | (show wpList _ _ _ (⟨_, .alloc 34, _, _, _, _⟩ :: _) _ _; refine wpS_alloc hS rfl rfl zero32b (zs := (List.replicate 32 (0 : Byte)).map B8) rfl ?_; clear hS; intro nb w hS; go_frame)
        | (show wpList _ _ _ (⟨_, .load 34 _, _, _, _, _⟩ :: _) _ _; refine wpList_val rfl (op_load agg32b rfl rfl ((hS.bring (by repeat (first | exact t0 | apply tS))).getBlk.cells) (by rw [List.length_map]; first | exact sum_len _ | exact twice_len _ | exact sumH_len _)) ?_; go_frame)
        | (show wpList _ _ _ (⟨_, .store 34 _ _, _, _, _, _⟩ :: _) _ _; (refine wpS_storeAll agg32b (hS.bring (by repeat (first | exact t0 | apply tS))) rfl rfl rfl (vs := List.map B8 _) rfl (by rw [List.length_map]; first | exact sum_len _ | exact twice_len _ | exact sumH_len _) (B8_one _) (by rw [List.length_map, List.length_replicate]) ?_); clear hS; intro w hS; go_frame)
        | (show wpList _ _ _ (⟨_, .slice 34 _ none none _, _, _, _, _⟩ :: _) _ _; refine wpList_val rfl (op_sliceArr arr32b rfl rfl (l := 0) (h := 32) (Or.inl ⟨rfl, rfl⟩) (Or.inl ⟨rfl, rfl⟩) (by omega) (by omega)) ?_; rw [if_neg (by omega)]; go_frame)
        | (show wpList _ _ _ (⟨_, .buildSlice _ 1 _, _, _, _, _⟩ :: _) _ _; refine wpS_build11 slPieces hS rfl rfl rfl hca ?_; clear hS; intro v2 w hS; go_frame)
        | (show wpList _ _ _ (⟨_, .buildSlice _ 2 _, _, _, _, _⟩ :: _) _ _; refine wpS_buildL slPieces hS rfl rfl [va, vb] rfl rfl (by omega) (by omega) hc2 ?_; clear hS; intro v2 w hS; rw [hcl2] at hS; go_frame)
        | (go_at_call 23; (first | (with_reducible refine Ret.calls (sum_arg1 hS hK hF ha HA.out) ?_) | (with_reducible refine Ret.calls (sum_arg2 hS hK hF ha hb HAB.out) ?_)); clear hS; rintro r w ⟨rfl, hS⟩)
        | (show wpList _ _ _ (⟨_, .binOp .eql 34 _ _ _, _, _, _, _⟩ :: _) _ _; refine wpList_val rfl (op_eqHash rfl rfl rfl (by first | exact sum_len _ | exact sumH_len _) (by first | rfl | exact HS1.out | exact HS2.out)) ?_; go_frame)
        )
      refine segQ_mk ⟨⟨((hS.bring (by repeat (first | exact t0 | apply tS))).getBlk), ((hS.bring (by repeat (first | exact t0 | apply tS))).getBlk)⟩, ((hS.bring (by repeat (first | exact t0 | apply tS))).getBlk)⟩ ?_
      refine ord_seg (by repeat (first | exact Clean.body | refine Clean.then ?_ | refine Clean.inBlock ?_ | refine SegQ.clean ?_ | refine FinC.clean ?_)) (n := 3) (rest := [[28, 29, 30]]) [21, 22, 23, 24, 25, 26, 27] [⟨_, _, _, _, _, _⟩, ⟨_, _, _, _, _, _⟩, ⟨_, _, _, _, _, _⟩, ⟨_, _, _, _, _, _⟩, ⟨_, _, _, _, _, _⟩, ⟨_, _, _, _, _, _⟩, ⟨_, _, _, _, _, _⟩] rfl (by kernel_rfl) (by simp) _ _ ?_
      go_wp2_with (first
        | (go_at_call 17; refine Ret.calls (alive_s hS hK hF) ?_; clear hS; rintro r w ⟨rfl, hS⟩)
        | (show wpList _ _ _ (⟨_, .alloc 34, _, _, _, _⟩ :: _) _ _; refine wpS_alloc hS rfl rfl zero32b (zs := (List.replicate 32 (0 : Byte)).map B8) rfl ?_; clear hS; intro nb w hS; go_frame)
        | (show wpList _ _ _ (⟨_, .load 34 _, _, _, _, _⟩ :: _) _ _; refine wpList_val rfl (op_load agg32b rfl rfl ((hS.bring (by repeat (first | exact t0 | apply tS))).getBlk.cells) (by rw [List.length_map]; first | exact sum_len _ | exact twice_len _ | exact sumH_len _)) ?_; go_frame)
        | (show wpList _ _ _ (⟨_, .store 34 _ _, _, _, _, _⟩ :: _) _ _; (refine wpS_storeAll agg32b (hS.bring (by repeat (first | exact t0 | apply tS))) rfl rfl rfl (vs := List.map B8 _) rfl (by rw [List.length_map]; first | exact sum_len _ | exact twice_len _ | exact sumH_len _) (B8_one _) (by rw [List.length_map, List.length_replicate]) ?_); clear hS; intro w hS; go_frame)
        | (show wpList _ _ _ (⟨_, .slice 34 _ none none _, _, _, _, _⟩ :: _) _ _; refine wpList_val rfl (op_sliceArr arr32b rfl rfl (l := 0) (h := 32) (Or.inl ⟨rfl, rfl⟩) (Or.inl ⟨rfl, rfl⟩) (by omega) (by omega)) ?_; rw [if_neg (by omega)]; go_frame)
        | (show wpList _ _ _ (⟨_, .buildSlice _ 1 _, _, _, _, _⟩ :: _) _ _; refine wpS_build11 slPieces hS rfl rfl rfl hca ?_; clear hS; intro v2 w hS; go_frame)
        | (show wpList _ _ _ (⟨_, .buildSlice _ 2 _, _, _, _, _⟩ :: _) _ _; refine wpS_buildL slPieces hS rfl rfl [va, vb] rfl rfl (by omega) (by omega) hc2 ?_; clear hS; intro v2 w hS; rw [hcl2] at hS; go_frame)
        | (go_at_call 23; (first | (with_reducible refine Ret.calls (sum_arg1 hS hK hF ha HA.out) ?_) | (with_reducible refine Ret.calls (sum_arg2 hS hK hF ha hb HAB.out) ?_)); clear hS; rintro r w ⟨rfl, hS⟩)
        | (show wpList _ _ _ (⟨_, .binOp .eql 34 _ _ _, _, _, _, _⟩ :: _) _ _; refine wpList_val rfl (op_eqHash rfl rfl rfl (by first | exact sum_len _ | exact sumH_len _) (by first | rfl | exact HS1.out | exact HS2.out)) ?_; go_frame)
        )
      refine segQ_mk ⟨⟨((hS.bring (by repeat (first | exact t0 | apply tS))).getBlk), ((hS.bring (by repeat (first | exact t0 | apply tS))).getBlk)⟩, ((hS.bring (by repeat (first | exact t0 | apply tS))).getBlk)⟩ ?_
      refine ord_seg (by repeat (first | exact Clean.body | refine Clean.then ?_ | refine Clean.inBlock ?_ | refine SegQ.clean ?_ | refine FinC.clean ?_)) (n := 2) (rest := [[29, 30]]) [28] [⟨_, _, _, _, _, _⟩] rfl (by kernel_rfl) (by simp) _ _ ?_
      go_wp2_with (first
        | (go_at_call 17; refine Ret.calls (alive_s hS hK hF) ?_; clear hS; rintro r w ⟨rfl, hS⟩)
        | (show wpList _ _ _ (⟨_, .alloc 34, _, _, _, _⟩ :: _) _ _; refine wpS_alloc hS rfl rfl zero32b (zs := (List.replicate 32 (0 : Byte)).map B8) rfl ?_; clear hS; intro nb w hS; go_frame)
        | (show wpList _ _ _ (⟨_, .load 34 _, _, _, _, _⟩ :: _) _ _; refine wpList_val rfl (op_load agg32b rfl rfl ((hS.bring (by repeat (first | exact t0 | apply tS))).getBlk.cells) (by rw [List.length_map]; first | exact sum_len _ | exact twice_len _ | exact sumH_len _)) ?_; go_frame)
        | (show wpList _ _ _ (⟨_, .store 34 _ _, _, _, _, _⟩ :: _) _ _; (refine wpS_storeAll agg32b (hS.bring (by repeat (first | exact t0 | apply tS))) rfl rfl rfl (vs := List.map B8 _) rfl (by rw [List.length_map]; first | exact sum_len _ | exact twice_len _ | exact sumH_len _) (B8_one _) (by rw [List.length_map, List.length_replicate]) ?_); clear hS; intro w hS; go_frame)
        | (show wpList _ _ _ (⟨_, .slice 34 _ none none _, _, _, _, _⟩ :: _) _ _; refine wpList_val rfl (op_sliceArr arr32b rfl rfl (l := 0) (h := 32) (Or.inl ⟨rfl, rfl⟩) (Or.inl ⟨rfl, rfl⟩) (by omega) (by omega)) ?_; rw [if_neg (by omega)]; go_frame)
        | (show wpList _ _ _ (⟨_, .buildSlice _ 1 _, _, _, _, _⟩ :: _) _ _; refine wpS_build11 slPieces hS rfl rfl rfl hca ?_; clear hS; intro v2 w hS; go_frame)
        | (show wpList _ _ _ (⟨_, .buildSlice _ 2 _, _, _, _, _⟩ :: _) _ _; refine wpS_buildL slPieces hS rfl rfl [va, vb] rfl rfl (by omega) (by omega) hc2 ?_; clear hS; intro v2 w hS; rw [hcl2] at hS; go_frame)
        | (go_at_call 23; (first | (with_reducible refine Ret.calls (sum_arg1 hS hK hF ha HA.out) ?_) | (with_reducible refine Ret.calls (sum_arg2 hS hK hF ha hb HAB.out) ?_)); clear hS; rintro r w ⟨rfl, hS⟩)
        | (show wpList _ _ _ (⟨_, .binOp .eql 34 _ _ _, _, _, _, _⟩ :: _) _ _; refine wpList_val rfl (op_eqHash rfl rfl rfl (by first | exact sum_len _ | exact sumH_len _) (by first | rfl | exact HS1.out | exact HS2.out)) ?_; go_frame)
        )
      refine segQ_mk ⟨⟨((hS.bring (by repeat (first | exact t0 | apply tS))).getBlk), ((hS.bring (by repeat (first | exact t0 | apply tS))).getBlk)⟩, ((hS.bring (by repeat (first | exact t0 | apply tS))).getBlk)⟩ ?_
      refine ord_seg (by repeat (first | exact Clean.body | refine Clean.then ?_ | refine Clean.inBlock ?_ | refine SegQ.clean ?_ | refine FinC.clean ?_)) (n := 0) (rest := [[]]) [29, 30] [⟨_, _, _, _, _, _⟩, ⟨_, _, _, _, _, _⟩] rfl (by kernel_rfl) (by simp) _ _ ?_
      go_wp2_with (first
        | (go_at_call 17; refine Ret.calls (alive_s hS hK hF) ?_; clear hS; rintro r w ⟨rfl, hS⟩)
        | (show wpList _ _ _ (⟨_, .alloc 34, _, _, _, _⟩ :: _) _ _; refine wpS_alloc hS rfl rfl zero32b (zs := (List.replicate 32 (0 : Byte)).map B8) rfl ?_; clear hS; intro nb w hS; go_frame)
        | (show wpList _ _ _ (⟨_, .load 34 _, _, _, _, _⟩ :: _) _ _; refine wpList_val rfl (op_load agg32b rfl rfl ((hS.bring (by repeat (first | exact t0 | apply tS))).getBlk.cells) (by rw [List.length_map]; first | exact sum_len _ | exact twice_len _ | exact sumH_len _)) ?_; go_frame)
        | (show wpList _ _ _ (⟨_, .store 34 _ _, _, _, _, _⟩ :: _) _ _; (refine wpS_storeAll agg32b (hS.bring (by repeat (first | exact t0 | apply tS))) rfl rfl rfl (vs := List.map B8 _) rfl (by rw [List.length_map]; first | exact sum_len _ | exact twice_len _ | exact sumH_len _) (B8_one _) (by rw [List.length_map, List.length_replicate]) ?_); clear hS; intro w hS; go_frame)
        | (show wpList _ _ _ (⟨_, .slice 34 _ none none _, _, _, _, _⟩ :: _) _ _; refine wpList_val rfl (op_sliceArr arr32b rfl rfl (l := 0) (h := 32) (Or.inl ⟨rfl, rfl⟩) (Or.inl ⟨rfl, rfl⟩) (by omega) (by omega)) ?_; rw [if_neg (by omega)]; go_frame)
        | (show wpList _ _ _ (⟨_, .buildSlice _ 1 _, _, _, _, _⟩ :: _) _ _; refine wpS_build11 slPieces hS rfl rfl rfl hca ?_; clear hS; intro v2 w hS; go_frame)
        | (show wpList _ _ _ (⟨_, .buildSlice _ 2 _, _, _, _, _⟩ :: _) _ _; refine wpS_buildL slPieces hS rfl rfl [va, vb] rfl rfl (by omega) (by omega) hc2 ?_; clear hS; intro v2 w hS; rw [hcl2] at hS; go_frame)
        | (go_at_call 23; (first | (with_reducible refine Ret.calls (sum_arg1 hS hK hF ha HA.out) ?_) | (with_reducible refine Ret.calls (sum_arg2 hS hK hF ha hb HAB.out) ?_)); clear hS; rintro r w ⟨rfl, hS⟩)
        | (show wpList _ _ _ (⟨_, .binOp .eql 34 _ _ _, _, _, _, _⟩ :: _) _ _; refine wpList_val rfl (op_eqHash rfl rfl rfl (by first | exact sum_len _ | exact sumH_len _) (by first | rfl | exact HS1.out | exact HS2.out)) ?_; go_frame)
        )
      refine segQ_mk ⟨⟨((hS.bring (by repeat (first | exact t0 | apply tS))).getBlk), ((hS.bring (by repeat (first | exact t0 | apply tS))).getBlk)⟩, ((hS.bring (by repeat (first | exact t0 | apply tS))).getBlk)⟩ ?_
      refine finC_mk (by kernel_rfl) (by
        intro t ht
        simp only [List.mem_cons, List.not_mem_nil, or_false] at ht
        rcases ht with rfl | rfl | rfl
        · exact stab_blk (b := n6) (fun w h => h.1.1) _ none
        · exact stab_blk (b := n8) (fun w h => h.1.2) _ none
        · exact stab_blk (b := n10) (fun w h => h.2) _ none) ?_
      go_wp2_with fail
      go_ret
      exact ⟨rfl, hS.chg⟩
    · go_enter Tryd.func4, Tryd.ntmps4
      go_wp2_with (first
        | (go_at_call 17; refine Ret.calls (alive_s hS hK hF) ?_; clear hS; rintro r w ⟨rfl, hS⟩)
        | (show wpList _ _ _ (⟨_, .alloc 34, _, _, _, _⟩ :: _) _ _; refine wpS_alloc hS rfl rfl zero32b (zs := (List.replicate 32 (0 : Byte)).map B8) rfl ?_; clear hS; intro nb w hS; go_frame)
        | (show wpList _ _ _ (⟨_, .load 34 _, _, _, _, _⟩ :: _) _ _; refine wpList_val rfl (op_load agg32b rfl rfl ((hS.bring (by repeat (first | exact t0 | apply tS))).getBlk.cells) (by rw [List.length_map]; first | exact sum_len _ | exact twice_len _ | exact sumH_len _)) ?_; go_frame)
        | (show wpList _ _ _ (⟨_, .store 34 _ _, _, _, _, _⟩ :: _) _ _; (refine wpS_storeAll agg32b (hS.bring (by repeat (first | exact t0 | apply tS))) rfl rfl rfl (vs := List.map B8 _) rfl (by rw [List.length_map]; first | exact sum_len _ | exact twice_len _ | exact sumH_len _) (B8_one _) (by rw [List.length_map, List.length_replicate]) ?_); clear hS; intro w hS; go_frame)
        | (show wpList _ _ _ (⟨_, .slice 34 _ none none _, _, _, _, _⟩ :: _) _ _; refine wpList_val rfl (op_sliceArr arr32b rfl rfl (l := 0) (h := 32) (Or.inl ⟨rfl, rfl⟩) (Or.inl ⟨rfl, rfl⟩) (by omega) (by omega)) ?_; rw [if_neg (by omega)]; go_frame)
        | (show wpList _ _ _ (⟨some 15, .call _, _, _, _, _⟩ :: _) _ _; refine wpList_val rfl (op_lenB slBytes rfl rfl rfl (hS.rd ha) HNA.out) ?_; go_frame)
        | (show wpList _ _ _ (⟨some 16, .binOp .gtr _ _ _ _, _, _, _, _⟩ :: _) _ _; refine wpList_val rfl (op_igtr rfl rfl rfl HDA.out) ?_; go_frame)
        | (show wpList _ _ _ (⟨some 19, .call _, _, _, _, _⟩ :: _) _ _; refine wpList_val rfl (op_lenB slBytes rfl rfl rfl (hS.rd hb) HNB.out) ?_; go_frame)
        | (show wpList _ _ _ (⟨some 20, .binOp .gtr _ _ _ _, _, _, _, _⟩ :: _) _ _; refine wpList_val rfl (op_igtr rfl rfl rfl HDB.out) ?_; go_frame)
        | (refine wp_region_text (by kernel_rfl) (by kernel_rfl) (by repeat (first | exact Clean.body | refine Clean.then ?_ | refine Clean.inBlock ?_)) ?_; replace hS := hS.drew)
        | (refine fin_mk (by kernel_rfl) ?_)
        )
      go_ret
      exact ⟨rfl, hS.chg⟩
  · go_enter Tryd.func4, Tryd.ntmps4
    go_wp2_with (first
      | (go_at_call 17; refine Ret.calls (alive_s hS hK hF) ?_; clear hS; rintro r w ⟨rfl, hS⟩)
      | (show wpList _ _ _ (⟨_, .alloc 34, _, _, _, _⟩ :: _) _ _; refine wpS_alloc hS rfl rfl zero32b (zs := (List.replicate 32 (0 : Byte)).map B8) rfl ?_; clear hS; intro nb w hS; go_frame)
      | (show wpList _ _ _ (⟨_, .load 34 _, _, _, _, _⟩ :: _) _ _; refine wpList_val rfl (op_load agg32b rfl rfl ((hS.bring (by repeat (first | exact t0 | apply tS))).getBlk.cells) (by rw [List.length_map]; first | exact sum_len _ | exact twice_len _ | exact sumH_len _)) ?_; go_frame)
      | (show wpList _ _ _ (⟨_, .store 34 _ _, _, _, _, _⟩ :: _) _ _; (refine wpS_storeAll agg32b (hS.bring (by repeat (first | exact t0 | apply tS))) rfl rfl rfl (vs := List.map B8 _) rfl (by rw [List.length_map]; first | exact sum_len _ | exact twice_len _ | exact sumH_len _) (B8_one _) (by rw [List.length_map, List.length_replicate]) ?_); clear hS; intro w hS; go_frame)
      | (show wpList _ _ _ (⟨_, .slice 34 _ none none _, _, _, _, _⟩ :: _) _ _; refine wpList_val rfl (op_sliceArr arr32b rfl rfl (l := 0) (h := 32) (Or.inl ⟨rfl, rfl⟩) (Or.inl ⟨rfl, rfl⟩) (by omega) (by omega)) ?_; rw [if_neg (by omega)]; go_frame)
      | (show wpList _ _ _ (⟨some 15, .call _, _, _, _, _⟩ :: _) _ _; refine wpList_val rfl (op_lenB slBytes rfl rfl rfl (hS.rd ha) HNA.out) ?_; go_frame)
      | (show wpList _ _ _ (⟨some 16, .binOp .gtr _ _ _ _, _, _, _, _⟩ :: _) _ _; refine wpList_val rfl (op_igtr rfl rfl rfl HDA.out) ?_; go_frame)
      | (show wpList _ _ _ (⟨some 19, .call _, _, _, _, _⟩ :: _) _ _; refine wpList_val rfl (op_lenB slBytes rfl rfl rfl (hS.rd hb) HNB.out) ?_; go_frame)
      | (show wpList _ _ _ (⟨some 20, .binOp .gtr _ _ _ _, _, _, _, _⟩ :: _) _ _; refine wpList_val rfl (op_igtr rfl rfl rfl HDB.out) ?_; go_frame)
      | (refine wp_region_text (by kernel_rfl) (by kernel_rfl) (by repeat (first | exact Clean.body | refine Clean.then ?_ | refine Clean.inBlock ?_)) ?_; replace hS := hS.drew)
      | (refine fin_mk (by kernel_rfl) ?_)
      )
    go_ret
    exact ⟨rfl, hS.chg⟩
end Go.Proofs.YtpdanieiafjmhaaDoor
