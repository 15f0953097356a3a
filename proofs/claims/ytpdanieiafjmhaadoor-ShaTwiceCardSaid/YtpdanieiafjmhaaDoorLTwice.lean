/- Twice is the sum of the sum, the check its first four bytes: the law returns true. Conditions: those that stand ahead of each theorem. -/
import Derived.Test.YtpdanieiafjmhaaDoorCheck
namespace Go.Proofs.YtpdanieiafjmhaaDoor
open Go.RowKit Go.Px Go.Sha
set_option maxRecDepth 100000 in
set_option maxHeartbeats 4000000 in
theorem shaTwice_w {W : World} (hK : CIn All W 0 (kTab.map W32)) (hF : CIn All W 1 (first.map W32)) {v : Value} {bs : List Byte} (hb : RdIn All W 1 v (bytes bs)) :
    Calls Tryd.prog 9 #[v] W (Ret fun r w' => r = .bool true ∧ Chg No W w') := by
  have hS := SepL.start W
  have hc := RdIn.cell1 hb
  obtain ⟨n, hn⟩ : ∃ n, bs.length = n := ⟨_, rfl⟩
  have HN := hide hn
  by_cases hbig : 4000 < n
  · have HD : Hid (decide ((4000 : Int) < (n : Int)) = true) := by
      unfold Hid
      rw [decide_eq_true_iff]
      omega
    clear hbig hn
    go_enter Tryd.func9, Tryd.ntmps9
    go_wp2_with (first
      | (go_at_call 17; refine Ret.calls (alive_s hS hK hF) ?_; clear hS; rintro r w ⟨rfl, hS⟩)
      | (show wpList _ _ _ (⟨_, .alloc 34, _, _, _, _⟩ :: _) _ _; refine wpS_alloc hS rfl rfl zero32b (zs := (List.replicate 32 (0 : Byte)).map B8) rfl ?_; clear hS; intro nb w hS; go_frame)
      | (show wpList _ _ _ (⟨_, .load 34 _, _, _, _, _⟩ :: _) _ _; refine wpList_val rfl (op_load agg32b rfl rfl ((hS.bring (by repeat (first | exact t0 | apply tS))).getBlk.cells) (by rw [List.length_map]; first | exact sum_len _ | exact twice_len _ | exact sumH_len _)) ?_; go_frame)
      | (show wpList _ _ _ (⟨_, .store 34 _ _, _, _, _, _⟩ :: _) _ _; (refine wpS_storeAll agg32b (hS.bring (by repeat (first | exact t0 | apply tS))) rfl rfl rfl (vs := List.map B8 _) rfl (by rw [List.length_map]; first | exact sum_len _ | exact twice_len _ | exact sumH_len _) (B8_one _) (by rw [List.length_map, List.length_replicate]) ?_); clear hS; intro w hS; go_frame)
      | (show wpList _ _ _ (⟨_, .slice 34 _ none none _, _, _, _, _⟩ :: _) _ _; refine wpList_val rfl (op_sliceArr arr32b rfl rfl (l := 0) (h := 32) (Or.inl ⟨rfl, rfl⟩) (Or.inl ⟨rfl, rfl⟩) (by omega) (by omega)) ?_; rw [if_neg (by omega)]; go_frame)
      | (show wpList _ _ _ (⟨_, .call ⟨.builtin .len, _, _⟩, _, _, _, _⟩ :: _) _ _; refine wpList_val rfl (op_lenB slBytes rfl rfl rfl (hS.rd hb) HN.out) ?_; go_frame)
      | (show wpList _ _ _ (⟨_, .binOp .gtr _ _ _ _, _, _, _, _⟩ :: _) _ _; refine wpList_val rfl (op_igtr rfl rfl rfl HD.out) ?_; go_frame)
      )
    go_ret
    exact ⟨rfl, hS.chg⟩
  · have HD : Hid (decide ((4000 : Int) < (n : Int)) = false) := by
      unfold Hid
      rw [decide_eq_false_iff_not]
      omega
    have HB : Hid (bs.length < 4611686018427386000) := by
      unfold Hid
      omega
    clear hbig hn
    have hTE := hide (twice_eq bs)
    go_enter Tryd.func9, Tryd.ntmps9
    go_wp2_with (first
      | (go_at_call 17; refine Ret.calls (alive_s hS hK hF) ?_; clear hS; rintro r w ⟨rfl, hS⟩)
      | (show wpList _ _ _ (⟨_, .alloc 34, _, _, _, _⟩ :: _) _ _; refine wpS_alloc hS rfl rfl zero32b (zs := (List.replicate 32 (0 : Byte)).map B8) rfl ?_; clear hS; intro nb w hS; go_frame)
      | (show wpList _ _ _ (⟨_, .load 34 _, _, _, _, _⟩ :: _) _ _; refine wpList_val rfl (op_load agg32b rfl rfl ((hS.bring (by repeat (first | exact t0 | apply tS))).getBlk.cells) (by rw [List.length_map]; first | exact sum_len _ | exact twice_len _ | exact sumH_len _)) ?_; go_frame)
      | (show wpList _ _ _ (⟨_, .store 34 _ _, _, _, _, _⟩ :: _) _ _; (refine wpS_storeAll agg32b (hS.bring (by repeat (first | exact t0 | apply tS))) rfl rfl rfl (vs := List.map B8 _) rfl (by rw [List.length_map]; first | exact sum_len _ | exact twice_len _ | exact sumH_len _) (B8_one _) (by rw [List.length_map, List.length_replicate]) ?_); clear hS; intro w hS; go_frame)
      | (show wpList _ _ _ (⟨_, .slice 34 _ none none _, _, _, _, _⟩ :: _) _ _; refine wpList_val rfl (op_sliceArr arr32b rfl rfl (l := 0) (h := 32) (Or.inl ⟨rfl, rfl⟩) (Or.inl ⟨rfl, rfl⟩) (by omega) (by omega)) ?_; rw [if_neg (by omega)]; go_frame)
      | (show wpList _ _ _ (⟨_, .call ⟨.builtin .len, _, _⟩, _, _, _, _⟩ :: _) _ _; refine wpList_val rfl (op_lenB slBytes rfl rfl rfl (hS.rd hb) HN.out) ?_; go_frame)
      | (show wpList _ _ _ (⟨_, .binOp .gtr _ _ _ _, _, _, _, _⟩ :: _) _ _; refine wpList_val rfl (op_igtr rfl rfl rfl HD.out) ?_; go_frame)
      | (show wpList _ _ _ (⟨_, .buildSlice _ _ _, _, _, _, _⟩ :: _) _ _; refine wpS_build11 slPieces hS rfl rfl rfl hc ?_; clear hS; intro v2 w hS; go_frame)
      | (go_at_call 23; refine Ret.calls (sum_arg1 hS hK hF hb HB.out) ?_; clear hS; rintro r w ⟨rfl, hS⟩)
      | (go_at_call 29; refine Ret.calls (twice_arg1 hS hK hF hb HB.out) ?_; clear hS; rintro r w ⟨rfl, hS⟩)
      )
    refine wp_region_ord (by kernel_rfl) [4, 24, 27, 32, 37] [[0, 1, 2, 3, 4, 5, 6, 8, 9, 10, 11, 12, 13, 14, 15, 16, 17, 18, 19, 20, 21, 22, 23, 24, 25, 7, 26, 27, 28]] (by kernel_rfl) (by kernel_rfl) (fun w' => Blk w' nb 34 ((twice bs).map B8)) Up.blk ((hS.bring (by repeat (first | exact t0 | apply tS))).getBlk) (by repeat (first | exact Clean.body | refine Clean.then ?_ | refine Clean.inBlock ?_ | refine SegQ.clean ?_ | refine FinC.clean ?_)) ?_
    replace hS := hS.drew
    have HL0 := hide (twice_len bs)
    have HL1 := hide (sum_len bs)
    have HL2 := hide (le4_eq (twice bs))
    refine ord_seg (by repeat (first | exact Clean.body | refine Clean.then ?_ | refine Clean.inBlock ?_ | refine SegQ.clean ?_ | refine FinC.clean ?_)) (n := 25) (rest := [[4, 5, 6, 8, 9, 10, 11, 12, 13, 14, 15, 16, 17, 18, 19, 20, 21, 22, 23, 24, 25, 7, 26, 27, 28]]) [0, 1, 2, 3] [⟨_, _, _, _, _, _⟩, ⟨_, _, _, _, _, _⟩, ⟨_, _, _, _, _, _⟩, ⟨_, _, _, _, _, _⟩] rfl (by kernel_rfl) (by simp) _ _ ?_
    go_wp2_with (first
      | (go_at_call 17; refine Ret.calls (alive_s hS hK hF) ?_; clear hS; rintro r w ⟨rfl, hS⟩)
      | (show wpList _ _ _ (⟨_, .alloc 34, _, _, _, _⟩ :: _) _ _; refine wpS_alloc hS rfl rfl zero32b (zs := (List.replicate 32 (0 : Byte)).map B8) rfl ?_; clear hS; intro nb w hS; go_frame)
      | (show wpList _ _ _ (⟨_, .load 34 _, _, _, _, _⟩ :: _) _ _; refine wpList_val rfl (op_load agg32b rfl rfl ((hS.bring (by repeat (first | exact t0 | apply tS))).getBlk.cells) (by rw [List.length_map]; first | exact sum_len _ | exact twice_len _ | exact sumH_len _)) ?_; go_frame)
      | (show wpList _ _ _ (⟨_, .store 34 _ _, _, _, _, _⟩ :: _) _ _; (refine wpS_storeAll agg32b (hS.bring (by repeat (first | exact t0 | apply tS))) rfl rfl rfl (vs := List.map B8 _) rfl (by rw [List.length_map]; first | exact sum_len _ | exact twice_len _ | exact sumH_len _) (B8_one _) (by rw [List.length_map, List.length_replicate]) ?_); clear hS; intro w hS; go_frame)
      | (show wpList _ _ _ (⟨_, .slice 34 _ none none _, _, _, _, _⟩ :: _) _ _; refine wpList_val rfl (op_sliceArr arr32b rfl rfl (l := 0) (h := 32) (Or.inl ⟨rfl, rfl⟩) (Or.inl ⟨rfl, rfl⟩) (by omega) (by omega)) ?_; rw [if_neg (by omega)]; go_frame)
      | (show wpList _ _ _ (⟨_, .buildSlice _ _ _, _, _, _, _⟩ :: _) _ _; refine wpS_build11 slPieces hS rfl rfl rfl rfl ?_; clear hS; intro v2 w hS; go_frame)
      | (go_at_call 23; refine Ret.calls (sum_blk (F := [.blk nb 34 ((twice bs).map B8)]) (hS.sel (by repeat (first | exact Sel.refl | refine Sel.take (by repeat (first | exact t0 | apply tS)) ?_ | apply Sel.drop))) hK hF HL1.out (by omega)) ?_; clear hS; rintro r w ⟨rfl, hS⟩)
      )
    refine segQ_mk ((hS.bring (by repeat (first | exact t0 | apply tS))).getBlk) ?_
    refine ord_seg (by repeat (first | exact Clean.body | refine Clean.then ?_ | refine Clean.inBlock ?_ | refine SegQ.clean ?_ | refine FinC.clean ?_)) (n := 24) (rest := [[5, 6, 8, 9, 10, 11, 12, 13, 14, 15, 16, 17, 18, 19, 20, 21, 22, 23, 24, 25, 7, 26, 27, 28]]) [4] [⟨_, _, _, _, _, _⟩] rfl (by kernel_rfl) (by simp) _ _ ?_
    go_wp2_with (first
      | (show wpList _ _ _ (⟨_, .binOp .eql 34 _ _ _, _, _, _, _⟩ :: _) _ _; refine wpList_val rfl (op_eqHash rfl rfl rfl HL0.out hTE.out) ?_; go_frame)
      )
    refine segQ_mk ((hS.bring (by repeat (first | exact t0 | apply tS))).getBlk) ?_
    refine ord_seg (by repeat (first | exact Clean.body | refine Clean.then ?_ | refine Clean.inBlock ?_ | refine SegQ.clean ?_ | refine FinC.clean ?_)) (n := 3) (rest := [[26, 27, 28]]) [5, 6, 8, 9, 10, 11, 12, 13, 14, 15, 16, 17, 18, 19, 20, 21, 22, 23, 24, 25, 7] [⟨_, _, _, _, _, _⟩, ⟨_, _, _, _, _, _⟩, ⟨_, _, _, _, _, _⟩, ⟨_, _, _, _, _, _⟩, ⟨_, _, _, _, _, _⟩, ⟨_, _, _, _, _, _⟩, ⟨_, _, _, _, _, _⟩, ⟨_, _, _, _, _, _⟩, ⟨_, _, _, _, _, _⟩, ⟨_, _, _, _, _, _⟩, ⟨_, _, _, _, _, _⟩, ⟨_, _, _, _, _, _⟩, ⟨_, _, _, _, _, _⟩, ⟨_, _, _, _, _, _⟩, ⟨_, _, _, _, _, _⟩, ⟨_, _, _, _, _, _⟩, ⟨_, _, _, _, _, _⟩, ⟨_, _, _, _, _, _⟩, ⟨_, _, _, _, _, _⟩, ⟨_, _, _, _, _, _⟩, ⟨_, _, _, _, _, _⟩] rfl (by kernel_rfl) (by simp) _ _ ?_
    go_wp2_with (first
      | (show wpList _ _ _ (⟨_, .indexAddr 34 _ _, _, _, _, _⟩ :: _) _ _; (first | (refine wpList_val rfl (op_indexArrZ arr32b rfl rfl rfl 0 rfl (by omega)) ?_) | (refine wpList_val rfl (op_indexArrZ arr32b rfl rfl rfl 1 rfl (by omega)) ?_) | (refine wpList_val rfl (op_indexArrZ arr32b rfl rfl rfl 2 rfl (by omega)) ?_) | (refine wpList_val rfl (op_indexArrZ arr32b rfl rfl rfl 3 rfl (by omega)) ?_)); rw [Nat.zero_add]; go_frame)
      | (show wpList _ _ _ (⟨_, .load 5 _, _, _, _, _⟩ :: _) _ _; refine wpList_val rfl (op_loadB oneU8 ((hS.bring (by repeat (first | exact t0 | apply tS)))) rfl rfl (by rw [HL0.out]; omega)) ?_; go_frame)
      | (show wpList _ _ _ (⟨_, .convert 5 22 _, _, _, _, _⟩ :: _) _ _; refine wpList_val rfl (op_8to32 undU8 undU32 rfl rfl) ?_; go_frame)
      | (show wpList _ _ _ (⟨_, .binOp .shl 22 _ (.const (.int _ 8)) _, _, _, _, _⟩ :: _) _ _; refine wpList_val rfl (op_shl32 rfl rfl (c := 8) rfl) ?_; go_frame)
      | (show wpList _ _ _ (⟨_, .binOp .shl 22 _ (.const (.int _ 16)) _, _, _, _, _⟩ :: _) _ _; refine wpList_val rfl (op_shl32 rfl rfl (c := 16) rfl) ?_; go_frame)
      | (show wpList _ _ _ (⟨_, .binOp .shl 22 _ (.const (.int _ 24)) _, _, _, _, _⟩ :: _) _ _; refine wpList_val rfl (op_shl32 rfl rfl (c := 24) rfl) ?_; go_frame)
      | (show wpList _ _ _ (⟨_, .binOp .or 22 _ _ _, _, _, _, _⟩ :: _) _ _; refine wpList_val rfl (op_bin32 rfl rfl rfl rfl) ?_; go_frame)
      | (go_at_call 31; refine Ret.calls (check_s hS hK hF hb HB.out) ?_; clear hS; rintro r w ⟨rfl, hS⟩)
      )
    refine segQ_mk ((hS.bring (by repeat (first | exact t0 | apply tS))).getBlk) ?_
    refine ord_seg (by repeat (first | exact Clean.body | refine Clean.then ?_ | refine Clean.inBlock ?_ | refine SegQ.clean ?_ | refine FinC.clean ?_)) (n := 0) (rest := [[]]) [26, 27, 28] [⟨_, _, _, _, _, _⟩, ⟨_, _, _, _, _, _⟩, ⟨_, _, _, _, _, _⟩] rfl (by kernel_rfl) (by simp) _ _ ?_
    go_wp2_with (first
      | (show wpList _ _ _ (⟨_, .binOp .eql 22 _ _ _, _, _, _, _⟩ :: _) _ _; refine wpList_val rfl (op_eq32 rfl rfl rfl HL2.out.symm) ?_; go_frame)
      )
    refine segQ_mk ((hS.bring (by repeat (first | exact t0 | apply tS))).getBlk) ?_
    refine finC_mk (by kernel_rfl) (by
      intro t ht
      simp only [List.mem_cons, List.not_mem_nil, or_false] at ht
      rcases ht with rfl | rfl | rfl | rfl | rfl <;> exact stab_blk (b := nb) (fun w h => h) _ none) ?_
    go_wp2_with fail
    go_ret
    exact ⟨rfl, hS.chg⟩
end Go.Proofs.YtpdanieiafjmhaaDoor
