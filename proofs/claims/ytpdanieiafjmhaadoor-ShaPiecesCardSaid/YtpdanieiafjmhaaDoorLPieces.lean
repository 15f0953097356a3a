/- In whatever pieces bytes come their sum is one: the law returns true. Conditions: those that stand ahead of each theorem. -/
import Derived.Test.YtpdanieiafjmhaaDoorCheck
namespace Go.Proofs.YtpdanieiafjmhaaDoor
open Go.RowKit Go.Px Go.Sha
theorem cells_nil2 {u : Value} (hu : u.cells = #[u]) : [Value.slice none 0 0, u].map (fun v => v.cells.toList) = [Value.slice none 0 0, u].map fun u => [u] := by
  rw [List.map_cons, List.map_cons, hu]
  rfl
theorem cells_nil2_size {u : Value} (hu : u.cells = #[u]) : ∀ x ∈ [Value.slice none 0 0, u], x.cells.size = 1 := by
  intro x hx
  simp only [List.mem_cons, List.not_mem_nil, or_false] at hx
  rcases hx with rfl | rfl
  · rfl
  · rw [hu]
    rfl
theorem nil_flat (bs : List Byte) : [[], bs].flatten = bs := by simp
theorem RdIn.takeV {R : Nat → Prop} {base : World} {v : Value} {bs : List Byte} (h : RdIn R base 1 v (bytes bs)) {k : Nat} (hk : k ≤ bs.length) : RdIn R base 1 (cutV 1 v 0 k) (bytes (bs.take k)) := by
  have := h.cutV (l := 0) (h := k) (Nat.zero_le _) (by rw [bytes_len]; exact hk)
  simpa [bytes, List.map_take] using this
set_option maxRecDepth 100000 in
set_option maxHeartbeats 4000000 in
theorem shaPieces_w {W : World} (hK : CIn All W 0 (kTab.map W32)) (hF : CIn All W 1 (first.map W32)) {va vb : Value} {bs cs : List Byte} (ha : RdIn All W 1 va (bytes bs)) (hb : RdIn All W 1 vb (bytes cs)) :
    Calls Tryd.prog 7 #[va, vb] W (Ret fun r w' => r = .bool true ∧ Chg No W w') := by
  have hS := SepL.start W
  have hca := RdIn.cell1 ha
  obtain ⟨n, hn⟩ : ∃ n, bs.length = n := ⟨_, rfl⟩
  obtain ⟨m, hm⟩ : ∃ n, cs.length = n := ⟨_, rfl⟩
  have HNA := hide hn
  have HNB := hide hm
  obtain ⟨da, hda⟩ : ∃ d, decide ((4000 : Int) < (n : Int)) = d := ⟨_, rfl⟩
  obtain ⟨db, hdb⟩ : ∃ d, decide ((200 : Int) < (m : Int)) = d := ⟨_, rfl⟩
  have HDA := hide hda
  have HDB := hide hdb
  cases da
  · cases db
    · rw [decide_eq_false_iff_not] at hda hdb
      have hn4 : n ≤ 4000 := by omega
      have hm2 : m ≤ 200 := by omega
      have HA : Hid (bs.length < 4611686018427386000) := by
        unfold Hid
        omega
      have HN0 := new_n
      clear hda hdb
      go_enter Tryd.func7, Tryd.ntmps7
      go_wp2_with (first
        | (go_at_call 17; refine Ret.calls (alive_s hS hK hF) ?_; clear hS; rintro r w ⟨rfl, hS⟩)
        | (show wpList _ _ _ (⟨_, .alloc 34, _, _, _, _⟩ :: _) _ _; refine wpS_alloc hS rfl rfl zero32b (zs := (List.replicate 32 (0 : Byte)).map B8) rfl ?_; clear hS; intro nb w hS; go_frame)
        | (show wpList _ _ _ (⟨_, .load 34 _, _, _, _, _⟩ :: _) _ _; refine wpList_val rfl (op_load agg32b rfl rfl ((hS.bring (by repeat (first | exact t0 | apply tS))).getBlk.cells) (by rw [List.length_map]; first | exact sum_len _ | exact twice_len _ | exact sumH_len _)) ?_; go_frame)
        | (show wpList _ _ _ (⟨_, .store 34 _ _, _, _, _, _⟩ :: _) _ _; (refine wpS_storeAll agg32b (hS.bring (by repeat (first | exact t0 | apply tS))) rfl rfl rfl (vs := List.map B8 _) rfl (by rw [List.length_map]; first | exact sum_len _ | exact twice_len _ | exact sumH_len _) (B8_one _) (by rw [List.length_map, List.length_replicate]) ?_); clear hS; intro w hS; go_frame)
        | (show wpList _ _ _ (⟨_, .slice 34 _ none none _, _, _, _, _⟩ :: _) _ _; refine wpList_val rfl (op_sliceArr arr32b rfl rfl (l := 0) (h := 32) (Or.inl ⟨rfl, rfl⟩) (Or.inl ⟨rfl, rfl⟩) (by omega) (by omega)) ?_; rw [if_neg (by omega)]; go_frame)
        | (show wpList _ _ _ (⟨some 15, .call _, _, _, _, _⟩ :: _) _ _; refine wpList_val rfl (op_lenB slBytes rfl rfl rfl (hS.rd ha) HNA.out) ?_; go_frame)
        | (show wpList _ _ _ (⟨some 16, .binOp .gtr _ _ _ _, _, _, _, _⟩ :: _) _ _; refine wpList_val rfl (op_igtr rfl rfl rfl HDA.out) ?_; go_frame)
        | (show wpList _ _ _ (⟨some 19, .call _, _, _, _, _⟩ :: _) _ _; refine wpList_val rfl (op_lenB slBytes rfl rfl rfl (hS.rd hb) HNB.out) ?_; go_frame)
        | (show wpList _ _ _ (⟨some 20, .binOp .gtr _ _ _ _, _, _, _, _⟩ :: _) _ _; refine wpList_val rfl (op_igtr rfl rfl rfl HDB.out) ?_; go_frame)
        | (go_at_call 20; refine Ret.calls (new_s hS hF) ?_; clear hS; rintro r w ⟨p, rfl, hS⟩)
        | (show wpList _ _ _ (⟨some 25, .call _, _, _, _, _⟩ :: _) _ _; refine wpList_val rfl (op_lenB slBytes rfl rfl rfl (hS.rd hb) HNB.out) ?_; go_frame)
        )
      go_loopw [26, 6] (fun i u wr => ∃ k j : Nat, i = .int .i64 k ∧ k ≤ m ∧ j ≤ n ∧ RdIn All W 1 u (bytes (bs.drop j)) ∧ SepL All W wr [.blk p 70 (cellsH (absorb new (bs.take j)))]) (fun i _ _ => m - (intOf i).toNat)
      case atStart => exact ⟨0, 0, rfl, by omega, by omega, ha, hS⟩
      case round =>
        clear hS
        obtain ⟨k, j, rfl, hk, hj, hu, hS⟩ := hrel
        by_cases hlt : k < m
        · have hkc : k < cs.length := by omega
          have hrl : (bs.drop j).length = n - j := by rw [List.length_drop, hn]
          have hgo : (absorb new (bs.take j)).op.length = 64 := by rw [absorb_op, new_op]
          have hgn : (absorb new (bs.take j)).n = j := by rw [absorb_n, new_n, List.length_take]; omega
          obtain ⟨c, hc⟩ : ∃ c, cs[k] = c := ⟨_, rfl⟩
          obtain ⟨q, hq⟩ : ∃ q, min c.toNat (n - j) = q := ⟨_, rfl⟩
          have hqj : q ≤ n - j := by omega
          have hpc := RdIn.takeV (k := q) hu (by rw [hrl]; exact hqj)
          have hpl : ((bs.drop j).take q).length = q := by rw [List.length_take, hrl]; omega
          have HST : Hid (absorb (absorb new (bs.take j)) ((bs.drop j).take q) = absorb new (bs.take (j + q))) := by
            unfold Hid
            rw [← absorb_append, ← List.take_add]
          have HDD : Hid ((bs.drop j).drop q = bs.drop (j + q)) := by
            unfold Hid
            rw [List.drop_drop]
          have hdl := RdIn.dropV (k := q) hu (by rw [hrl]; exact hqj)
          rw [HDD.out] at hdl
          generalize absorb new (bs.take j) = g at *
          have HGO := hide hgo
          have HQ := hide hq
          have HRL := hide hrl
          have HC : Hid (cs[k] = c) := hc
          have hpcc := RdIn.cell1 hpc
          have HPN : Hid (g.n + ((bs.drop j).take q).length < 4611686018427387904) := by
            unfold Hid
            rw [hpl]
            omega
          clear hgo hq hrl hc hpl hgn
          generalize (bs.drop j).take q = pc at *
          go_wp2_with (first
            | (show wpList _ _ _ (⟨_, .indexAddr 28 _ _, _, _, _, _⟩ :: _) _ _; refine wpList_val rfl (op_indexAddr slBytes rfl (v := vb) rfl rfl (hS.rd hb) (by rw [bytes_len]; exact hkc)) ?_; go_frame)
            | (show wpList _ _ _ (⟨_, .load 5 _, _, _, _, _⟩ :: _) _ _; refine wpList_val rfl (op_loadBE oneU8 rfl (v := vb) (k := k) rfl (hS.rd hb) hkc) ?_; rw [HC.out]; go_frame)
            | (show wpList _ _ _ (⟨_, .convert 5 3 _, _, _, _, _⟩ :: _) _ _; refine wpList_val rfl (op_8toInt undU8 undInt rfl rfl) ?_; go_frame)
            | (show wpList _ _ _ (⟨_, .call ⟨.builtin .len, _, _⟩, _, _, _, _⟩ :: _) _ _; refine wpList_val rfl (op_lenB slBytes rfl rfl rfl (hS.rd hu) HRL.out) ?_; go_frame)
            | (show wpList _ _ _ (⟨_, .call ⟨.builtin .min, _, _⟩, _, _, _, _⟩ :: _) _ _; refine wpList_val rfl (op_minN rfl rfl rfl) ?_; rw [HQ.out]; go_frame)
            | (show wpList _ _ _ (⟨some 38, .slice _ _ _ _ _, _, _, _, _⟩ :: _) _ _; refine wpList_val rfl (op_cut slBytes rfl rfl (hS.rd hu) (l := 0) (h := q) (Or.inl ⟨rfl, rfl⟩) (Or.inr rfl) (by omega) (by rw [bytes_len, HRL.out]; exact hqj)) ?_; go_frame)
            | (show wpList _ _ _ (⟨some 44, .slice _ _ _ _ _, _, _, _, _⟩ :: _) _ _; refine wpList_val rfl (op_cut slBytes rfl rfl (hS.rd hu) (l := q) (h := _) (Or.inr rfl) (Or.inl ⟨rfl, rfl⟩) (by rw [bytes_len, HRL.out]; exact hqj) (Nat.le_refl _)) ?_; go_frame)
            | (show wpList _ _ _ (⟨_, .buildSlice _ 1 _, _, _, _, _⟩ :: _) _ _; refine wpS_build11 slPieces hS rfl rfl rfl hpcc ?_; clear hS; intro v2 w hS; go_frame)
            | (go_at_call 21; refine Ret.calls (write_one hS hK HGO.out hpc HPN.out) ?_; clear hS; rintro r w ⟨rfl, hS⟩; rw [HST.out] at hS)
            )
          go_roundw
          case rel => exact ⟨k + 1, j + q, by go_num, by omega, by omega, hdl, hS⟩
          case measure => simp [intOf]; omega
        · have hk2 : k = m := by omega
          subst hk2
          have hcu := RdIn.cell1 hu
          have hc2 := cells_nil2_size hcu
          have hcl2 := cells_nil2 hcu
          have hgo : (absorb new (bs.take j)).op.length = 64 := by rw [absorb_op, new_op]
          have hgn : (absorb new (bs.take j)).n = j := by rw [absorb_n, new_n, List.length_take]; omega
          have hWR : ∀ {T : Nat} {v : Value} {w : World}, SepL All W w [.own T 1 v ([Value.slice none 0 0, u6].map fun u => [u]), .blk p 70 (cellsH (absorb new (bs.take j)))] → Calls Tryd.prog 21 #[.pointer (some ⟨p, 0, none⟩), v] w (Ret fun r w' => r = .int .i64 0 ∧ SepL All W w' [.blk p 70 (cellsH (absorb new bs))]) := fun h => by
            have h2 := write_own (us := [Value.slice none 0 0, u6]) (ps := [[], bs.drop j]) h hK hgo rfl (at_two (RdIn.nil 1) hu) (by rw [nil_flat, hgn, List.length_drop, hn]; omega)
            rw [nil_flat, ← absorb_append, List.take_append_drop] at h2
            exact h2
          have hgo2 : (absorb new bs).op.length = 64 := by rw [absorb_op, new_op]
          have hgn2 : (absorb new bs).n = n := by rw [absorb_n, new_n, hn, Nat.zero_add]
          have HS1 : Hid (sumH (absorb new bs) = sum bs) := sum_eq bs
          generalize absorb new bs = g at *
          have HGO := hide hgo2
          have HGN := hide hgn2
          have HG1 : Hid (g.n < 4611686018427387000) := by
            unfold Hid
            omega
          clear hgo hgn hgo2 hgn2
          generalize absorb new (bs.take j) = g1 at *
          go_wp2_with (first
            | (show wpList _ _ _ (⟨some 10, .alloc _, _, _, _, _⟩ :: _) _ _; refine wpS_alloc hS rfl rfl zero32b (zs := (List.replicate 32 (0 : Byte)).map B8) rfl ?_; clear hS; intro n10 w hS; go_frame)
            | (go_at_call 17; refine Ret.calls (alive_s hS hK hF) ?_; clear hS; rintro r w ⟨rfl, hS⟩)
            | (show wpList _ _ _ (⟨_, .alloc 34, _, _, _, _⟩ :: _) _ _; refine wpS_alloc hS rfl rfl zero32b (zs := (List.replicate 32 (0 : Byte)).map B8) rfl ?_; clear hS; intro nb w hS; go_frame)
            | (show wpList _ _ _ (⟨_, .load 34 _, _, _, _, _⟩ :: _) _ _; refine wpList_val rfl (op_load agg32b rfl rfl ((hS.bring (by repeat (first | exact t0 | apply tS))).getBlk.cells) (by rw [List.length_map]; first | exact sum_len _ | exact twice_len _ | exact sumH_len _)) ?_; go_frame)
            | (show wpList _ _ _ (⟨_, .store 34 _ _, _, _, _, _⟩ :: _) _ _; (refine wpS_storeAll agg32b (hS.bring (by repeat (first | exact t0 | apply tS))) rfl rfl rfl (vs := List.map B8 _) rfl (by rw [List.length_map]; first | exact sum_len _ | exact twice_len _ | exact sumH_len _) (B8_one _) (by rw [List.length_map, List.length_replicate]) ?_); clear hS; intro w hS; go_frame)
            | (show wpList _ _ _ (⟨_, .slice 34 _ none none _, _, _, _, _⟩ :: _) _ _; refine wpList_val rfl (op_sliceArr arr32b rfl rfl (l := 0) (h := 32) (Or.inl ⟨rfl, rfl⟩) (Or.inl ⟨rfl, rfl⟩) (by omega) (by omega)) ?_; rw [if_neg (by omega)]; go_frame)
            | (show wpList _ _ _ (⟨_, .buildSlice _ 2 _, _, _, _, _⟩ :: _) _ _; refine wpS_buildL slPieces hS rfl rfl [Value.slice none 0 0, u6] rfl rfl (by omega) (by omega) hc2 ?_; clear hS; intro v2 w hS; rw [hcl2] at hS; go_frame)
            | (go_at_call 21; refine Ret.calls (hWR hS) ?_; clear hS; rintro r w ⟨rfl, hS⟩)
            | (go_at_call 22; (refine Ret.calls (sum_m (h := g) (hS.bring (by repeat (first | exact t0 | apply tS))) hK HGO.out HG1.out) ?_); clear hS; rintro r w ⟨rfl, hS⟩)
            )
          refine wp_region_ord (by kernel_rfl) [10] [[0, 1, 2, 3, 4, 5, 6, 7, 8, 9, 10, 12, 13, 14, 11, 15, 16, 17]] (by kernel_rfl) (by kernel_rfl) (fun w' => Blk w' n10 34 ((sumH g).map B8)) Up.blk ((hS.bring (by repeat (first | exact t0 | apply tS))).getBlk) (by repeat (first | exact Clean.body | refine Clean.then ?_ | refine Clean.inBlock ?_ | refine SegQ.clean ?_ | refine FinC.clean ?_)) ?_
          replace hS := hS.drew
          refine ord_seg (by repeat (first | exact Clean.body | refine Clean.then ?_ | refine Clean.inBlock ?_ | refine SegQ.clean ?_ | refine FinC.clean ?_)) (n := 11) (rest := [[7, 8, 9, 10, 12, 13, 14, 11, 15, 16, 17]]) [0, 1, 2, 3, 4, 5, 6] [⟨_, _, _, _, _, _⟩, ⟨_, _, _, _, _, _⟩, ⟨_, _, _, _, _, _⟩, ⟨_, _, _, _, _, _⟩, ⟨_, _, _, _, _, _⟩, ⟨_, _, _, _, _, _⟩, ⟨_, _, _, _, _, _⟩] rfl (by kernel_rfl) (by simp) _ _ ?_
          go_wp2_with (first
            | (go_at_call 17; refine Ret.calls (alive_s hS hK hF) ?_; clear hS; rintro r w ⟨rfl, hS⟩)
            | (show wpList _ _ _ (⟨_, .alloc 34, _, _, _, _⟩ :: _) _ _; refine wpS_alloc hS rfl rfl zero32b (zs := (List.replicate 32 (0 : Byte)).map B8) rfl ?_; clear hS; intro nb w hS; go_frame)
            | (show wpList _ _ _ (⟨_, .load 34 _, _, _, _, _⟩ :: _) _ _; refine wpList_val rfl (op_load agg32b rfl rfl ((hS.bring (by repeat (first | exact t0 | apply tS))).getBlk.cells) (by rw [List.length_map]; first | exact sum_len _ | exact twice_len _ | exact sumH_len _)) ?_; go_frame)
            | (show wpList _ _ _ (⟨_, .store 34 _ _, _, _, _, _⟩ :: _) _ _; (refine wpS_storeAll agg32b (hS.bring (by repeat (first | exact t0 | apply tS))) rfl rfl rfl (vs := List.map B8 _) rfl (by rw [List.length_map]; first | exact sum_len _ | exact twice_len _ | exact sumH_len _) (B8_one _) (by rw [List.length_map, List.length_replicate]) ?_); clear hS; intro w hS; go_frame)
            | (show wpList _ _ _ (⟨_, .slice 34 _ none none _, _, _, _, _⟩ :: _) _ _; refine wpList_val rfl (op_sliceArr arr32b rfl rfl (l := 0) (h := 32) (Or.inl ⟨rfl, rfl⟩) (Or.inl ⟨rfl, rfl⟩) (by omega) (by omega)) ?_; rw [if_neg (by omega)]; go_frame)
            | (show wpList _ _ _ (⟨_, .buildSlice _ 1 _, _, _, _, _⟩ :: _) _ _; refine wpS_build11 slPieces hS rfl rfl rfl hca ?_; clear hS; intro v2 w hS; go_frame)
            | (go_at_call 23; refine Ret.calls (sum_arg1 hS hK hF ha HA.out) ?_; clear hS; rintro r w ⟨rfl, hS⟩)
            | (go_at_call 25; (refine Ret.calls (len_s (hS.bring (by repeat (first | exact t0 | apply tS))) HGO.out) ?_); clear hS; rintro r w ⟨rfl, hS⟩)
            | (show wpList _ _ _ (⟨_, .call ⟨.builtin .len, _, _⟩, _, _, _, _⟩ :: _) _ _; refine wpList_val rfl (op_lenB slBytes rfl rfl rfl (hS.rd ha) HNA.out) ?_; go_frame)
            | (show wpList _ _ _ (⟨_, .convert 3 42 _, _, _, _, _⟩ :: _) _ _; refine wpList_val rfl (op_natN64 undInt undU64 rfl rfl) ?_; go_frame)
            | (show wpList _ _ _ (⟨_, .binOp .eql 42 _ _ _, _, _, _, _⟩ :: _) _ _; refine wpList_val rfl (op_eqN64 rfl rfl rfl HGN.out) ?_; go_frame)
            | (show wpList _ _ _ (⟨_, .binOp .eql 34 _ _ _, _, _, _, _⟩ :: _) _ _; refine wpList_val rfl (op_eqHash rfl rfl rfl (sumH_len _) HS1.out) ?_; go_frame)
            )
          refine segQ_mk ((hS.bring (by repeat (first | exact t0 | apply tS))).getBlk) ?_
          refine ord_seg (by repeat (first | exact Clean.body | refine Clean.then ?_ | refine Clean.inBlock ?_ | refine SegQ.clean ?_ | refine FinC.clean ?_)) (n := 10) (rest := [[8, 9, 10, 12, 13, 14, 11, 15, 16, 17]]) [7] [⟨_, _, _, _, _, _⟩] rfl (by kernel_rfl) (by simp) _ _ ?_
          go_wp2_with (first
            | (go_at_call 17; refine Ret.calls (alive_s hS hK hF) ?_; clear hS; rintro r w ⟨rfl, hS⟩)
            | (show wpList _ _ _ (⟨_, .alloc 34, _, _, _, _⟩ :: _) _ _; refine wpS_alloc hS rfl rfl zero32b (zs := (List.replicate 32 (0 : Byte)).map B8) rfl ?_; clear hS; intro nb w hS; go_frame)
            | (show wpList _ _ _ (⟨_, .load 34 _, _, _, _, _⟩ :: _) _ _; refine wpList_val rfl (op_load agg32b rfl rfl ((hS.bring (by repeat (first | exact t0 | apply tS))).getBlk.cells) (by rw [List.length_map]; first | exact sum_len _ | exact twice_len _ | exact sumH_len _)) ?_; go_frame)
            | (show wpList _ _ _ (⟨_, .store 34 _ _, _, _, _, _⟩ :: _) _ _; (refine wpS_storeAll agg32b (hS.bring (by repeat (first | exact t0 | apply tS))) rfl rfl rfl (vs := List.map B8 _) rfl (by rw [List.length_map]; first | exact sum_len _ | exact twice_len _ | exact sumH_len _) (B8_one _) (by rw [List.length_map, List.length_replicate]) ?_); clear hS; intro w hS; go_frame)
            | (show wpList _ _ _ (⟨_, .slice 34 _ none none _, _, _, _, _⟩ :: _) _ _; refine wpList_val rfl (op_sliceArr arr32b rfl rfl (l := 0) (h := 32) (Or.inl ⟨rfl, rfl⟩) (Or.inl ⟨rfl, rfl⟩) (by omega) (by omega)) ?_; rw [if_neg (by omega)]; go_frame)
            | (show wpList _ _ _ (⟨_, .buildSlice _ 1 _, _, _, _, _⟩ :: _) _ _; refine wpS_build11 slPieces hS rfl rfl rfl hca ?_; clear hS; intro v2 w hS; go_frame)
            | (go_at_call 23; refine Ret.calls (sum_arg1 hS hK hF ha HA.out) ?_; clear hS; rintro r w ⟨rfl, hS⟩)
            | (go_at_call 25; (refine Ret.calls (len_s (hS.bring (by repeat (first | exact t0 | apply tS))) HGO.out) ?_); clear hS; rintro r w ⟨rfl, hS⟩)
            | (show wpList _ _ _ (⟨_, .call ⟨.builtin .len, _, _⟩, _, _, _, _⟩ :: _) _ _; refine wpList_val rfl (op_lenB slBytes rfl rfl rfl (hS.rd ha) HNA.out) ?_; go_frame)
            | (show wpList _ _ _ (⟨_, .convert 3 42 _, _, _, _, _⟩ :: _) _ _; refine wpList_val rfl (op_natN64 undInt undU64 rfl rfl) ?_; go_frame)
            | (show wpList _ _ _ (⟨_, .binOp .eql 42 _ _ _, _, _, _, _⟩ :: _) _ _; refine wpList_val rfl (op_eqN64 rfl rfl rfl HGN.out) ?_; go_frame)
            | (show wpList _ _ _ (⟨_, .binOp .eql 34 _ _ _, _, _, _, _⟩ :: _) _ _; refine wpList_val rfl (op_eqHash rfl rfl rfl (sumH_len _) HS1.out) ?_; go_frame)
            )
          refine segQ_mk ((hS.bring (by repeat (first | exact t0 | apply tS))).getBlk) ?_
          refine ord_seg (by repeat (first | exact Clean.body | refine Clean.then ?_ | refine Clean.inBlock ?_ | refine SegQ.clean ?_ | refine FinC.clean ?_)) (n := 3) (rest := [[15, 16, 17]]) [8, 9, 10, 12, 13, 14, 11] [⟨_, _, _, _, _, _⟩, ⟨_, _, _, _, _, _⟩, ⟨_, _, _, _, _, _⟩, ⟨_, _, _, _, _, _⟩, ⟨_, _, _, _, _, _⟩, ⟨_, _, _, _, _, _⟩, ⟨_, _, _, _, _, _⟩] rfl (by kernel_rfl) (by simp) _ _ ?_
          go_wp2_with (first
            | (go_at_call 17; refine Ret.calls (alive_s hS hK hF) ?_; clear hS; rintro r w ⟨rfl, hS⟩)
            | (show wpList _ _ _ (⟨_, .alloc 34, _, _, _, _⟩ :: _) _ _; refine wpS_alloc hS rfl rfl zero32b (zs := (List.replicate 32 (0 : Byte)).map B8) rfl ?_; clear hS; intro nb w hS; go_frame)
            | (show wpList _ _ _ (⟨_, .load 34 _, _, _, _, _⟩ :: _) _ _; refine wpList_val rfl (op_load agg32b rfl rfl ((hS.bring (by repeat (first | exact t0 | apply tS))).getBlk.cells) (by rw [List.length_map]; first | exact sum_len _ | exact twice_len _ | exact sumH_len _)) ?_; go_frame)
            | (show wpList _ _ _ (⟨_, .store 34 _ _, _, _, _, _⟩ :: _) _ _; (refine wpS_storeAll agg32b (hS.bring (by repeat (first | exact t0 | apply tS))) rfl rfl rfl (vs := List.map B8 _) rfl (by rw [List.length_map]; first | exact sum_len _ | exact twice_len _ | exact sumH_len _) (B8_one _) (by rw [List.length_map, List.length_replicate]) ?_); clear hS; intro w hS; go_frame)
            | (show wpList _ _ _ (⟨_, .slice 34 _ none none _, _, _, _, _⟩ :: _) _ _; refine wpList_val rfl (op_sliceArr arr32b rfl rfl (l := 0) (h := 32) (Or.inl ⟨rfl, rfl⟩) (Or.inl ⟨rfl, rfl⟩) (by omega) (by omega)) ?_; rw [if_neg (by omega)]; go_frame)
            | (show wpList _ _ _ (⟨_, .buildSlice _ 1 _, _, _, _, _⟩ :: _) _ _; refine wpS_build11 slPieces hS rfl rfl rfl hca ?_; clear hS; intro v2 w hS; go_frame)
            | (go_at_call 23; refine Ret.calls (sum_arg1 hS hK hF ha HA.out) ?_; clear hS; rintro r w ⟨rfl, hS⟩)
            | (go_at_call 25; (refine Ret.calls (len_s (hS.bring (by repeat (first | exact t0 | apply tS))) HGO.out) ?_); clear hS; rintro r w ⟨rfl, hS⟩)
            | (show wpList _ _ _ (⟨_, .call ⟨.builtin .len, _, _⟩, _, _, _, _⟩ :: _) _ _; refine wpList_val rfl (op_lenB slBytes rfl rfl rfl (hS.rd ha) HNA.out) ?_; go_frame)
            | (show wpList _ _ _ (⟨_, .convert 3 42 _, _, _, _, _⟩ :: _) _ _; refine wpList_val rfl (op_natN64 undInt undU64 rfl rfl) ?_; go_frame)
            | (show wpList _ _ _ (⟨_, .binOp .eql 42 _ _ _, _, _, _, _⟩ :: _) _ _; refine wpList_val rfl (op_eqN64 rfl rfl rfl HGN.out) ?_; go_frame)
            | (show wpList _ _ _ (⟨_, .binOp .eql 34 _ _ _, _, _, _, _⟩ :: _) _ _; refine wpList_val rfl (op_eqHash rfl rfl rfl (sumH_len _) HS1.out) ?_; go_frame)
            )
          refine segQ_mk ((hS.bring (by repeat (first | exact t0 | apply tS))).getBlk) ?_
          refine ord_seg (by repeat (first | exact Clean.body | refine Clean.then ?_ | refine Clean.inBlock ?_ | refine SegQ.clean ?_ | refine FinC.clean ?_)) (n := 0) (rest := [[]]) [15, 16, 17] [⟨_, _, _, _, _, _⟩, ⟨_, _, _, _, _, _⟩, ⟨_, _, _, _, _, _⟩] rfl (by kernel_rfl) (by simp) _ _ ?_
          go_wp2_with (first
            | (go_at_call 17; refine Ret.calls (alive_s hS hK hF) ?_; clear hS; rintro r w ⟨rfl, hS⟩)
            | (show wpList _ _ _ (⟨_, .alloc 34, _, _, _, _⟩ :: _) _ _; refine wpS_alloc hS rfl rfl zero32b (zs := (List.replicate 32 (0 : Byte)).map B8) rfl ?_; clear hS; intro nb w hS; go_frame)
            | (show wpList _ _ _ (⟨_, .load 34 _, _, _, _, _⟩ :: _) _ _; refine wpList_val rfl (op_load agg32b rfl rfl ((hS.bring (by repeat (first | exact t0 | apply tS))).getBlk.cells) (by rw [List.length_map]; first | exact sum_len _ | exact twice_len _ | exact sumH_len _)) ?_; go_frame)
            | (show wpList _ _ _ (⟨_, .store 34 _ _, _, _, _, _⟩ :: _) _ _; (refine wpS_storeAll agg32b (hS.bring (by repeat (first | exact t0 | apply tS))) rfl rfl rfl (vs := List.map B8 _) rfl (by rw [List.length_map]; first | exact sum_len _ | exact twice_len _ | exact sumH_len _) (B8_one _) (by rw [List.length_map, List.length_replicate]) ?_); clear hS; intro w hS; go_frame)
            | (show wpList _ _ _ (⟨_, .slice 34 _ none none _, _, _, _, _⟩ :: _) _ _; refine wpList_val rfl (op_sliceArr arr32b rfl rfl (l := 0) (h := 32) (Or.inl ⟨rfl, rfl⟩) (Or.inl ⟨rfl, rfl⟩) (by omega) (by omega)) ?_; rw [if_neg (by omega)]; go_frame)
            | (show wpList _ _ _ (⟨_, .buildSlice _ 1 _, _, _, _, _⟩ :: _) _ _; refine wpS_build11 slPieces hS rfl rfl rfl hca ?_; clear hS; intro v2 w hS; go_frame)
            | (go_at_call 23; refine Ret.calls (sum_arg1 hS hK hF ha HA.out) ?_; clear hS; rintro r w ⟨rfl, hS⟩)
            | (go_at_call 25; (refine Ret.calls (len_s (hS.bring (by repeat (first | exact t0 | apply tS))) HGO.out) ?_); clear hS; rintro r w ⟨rfl, hS⟩)
            | (show wpList _ _ _ (⟨_, .call ⟨.builtin .len, _, _⟩, _, _, _, _⟩ :: _) _ _; refine wpList_val rfl (op_lenB slBytes rfl rfl rfl (hS.rd ha) HNA.out) ?_; go_frame)
            | (show wpList _ _ _ (⟨_, .convert 3 42 _, _, _, _, _⟩ :: _) _ _; refine wpList_val rfl (op_natN64 undInt undU64 rfl rfl) ?_; go_frame)
            | (show wpList _ _ _ (⟨_, .binOp .eql 42 _ _ _, _, _, _, _⟩ :: _) _ _; refine wpList_val rfl (op_eqN64 rfl rfl rfl HGN.out) ?_; go_frame)
            | (show wpList _ _ _ (⟨_, .binOp .eql 34 _ _ _, _, _, _, _⟩ :: _) _ _; refine wpList_val rfl (op_eqHash rfl rfl rfl (sumH_len _) HS1.out) ?_; go_frame)
            )
          refine segQ_mk ((hS.bring (by repeat (first | exact t0 | apply tS))).getBlk) ?_
          refine finC_mk (by kernel_rfl) (by
            intro t ht
            simp only [List.mem_cons, List.not_mem_nil, or_false] at ht
            subst ht
            exact stab_blk (b := n10) (fun w h => h) _ none) ?_
          go_wp2_with fail
          go_ret
          exact ⟨rfl, hS.chg⟩
    · go_enter Tryd.func7, Tryd.ntmps7
      go_wp2_with (first
        | (go_at_call 17; refine Ret.calls (alive_s hS hK hF) ?_; clear hS; rintro r w ⟨rfl, hS⟩)
        | (show wpList _ _ _ (⟨_, .alloc 34, _, _, _, _⟩ :: _) _ _; refine wpS_alloc hS rfl rfl zero32b (zs := (List.replicate 32 (0 : Byte)).map B8) rfl ?_; clear hS; intro nb w hS; go_frame)
        | (show wpList _ _ _ (⟨_, .load 34 _, _, _, _, _⟩ :: _) _ _; refine wpList_val rfl (op_load agg32b rfl rfl ((hS.bring (by repeat (first | exact t0 | apply tS))).getBlk.cells) (by rw [List.length_map]; first | exact sum_len _ | exact twice_len _ | exact sumH_len _)) ?_; go_frame)
        | (show wpList _ _ _ (⟨_, .store 34 _ _, _, _, _, _⟩ :: _) _ _; (refine wpS_storeAll agg32b (hS.bring (by repeat (first | exact t0 | apply tS))) rfl rfl rfl (vs := List.map B8 _) rfl (by rw [List.length_map]; first | exact sum_len _ | exact twice_len _ | exact sumH_len _) (B8_one _) (by rw [List.length_map, List.length_replicate]) ?_); clear hS; intro w hS; go_frame)
        | (show wpList _ _ _ (⟨_, .slice 34 _ none none _, _, _, _, _⟩ :: _) _ _; refine wpList_val rfl (op_sliceArr arr32b rfl rfl (l := 0) (h := 32) (Or.inl ⟨rfl, rfl⟩) (Or.inl ⟨rfl, rfl⟩) (by omega) (by omega)) ?_; rw [if_neg (by omega)]; go_frame)
        | (show wpList _ _ _ (⟨some 15, .call _, _, _, _, _⟩ :: _) _ _; refine wpList_val rfl (op_lenB slBytes rfl rfl rfl (hS.rd ha) HNA.out) ?_; go_frame)
        | (show wpList _ _ _ (⟨some 16, .binOp .gtr _ _ _ _, _, _, _, _⟩ :: _) _ _; refine wpList_val rfl (op_igtr rfl rfl rfl HDA.out) ?_; go_frame)
        | (show wpList _ _ _ (⟨some 19, .call _, _, _, _, _⟩ :: _) _ _; refine wpList_val rfl (op_lenB slBytes rfl rfl rfl (hS.rd hb) HNB.out) ?_; go_frame)
        | (show wpList _ _ _ (⟨some 20, .binOp .gtr _ _ _ _, _, _, _, _⟩ :: _) _ _; refine wpList_val rfl (op_igtr rfl rfl rfl HDB.out) ?_; go_frame)
        )
      go_ret
      exact ⟨rfl, hS.chg⟩
  · go_enter Tryd.func7, Tryd.ntmps7
    go_wp2_with (first
      | (go_at_call 17; refine Ret.calls (alive_s hS hK hF) ?_; clear hS; rintro r w ⟨rfl, hS⟩)
      | (show wpList _ _ _ (⟨_, .alloc 34, _, _, _, _⟩ :: _) _ _; refine wpS_alloc hS rfl rfl zero32b (zs := (List.replicate 32 (0 : Byte)).map B8) rfl ?_; clear hS; intro nb w hS; go_frame)
      | (show wpList _ _ _ (⟨_, .load 34 _, _, _, _, _⟩ :: _) _ _; refine wpList_val rfl (op_load agg32b rfl rfl ((hS.bring (by repeat (first | exact t0 | apply tS))).getBlk.cells) (by rw [List.length_map]; first | exact sum_len _ | exact twice_len _ | exact sumH_len _)) ?_; go_frame)
      | (show wpList _ _ _ (⟨_, .store 34 _ _, _, _, _, _⟩ :: _) _ _; (refine wpS_storeAll agg32b (hS.bring (by repeat (first | exact t0 | apply tS))) rfl rfl rfl (vs := List.map B8 _) rfl (by rw [List.length_map]; first | exact sum_len _ | exact twice_len _ | exact sumH_len _) (B8_one _) (by rw [List.length_map, List.length_replicate]) ?_); clear hS; intro w hS; go_frame)
      | (show wpList _ _ _ (⟨_, .slice 34 _ none none _, _, _, _, _⟩ :: _) _ _; refine wpList_val rfl (op_sliceArr arr32b rfl rfl (l := 0) (h := 32) (Or.inl ⟨rfl, rfl⟩) (Or.inl ⟨rfl, rfl⟩) (by omega) (by omega)) ?_; rw [if_neg (by omega)]; go_frame)
      | (show wpList _ _ _ (⟨some 15, .call _, _, _, _, _⟩ :: _) _ _; refine wpList_val rfl (op_lenB slBytes rfl rfl rfl (hS.rd ha) HNA.out) ?_; go_frame)
      | (show wpList _ _ _ (⟨some 16, .binOp .gtr _ _ _ _, _, _, _, _⟩ :: _) _ _; refine wpList_val rfl (op_igtr rfl rfl rfl HDA.out) ?_; go_frame)
      | (show wpList _ _ _ (⟨some 19, .call _, _, _, _, _⟩ :: _) _ _; refine wpList_val rfl (op_lenB slBytes rfl rfl rfl (hS.rd hb) HNB.out) ?_; go_frame)
      | (show wpList _ _ _ (⟨some 20, .binOp .gtr _ _ _ _, _, _, _, _⟩ :: _) _ _; refine wpList_val rfl (op_igtr rfl rfl rfl HDB.out) ?_; go_frame)
      )
    go_ret
    exact ⟨rfl, hS.chg⟩
end Go.Proofs.YtpdanieiafjmhaaDoor
