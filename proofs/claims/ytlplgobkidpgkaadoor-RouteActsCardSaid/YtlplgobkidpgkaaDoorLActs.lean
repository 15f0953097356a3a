/- Whatever comes, each answer, all that a router has and all ways are the document's: the law returns true. Conditions: those that stand ahead of each theorem. -/
import Derived.Test.YtlplgobkidpgkaaDoorRlX
import Derived.Test.YtlplgobkidpgkaaDoorGRr
namespace Go.Proofs.YtlplgobkidpgkaaDoor
open Go Go.RowKit Go.Px Go.Sha
set_option maxRecDepth 100000 in
set_option maxHeartbeats 16000000 in
theorem routeActs_w {W : World} (hK : CIn All W 1 (kTab.map W32)) (hF : CIn All W 0 (first.map W32)) {sa : List Byte} (hsa : sa.length = 32) {v : Value} {L : List (Value × RA)} (hv : AIn All W v L) (hao : ∀ x ∈ L, AOk x.2) :
    Calls Tryd.prog 6 #[HV sa, v] W (Ret fun r w' => r = .bool true ∧ Chg No W w') := by
  have hS := SepL.start W
  have HSL : Hid ((sa.map B8).length = 32) := by simp [Hid, hsa]
  have HL : Hid ((L.map aC).length = L.length) := by simp [Hid]
  have HAA := hide hao
  unfold HV
  clear hao
  cases hg : greatR (L.map (·.2)) with
  | true =>
    have HGR := hide hg
    clear hg
    go_enter Tryd.func6, Tryd.ntmps6
    go_wp2_with (first
      | go_big_skip
      | (show wpList _ _ _ (⟨_, .box 23 _, _, _, _, _⟩ :: _) _ _; refine wpS_boxA (cs := sa.map B8) hS rfl rfl rfl ?_; clear hS; intro nh w hS; go_frame)
      | (go_at_call 10; refine Ret.calls (alive_s hS hK hF) ?_; clear hS; rintro r1 w ⟨rfl, hS⟩)
      | (go_at_call 11; refine Ret.calls (great_s hS hv HGR.out) ?_; clear hS; rintro r1 w ⟨rfl, hS⟩)
      )
    go_ret
    exact ⟨rfl, hS.chg⟩
  | false =>
    have HGR := hide hg
    have hfw := few_le hg
    rw [List.length_map] at hfw
    have hll := hfw.1
    have HFW := hide hfw.2
    obtain ⟨T, hT⟩ : ∃ T, L.map (·.2) = T := ⟨_, rfl⟩
    have HTL : Hid (T.length = L.length) := by unfold Hid; rw [← hT, List.length_map]
    have HT := hide hT
    clear hg hfw hT
    go_enter Tryd.func6, Tryd.ntmps6
    go_wp2_with (first
      | go_big_skip
      | (show wpList _ _ _ (⟨_, .box 23 _, _, _, _, _⟩ :: _) _ _; refine wpS_boxA (cs := sa.map B8) hS rfl rfl rfl ?_; clear hS; intro nh w hS; go_frame)
      | (go_at_call 10; refine Ret.calls (alive_s hS hK hF) ?_; clear hS; rintro r1 w ⟨rfl, hS⟩)
      | (go_at_call 11; refine Ret.calls (great_s hS hv HGR.out) ?_; clear hS; rintro r1 w ⟨rfl, hS⟩)
      | (show wpList _ _ _ (⟨_, .load 23 _, _, _, _, _⟩ :: _) _ _; refine wpList_val rfl (op_load agg32b rfl rfl (SepL.getBlk (b := nh) (T := 23) ((hS.bring (by repeat (first | exact t0 | apply tS))))).cells HSL.out) ?_; go_frame)
      | (go_at_call 17; refine Ret.calls (rtNew_s hS hsa) ?_; clear hS; rintro r1 w ⟨p, rfl, hS⟩)
      | (go_at_call 18; refine Ret.calls (rrNew_s hS hsa) ?_; clear hS; rintro r1 w ⟨m, rfl, hS⟩)
      | (show wpList _ _ _ (⟨some 21, .call _, _, _, _, _⟩ :: _) _ _; refine wpList_val rfl (op_len slAct rfl rfl (v := v) (xs := L.map aC) rfl (by exact hS.rd hv.rd)) ?_; rw [HL.out]; go_frame)
      )
    go_loopw [22] (fun iv wr => ∃ k : Nat, iv = .int .i64 k ∧ k ≤ L.length ∧ SepL All W wr [.blk p 58 (rtC sa (runs (T.take k))), .blk m 52 (rrC sa (runs (T.take k)))]) (fun iv _ => L.length - (intOf iv).toNat)
    case atStart => exact ⟨0, rfl, by omega, hS.sel (by repeat (first | exact Sel.refl | refine Sel.take (by repeat (first | exact t0 | apply tS)) ?_ | apply Sel.drop))⟩
    case round =>
      clear hS
      obtain ⟨k, rfl, hk, hS⟩ := hrel
      by_cases hlt : k < L.length
      · have hkt : k < T.length := by rw [HTL.out]; exact hlt
        have hlk : k < (L.map aC).length := by rw [HL.out]; exact hlt
        obtain ⟨⟨u, a⟩, hx⟩ : ∃ x, L[k] = x := ⟨_, rfl⟩
        have hxm : (u, a) ∈ L := by rw [← hx]; exact List.getElem_mem hlt
        have HX : Hid ((L.map aC)[k] = aC (u, a)) := by
          unfold Hid
          rw [List.getElem_map, hx]
        have HUR := hide (hv.at_ _ hxm)
        have HU1 := hide (hS.rd HUR.out).one1
        have HUF := hide (aC_flat (x := (u, a)) HU1.out)
        have hsk : T[k] = a := by simp only [← HT.out, List.getElem_map, hx]
        have HAO1 : Hid (AOk a ∧ a.peers.length ≤ 1000000) := by
          have h1 := HFW.out a (List.mem_map.2 ⟨(u, a), hxm, rfl⟩)
          exact ⟨HAA.out _ hxm, by omega⟩
        have hox0 := runs_ok (T.take k)
        have hsn := runs_next hkt
        rw [hsk] at hsn
        obtain ⟨x, hx0⟩ : ∃ q, runs (T.take k) = q := ⟨_, rfl⟩
        rw [hx0] at hS hox0 hsn
        have hox := hox0.act a
        obtain ⟨x2, hx2⟩ : ∃ q, doR x a = q := ⟨_, rfl⟩
        obtain ⟨bb, hbb⟩ : ∃ q, doB x a = q := ⟨_, rfl⟩
        rw [hx2] at hsn hox
        have HSN := hide hsn
        have HOX0 := hide hox0
        have HOX := hide hox
        have HX2 := hide hx2
        have HBB := hide hbb
        have G0 : Hid ((rrC sa x2)[32]? = some (U x2.epoch)) := head_at hsa x2 _ (k := 0) (by omega)
        have G1 : Hid ((rrC sa x2)[33]? = some (U x2.fin)) := head_at hsa x2 _ (k := 1) (by omega)
        have G2 : Hid ((rrC sa x2)[34]? = some (.bool x2.stems)) := head_at hsa x2 _ (k := 2) (by omega)
        have G3 : Hid (((rrC sa x2).drop 35).take 2 = [I64 x2.s0, I64 x2.s1]) := head_succ hsa x2 _
        have NE : Hid ((x2.epoch != x2.epoch) = false) := by simp [Hid]
        have NF : Hid ((x2.fin != x2.fin) = false) := by simp [Hid]
        have NS : Hid ((!(x2.s0 == x2.s0 && x2.s1 == x2.s1)) = false) := by simp [Hid]
        have NM := neF (Eq.refl (missN x2 a.source : Int))
        have NW := neF (Eq.refl (wayS sa x2 a.source))
        clear hx hxm hsk hox hsn hx0 hkt hox0
        unfold doR at hx2
        unfold doB at hbb
        by_cases h0 : a.kind = 0
        · have HK0 := eqT h0
          rw [if_pos h0] at hx2 hbb
          have HRM := hide hx2
          have HRB := hide hbb
          clear h0 hx2 hbb
          go_wp2_with (first
            | go_big_skip
            | (show wpList _ _ _ (⟨some 24, .indexAddr _ _ _, _, _, _, _⟩ :: _) _ _; refine wpList_val rfl (op_indexAddr slAct rfl (v := v) (xs := L.map aC) rfl (k := k) rfl (by exact hS.rd hv.rd) hlk) ?_; go_frame)
            | (show wpList _ _ _ (⟨some 25, .load _ _, _, _, _, _⟩ :: _) _ _; refine wpList_val rfl (op_loadE aggAct rfl (v := v) (xs := L.map aC) (k := k) rfl (by exact hS.rd hv.rd) hlk) ?_; rw [HX.out]; go_frame)
            | (show wpList _ _ _ (⟨some 8, .alloc _, _, _, _, _⟩ :: _) _ _; refine wpS_alloc hS rfl rfl Tryd.zeroValue38 (zs := [.int .i64 0, .int .i64 0, .int .i64 0, .int .u64 0, .slice none 0 0, .int .u16 0, .int .u16 0, .int .u16 0]) rfl ?_; clear hS; intro n8 w hS; go_frame)
            | (show wpList _ _ _ (⟨_, .store 38 _ _, _, _, _, _⟩ :: _) _ _; (refine wpS_storeAll (b := n8) aggAct (hS.bring (by repeat (first | exact t0 | apply tS))) rfl rfl rfl (vs := aC (u, a)) rfl rfl HUF.out rfl ?_); clear hS; intro w hS; go_frame)
            | (show wpList _ _ _ (⟨_, .load 38 _, _, _, _, _⟩ :: _) _ _; refine wpList_val rfl (op_load aggAct rfl rfl (SepL.getBlk (b := n8) (T := 38) ((hS.bring (by repeat (first | exact t0 | apply tS))))).cells rfl) ?_; go_frame)
            | (go_at_call 19; (refine Ret.calls (do_s (p := p) (r := x) (u := u) (s := a) (hS.bring (by repeat (first | exact t0 | apply tS))) hsa HOX0.out HUR.out HAO1.out) ?_); clear hS; rintro r1 w ⟨rfl, hS⟩; rw [HX2.out] at hS; rw [HBB.out])
            | (show wpList _ _ _ (⟨_, .load 3 _, _, _, _, _⟩ :: _) _ _; refine wpList_val rfl (op_load1S (b := n8) (T := 38) oneInt ((hS.bring (by repeat (first | exact t0 | apply tS)))) rfl rfl rfl) ?_; go_frame)
            | (show wpList _ _ _ (⟨_, .load 33 _, _, _, _, _⟩ :: _) _ _; refine wpList_val rfl (op_load1S (b := n8) (T := 38) oneU64 ((hS.bring (by repeat (first | exact t0 | apply tS)))) rfl rfl rfl) ?_; go_frame)
            | (show wpList _ _ _ (⟨_, .load 34 _, _, _, _, _⟩ :: _) _ _; refine wpList_val rfl (op_load1S (b := n8) (T := 38) oneInts ((hS.bring (by repeat (first | exact t0 | apply tS)))) rfl rfl rfl) ?_; go_frame)
            | (show wpList _ _ _ (⟨_, .load 36 _, _, _, _, _⟩ :: _) _ _; refine wpList_val rfl (op_load agg3u rfl rfl ((SepL.getBlk (b := n8) (T := 38) ((hS.bring (by repeat (first | exact t0 | apply tS))))).cells.subN 5 3 (ds := [.int .u16 a.d0, .int .u16 a.d1, .int .u16 a.d2]) rfl) rfl) ?_; go_frame)
            | (show wpList _ _ _ (⟨some 55, .indexAddr _ _ _, _, _, _, _⟩ :: _) _ _; refine wpList_val rfl (op_indexArrZ arr3u rfl (b := n8) (off := 5) rfl rfl 0 rfl (by omega)) ?_; go_frame)
            | (show wpList _ _ _ (⟨_, .load 35 _, _, _, _, _⟩ :: _) _ _; refine wpList_val rfl (op_load1S (b := n8) (T := 38) oneU16 ((hS.bring (by repeat (first | exact t0 | apply tS)))) rfl rfl rfl) ?_; go_frame)
            | (show wpList _ _ _ (⟨some 32, .binOp _ _ _ _ _, _, _, _, _⟩ :: _) _ _; refine wpList_val rfl (op_eqI' rfl rfl rfl HK0.out) ?_; go_frame)
            | (show wpList _ _ _ (⟨some 42, .binOp _ _ _ _ _, _, _, _, _⟩ :: _) _ _; refine wpList_val rfl (op_eqI' rfl rfl rfl HK1.out) ?_; go_frame)
            | (show wpList _ _ _ (⟨some 48, .binOp _ _ _ _ _, _, _, _, _⟩ :: _) _ _; refine wpList_val rfl (op_eqI' rfl rfl rfl HK2.out) ?_; go_frame)
            | (show wpList _ _ _ (⟨some 59, .binOp _ _ _ _ _, _, _, _, _⟩ :: _) _ _; refine wpList_val rfl (op_eqI' rfl rfl rfl HK3.out) ?_; go_frame)
            | (show wpList _ _ _ (⟨some 65, .binOp _ _ _ _ _, _, _, _, _⟩ :: _) _ _; refine wpList_val rfl (op_eqI' rfl rfl rfl HK4.out) ?_; go_frame)
            | (go_at_call 20; (refine Ret.calls (rtick_s (p := m) (r := x) (peers := a.peers) (hS.bring (by repeat (first | exact t0 | apply tS))) hsa HOX0.out HUR.out HAO1.out.2 HAO1.out.1.now HAO1.out.1.d1 HAO1.out.1.d2) ?_); clear hS; rintro r1 w ⟨rfl, hS⟩; rw [HRM.out] at hS; rw [HRB.out])
            | (go_at_call 21; (refine Ret.calls (rjoined_s (p := m) (r := x) (hS.bring (by repeat (first | exact t0 | apply tS))) hsa) ?_); clear hS; rintro r1 w hS; rw [HRM.out] at hS)
            | (go_at_call 22; (refine Ret.calls (rleft_s (p := m) (r := x) (peers := a.peers) (hS.bring (by repeat (first | exact t0 | apply tS))) hsa HUR.out HAO1.out.2 HAO1.out.1.d0) ?_); clear hS; rintro r1 w hS; rw [HRM.out] at hS)
            | (go_at_call 23; (refine Ret.calls (rmiss_s (p := m) (r := x) (hS.bring (by repeat (first | exact t0 | apply tS))) hsa HOX0.out) ?_); clear hS; rintro r1 w ⟨rfl, hS⟩; rw [HRM.out] at hS; rw [HRB.out])
            | (go_at_call 24; (refine Ret.calls (rhit_s (p := m) (r := x) (hS.bring (by repeat (first | exact t0 | apply tS))) hsa HOX0.out) ?_); clear hS; rintro r1 w hS; rw [HRM.out] at hS)
            )
          refine wp_region_ord (by kernel_rfl) [78, 87, 96, 105, 111, 115, 122, 126] [[0, 1, 2, 3, 4, 6, 7, 8, 9, 5, 10, 11, 12, 13, 15, 16, 17, 18, 14, 19, 20, 21, 22, 24, 25, 26, 27, 23, 28, 29, 30, 31, 33, 34, 35, 36, 32, 37, 38, 39, 40, 41, 42, 44, 45, 46, 43, 47, 48, 49, 50, 51, 52, 53, 55, 56, 57, 54, 58, 59, 60]] (by kernel_rfl) (by kernel_rfl) (fun w' => Blk w' m 52 (rrC sa x2) ∧ Blk w' n8 38 (aC (u, a))) (Up.and Up.blk Up.blk) ⟨((hS.bring (by repeat (first | exact t0 | apply tS))).getBlk), ((hS.bring (by repeat (first | exact t0 | apply tS))).getBlk)⟩ (by repeat (first | exact Clean.body | refine Clean.then ?_ | refine Clean.inBlock ?_ | refine SegQ.clean ?_ | refine FinC.clean ?_)) ?_
          replace hS := hS.drew
          refine ord_seg (by repeat (first | exact Clean.body | refine Clean.then ?_ | refine Clean.inBlock ?_ | refine SegQ.clean ?_ | refine FinC.clean ?_)) (n := 51) (rest := [[10, 11, 12, 13, 15, 16, 17, 18, 14, 19, 20, 21, 22, 24, 25, 26, 27, 23, 28, 29, 30, 31, 33, 34, 35, 36, 32, 37, 38, 39, 40, 41, 42, 44, 45, 46, 43, 47, 48, 49, 50, 51, 52, 53, 55, 56, 57, 54, 58, 59, 60]]) [0, 1, 2, 3, 4, 6, 7, 8, 9, 5] [⟨_, _, _, _, _, _⟩, ⟨_, _, _, _, _, _⟩, ⟨_, _, _, _, _, _⟩, ⟨_, _, _, _, _, _⟩, ⟨_, _, _, _, _, _⟩, ⟨_, _, _, _, _, _⟩, ⟨_, _, _, _, _, _⟩, ⟨_, _, _, _, _, _⟩, ⟨_, _, _, _, _, _⟩, ⟨_, _, _, _, _, _⟩] rfl (by kernel_rfl) (by simp) _ _ ?_
          go_wp2_with (first
            | go_big_skip
            | (show wpList _ _ _ (⟨_, .binOp .neq 4 _ _ _, _, _, _, _⟩ :: _) _ _; refine wpList_val rfl (op_neBool rfl rfl rfl) ?_; go_frame)
            | (go_at_call 25; (refine Ret.calls (stems_s (p := p) (sa := sa) (r := x2) (hS.bring (by repeat (first | exact t0 | apply tS))) hsa) ?_); clear hS; rintro r1 w ⟨rfl, hS⟩)
            | (go_at_call 26; (refine Ret.calls (epoch_s (p := p) (sa := sa) (r := x2) (hS.bring (by repeat (first | exact t0 | apply tS))) hsa) ?_); clear hS; rintro r1 w ⟨rfl, hS⟩)
            | (go_at_call 27; (refine Ret.calls (end_s (p := p) (sa := sa) (r := x2) (hS.bring (by repeat (first | exact t0 | apply tS))) hsa) ?_); clear hS; rintro r1 w ⟨rfl, hS⟩)
            | (go_at_call 13; (refine Ret.calls (succ_s (p := p) (sa := sa) (r := x2) (hS.bring (by repeat (first | exact t0 | apply tS))) hsa) ?_); clear hS; rintro r1 w ⟨rfl, hS⟩)
            | (show wpList _ _ _ (⟨some 79, .load _ _, _, _, _, _⟩ :: _) _ _; refine wpList_val rfl (op_load1S (b := m) (T := 52) oneBool ((hS.bring (by repeat (first | exact t0 | apply tS)))) rfl rfl G2.out) ?_; go_frame)
            | (show wpList _ _ _ (⟨some 88, .load _ _, _, _, _, _⟩ :: _) _ _; refine wpList_val rfl (op_load1S (b := m) (T := 52) oneU64 ((hS.bring (by repeat (first | exact t0 | apply tS)))) rfl rfl G0.out) ?_; go_frame)
            | (show wpList _ _ _ (⟨some 97, .load _ _, _, _, _, _⟩ :: _) _ _; refine wpList_val rfl (op_load1S (b := m) (T := 52) oneU64 ((hS.bring (by repeat (first | exact t0 | apply tS)))) rfl rfl G1.out) ?_; go_frame)
            | (show wpList _ _ _ (⟨some 106, .load _ _, _, _, _, _⟩ :: _) _ _; refine wpList_val rfl (op_load agg2 rfl rfl ((SepL.getBlk (b := m) (T := 52) ((hS.bring (by repeat (first | exact t0 | apply tS))))).cells.subN 35 2 G3.out) rfl) ?_; go_frame)
            | (show wpList _ _ _ (⟨_, .binOp .neq 33 _ _ _, _, _, _, _⟩ :: _) _ _; (first | refine wpList_val rfl (opU_neq rfl (a := x2.epoch) (b := x2.epoch) rfl rfl NE.out) ?_ | refine wpList_val rfl (opU_neq rfl (a := x2.fin) (b := x2.fin) rfl rfl NF.out) ?_); go_frame)
            )
          refine segQ_mk (⟨((hS.bring (by repeat (first | exact t0 | apply tS))).getBlk), ((hS.bring (by repeat (first | exact t0 | apply tS))).getBlk)⟩ : Blk _ m 52 (rrC sa x2) ∧ Blk _ n8 38 (aC (u, a))) ?_
          refine ord_seg (by repeat (first | exact Clean.body | refine Clean.then ?_ | refine Clean.inBlock ?_ | refine SegQ.clean ?_ | refine FinC.clean ?_)) (n := 42) (rest := [[19, 20, 21, 22, 24, 25, 26, 27, 23, 28, 29, 30, 31, 33, 34, 35, 36, 32, 37, 38, 39, 40, 41, 42, 44, 45, 46, 43, 47, 48, 49, 50, 51, 52, 53, 55, 56, 57, 54, 58, 59, 60]]) [10, 11, 12, 13, 15, 16, 17, 18, 14] [⟨_, _, _, _, _, _⟩, ⟨_, _, _, _, _, _⟩, ⟨_, _, _, _, _, _⟩, ⟨_, _, _, _, _, _⟩, ⟨_, _, _, _, _, _⟩, ⟨_, _, _, _, _, _⟩, ⟨_, _, _, _, _, _⟩, ⟨_, _, _, _, _, _⟩, ⟨_, _, _, _, _, _⟩] rfl (by kernel_rfl) (by simp) _ _ ?_
          go_wp2_with (first
            | go_big_skip
            | (show wpList _ _ _ (⟨_, .binOp .neq 4 _ _ _, _, _, _, _⟩ :: _) _ _; refine wpList_val rfl (op_neBool rfl rfl rfl) ?_; go_frame)
            | (go_at_call 25; (refine Ret.calls (stems_s (p := p) (sa := sa) (r := x2) (hS.bring (by repeat (first | exact t0 | apply tS))) hsa) ?_); clear hS; rintro r1 w ⟨rfl, hS⟩)
            | (go_at_call 26; (refine Ret.calls (epoch_s (p := p) (sa := sa) (r := x2) (hS.bring (by repeat (first | exact t0 | apply tS))) hsa) ?_); clear hS; rintro r1 w ⟨rfl, hS⟩)
            | (go_at_call 27; (refine Ret.calls (end_s (p := p) (sa := sa) (r := x2) (hS.bring (by repeat (first | exact t0 | apply tS))) hsa) ?_); clear hS; rintro r1 w ⟨rfl, hS⟩)
            | (go_at_call 13; (refine Ret.calls (succ_s (p := p) (sa := sa) (r := x2) (hS.bring (by repeat (first | exact t0 | apply tS))) hsa) ?_); clear hS; rintro r1 w ⟨rfl, hS⟩)
            | (show wpList _ _ _ (⟨some 79, .load _ _, _, _, _, _⟩ :: _) _ _; refine wpList_val rfl (op_load1S (b := m) (T := 52) oneBool ((hS.bring (by repeat (first | exact t0 | apply tS)))) rfl rfl G2.out) ?_; go_frame)
            | (show wpList _ _ _ (⟨some 88, .load _ _, _, _, _, _⟩ :: _) _ _; refine wpList_val rfl (op_load1S (b := m) (T := 52) oneU64 ((hS.bring (by repeat (first | exact t0 | apply tS)))) rfl rfl G0.out) ?_; go_frame)
            | (show wpList _ _ _ (⟨some 97, .load _ _, _, _, _, _⟩ :: _) _ _; refine wpList_val rfl (op_load1S (b := m) (T := 52) oneU64 ((hS.bring (by repeat (first | exact t0 | apply tS)))) rfl rfl G1.out) ?_; go_frame)
            | (show wpList _ _ _ (⟨some 106, .load _ _, _, _, _, _⟩ :: _) _ _; refine wpList_val rfl (op_load agg2 rfl rfl ((SepL.getBlk (b := m) (T := 52) ((hS.bring (by repeat (first | exact t0 | apply tS))))).cells.subN 35 2 G3.out) rfl) ?_; go_frame)
            | (show wpList _ _ _ (⟨_, .binOp .neq 33 _ _ _, _, _, _, _⟩ :: _) _ _; (first | refine wpList_val rfl (opU_neq rfl (a := x2.epoch) (b := x2.epoch) rfl rfl NE.out) ?_ | refine wpList_val rfl (opU_neq rfl (a := x2.fin) (b := x2.fin) rfl rfl NF.out) ?_); go_frame)
            )
          refine segQ_mk (⟨((hS.bring (by repeat (first | exact t0 | apply tS))).getBlk), ((hS.bring (by repeat (first | exact t0 | apply tS))).getBlk)⟩ : Blk _ m 52 (rrC sa x2) ∧ Blk _ n8 38 (aC (u, a))) ?_
          refine ord_seg (by repeat (first | exact Clean.body | refine Clean.then ?_ | refine Clean.inBlock ?_ | refine SegQ.clean ?_ | refine FinC.clean ?_)) (n := 33) (rest := [[28, 29, 30, 31, 33, 34, 35, 36, 32, 37, 38, 39, 40, 41, 42, 44, 45, 46, 43, 47, 48, 49, 50, 51, 52, 53, 55, 56, 57, 54, 58, 59, 60]]) [19, 20, 21, 22, 24, 25, 26, 27, 23] [⟨_, _, _, _, _, _⟩, ⟨_, _, _, _, _, _⟩, ⟨_, _, _, _, _, _⟩, ⟨_, _, _, _, _, _⟩, ⟨_, _, _, _, _, _⟩, ⟨_, _, _, _, _, _⟩, ⟨_, _, _, _, _, _⟩, ⟨_, _, _, _, _, _⟩, ⟨_, _, _, _, _, _⟩] rfl (by kernel_rfl) (by simp) _ _ ?_
          go_wp2_with (first
            | go_big_skip
            | (show wpList _ _ _ (⟨_, .binOp .neq 4 _ _ _, _, _, _, _⟩ :: _) _ _; refine wpList_val rfl (op_neBool rfl rfl rfl) ?_; go_frame)
            | (go_at_call 25; (refine Ret.calls (stems_s (p := p) (sa := sa) (r := x2) (hS.bring (by repeat (first | exact t0 | apply tS))) hsa) ?_); clear hS; rintro r1 w ⟨rfl, hS⟩)
            | (go_at_call 26; (refine Ret.calls (epoch_s (p := p) (sa := sa) (r := x2) (hS.bring (by repeat (first | exact t0 | apply tS))) hsa) ?_); clear hS; rintro r1 w ⟨rfl, hS⟩)
            | (go_at_call 27; (refine Ret.calls (end_s (p := p) (sa := sa) (r := x2) (hS.bring (by repeat (first | exact t0 | apply tS))) hsa) ?_); clear hS; rintro r1 w ⟨rfl, hS⟩)
            | (go_at_call 13; (refine Ret.calls (succ_s (p := p) (sa := sa) (r := x2) (hS.bring (by repeat (first | exact t0 | apply tS))) hsa) ?_); clear hS; rintro r1 w ⟨rfl, hS⟩)
            | (show wpList _ _ _ (⟨some 79, .load _ _, _, _, _, _⟩ :: _) _ _; refine wpList_val rfl (op_load1S (b := m) (T := 52) oneBool ((hS.bring (by repeat (first | exact t0 | apply tS)))) rfl rfl G2.out) ?_; go_frame)
            | (show wpList _ _ _ (⟨some 88, .load _ _, _, _, _, _⟩ :: _) _ _; refine wpList_val rfl (op_load1S (b := m) (T := 52) oneU64 ((hS.bring (by repeat (first | exact t0 | apply tS)))) rfl rfl G0.out) ?_; go_frame)
            | (show wpList _ _ _ (⟨some 97, .load _ _, _, _, _, _⟩ :: _) _ _; refine wpList_val rfl (op_load1S (b := m) (T := 52) oneU64 ((hS.bring (by repeat (first | exact t0 | apply tS)))) rfl rfl G1.out) ?_; go_frame)
            | (show wpList _ _ _ (⟨some 106, .load _ _, _, _, _, _⟩ :: _) _ _; refine wpList_val rfl (op_load agg2 rfl rfl ((SepL.getBlk (b := m) (T := 52) ((hS.bring (by repeat (first | exact t0 | apply tS))))).cells.subN 35 2 G3.out) rfl) ?_; go_frame)
            | (show wpList _ _ _ (⟨_, .binOp .neq 33 _ _ _, _, _, _, _⟩ :: _) _ _; (first | refine wpList_val rfl (opU_neq rfl (a := x2.epoch) (b := x2.epoch) rfl rfl NE.out) ?_ | refine wpList_val rfl (opU_neq rfl (a := x2.fin) (b := x2.fin) rfl rfl NF.out) ?_); go_frame)
            )
          refine segQ_mk (⟨((hS.bring (by repeat (first | exact t0 | apply tS))).getBlk), ((hS.bring (by repeat (first | exact t0 | apply tS))).getBlk)⟩ : Blk _ m 52 (rrC sa x2) ∧ Blk _ n8 38 (aC (u, a))) ?_
          refine ord_seg (by repeat (first | exact Clean.body | refine Clean.then ?_ | refine Clean.inBlock ?_ | refine SegQ.clean ?_ | refine FinC.clean ?_)) (n := 24) (rest := [[37, 38, 39, 40, 41, 42, 44, 45, 46, 43, 47, 48, 49, 50, 51, 52, 53, 55, 56, 57, 54, 58, 59, 60]]) [28, 29, 30, 31, 33, 34, 35, 36, 32] [⟨_, _, _, _, _, _⟩, ⟨_, _, _, _, _, _⟩, ⟨_, _, _, _, _, _⟩, ⟨_, _, _, _, _, _⟩, ⟨_, _, _, _, _, _⟩, ⟨_, _, _, _, _, _⟩, ⟨_, _, _, _, _, _⟩, ⟨_, _, _, _, _, _⟩, ⟨_, _, _, _, _, _⟩] rfl (by kernel_rfl) (by simp) _ _ ?_
          go_wp2_with (first
            | go_big_skip
            | (show wpList _ _ _ (⟨_, .binOp .neq 4 _ _ _, _, _, _, _⟩ :: _) _ _; refine wpList_val rfl (op_neBool rfl rfl rfl) ?_; go_frame)
            | (go_at_call 25; (refine Ret.calls (stems_s (p := p) (sa := sa) (r := x2) (hS.bring (by repeat (first | exact t0 | apply tS))) hsa) ?_); clear hS; rintro r1 w ⟨rfl, hS⟩)
            | (go_at_call 26; (refine Ret.calls (epoch_s (p := p) (sa := sa) (r := x2) (hS.bring (by repeat (first | exact t0 | apply tS))) hsa) ?_); clear hS; rintro r1 w ⟨rfl, hS⟩)
            | (go_at_call 27; (refine Ret.calls (end_s (p := p) (sa := sa) (r := x2) (hS.bring (by repeat (first | exact t0 | apply tS))) hsa) ?_); clear hS; rintro r1 w ⟨rfl, hS⟩)
            | (go_at_call 13; (refine Ret.calls (succ_s (p := p) (sa := sa) (r := x2) (hS.bring (by repeat (first | exact t0 | apply tS))) hsa) ?_); clear hS; rintro r1 w ⟨rfl, hS⟩)
            | (show wpList _ _ _ (⟨some 79, .load _ _, _, _, _, _⟩ :: _) _ _; refine wpList_val rfl (op_load1S (b := m) (T := 52) oneBool ((hS.bring (by repeat (first | exact t0 | apply tS)))) rfl rfl G2.out) ?_; go_frame)
            | (show wpList _ _ _ (⟨some 88, .load _ _, _, _, _, _⟩ :: _) _ _; refine wpList_val rfl (op_load1S (b := m) (T := 52) oneU64 ((hS.bring (by repeat (first | exact t0 | apply tS)))) rfl rfl G0.out) ?_; go_frame)
            | (show wpList _ _ _ (⟨some 97, .load _ _, _, _, _, _⟩ :: _) _ _; refine wpList_val rfl (op_load1S (b := m) (T := 52) oneU64 ((hS.bring (by repeat (first | exact t0 | apply tS)))) rfl rfl G1.out) ?_; go_frame)
            | (show wpList _ _ _ (⟨some 106, .load _ _, _, _, _, _⟩ :: _) _ _; refine wpList_val rfl (op_load agg2 rfl rfl ((SepL.getBlk (b := m) (T := 52) ((hS.bring (by repeat (first | exact t0 | apply tS))))).cells.subN 35 2 G3.out) rfl) ?_; go_frame)
            | (show wpList _ _ _ (⟨_, .binOp .neq 33 _ _ _, _, _, _, _⟩ :: _) _ _; (first | refine wpList_val rfl (opU_neq rfl (a := x2.epoch) (b := x2.epoch) rfl rfl NE.out) ?_ | refine wpList_val rfl (opU_neq rfl (a := x2.fin) (b := x2.fin) rfl rfl NF.out) ?_); go_frame)
            )
          refine segQ_mk (⟨((hS.bring (by repeat (first | exact t0 | apply tS))).getBlk), ((hS.bring (by repeat (first | exact t0 | apply tS))).getBlk)⟩ : Blk _ m 52 (rrC sa x2) ∧ Blk _ n8 38 (aC (u, a))) ?_
          refine ord_seg (by repeat (first | exact Clean.body | refine Clean.then ?_ | refine Clean.inBlock ?_ | refine SegQ.clean ?_ | refine FinC.clean ?_)) (n := 23) (rest := [[38, 39, 40, 41, 42, 44, 45, 46, 43, 47, 48, 49, 50, 51, 52, 53, 55, 56, 57, 54, 58, 59, 60]]) [37] [⟨_, _, _, _, _, _⟩] rfl (by kernel_rfl) (by simp) _ _ ?_
          go_wp2_with (first
            | go_big_skip
            | (go_at_call 28; (refine Ret.calls (misses_s (MM := 3) (p := p) (sa := sa) (r := x2) (s := a.source) (hS.bring (by repeat (first | exact t0 | apply tS))) hsa HOX.out) ?_); clear hS; rintro r1 w ⟨rfl, hS⟩)
            | (go_at_call 14; (refine Ret.calls (way_s (p := p) (sa := sa) (r := x2) (s := a.source) (hS.bring (by repeat (first | exact t0 | apply tS))) hK hF hsa HOX.out) ?_); clear hS; rintro r1 w ⟨rfl, hS⟩)
            | (go_at_call 29; (refine Ret.calls (missed_s (p := m) (sa := sa) (r := x2) (s := a.source) (hS.bring (by repeat (first | exact t0 | apply tS))) hsa HOX.out) ?_); clear hS; rintro r1 w ⟨rfl, hS⟩)
            | (go_at_call 30; (refine Ret.calls (rway_s (p := m) (sa := sa) (r := x2) (s := a.source) (hS.bring (by repeat (first | exact t0 | apply tS))) hsa HOX.out) ?_); clear hS; rintro r1 w ⟨rfl, hS⟩)
            | (show wpList _ _ _ (⟨_, .load 3 _, _, _, _, _⟩ :: _) _ _; refine wpList_val rfl (op_load1S (b := n8) (T := 38) oneInt ((hS.bring (by repeat (first | exact t0 | apply tS)))) rfl rfl rfl) ?_; go_frame)
            | (show wpList _ _ _ (⟨_, .binOp .neq 29 _ _ _, _, _, _, _⟩ :: _) _ _; refine wpList_val rfl (op_neP rfl rfl rfl NS.out) ?_; go_frame)
            | (show wpList _ _ _ (⟨some 118, .binOp _ _ _ _ _, _, _, _, _⟩ :: _) _ _; refine wpList_val rfl (op_ineI rfl rfl rfl NM.out) ?_; go_frame)
            | (show wpList _ _ _ (⟨some 129, .binOp _ _ _ _ _, _, _, _, _⟩ :: _) _ _; refine wpList_val rfl (op_ineI rfl rfl rfl NW.out) ?_; go_frame)
            )
          refine segQ_mk (⟨((hS.bring (by repeat (first | exact t0 | apply tS))).getBlk), ((hS.bring (by repeat (first | exact t0 | apply tS))).getBlk)⟩ : Blk _ m 52 (rrC sa x2) ∧ Blk _ n8 38 (aC (u, a))) ?_
          refine ord_seg (by repeat (first | exact Clean.body | refine Clean.then ?_ | refine Clean.inBlock ?_ | refine SegQ.clean ?_ | refine FinC.clean ?_)) (n := 14) (rest := [[47, 48, 49, 50, 51, 52, 53, 55, 56, 57, 54, 58, 59, 60]]) [38, 39, 40, 41, 42, 44, 45, 46, 43] [⟨_, _, _, _, _, _⟩, ⟨_, _, _, _, _, _⟩, ⟨_, _, _, _, _, _⟩, ⟨_, _, _, _, _, _⟩, ⟨_, _, _, _, _, _⟩, ⟨_, _, _, _, _, _⟩, ⟨_, _, _, _, _, _⟩, ⟨_, _, _, _, _, _⟩, ⟨_, _, _, _, _, _⟩] rfl (by kernel_rfl) (by simp) _ _ ?_
          go_wp2_with (first
            | go_big_skip
            | (go_at_call 28; (refine Ret.calls (misses_s (MM := 3) (p := p) (sa := sa) (r := x2) (s := a.source) (hS.bring (by repeat (first | exact t0 | apply tS))) hsa HOX.out) ?_); clear hS; rintro r1 w ⟨rfl, hS⟩)
            | (go_at_call 14; (refine Ret.calls (way_s (p := p) (sa := sa) (r := x2) (s := a.source) (hS.bring (by repeat (first | exact t0 | apply tS))) hK hF hsa HOX.out) ?_); clear hS; rintro r1 w ⟨rfl, hS⟩)
            | (go_at_call 29; (refine Ret.calls (missed_s (p := m) (sa := sa) (r := x2) (s := a.source) (hS.bring (by repeat (first | exact t0 | apply tS))) hsa HOX.out) ?_); clear hS; rintro r1 w ⟨rfl, hS⟩)
            | (go_at_call 30; (refine Ret.calls (rway_s (p := m) (sa := sa) (r := x2) (s := a.source) (hS.bring (by repeat (first | exact t0 | apply tS))) hsa HOX.out) ?_); clear hS; rintro r1 w ⟨rfl, hS⟩)
            | (show wpList _ _ _ (⟨_, .load 3 _, _, _, _, _⟩ :: _) _ _; refine wpList_val rfl (op_load1S (b := n8) (T := 38) oneInt ((hS.bring (by repeat (first | exact t0 | apply tS)))) rfl rfl rfl) ?_; go_frame)
            | (show wpList _ _ _ (⟨_, .binOp .neq 29 _ _ _, _, _, _, _⟩ :: _) _ _; refine wpList_val rfl (op_neP rfl rfl rfl NS.out) ?_; go_frame)
            | (show wpList _ _ _ (⟨some 118, .binOp _ _ _ _ _, _, _, _, _⟩ :: _) _ _; refine wpList_val rfl (op_ineI rfl rfl rfl NM.out) ?_; go_frame)
            | (show wpList _ _ _ (⟨some 129, .binOp _ _ _ _ _, _, _, _, _⟩ :: _) _ _; refine wpList_val rfl (op_ineI rfl rfl rfl NW.out) ?_; go_frame)
            )
          refine segQ_mk (⟨((hS.bring (by repeat (first | exact t0 | apply tS))).getBlk), ((hS.bring (by repeat (first | exact t0 | apply tS))).getBlk)⟩ : Blk _ m 52 (rrC sa x2) ∧ Blk _ n8 38 (aC (u, a))) ?_
          refine ord_seg (by repeat (first | exact Clean.body | refine Clean.then ?_ | refine Clean.inBlock ?_ | refine SegQ.clean ?_ | refine FinC.clean ?_)) (n := 13) (rest := [[48, 49, 50, 51, 52, 53, 55, 56, 57, 54, 58, 59, 60]]) [47] [⟨_, _, _, _, _, _⟩] rfl (by kernel_rfl) (by simp) _ _ ?_
          go_wp2_with (first
            | go_big_skip
            | (go_at_call 28; (refine Ret.calls (misses_s (MM := 3) (p := p) (sa := sa) (r := x2) (s := a.source) (hS.bring (by repeat (first | exact t0 | apply tS))) hsa HOX.out) ?_); clear hS; rintro r1 w ⟨rfl, hS⟩)
            | (go_at_call 14; (refine Ret.calls (way_s (p := p) (sa := sa) (r := x2) (s := a.source) (hS.bring (by repeat (first | exact t0 | apply tS))) hK hF hsa HOX.out) ?_); clear hS; rintro r1 w ⟨rfl, hS⟩)
            | (go_at_call 29; (refine Ret.calls (missed_s (p := m) (sa := sa) (r := x2) (s := a.source) (hS.bring (by repeat (first | exact t0 | apply tS))) hsa HOX.out) ?_); clear hS; rintro r1 w ⟨rfl, hS⟩)
            | (go_at_call 30; (refine Ret.calls (rway_s (p := m) (sa := sa) (r := x2) (s := a.source) (hS.bring (by repeat (first | exact t0 | apply tS))) hsa HOX.out) ?_); clear hS; rintro r1 w ⟨rfl, hS⟩)
            | (show wpList _ _ _ (⟨_, .load 3 _, _, _, _, _⟩ :: _) _ _; refine wpList_val rfl (op_load1S (b := n8) (T := 38) oneInt ((hS.bring (by repeat (first | exact t0 | apply tS)))) rfl rfl rfl) ?_; go_frame)
            | (show wpList _ _ _ (⟨_, .binOp .neq 29 _ _ _, _, _, _, _⟩ :: _) _ _; refine wpList_val rfl (op_neP rfl rfl rfl NS.out) ?_; go_frame)
            | (show wpList _ _ _ (⟨some 118, .binOp _ _ _ _ _, _, _, _, _⟩ :: _) _ _; refine wpList_val rfl (op_ineI rfl rfl rfl NM.out) ?_; go_frame)
            | (show wpList _ _ _ (⟨some 129, .binOp _ _ _ _ _, _, _, _, _⟩ :: _) _ _; refine wpList_val rfl (op_ineI rfl rfl rfl NW.out) ?_; go_frame)
            )
          refine segQ_mk (⟨((hS.bring (by repeat (first | exact t0 | apply tS))).getBlk), ((hS.bring (by repeat (first | exact t0 | apply tS))).getBlk)⟩ : Blk _ m 52 (rrC sa x2) ∧ Blk _ n8 38 (aC (u, a))) ?_
          refine ord_seg (by repeat (first | exact Clean.body | refine Clean.then ?_ | refine Clean.inBlock ?_ | refine SegQ.clean ?_ | refine FinC.clean ?_)) (n := 3) (rest := [[58, 59, 60]]) [48, 49, 50, 51, 52, 53, 55, 56, 57, 54] [⟨_, _, _, _, _, _⟩, ⟨_, _, _, _, _, _⟩, ⟨_, _, _, _, _, _⟩, ⟨_, _, _, _, _, _⟩, ⟨_, _, _, _, _, _⟩, ⟨_, _, _, _, _, _⟩, ⟨_, _, _, _, _, _⟩, ⟨_, _, _, _, _, _⟩, ⟨_, _, _, _, _, _⟩, ⟨_, _, _, _, _, _⟩] rfl (by kernel_rfl) (by simp) _ _ ?_
          go_wp2_with (first
            | go_big_skip
            | (go_at_call 28; (refine Ret.calls (misses_s (MM := 3) (p := p) (sa := sa) (r := x2) (s := a.source) (hS.bring (by repeat (first | exact t0 | apply tS))) hsa HOX.out) ?_); clear hS; rintro r1 w ⟨rfl, hS⟩)
            | (go_at_call 14; (refine Ret.calls (way_s (p := p) (sa := sa) (r := x2) (s := a.source) (hS.bring (by repeat (first | exact t0 | apply tS))) hK hF hsa HOX.out) ?_); clear hS; rintro r1 w ⟨rfl, hS⟩)
            | (go_at_call 29; (refine Ret.calls (missed_s (p := m) (sa := sa) (r := x2) (s := a.source) (hS.bring (by repeat (first | exact t0 | apply tS))) hsa HOX.out) ?_); clear hS; rintro r1 w ⟨rfl, hS⟩)
            | (go_at_call 30; (refine Ret.calls (rway_s (p := m) (sa := sa) (r := x2) (s := a.source) (hS.bring (by repeat (first | exact t0 | apply tS))) hsa HOX.out) ?_); clear hS; rintro r1 w ⟨rfl, hS⟩)
            | (show wpList _ _ _ (⟨_, .load 3 _, _, _, _, _⟩ :: _) _ _; refine wpList_val rfl (op_load1S (b := n8) (T := 38) oneInt ((hS.bring (by repeat (first | exact t0 | apply tS)))) rfl rfl rfl) ?_; go_frame)
            | (show wpList _ _ _ (⟨_, .binOp .neq 29 _ _ _, _, _, _, _⟩ :: _) _ _; refine wpList_val rfl (op_neP rfl rfl rfl NS.out) ?_; go_frame)
            | (show wpList _ _ _ (⟨some 118, .binOp _ _ _ _ _, _, _, _, _⟩ :: _) _ _; refine wpList_val rfl (op_ineI rfl rfl rfl NM.out) ?_; go_frame)
            | (show wpList _ _ _ (⟨some 129, .binOp _ _ _ _ _, _, _, _, _⟩ :: _) _ _; refine wpList_val rfl (op_ineI rfl rfl rfl NW.out) ?_; go_frame)
            )
          refine segQ_mk (⟨((hS.bring (by repeat (first | exact t0 | apply tS))).getBlk), ((hS.bring (by repeat (first | exact t0 | apply tS))).getBlk)⟩ : Blk _ m 52 (rrC sa x2) ∧ Blk _ n8 38 (aC (u, a))) ?_
          refine ord_seg (by repeat (first | exact Clean.body | refine Clean.then ?_ | refine Clean.inBlock ?_ | refine SegQ.clean ?_ | refine FinC.clean ?_)) (n := 2) (rest := [[59, 60]]) [58] [⟨_, _, _, _, _, _⟩] rfl (by kernel_rfl) (by simp) _ _ ?_
          go_wp2_with (first
            | go_big_skip
            | (go_at_call 28; (refine Ret.calls (misses_s (MM := 3) (p := p) (sa := sa) (r := x2) (s := a.source) (hS.bring (by repeat (first | exact t0 | apply tS))) hsa HOX.out) ?_); clear hS; rintro r1 w ⟨rfl, hS⟩)
            | (go_at_call 14; (refine Ret.calls (way_s (p := p) (sa := sa) (r := x2) (s := a.source) (hS.bring (by repeat (first | exact t0 | apply tS))) hK hF hsa HOX.out) ?_); clear hS; rintro r1 w ⟨rfl, hS⟩)
            | (go_at_call 29; (refine Ret.calls (missed_s (p := m) (sa := sa) (r := x2) (s := a.source) (hS.bring (by repeat (first | exact t0 | apply tS))) hsa HOX.out) ?_); clear hS; rintro r1 w ⟨rfl, hS⟩)
            | (go_at_call 30; (refine Ret.calls (rway_s (p := m) (sa := sa) (r := x2) (s := a.source) (hS.bring (by repeat (first | exact t0 | apply tS))) hsa HOX.out) ?_); clear hS; rintro r1 w ⟨rfl, hS⟩)
            | (show wpList _ _ _ (⟨_, .load 3 _, _, _, _, _⟩ :: _) _ _; refine wpList_val rfl (op_load1S (b := n8) (T := 38) oneInt ((hS.bring (by repeat (first | exact t0 | apply tS)))) rfl rfl rfl) ?_; go_frame)
            | (show wpList _ _ _ (⟨_, .binOp .neq 29 _ _ _, _, _, _, _⟩ :: _) _ _; refine wpList_val rfl (op_neP rfl rfl rfl NS.out) ?_; go_frame)
            | (show wpList _ _ _ (⟨some 118, .binOp _ _ _ _ _, _, _, _, _⟩ :: _) _ _; refine wpList_val rfl (op_ineI rfl rfl rfl NM.out) ?_; go_frame)
            | (show wpList _ _ _ (⟨some 129, .binOp _ _ _ _ _, _, _, _, _⟩ :: _) _ _; refine wpList_val rfl (op_ineI rfl rfl rfl NW.out) ?_; go_frame)
            )
          refine segQ_mk (⟨((hS.bring (by repeat (first | exact t0 | apply tS))).getBlk), ((hS.bring (by repeat (first | exact t0 | apply tS))).getBlk)⟩ : Blk _ m 52 (rrC sa x2) ∧ Blk _ n8 38 (aC (u, a))) ?_
          refine ord_seg (by repeat (first | exact Clean.body | refine Clean.then ?_ | refine Clean.inBlock ?_ | refine SegQ.clean ?_ | refine FinC.clean ?_)) (n := 0) (rest := [[]]) [59, 60] [⟨_, _, _, _, _, _⟩, ⟨_, _, _, _, _, _⟩] rfl (by kernel_rfl) (by simp) _ _ ?_
          go_wp2_with (first
            | go_big_skip
            | (go_at_call 28; (refine Ret.calls (misses_s (MM := 3) (p := p) (sa := sa) (r := x2) (s := a.source) (hS.bring (by repeat (first | exact t0 | apply tS))) hsa HOX.out) ?_); clear hS; rintro r1 w ⟨rfl, hS⟩)
            | (go_at_call 14; (refine Ret.calls (way_s (p := p) (sa := sa) (r := x2) (s := a.source) (hS.bring (by repeat (first | exact t0 | apply tS))) hK hF hsa HOX.out) ?_); clear hS; rintro r1 w ⟨rfl, hS⟩)
            | (go_at_call 29; (refine Ret.calls (missed_s (p := m) (sa := sa) (r := x2) (s := a.source) (hS.bring (by repeat (first | exact t0 | apply tS))) hsa HOX.out) ?_); clear hS; rintro r1 w ⟨rfl, hS⟩)
            | (go_at_call 30; (refine Ret.calls (rway_s (p := m) (sa := sa) (r := x2) (s := a.source) (hS.bring (by repeat (first | exact t0 | apply tS))) hsa HOX.out) ?_); clear hS; rintro r1 w ⟨rfl, hS⟩)
            | (show wpList _ _ _ (⟨_, .load 3 _, _, _, _, _⟩ :: _) _ _; refine wpList_val rfl (op_load1S (b := n8) (T := 38) oneInt ((hS.bring (by repeat (first | exact t0 | apply tS)))) rfl rfl rfl) ?_; go_frame)
            | (show wpList _ _ _ (⟨_, .binOp .neq 29 _ _ _, _, _, _, _⟩ :: _) _ _; refine wpList_val rfl (op_neP rfl rfl rfl NS.out) ?_; go_frame)
            | (show wpList _ _ _ (⟨some 118, .binOp _ _ _ _ _, _, _, _, _⟩ :: _) _ _; refine wpList_val rfl (op_ineI rfl rfl rfl NM.out) ?_; go_frame)
            | (show wpList _ _ _ (⟨some 129, .binOp _ _ _ _ _, _, _, _, _⟩ :: _) _ _; refine wpList_val rfl (op_ineI rfl rfl rfl NW.out) ?_; go_frame)
            )
          refine segQ_mk (⟨((hS.bring (by repeat (first | exact t0 | apply tS))).getBlk), ((hS.bring (by repeat (first | exact t0 | apply tS))).getBlk)⟩ : Blk _ m 52 (rrC sa x2) ∧ Blk _ n8 38 (aC (u, a))) ?_
          refine finC_mk (by kernel_rfl) (by
            intro t ht
            simp only [List.mem_cons, List.not_mem_nil, or_false] at ht
            rcases ht with rfl | rfl | rfl | rfl | rfl | rfl | rfl | rfl <;> first | exact stab_blk (b := m) (fun w h => h.1) _ none | exact stab_blk (b := n8) (fun w h => h.2) _ none) ?_
          go_wp2_with fail
          go_roundw
          case rel =>
            refine ⟨k + 1, by go_num, by omega, ?_⟩
            rw [HSN.out]
            exact hS.sel (by repeat (first | exact Sel.refl | refine Sel.take (by repeat (first | exact t0 | apply tS)) ?_ | apply Sel.drop))
          case measure => simp [intOf]; omega
        have HK0 := eqF h0
        rw [if_neg h0] at hx2 hbb
        by_cases h3 : a.kind = 3
        · have HK1 : Hid ((a.kind == 1) = false) := eqF (by omega)
          have HK2 : Hid ((a.kind == 2) = false) := eqF (by omega)
          have HK3 := eqT h3
          rw [if_neg (by omega), if_neg (by omega), if_pos h3] at hx2
          rw [if_pos h3] at hbb
          have HRM := hide hx2
          have HRB := hide hbb
          clear h0 h3 hx2 hbb
          go_wp2_with (first
            | go_big_skip
            | (show wpList _ _ _ (⟨some 24, .indexAddr _ _ _, _, _, _, _⟩ :: _) _ _; refine wpList_val rfl (op_indexAddr slAct rfl (v := v) (xs := L.map aC) rfl (k := k) rfl (by exact hS.rd hv.rd) hlk) ?_; go_frame)
            | (show wpList _ _ _ (⟨some 25, .load _ _, _, _, _, _⟩ :: _) _ _; refine wpList_val rfl (op_loadE aggAct rfl (v := v) (xs := L.map aC) (k := k) rfl (by exact hS.rd hv.rd) hlk) ?_; rw [HX.out]; go_frame)
            | (show wpList _ _ _ (⟨some 8, .alloc _, _, _, _, _⟩ :: _) _ _; refine wpS_alloc hS rfl rfl Tryd.zeroValue38 (zs := [.int .i64 0, .int .i64 0, .int .i64 0, .int .u64 0, .slice none 0 0, .int .u16 0, .int .u16 0, .int .u16 0]) rfl ?_; clear hS; intro n8 w hS; go_frame)
            | (show wpList _ _ _ (⟨_, .store 38 _ _, _, _, _, _⟩ :: _) _ _; (refine wpS_storeAll (b := n8) aggAct (hS.bring (by repeat (first | exact t0 | apply tS))) rfl rfl rfl (vs := aC (u, a)) rfl rfl HUF.out rfl ?_); clear hS; intro w hS; go_frame)
            | (show wpList _ _ _ (⟨_, .load 38 _, _, _, _, _⟩ :: _) _ _; refine wpList_val rfl (op_load aggAct rfl rfl (SepL.getBlk (b := n8) (T := 38) ((hS.bring (by repeat (first | exact t0 | apply tS))))).cells rfl) ?_; go_frame)
            | (go_at_call 19; (refine Ret.calls (do_s (p := p) (r := x) (u := u) (s := a) (hS.bring (by repeat (first | exact t0 | apply tS))) hsa HOX0.out HUR.out HAO1.out) ?_); clear hS; rintro r1 w ⟨rfl, hS⟩; rw [HX2.out] at hS; rw [HBB.out])
            | (show wpList _ _ _ (⟨_, .load 3 _, _, _, _, _⟩ :: _) _ _; refine wpList_val rfl (op_load1S (b := n8) (T := 38) oneInt ((hS.bring (by repeat (first | exact t0 | apply tS)))) rfl rfl rfl) ?_; go_frame)
            | (show wpList _ _ _ (⟨_, .load 33 _, _, _, _, _⟩ :: _) _ _; refine wpList_val rfl (op_load1S (b := n8) (T := 38) oneU64 ((hS.bring (by repeat (first | exact t0 | apply tS)))) rfl rfl rfl) ?_; go_frame)
            | (show wpList _ _ _ (⟨_, .load 34 _, _, _, _, _⟩ :: _) _ _; refine wpList_val rfl (op_load1S (b := n8) (T := 38) oneInts ((hS.bring (by repeat (first | exact t0 | apply tS)))) rfl rfl rfl) ?_; go_frame)
            | (show wpList _ _ _ (⟨_, .load 36 _, _, _, _, _⟩ :: _) _ _; refine wpList_val rfl (op_load agg3u rfl rfl ((SepL.getBlk (b := n8) (T := 38) ((hS.bring (by repeat (first | exact t0 | apply tS))))).cells.subN 5 3 (ds := [.int .u16 a.d0, .int .u16 a.d1, .int .u16 a.d2]) rfl) rfl) ?_; go_frame)
            | (show wpList _ _ _ (⟨some 55, .indexAddr _ _ _, _, _, _, _⟩ :: _) _ _; refine wpList_val rfl (op_indexArrZ arr3u rfl (b := n8) (off := 5) rfl rfl 0 rfl (by omega)) ?_; go_frame)
            | (show wpList _ _ _ (⟨_, .load 35 _, _, _, _, _⟩ :: _) _ _; refine wpList_val rfl (op_load1S (b := n8) (T := 38) oneU16 ((hS.bring (by repeat (first | exact t0 | apply tS)))) rfl rfl rfl) ?_; go_frame)
            | (show wpList _ _ _ (⟨some 32, .binOp _ _ _ _ _, _, _, _, _⟩ :: _) _ _; refine wpList_val rfl (op_eqI' rfl rfl rfl HK0.out) ?_; go_frame)
            | (show wpList _ _ _ (⟨some 42, .binOp _ _ _ _ _, _, _, _, _⟩ :: _) _ _; refine wpList_val rfl (op_eqI' rfl rfl rfl HK1.out) ?_; go_frame)
            | (show wpList _ _ _ (⟨some 48, .binOp _ _ _ _ _, _, _, _, _⟩ :: _) _ _; refine wpList_val rfl (op_eqI' rfl rfl rfl HK2.out) ?_; go_frame)
            | (show wpList _ _ _ (⟨some 59, .binOp _ _ _ _ _, _, _, _, _⟩ :: _) _ _; refine wpList_val rfl (op_eqI' rfl rfl rfl HK3.out) ?_; go_frame)
            | (show wpList _ _ _ (⟨some 65, .binOp _ _ _ _ _, _, _, _, _⟩ :: _) _ _; refine wpList_val rfl (op_eqI' rfl rfl rfl HK4.out) ?_; go_frame)
            | (go_at_call 20; (refine Ret.calls (rtick_s (p := m) (r := x) (peers := a.peers) (hS.bring (by repeat (first | exact t0 | apply tS))) hsa HOX0.out HUR.out HAO1.out.2 HAO1.out.1.now HAO1.out.1.d1 HAO1.out.1.d2) ?_); clear hS; rintro r1 w ⟨rfl, hS⟩; rw [HRM.out] at hS; rw [HRB.out])
            | (go_at_call 21; (refine Ret.calls (rjoined_s (p := m) (r := x) (hS.bring (by repeat (first | exact t0 | apply tS))) hsa) ?_); clear hS; rintro r1 w hS; rw [HRM.out] at hS)
            | (go_at_call 22; (refine Ret.calls (rleft_s (p := m) (r := x) (peers := a.peers) (hS.bring (by repeat (first | exact t0 | apply tS))) hsa HUR.out HAO1.out.2 HAO1.out.1.d0) ?_); clear hS; rintro r1 w hS; rw [HRM.out] at hS)
            | (go_at_call 23; (refine Ret.calls (rmiss_s (p := m) (r := x) (hS.bring (by repeat (first | exact t0 | apply tS))) hsa HOX0.out) ?_); clear hS; rintro r1 w ⟨rfl, hS⟩; rw [HRM.out] at hS; rw [HRB.out])
            | (go_at_call 24; (refine Ret.calls (rhit_s (p := m) (r := x) (hS.bring (by repeat (first | exact t0 | apply tS))) hsa HOX0.out) ?_); clear hS; rintro r1 w hS; rw [HRM.out] at hS)
            )
          refine wp_region_ord (by kernel_rfl) [78, 87, 96, 105, 111, 115, 122, 126] [[0, 1, 2, 3, 4, 6, 7, 8, 9, 5, 10, 11, 12, 13, 15, 16, 17, 18, 14, 19, 20, 21, 22, 24, 25, 26, 27, 23, 28, 29, 30, 31, 33, 34, 35, 36, 32, 37, 38, 39, 40, 41, 42, 44, 45, 46, 43, 47, 48, 49, 50, 51, 52, 53, 55, 56, 57, 54, 58, 59, 60]] (by kernel_rfl) (by kernel_rfl) (fun w' => Blk w' m 52 (rrC sa x2) ∧ Blk w' n8 38 (aC (u, a))) (Up.and Up.blk Up.blk) ⟨((hS.bring (by repeat (first | exact t0 | apply tS))).getBlk), ((hS.bring (by repeat (first | exact t0 | apply tS))).getBlk)⟩ (by repeat (first | exact Clean.body | refine Clean.then ?_ | refine Clean.inBlock ?_ | refine SegQ.clean ?_ | refine FinC.clean ?_)) ?_
          replace hS := hS.drew
          refine ord_seg (by repeat (first | exact Clean.body | refine Clean.then ?_ | refine Clean.inBlock ?_ | refine SegQ.clean ?_ | refine FinC.clean ?_)) (n := 51) (rest := [[10, 11, 12, 13, 15, 16, 17, 18, 14, 19, 20, 21, 22, 24, 25, 26, 27, 23, 28, 29, 30, 31, 33, 34, 35, 36, 32, 37, 38, 39, 40, 41, 42, 44, 45, 46, 43, 47, 48, 49, 50, 51, 52, 53, 55, 56, 57, 54, 58, 59, 60]]) [0, 1, 2, 3, 4, 6, 7, 8, 9, 5] [⟨_, _, _, _, _, _⟩, ⟨_, _, _, _, _, _⟩, ⟨_, _, _, _, _, _⟩, ⟨_, _, _, _, _, _⟩, ⟨_, _, _, _, _, _⟩, ⟨_, _, _, _, _, _⟩, ⟨_, _, _, _, _, _⟩, ⟨_, _, _, _, _, _⟩, ⟨_, _, _, _, _, _⟩, ⟨_, _, _, _, _, _⟩] rfl (by kernel_rfl) (by simp) _ _ ?_
          go_wp2_with (first
            | go_big_skip
            | (show wpList _ _ _ (⟨_, .binOp .neq 4 _ _ _, _, _, _, _⟩ :: _) _ _; refine wpList_val rfl (op_neBool rfl rfl rfl) ?_; go_frame)
            | (go_at_call 25; (refine Ret.calls (stems_s (p := p) (sa := sa) (r := x2) (hS.bring (by repeat (first | exact t0 | apply tS))) hsa) ?_); clear hS; rintro r1 w ⟨rfl, hS⟩)
            | (go_at_call 26; (refine Ret.calls (epoch_s (p := p) (sa := sa) (r := x2) (hS.bring (by repeat (first | exact t0 | apply tS))) hsa) ?_); clear hS; rintro r1 w ⟨rfl, hS⟩)
            | (go_at_call 27; (refine Ret.calls (end_s (p := p) (sa := sa) (r := x2) (hS.bring (by repeat (first | exact t0 | apply tS))) hsa) ?_); clear hS; rintro r1 w ⟨rfl, hS⟩)
            | (go_at_call 13; (refine Ret.calls (succ_s (p := p) (sa := sa) (r := x2) (hS.bring (by repeat (first | exact t0 | apply tS))) hsa) ?_); clear hS; rintro r1 w ⟨rfl, hS⟩)
            | (show wpList _ _ _ (⟨some 79, .load _ _, _, _, _, _⟩ :: _) _ _; refine wpList_val rfl (op_load1S (b := m) (T := 52) oneBool ((hS.bring (by repeat (first | exact t0 | apply tS)))) rfl rfl G2.out) ?_; go_frame)
            | (show wpList _ _ _ (⟨some 88, .load _ _, _, _, _, _⟩ :: _) _ _; refine wpList_val rfl (op_load1S (b := m) (T := 52) oneU64 ((hS.bring (by repeat (first | exact t0 | apply tS)))) rfl rfl G0.out) ?_; go_frame)
            | (show wpList _ _ _ (⟨some 97, .load _ _, _, _, _, _⟩ :: _) _ _; refine wpList_val rfl (op_load1S (b := m) (T := 52) oneU64 ((hS.bring (by repeat (first | exact t0 | apply tS)))) rfl rfl G1.out) ?_; go_frame)
            | (show wpList _ _ _ (⟨some 106, .load _ _, _, _, _, _⟩ :: _) _ _; refine wpList_val rfl (op_load agg2 rfl rfl ((SepL.getBlk (b := m) (T := 52) ((hS.bring (by repeat (first | exact t0 | apply tS))))).cells.subN 35 2 G3.out) rfl) ?_; go_frame)
            | (show wpList _ _ _ (⟨_, .binOp .neq 33 _ _ _, _, _, _, _⟩ :: _) _ _; (first | refine wpList_val rfl (opU_neq rfl (a := x2.epoch) (b := x2.epoch) rfl rfl NE.out) ?_ | refine wpList_val rfl (opU_neq rfl (a := x2.fin) (b := x2.fin) rfl rfl NF.out) ?_); go_frame)
            )
          refine segQ_mk (⟨((hS.bring (by repeat (first | exact t0 | apply tS))).getBlk), ((hS.bring (by repeat (first | exact t0 | apply tS))).getBlk)⟩ : Blk _ m 52 (rrC sa x2) ∧ Blk _ n8 38 (aC (u, a))) ?_
          refine ord_seg (by repeat (first | exact Clean.body | refine Clean.then ?_ | refine Clean.inBlock ?_ | refine SegQ.clean ?_ | refine FinC.clean ?_)) (n := 42) (rest := [[19, 20, 21, 22, 24, 25, 26, 27, 23, 28, 29, 30, 31, 33, 34, 35, 36, 32, 37, 38, 39, 40, 41, 42, 44, 45, 46, 43, 47, 48, 49, 50, 51, 52, 53, 55, 56, 57, 54, 58, 59, 60]]) [10, 11, 12, 13, 15, 16, 17, 18, 14] [⟨_, _, _, _, _, _⟩, ⟨_, _, _, _, _, _⟩, ⟨_, _, _, _, _, _⟩, ⟨_, _, _, _, _, _⟩, ⟨_, _, _, _, _, _⟩, ⟨_, _, _, _, _, _⟩, ⟨_, _, _, _, _, _⟩, ⟨_, _, _, _, _, _⟩, ⟨_, _, _, _, _, _⟩] rfl (by kernel_rfl) (by simp) _ _ ?_
          go_wp2_with (first
            | go_big_skip
            | (show wpList _ _ _ (⟨_, .binOp .neq 4 _ _ _, _, _, _, _⟩ :: _) _ _; refine wpList_val rfl (op_neBool rfl rfl rfl) ?_; go_frame)
            | (go_at_call 25; (refine Ret.calls (stems_s (p := p) (sa := sa) (r := x2) (hS.bring (by repeat (first | exact t0 | apply tS))) hsa) ?_); clear hS; rintro r1 w ⟨rfl, hS⟩)
            | (go_at_call 26; (refine Ret.calls (epoch_s (p := p) (sa := sa) (r := x2) (hS.bring (by repeat (first | exact t0 | apply tS))) hsa) ?_); clear hS; rintro r1 w ⟨rfl, hS⟩)
            | (go_at_call 27; (refine Ret.calls (end_s (p := p) (sa := sa) (r := x2) (hS.bring (by repeat (first | exact t0 | apply tS))) hsa) ?_); clear hS; rintro r1 w ⟨rfl, hS⟩)
            | (go_at_call 13; (refine Ret.calls (succ_s (p := p) (sa := sa) (r := x2) (hS.bring (by repeat (first | exact t0 | apply tS))) hsa) ?_); clear hS; rintro r1 w ⟨rfl, hS⟩)
            | (show wpList _ _ _ (⟨some 79, .load _ _, _, _, _, _⟩ :: _) _ _; refine wpList_val rfl (op_load1S (b := m) (T := 52) oneBool ((hS.bring (by repeat (first | exact t0 | apply tS)))) rfl rfl G2.out) ?_; go_frame)
            | (show wpList _ _ _ (⟨some 88, .load _ _, _, _, _, _⟩ :: _) _ _; refine wpList_val rfl (op_load1S (b := m) (T := 52) oneU64 ((hS.bring (by repeat (first | exact t0 | apply tS)))) rfl rfl G0.out) ?_; go_frame)
            | (show wpList _ _ _ (⟨some 97, .load _ _, _, _, _, _⟩ :: _) _ _; refine wpList_val rfl (op_load1S (b := m) (T := 52) oneU64 ((hS.bring (by repeat (first | exact t0 | apply tS)))) rfl rfl G1.out) ?_; go_frame)
            | (show wpList _ _ _ (⟨some 106, .load _ _, _, _, _, _⟩ :: _) _ _; refine wpList_val rfl (op_load agg2 rfl rfl ((SepL.getBlk (b := m) (T := 52) ((hS.bring (by repeat (first | exact t0 | apply tS))))).cells.subN 35 2 G3.out) rfl) ?_; go_frame)
            | (show wpList _ _ _ (⟨_, .binOp .neq 33 _ _ _, _, _, _, _⟩ :: _) _ _; (first | refine wpList_val rfl (opU_neq rfl (a := x2.epoch) (b := x2.epoch) rfl rfl NE.out) ?_ | refine wpList_val rfl (opU_neq rfl (a := x2.fin) (b := x2.fin) rfl rfl NF.out) ?_); go_frame)
            )
          refine segQ_mk (⟨((hS.bring (by repeat (first | exact t0 | apply tS))).getBlk), ((hS.bring (by repeat (first | exact t0 | apply tS))).getBlk)⟩ : Blk _ m 52 (rrC sa x2) ∧ Blk _ n8 38 (aC (u, a))) ?_
          refine ord_seg (by repeat (first | exact Clean.body | refine Clean.then ?_ | refine Clean.inBlock ?_ | refine SegQ.clean ?_ | refine FinC.clean ?_)) (n := 33) (rest := [[28, 29, 30, 31, 33, 34, 35, 36, 32, 37, 38, 39, 40, 41, 42, 44, 45, 46, 43, 47, 48, 49, 50, 51, 52, 53, 55, 56, 57, 54, 58, 59, 60]]) [19, 20, 21, 22, 24, 25, 26, 27, 23] [⟨_, _, _, _, _, _⟩, ⟨_, _, _, _, _, _⟩, ⟨_, _, _, _, _, _⟩, ⟨_, _, _, _, _, _⟩, ⟨_, _, _, _, _, _⟩, ⟨_, _, _, _, _, _⟩, ⟨_, _, _, _, _, _⟩, ⟨_, _, _, _, _, _⟩, ⟨_, _, _, _, _, _⟩] rfl (by kernel_rfl) (by simp) _ _ ?_
          go_wp2_with (first
            | go_big_skip
            | (show wpList _ _ _ (⟨_, .binOp .neq 4 _ _ _, _, _, _, _⟩ :: _) _ _; refine wpList_val rfl (op_neBool rfl rfl rfl) ?_; go_frame)
            | (go_at_call 25; (refine Ret.calls (stems_s (p := p) (sa := sa) (r := x2) (hS.bring (by repeat (first | exact t0 | apply tS))) hsa) ?_); clear hS; rintro r1 w ⟨rfl, hS⟩)
            | (go_at_call 26; (refine Ret.calls (epoch_s (p := p) (sa := sa) (r := x2) (hS.bring (by repeat (first | exact t0 | apply tS))) hsa) ?_); clear hS; rintro r1 w ⟨rfl, hS⟩)
            | (go_at_call 27; (refine Ret.calls (end_s (p := p) (sa := sa) (r := x2) (hS.bring (by repeat (first | exact t0 | apply tS))) hsa) ?_); clear hS; rintro r1 w ⟨rfl, hS⟩)
            | (go_at_call 13; (refine Ret.calls (succ_s (p := p) (sa := sa) (r := x2) (hS.bring (by repeat (first | exact t0 | apply tS))) hsa) ?_); clear hS; rintro r1 w ⟨rfl, hS⟩)
            | (show wpList _ _ _ (⟨some 79, .load _ _, _, _, _, _⟩ :: _) _ _; refine wpList_val rfl (op_load1S (b := m) (T := 52) oneBool ((hS.bring (by repeat (first | exact t0 | apply tS)))) rfl rfl G2.out) ?_; go_frame)
            | (show wpList _ _ _ (⟨some 88, .load _ _, _, _, _, _⟩ :: _) _ _; refine wpList_val rfl (op_load1S (b := m) (T := 52) oneU64 ((hS.bring (by repeat (first | exact t0 | apply tS)))) rfl rfl G0.out) ?_; go_frame)
            | (show wpList _ _ _ (⟨some 97, .load _ _, _, _, _, _⟩ :: _) _ _; refine wpList_val rfl (op_load1S (b := m) (T := 52) oneU64 ((hS.bring (by repeat (first | exact t0 | apply tS)))) rfl rfl G1.out) ?_; go_frame)
            | (show wpList _ _ _ (⟨some 106, .load _ _, _, _, _, _⟩ :: _) _ _; refine wpList_val rfl (op_load agg2 rfl rfl ((SepL.getBlk (b := m) (T := 52) ((hS.bring (by repeat (first | exact t0 | apply tS))))).cells.subN 35 2 G3.out) rfl) ?_; go_frame)
            | (show wpList _ _ _ (⟨_, .binOp .neq 33 _ _ _, _, _, _, _⟩ :: _) _ _; (first | refine wpList_val rfl (opU_neq rfl (a := x2.epoch) (b := x2.epoch) rfl rfl NE.out) ?_ | refine wpList_val rfl (opU_neq rfl (a := x2.fin) (b := x2.fin) rfl rfl NF.out) ?_); go_frame)
            )
          refine segQ_mk (⟨((hS.bring (by repeat (first | exact t0 | apply tS))).getBlk), ((hS.bring (by repeat (first | exact t0 | apply tS))).getBlk)⟩ : Blk _ m 52 (rrC sa x2) ∧ Blk _ n8 38 (aC (u, a))) ?_
          refine ord_seg (by repeat (first | exact Clean.body | refine Clean.then ?_ | refine Clean.inBlock ?_ | refine SegQ.clean ?_ | refine FinC.clean ?_)) (n := 24) (rest := [[37, 38, 39, 40, 41, 42, 44, 45, 46, 43, 47, 48, 49, 50, 51, 52, 53, 55, 56, 57, 54, 58, 59, 60]]) [28, 29, 30, 31, 33, 34, 35, 36, 32] [⟨_, _, _, _, _, _⟩, ⟨_, _, _, _, _, _⟩, ⟨_, _, _, _, _, _⟩, ⟨_, _, _, _, _, _⟩, ⟨_, _, _, _, _, _⟩, ⟨_, _, _, _, _, _⟩, ⟨_, _, _, _, _, _⟩, ⟨_, _, _, _, _, _⟩, ⟨_, _, _, _, _, _⟩] rfl (by kernel_rfl) (by simp) _ _ ?_
          go_wp2_with (first
            | go_big_skip
            | (show wpList _ _ _ (⟨_, .binOp .neq 4 _ _ _, _, _, _, _⟩ :: _) _ _; refine wpList_val rfl (op_neBool rfl rfl rfl) ?_; go_frame)
            | (go_at_call 25; (refine Ret.calls (stems_s (p := p) (sa := sa) (r := x2) (hS.bring (by repeat (first | exact t0 | apply tS))) hsa) ?_); clear hS; rintro r1 w ⟨rfl, hS⟩)
            | (go_at_call 26; (refine Ret.calls (epoch_s (p := p) (sa := sa) (r := x2) (hS.bring (by repeat (first | exact t0 | apply tS))) hsa) ?_); clear hS; rintro r1 w ⟨rfl, hS⟩)
            | (go_at_call 27; (refine Ret.calls (end_s (p := p) (sa := sa) (r := x2) (hS.bring (by repeat (first | exact t0 | apply tS))) hsa) ?_); clear hS; rintro r1 w ⟨rfl, hS⟩)
            | (go_at_call 13; (refine Ret.calls (succ_s (p := p) (sa := sa) (r := x2) (hS.bring (by repeat (first | exact t0 | apply tS))) hsa) ?_); clear hS; rintro r1 w ⟨rfl, hS⟩)
            | (show wpList _ _ _ (⟨some 79, .load _ _, _, _, _, _⟩ :: _) _ _; refine wpList_val rfl (op_load1S (b := m) (T := 52) oneBool ((hS.bring (by repeat (first | exact t0 | apply tS)))) rfl rfl G2.out) ?_; go_frame)
            | (show wpList _ _ _ (⟨some 88, .load _ _, _, _, _, _⟩ :: _) _ _; refine wpList_val rfl (op_load1S (b := m) (T := 52) oneU64 ((hS.bring (by repeat (first | exact t0 | apply tS)))) rfl rfl G0.out) ?_; go_frame)
            | (show wpList _ _ _ (⟨some 97, .load _ _, _, _, _, _⟩ :: _) _ _; refine wpList_val rfl (op_load1S (b := m) (T := 52) oneU64 ((hS.bring (by repeat (first | exact t0 | apply tS)))) rfl rfl G1.out) ?_; go_frame)
            | (show wpList _ _ _ (⟨some 106, .load _ _, _, _, _, _⟩ :: _) _ _; refine wpList_val rfl (op_load agg2 rfl rfl ((SepL.getBlk (b := m) (T := 52) ((hS.bring (by repeat (first | exact t0 | apply tS))))).cells.subN 35 2 G3.out) rfl) ?_; go_frame)
            | (show wpList _ _ _ (⟨_, .binOp .neq 33 _ _ _, _, _, _, _⟩ :: _) _ _; (first | refine wpList_val rfl (opU_neq rfl (a := x2.epoch) (b := x2.epoch) rfl rfl NE.out) ?_ | refine wpList_val rfl (opU_neq rfl (a := x2.fin) (b := x2.fin) rfl rfl NF.out) ?_); go_frame)
            )
          refine segQ_mk (⟨((hS.bring (by repeat (first | exact t0 | apply tS))).getBlk), ((hS.bring (by repeat (first | exact t0 | apply tS))).getBlk)⟩ : Blk _ m 52 (rrC sa x2) ∧ Blk _ n8 38 (aC (u, a))) ?_
          refine ord_seg (by repeat (first | exact Clean.body | refine Clean.then ?_ | refine Clean.inBlock ?_ | refine SegQ.clean ?_ | refine FinC.clean ?_)) (n := 23) (rest := [[38, 39, 40, 41, 42, 44, 45, 46, 43, 47, 48, 49, 50, 51, 52, 53, 55, 56, 57, 54, 58, 59, 60]]) [37] [⟨_, _, _, _, _, _⟩] rfl (by kernel_rfl) (by simp) _ _ ?_
          go_wp2_with (first
            | go_big_skip
            | (go_at_call 28; (refine Ret.calls (misses_s (MM := 3) (p := p) (sa := sa) (r := x2) (s := a.source) (hS.bring (by repeat (first | exact t0 | apply tS))) hsa HOX.out) ?_); clear hS; rintro r1 w ⟨rfl, hS⟩)
            | (go_at_call 14; (refine Ret.calls (way_s (p := p) (sa := sa) (r := x2) (s := a.source) (hS.bring (by repeat (first | exact t0 | apply tS))) hK hF hsa HOX.out) ?_); clear hS; rintro r1 w ⟨rfl, hS⟩)
            | (go_at_call 29; (refine Ret.calls (missed_s (p := m) (sa := sa) (r := x2) (s := a.source) (hS.bring (by repeat (first | exact t0 | apply tS))) hsa HOX.out) ?_); clear hS; rintro r1 w ⟨rfl, hS⟩)
            | (go_at_call 30; (refine Ret.calls (rway_s (p := m) (sa := sa) (r := x2) (s := a.source) (hS.bring (by repeat (first | exact t0 | apply tS))) hsa HOX.out) ?_); clear hS; rintro r1 w ⟨rfl, hS⟩)
            | (show wpList _ _ _ (⟨_, .load 3 _, _, _, _, _⟩ :: _) _ _; refine wpList_val rfl (op_load1S (b := n8) (T := 38) oneInt ((hS.bring (by repeat (first | exact t0 | apply tS)))) rfl rfl rfl) ?_; go_frame)
            | (show wpList _ _ _ (⟨_, .binOp .neq 29 _ _ _, _, _, _, _⟩ :: _) _ _; refine wpList_val rfl (op_neP rfl rfl rfl NS.out) ?_; go_frame)
            | (show wpList _ _ _ (⟨some 118, .binOp _ _ _ _ _, _, _, _, _⟩ :: _) _ _; refine wpList_val rfl (op_ineI rfl rfl rfl NM.out) ?_; go_frame)
            | (show wpList _ _ _ (⟨some 129, .binOp _ _ _ _ _, _, _, _, _⟩ :: _) _ _; refine wpList_val rfl (op_ineI rfl rfl rfl NW.out) ?_; go_frame)
            )
          refine segQ_mk (⟨((hS.bring (by repeat (first | exact t0 | apply tS))).getBlk), ((hS.bring (by repeat (first | exact t0 | apply tS))).getBlk)⟩ : Blk _ m 52 (rrC sa x2) ∧ Blk _ n8 38 (aC (u, a))) ?_
          refine ord_seg (by repeat (first | exact Clean.body | refine Clean.then ?_ | refine Clean.inBlock ?_ | refine SegQ.clean ?_ | refine FinC.clean ?_)) (n := 14) (rest := [[47, 48, 49, 50, 51, 52, 53, 55, 56, 57, 54, 58, 59, 60]]) [38, 39, 40, 41, 42, 44, 45, 46, 43] [⟨_, _, _, _, _, _⟩, ⟨_, _, _, _, _, _⟩, ⟨_, _, _, _, _, _⟩, ⟨_, _, _, _, _, _⟩, ⟨_, _, _, _, _, _⟩, ⟨_, _, _, _, _, _⟩, ⟨_, _, _, _, _, _⟩, ⟨_, _, _, _, _, _⟩, ⟨_, _, _, _, _, _⟩] rfl (by kernel_rfl) (by simp) _ _ ?_
          go_wp2_with (first
            | go_big_skip
            | (go_at_call 28; (refine Ret.calls (misses_s (MM := 3) (p := p) (sa := sa) (r := x2) (s := a.source) (hS.bring (by repeat (first | exact t0 | apply tS))) hsa HOX.out) ?_); clear hS; rintro r1 w ⟨rfl, hS⟩)
            | (go_at_call 14; (refine Ret.calls (way_s (p := p) (sa := sa) (r := x2) (s := a.source) (hS.bring (by repeat (first | exact t0 | apply tS))) hK hF hsa HOX.out) ?_); clear hS; rintro r1 w ⟨rfl, hS⟩)
            | (go_at_call 29; (refine Ret.calls (missed_s (p := m) (sa := sa) (r := x2) (s := a.source) (hS.bring (by repeat (first | exact t0 | apply tS))) hsa HOX.out) ?_); clear hS; rintro r1 w ⟨rfl, hS⟩)
            | (go_at_call 30; (refine Ret.calls (rway_s (p := m) (sa := sa) (r := x2) (s := a.source) (hS.bring (by repeat (first | exact t0 | apply tS))) hsa HOX.out) ?_); clear hS; rintro r1 w ⟨rfl, hS⟩)
            | (show wpList _ _ _ (⟨_, .load 3 _, _, _, _, _⟩ :: _) _ _; refine wpList_val rfl (op_load1S (b := n8) (T := 38) oneInt ((hS.bring (by repeat (first | exact t0 | apply tS)))) rfl rfl rfl) ?_; go_frame)
            | (show wpList _ _ _ (⟨_, .binOp .neq 29 _ _ _, _, _, _, _⟩ :: _) _ _; refine wpList_val rfl (op_neP rfl rfl rfl NS.out) ?_; go_frame)
            | (show wpList _ _ _ (⟨some 118, .binOp _ _ _ _ _, _, _, _, _⟩ :: _) _ _; refine wpList_val rfl (op_ineI rfl rfl rfl NM.out) ?_; go_frame)
            | (show wpList _ _ _ (⟨some 129, .binOp _ _ _ _ _, _, _, _, _⟩ :: _) _ _; refine wpList_val rfl (op_ineI rfl rfl rfl NW.out) ?_; go_frame)
            )
          refine segQ_mk (⟨((hS.bring (by repeat (first | exact t0 | apply tS))).getBlk), ((hS.bring (by repeat (first | exact t0 | apply tS))).getBlk)⟩ : Blk _ m 52 (rrC sa x2) ∧ Blk _ n8 38 (aC (u, a))) ?_
          refine ord_seg (by repeat (first | exact Clean.body | refine Clean.then ?_ | refine Clean.inBlock ?_ | refine SegQ.clean ?_ | refine FinC.clean ?_)) (n := 13) (rest := [[48, 49, 50, 51, 52, 53, 55, 56, 57, 54, 58, 59, 60]]) [47] [⟨_, _, _, _, _, _⟩] rfl (by kernel_rfl) (by simp) _ _ ?_
          go_wp2_with (first
            | go_big_skip
            | (go_at_call 28; (refine Ret.calls (misses_s (MM := 3) (p := p) (sa := sa) (r := x2) (s := a.source) (hS.bring (by repeat (first | exact t0 | apply tS))) hsa HOX.out) ?_); clear hS; rintro r1 w ⟨rfl, hS⟩)
            | (go_at_call 14; (refine Ret.calls (way_s (p := p) (sa := sa) (r := x2) (s := a.source) (hS.bring (by repeat (first | exact t0 | apply tS))) hK hF hsa HOX.out) ?_); clear hS; rintro r1 w ⟨rfl, hS⟩)
            | (go_at_call 29; (refine Ret.calls (missed_s (p := m) (sa := sa) (r := x2) (s := a.source) (hS.bring (by repeat (first | exact t0 | apply tS))) hsa HOX.out) ?_); clear hS; rintro r1 w ⟨rfl, hS⟩)
            | (go_at_call 30; (refine Ret.calls (rway_s (p := m) (sa := sa) (r := x2) (s := a.source) (hS.bring (by repeat (first | exact t0 | apply tS))) hsa HOX.out) ?_); clear hS; rintro r1 w ⟨rfl, hS⟩)
            | (show wpList _ _ _ (⟨_, .load 3 _, _, _, _, _⟩ :: _) _ _; refine wpList_val rfl (op_load1S (b := n8) (T := 38) oneInt ((hS.bring (by repeat (first | exact t0 | apply tS)))) rfl rfl rfl) ?_; go_frame)
            | (show wpList _ _ _ (⟨_, .binOp .neq 29 _ _ _, _, _, _, _⟩ :: _) _ _; refine wpList_val rfl (op_neP rfl rfl rfl NS.out) ?_; go_frame)
            | (show wpList _ _ _ (⟨some 118, .binOp _ _ _ _ _, _, _, _, _⟩ :: _) _ _; refine wpList_val rfl (op_ineI rfl rfl rfl NM.out) ?_; go_frame)
            | (show wpList _ _ _ (⟨some 129, .binOp _ _ _ _ _, _, _, _, _⟩ :: _) _ _; refine wpList_val rfl (op_ineI rfl rfl rfl NW.out) ?_; go_frame)
            )
          refine segQ_mk (⟨((hS.bring (by repeat (first | exact t0 | apply tS))).getBlk), ((hS.bring (by repeat (first | exact t0 | apply tS))).getBlk)⟩ : Blk _ m 52 (rrC sa x2) ∧ Blk _ n8 38 (aC (u, a))) ?_
          refine ord_seg (by repeat (first | exact Clean.body | refine Clean.then ?_ | refine Clean.inBlock ?_ | refine SegQ.clean ?_ | refine FinC.clean ?_)) (n := 3) (rest := [[58, 59, 60]]) [48, 49, 50, 51, 52, 53, 55, 56, 57, 54] [⟨_, _, _, _, _, _⟩, ⟨_, _, _, _, _, _⟩, ⟨_, _, _, _, _, _⟩, ⟨_, _, _, _, _, _⟩, ⟨_, _, _, _, _, _⟩, ⟨_, _, _, _, _, _⟩, ⟨_, _, _, _, _, _⟩, ⟨_, _, _, _, _, _⟩, ⟨_, _, _, _, _, _⟩, ⟨_, _, _, _, _, _⟩] rfl (by kernel_rfl) (by simp) _ _ ?_
          go_wp2_with (first
            | go_big_skip
            | (go_at_call 28; (refine Ret.calls (misses_s (MM := 3) (p := p) (sa := sa) (r := x2) (s := a.source) (hS.bring (by repeat (first | exact t0 | apply tS))) hsa HOX.out) ?_); clear hS; rintro r1 w ⟨rfl, hS⟩)
            | (go_at_call 14; (refine Ret.calls (way_s (p := p) (sa := sa) (r := x2) (s := a.source) (hS.bring (by repeat (first | exact t0 | apply tS))) hK hF hsa HOX.out) ?_); clear hS; rintro r1 w ⟨rfl, hS⟩)
            | (go_at_call 29; (refine Ret.calls (missed_s (p := m) (sa := sa) (r := x2) (s := a.source) (hS.bring (by repeat (first | exact t0 | apply tS))) hsa HOX.out) ?_); clear hS; rintro r1 w ⟨rfl, hS⟩)
            | (go_at_call 30; (refine Ret.calls (rway_s (p := m) (sa := sa) (r := x2) (s := a.source) (hS.bring (by repeat (first | exact t0 | apply tS))) hsa HOX.out) ?_); clear hS; rintro r1 w ⟨rfl, hS⟩)
            | (show wpList _ _ _ (⟨_, .load 3 _, _, _, _, _⟩ :: _) _ _; refine wpList_val rfl (op_load1S (b := n8) (T := 38) oneInt ((hS.bring (by repeat (first | exact t0 | apply tS)))) rfl rfl rfl) ?_; go_frame)
            | (show wpList _ _ _ (⟨_, .binOp .neq 29 _ _ _, _, _, _, _⟩ :: _) _ _; refine wpList_val rfl (op_neP rfl rfl rfl NS.out) ?_; go_frame)
            | (show wpList _ _ _ (⟨some 118, .binOp _ _ _ _ _, _, _, _, _⟩ :: _) _ _; refine wpList_val rfl (op_ineI rfl rfl rfl NM.out) ?_; go_frame)
            | (show wpList _ _ _ (⟨some 129, .binOp _ _ _ _ _, _, _, _, _⟩ :: _) _ _; refine wpList_val rfl (op_ineI rfl rfl rfl NW.out) ?_; go_frame)
            )
          refine segQ_mk (⟨((hS.bring (by repeat (first | exact t0 | apply tS))).getBlk), ((hS.bring (by repeat (first | exact t0 | apply tS))).getBlk)⟩ : Blk _ m 52 (rrC sa x2) ∧ Blk _ n8 38 (aC (u, a))) ?_
          refine ord_seg (by repeat (first | exact Clean.body | refine Clean.then ?_ | refine Clean.inBlock ?_ | refine SegQ.clean ?_ | refine FinC.clean ?_)) (n := 2) (rest := [[59, 60]]) [58] [⟨_, _, _, _, _, _⟩] rfl (by kernel_rfl) (by simp) _ _ ?_
          go_wp2_with (first
            | go_big_skip
            | (go_at_call 28; (refine Ret.calls (misses_s (MM := 3) (p := p) (sa := sa) (r := x2) (s := a.source) (hS.bring (by repeat (first | exact t0 | apply tS))) hsa HOX.out) ?_); clear hS; rintro r1 w ⟨rfl, hS⟩)
            | (go_at_call 14; (refine Ret.calls (way_s (p := p) (sa := sa) (r := x2) (s := a.source) (hS.bring (by repeat (first | exact t0 | apply tS))) hK hF hsa HOX.out) ?_); clear hS; rintro r1 w ⟨rfl, hS⟩)
            | (go_at_call 29; (refine Ret.calls (missed_s (p := m) (sa := sa) (r := x2) (s := a.source) (hS.bring (by repeat (first | exact t0 | apply tS))) hsa HOX.out) ?_); clear hS; rintro r1 w ⟨rfl, hS⟩)
            | (go_at_call 30; (refine Ret.calls (rway_s (p := m) (sa := sa) (r := x2) (s := a.source) (hS.bring (by repeat (first | exact t0 | apply tS))) hsa HOX.out) ?_); clear hS; rintro r1 w ⟨rfl, hS⟩)
            | (show wpList _ _ _ (⟨_, .load 3 _, _, _, _, _⟩ :: _) _ _; refine wpList_val rfl (op_load1S (b := n8) (T := 38) oneInt ((hS.bring (by repeat (first | exact t0 | apply tS)))) rfl rfl rfl) ?_; go_frame)
            | (show wpList _ _ _ (⟨_, .binOp .neq 29 _ _ _, _, _, _, _⟩ :: _) _ _; refine wpList_val rfl (op_neP rfl rfl rfl NS.out) ?_; go_frame)
            | (show wpList _ _ _ (⟨some 118, .binOp _ _ _ _ _, _, _, _, _⟩ :: _) _ _; refine wpList_val rfl (op_ineI rfl rfl rfl NM.out) ?_; go_frame)
            | (show wpList _ _ _ (⟨some 129, .binOp _ _ _ _ _, _, _, _, _⟩ :: _) _ _; refine wpList_val rfl (op_ineI rfl rfl rfl NW.out) ?_; go_frame)
            )
          refine segQ_mk (⟨((hS.bring (by repeat (first | exact t0 | apply tS))).getBlk), ((hS.bring (by repeat (first | exact t0 | apply tS))).getBlk)⟩ : Blk _ m 52 (rrC sa x2) ∧ Blk _ n8 38 (aC (u, a))) ?_
          refine ord_seg (by repeat (first | exact Clean.body | refine Clean.then ?_ | refine Clean.inBlock ?_ | refine SegQ.clean ?_ | refine FinC.clean ?_)) (n := 0) (rest := [[]]) [59, 60] [⟨_, _, _, _, _, _⟩, ⟨_, _, _, _, _, _⟩] rfl (by kernel_rfl) (by simp) _ _ ?_
          go_wp2_with (first
            | go_big_skip
            | (go_at_call 28; (refine Ret.calls (misses_s (MM := 3) (p := p) (sa := sa) (r := x2) (s := a.source) (hS.bring (by repeat (first | exact t0 | apply tS))) hsa HOX.out) ?_); clear hS; rintro r1 w ⟨rfl, hS⟩)
            | (go_at_call 14; (refine Ret.calls (way_s (p := p) (sa := sa) (r := x2) (s := a.source) (hS.bring (by repeat (first | exact t0 | apply tS))) hK hF hsa HOX.out) ?_); clear hS; rintro r1 w ⟨rfl, hS⟩)
            | (go_at_call 29; (refine Ret.calls (missed_s (p := m) (sa := sa) (r := x2) (s := a.source) (hS.bring (by repeat (first | exact t0 | apply tS))) hsa HOX.out) ?_); clear hS; rintro r1 w ⟨rfl, hS⟩)
            | (go_at_call 30; (refine Ret.calls (rway_s (p := m) (sa := sa) (r := x2) (s := a.source) (hS.bring (by repeat (first | exact t0 | apply tS))) hsa HOX.out) ?_); clear hS; rintro r1 w ⟨rfl, hS⟩)
            | (show wpList _ _ _ (⟨_, .load 3 _, _, _, _, _⟩ :: _) _ _; refine wpList_val rfl (op_load1S (b := n8) (T := 38) oneInt ((hS.bring (by repeat (first | exact t0 | apply tS)))) rfl rfl rfl) ?_; go_frame)
            | (show wpList _ _ _ (⟨_, .binOp .neq 29 _ _ _, _, _, _, _⟩ :: _) _ _; refine wpList_val rfl (op_neP rfl rfl rfl NS.out) ?_; go_frame)
            | (show wpList _ _ _ (⟨some 118, .binOp _ _ _ _ _, _, _, _, _⟩ :: _) _ _; refine wpList_val rfl (op_ineI rfl rfl rfl NM.out) ?_; go_frame)
            | (show wpList _ _ _ (⟨some 129, .binOp _ _ _ _ _, _, _, _, _⟩ :: _) _ _; refine wpList_val rfl (op_ineI rfl rfl rfl NW.out) ?_; go_frame)
            )
          refine segQ_mk (⟨((hS.bring (by repeat (first | exact t0 | apply tS))).getBlk), ((hS.bring (by repeat (first | exact t0 | apply tS))).getBlk)⟩ : Blk _ m 52 (rrC sa x2) ∧ Blk _ n8 38 (aC (u, a))) ?_
          refine finC_mk (by kernel_rfl) (by
            intro t ht
            simp only [List.mem_cons, List.not_mem_nil, or_false] at ht
            rcases ht with rfl | rfl | rfl | rfl | rfl | rfl | rfl | rfl <;> first | exact stab_blk (b := m) (fun w h => h.1) _ none | exact stab_blk (b := n8) (fun w h => h.2) _ none) ?_
          go_wp2_with fail
          go_roundw
          case rel =>
            refine ⟨k + 1, by go_num, by omega, ?_⟩
            rw [HSN.out]
            exact hS.sel (by repeat (first | exact Sel.refl | refine Sel.take (by repeat (first | exact t0 | apply tS)) ?_ | apply Sel.drop))
          case measure => simp [intOf]; omega
        have HK3 := eqF h3
        rw [if_neg h3] at hbb
        subst hbb
        by_cases h1 : a.kind = 1
        · have HK1 := eqT h1
          rw [if_pos h1] at hx2
          have HRM := hide hx2
          clear h0 h1 h3 hx2
          go_wp2_with (first
            | go_big_skip
            | (show wpList _ _ _ (⟨some 24, .indexAddr _ _ _, _, _, _, _⟩ :: _) _ _; refine wpList_val rfl (op_indexAddr slAct rfl (v := v) (xs := L.map aC) rfl (k := k) rfl (by exact hS.rd hv.rd) hlk) ?_; go_frame)
            | (show wpList _ _ _ (⟨some 25, .load _ _, _, _, _, _⟩ :: _) _ _; refine wpList_val rfl (op_loadE aggAct rfl (v := v) (xs := L.map aC) (k := k) rfl (by exact hS.rd hv.rd) hlk) ?_; rw [HX.out]; go_frame)
            | (show wpList _ _ _ (⟨some 8, .alloc _, _, _, _, _⟩ :: _) _ _; refine wpS_alloc hS rfl rfl Tryd.zeroValue38 (zs := [.int .i64 0, .int .i64 0, .int .i64 0, .int .u64 0, .slice none 0 0, .int .u16 0, .int .u16 0, .int .u16 0]) rfl ?_; clear hS; intro n8 w hS; go_frame)
            | (show wpList _ _ _ (⟨_, .store 38 _ _, _, _, _, _⟩ :: _) _ _; (refine wpS_storeAll (b := n8) aggAct (hS.bring (by repeat (first | exact t0 | apply tS))) rfl rfl rfl (vs := aC (u, a)) rfl rfl HUF.out rfl ?_); clear hS; intro w hS; go_frame)
            | (show wpList _ _ _ (⟨_, .load 38 _, _, _, _, _⟩ :: _) _ _; refine wpList_val rfl (op_load aggAct rfl rfl (SepL.getBlk (b := n8) (T := 38) ((hS.bring (by repeat (first | exact t0 | apply tS))))).cells rfl) ?_; go_frame)
            | (go_at_call 19; (refine Ret.calls (do_s (p := p) (r := x) (u := u) (s := a) (hS.bring (by repeat (first | exact t0 | apply tS))) hsa HOX0.out HUR.out HAO1.out) ?_); clear hS; rintro r1 w ⟨rfl, hS⟩; rw [HX2.out] at hS; rw [HBB.out])
            | (show wpList _ _ _ (⟨_, .load 3 _, _, _, _, _⟩ :: _) _ _; refine wpList_val rfl (op_load1S (b := n8) (T := 38) oneInt ((hS.bring (by repeat (first | exact t0 | apply tS)))) rfl rfl rfl) ?_; go_frame)
            | (show wpList _ _ _ (⟨_, .load 33 _, _, _, _, _⟩ :: _) _ _; refine wpList_val rfl (op_load1S (b := n8) (T := 38) oneU64 ((hS.bring (by repeat (first | exact t0 | apply tS)))) rfl rfl rfl) ?_; go_frame)
            | (show wpList _ _ _ (⟨_, .load 34 _, _, _, _, _⟩ :: _) _ _; refine wpList_val rfl (op_load1S (b := n8) (T := 38) oneInts ((hS.bring (by repeat (first | exact t0 | apply tS)))) rfl rfl rfl) ?_; go_frame)
            | (show wpList _ _ _ (⟨_, .load 36 _, _, _, _, _⟩ :: _) _ _; refine wpList_val rfl (op_load agg3u rfl rfl ((SepL.getBlk (b := n8) (T := 38) ((hS.bring (by repeat (first | exact t0 | apply tS))))).cells.subN 5 3 (ds := [.int .u16 a.d0, .int .u16 a.d1, .int .u16 a.d2]) rfl) rfl) ?_; go_frame)
            | (show wpList _ _ _ (⟨some 55, .indexAddr _ _ _, _, _, _, _⟩ :: _) _ _; refine wpList_val rfl (op_indexArrZ arr3u rfl (b := n8) (off := 5) rfl rfl 0 rfl (by omega)) ?_; go_frame)
            | (show wpList _ _ _ (⟨_, .load 35 _, _, _, _, _⟩ :: _) _ _; refine wpList_val rfl (op_load1S (b := n8) (T := 38) oneU16 ((hS.bring (by repeat (first | exact t0 | apply tS)))) rfl rfl rfl) ?_; go_frame)
            | (show wpList _ _ _ (⟨some 32, .binOp _ _ _ _ _, _, _, _, _⟩ :: _) _ _; refine wpList_val rfl (op_eqI' rfl rfl rfl HK0.out) ?_; go_frame)
            | (show wpList _ _ _ (⟨some 42, .binOp _ _ _ _ _, _, _, _, _⟩ :: _) _ _; refine wpList_val rfl (op_eqI' rfl rfl rfl HK1.out) ?_; go_frame)
            | (show wpList _ _ _ (⟨some 48, .binOp _ _ _ _ _, _, _, _, _⟩ :: _) _ _; refine wpList_val rfl (op_eqI' rfl rfl rfl HK2.out) ?_; go_frame)
            | (show wpList _ _ _ (⟨some 59, .binOp _ _ _ _ _, _, _, _, _⟩ :: _) _ _; refine wpList_val rfl (op_eqI' rfl rfl rfl HK3.out) ?_; go_frame)
            | (show wpList _ _ _ (⟨some 65, .binOp _ _ _ _ _, _, _, _, _⟩ :: _) _ _; refine wpList_val rfl (op_eqI' rfl rfl rfl HK4.out) ?_; go_frame)
            | (go_at_call 20; (refine Ret.calls (rtick_s (p := m) (r := x) (peers := a.peers) (hS.bring (by repeat (first | exact t0 | apply tS))) hsa HOX0.out HUR.out HAO1.out.2 HAO1.out.1.now HAO1.out.1.d1 HAO1.out.1.d2) ?_); clear hS; rintro r1 w ⟨rfl, hS⟩; rw [HRM.out] at hS; rw [HRB.out])
            | (go_at_call 21; (refine Ret.calls (rjoined_s (p := m) (r := x) (hS.bring (by repeat (first | exact t0 | apply tS))) hsa) ?_); clear hS; rintro r1 w hS; rw [HRM.out] at hS)
            | (go_at_call 22; (refine Ret.calls (rleft_s (p := m) (r := x) (peers := a.peers) (hS.bring (by repeat (first | exact t0 | apply tS))) hsa HUR.out HAO1.out.2 HAO1.out.1.d0) ?_); clear hS; rintro r1 w hS; rw [HRM.out] at hS)
            | (go_at_call 23; (refine Ret.calls (rmiss_s (p := m) (r := x) (hS.bring (by repeat (first | exact t0 | apply tS))) hsa HOX0.out) ?_); clear hS; rintro r1 w ⟨rfl, hS⟩; rw [HRM.out] at hS; rw [HRB.out])
            | (go_at_call 24; (refine Ret.calls (rhit_s (p := m) (r := x) (hS.bring (by repeat (first | exact t0 | apply tS))) hsa HOX0.out) ?_); clear hS; rintro r1 w hS; rw [HRM.out] at hS)
            )
          refine wp_region_ord (by kernel_rfl) [78, 87, 96, 105, 111, 115, 122, 126] [[0, 1, 2, 3, 4, 6, 7, 8, 9, 5, 10, 11, 12, 13, 15, 16, 17, 18, 14, 19, 20, 21, 22, 24, 25, 26, 27, 23, 28, 29, 30, 31, 33, 34, 35, 36, 32, 37, 38, 39, 40, 41, 42, 44, 45, 46, 43, 47, 48, 49, 50, 51, 52, 53, 55, 56, 57, 54, 58, 59, 60]] (by kernel_rfl) (by kernel_rfl) (fun w' => Blk w' m 52 (rrC sa x2) ∧ Blk w' n8 38 (aC (u, a))) (Up.and Up.blk Up.blk) ⟨((hS.bring (by repeat (first | exact t0 | apply tS))).getBlk), ((hS.bring (by repeat (first | exact t0 | apply tS))).getBlk)⟩ (by repeat (first | exact Clean.body | refine Clean.then ?_ | refine Clean.inBlock ?_ | refine SegQ.clean ?_ | refine FinC.clean ?_)) ?_
          replace hS := hS.drew
          refine ord_seg (by repeat (first | exact Clean.body | refine Clean.then ?_ | refine Clean.inBlock ?_ | refine SegQ.clean ?_ | refine FinC.clean ?_)) (n := 51) (rest := [[10, 11, 12, 13, 15, 16, 17, 18, 14, 19, 20, 21, 22, 24, 25, 26, 27, 23, 28, 29, 30, 31, 33, 34, 35, 36, 32, 37, 38, 39, 40, 41, 42, 44, 45, 46, 43, 47, 48, 49, 50, 51, 52, 53, 55, 56, 57, 54, 58, 59, 60]]) [0, 1, 2, 3, 4, 6, 7, 8, 9, 5] [⟨_, _, _, _, _, _⟩, ⟨_, _, _, _, _, _⟩, ⟨_, _, _, _, _, _⟩, ⟨_, _, _, _, _, _⟩, ⟨_, _, _, _, _, _⟩, ⟨_, _, _, _, _, _⟩, ⟨_, _, _, _, _, _⟩, ⟨_, _, _, _, _, _⟩, ⟨_, _, _, _, _, _⟩, ⟨_, _, _, _, _, _⟩] rfl (by kernel_rfl) (by simp) _ _ ?_
          go_wp2_with (first
            | go_big_skip
            | (show wpList _ _ _ (⟨_, .binOp .neq 4 _ _ _, _, _, _, _⟩ :: _) _ _; refine wpList_val rfl (op_neBool rfl rfl rfl) ?_; go_frame)
            | (go_at_call 25; (refine Ret.calls (stems_s (p := p) (sa := sa) (r := x2) (hS.bring (by repeat (first | exact t0 | apply tS))) hsa) ?_); clear hS; rintro r1 w ⟨rfl, hS⟩)
            | (go_at_call 26; (refine Ret.calls (epoch_s (p := p) (sa := sa) (r := x2) (hS.bring (by repeat (first | exact t0 | apply tS))) hsa) ?_); clear hS; rintro r1 w ⟨rfl, hS⟩)
            | (go_at_call 27; (refine Ret.calls (end_s (p := p) (sa := sa) (r := x2) (hS.bring (by repeat (first | exact t0 | apply tS))) hsa) ?_); clear hS; rintro r1 w ⟨rfl, hS⟩)
            | (go_at_call 13; (refine Ret.calls (succ_s (p := p) (sa := sa) (r := x2) (hS.bring (by repeat (first | exact t0 | apply tS))) hsa) ?_); clear hS; rintro r1 w ⟨rfl, hS⟩)
            | (show wpList _ _ _ (⟨some 79, .load _ _, _, _, _, _⟩ :: _) _ _; refine wpList_val rfl (op_load1S (b := m) (T := 52) oneBool ((hS.bring (by repeat (first | exact t0 | apply tS)))) rfl rfl G2.out) ?_; go_frame)
            | (show wpList _ _ _ (⟨some 88, .load _ _, _, _, _, _⟩ :: _) _ _; refine wpList_val rfl (op_load1S (b := m) (T := 52) oneU64 ((hS.bring (by repeat (first | exact t0 | apply tS)))) rfl rfl G0.out) ?_; go_frame)
            | (show wpList _ _ _ (⟨some 97, .load _ _, _, _, _, _⟩ :: _) _ _; refine wpList_val rfl (op_load1S (b := m) (T := 52) oneU64 ((hS.bring (by repeat (first | exact t0 | apply tS)))) rfl rfl G1.out) ?_; go_frame)
            | (show wpList _ _ _ (⟨some 106, .load _ _, _, _, _, _⟩ :: _) _ _; refine wpList_val rfl (op_load agg2 rfl rfl ((SepL.getBlk (b := m) (T := 52) ((hS.bring (by repeat (first | exact t0 | apply tS))))).cells.subN 35 2 G3.out) rfl) ?_; go_frame)
            | (show wpList _ _ _ (⟨_, .binOp .neq 33 _ _ _, _, _, _, _⟩ :: _) _ _; (first | refine wpList_val rfl (opU_neq rfl (a := x2.epoch) (b := x2.epoch) rfl rfl NE.out) ?_ | refine wpList_val rfl (opU_neq rfl (a := x2.fin) (b := x2.fin) rfl rfl NF.out) ?_); go_frame)
            )
          refine segQ_mk (⟨((hS.bring (by repeat (first | exact t0 | apply tS))).getBlk), ((hS.bring (by repeat (first | exact t0 | apply tS))).getBlk)⟩ : Blk _ m 52 (rrC sa x2) ∧ Blk _ n8 38 (aC (u, a))) ?_
          refine ord_seg (by repeat (first | exact Clean.body | refine Clean.then ?_ | refine Clean.inBlock ?_ | refine SegQ.clean ?_ | refine FinC.clean ?_)) (n := 42) (rest := [[19, 20, 21, 22, 24, 25, 26, 27, 23, 28, 29, 30, 31, 33, 34, 35, 36, 32, 37, 38, 39, 40, 41, 42, 44, 45, 46, 43, 47, 48, 49, 50, 51, 52, 53, 55, 56, 57, 54, 58, 59, 60]]) [10, 11, 12, 13, 15, 16, 17, 18, 14] [⟨_, _, _, _, _, _⟩, ⟨_, _, _, _, _, _⟩, ⟨_, _, _, _, _, _⟩, ⟨_, _, _, _, _, _⟩, ⟨_, _, _, _, _, _⟩, ⟨_, _, _, _, _, _⟩, ⟨_, _, _, _, _, _⟩, ⟨_, _, _, _, _, _⟩, ⟨_, _, _, _, _, _⟩] rfl (by kernel_rfl) (by simp) _ _ ?_
          go_wp2_with (first
            | go_big_skip
            | (show wpList _ _ _ (⟨_, .binOp .neq 4 _ _ _, _, _, _, _⟩ :: _) _ _; refine wpList_val rfl (op_neBool rfl rfl rfl) ?_; go_frame)
            | (go_at_call 25; (refine Ret.calls (stems_s (p := p) (sa := sa) (r := x2) (hS.bring (by repeat (first | exact t0 | apply tS))) hsa) ?_); clear hS; rintro r1 w ⟨rfl, hS⟩)
            | (go_at_call 26; (refine Ret.calls (epoch_s (p := p) (sa := sa) (r := x2) (hS.bring (by repeat (first | exact t0 | apply tS))) hsa) ?_); clear hS; rintro r1 w ⟨rfl, hS⟩)
            | (go_at_call 27; (refine Ret.calls (end_s (p := p) (sa := sa) (r := x2) (hS.bring (by repeat (first | exact t0 | apply tS))) hsa) ?_); clear hS; rintro r1 w ⟨rfl, hS⟩)
            | (go_at_call 13; (refine Ret.calls (succ_s (p := p) (sa := sa) (r := x2) (hS.bring (by repeat (first | exact t0 | apply tS))) hsa) ?_); clear hS; rintro r1 w ⟨rfl, hS⟩)
            | (show wpList _ _ _ (⟨some 79, .load _ _, _, _, _, _⟩ :: _) _ _; refine wpList_val rfl (op_load1S (b := m) (T := 52) oneBool ((hS.bring (by repeat (first | exact t0 | apply tS)))) rfl rfl G2.out) ?_; go_frame)
            | (show wpList _ _ _ (⟨some 88, .load _ _, _, _, _, _⟩ :: _) _ _; refine wpList_val rfl (op_load1S (b := m) (T := 52) oneU64 ((hS.bring (by repeat (first | exact t0 | apply tS)))) rfl rfl G0.out) ?_; go_frame)
            | (show wpList _ _ _ (⟨some 97, .load _ _, _, _, _, _⟩ :: _) _ _; refine wpList_val rfl (op_load1S (b := m) (T := 52) oneU64 ((hS.bring (by repeat (first | exact t0 | apply tS)))) rfl rfl G1.out) ?_; go_frame)
            | (show wpList _ _ _ (⟨some 106, .load _ _, _, _, _, _⟩ :: _) _ _; refine wpList_val rfl (op_load agg2 rfl rfl ((SepL.getBlk (b := m) (T := 52) ((hS.bring (by repeat (first | exact t0 | apply tS))))).cells.subN 35 2 G3.out) rfl) ?_; go_frame)
            | (show wpList _ _ _ (⟨_, .binOp .neq 33 _ _ _, _, _, _, _⟩ :: _) _ _; (first | refine wpList_val rfl (opU_neq rfl (a := x2.epoch) (b := x2.epoch) rfl rfl NE.out) ?_ | refine wpList_val rfl (opU_neq rfl (a := x2.fin) (b := x2.fin) rfl rfl NF.out) ?_); go_frame)
            )
          refine segQ_mk (⟨((hS.bring (by repeat (first | exact t0 | apply tS))).getBlk), ((hS.bring (by repeat (first | exact t0 | apply tS))).getBlk)⟩ : Blk _ m 52 (rrC sa x2) ∧ Blk _ n8 38 (aC (u, a))) ?_
          refine ord_seg (by repeat (first | exact Clean.body | refine Clean.then ?_ | refine Clean.inBlock ?_ | refine SegQ.clean ?_ | refine FinC.clean ?_)) (n := 33) (rest := [[28, 29, 30, 31, 33, 34, 35, 36, 32, 37, 38, 39, 40, 41, 42, 44, 45, 46, 43, 47, 48, 49, 50, 51, 52, 53, 55, 56, 57, 54, 58, 59, 60]]) [19, 20, 21, 22, 24, 25, 26, 27, 23] [⟨_, _, _, _, _, _⟩, ⟨_, _, _, _, _, _⟩, ⟨_, _, _, _, _, _⟩, ⟨_, _, _, _, _, _⟩, ⟨_, _, _, _, _, _⟩, ⟨_, _, _, _, _, _⟩, ⟨_, _, _, _, _, _⟩, ⟨_, _, _, _, _, _⟩, ⟨_, _, _, _, _, _⟩] rfl (by kernel_rfl) (by simp) _ _ ?_
          go_wp2_with (first
            | go_big_skip
            | (show wpList _ _ _ (⟨_, .binOp .neq 4 _ _ _, _, _, _, _⟩ :: _) _ _; refine wpList_val rfl (op_neBool rfl rfl rfl) ?_; go_frame)
            | (go_at_call 25; (refine Ret.calls (stems_s (p := p) (sa := sa) (r := x2) (hS.bring (by repeat (first | exact t0 | apply tS))) hsa) ?_); clear hS; rintro r1 w ⟨rfl, hS⟩)
            | (go_at_call 26; (refine Ret.calls (epoch_s (p := p) (sa := sa) (r := x2) (hS.bring (by repeat (first | exact t0 | apply tS))) hsa) ?_); clear hS; rintro r1 w ⟨rfl, hS⟩)
            | (go_at_call 27; (refine Ret.calls (end_s (p := p) (sa := sa) (r := x2) (hS.bring (by repeat (first | exact t0 | apply tS))) hsa) ?_); clear hS; rintro r1 w ⟨rfl, hS⟩)
            | (go_at_call 13; (refine Ret.calls (succ_s (p := p) (sa := sa) (r := x2) (hS.bring (by repeat (first | exact t0 | apply tS))) hsa) ?_); clear hS; rintro r1 w ⟨rfl, hS⟩)
            | (show wpList _ _ _ (⟨some 79, .load _ _, _, _, _, _⟩ :: _) _ _; refine wpList_val rfl (op_load1S (b := m) (T := 52) oneBool ((hS.bring (by repeat (first | exact t0 | apply tS)))) rfl rfl G2.out) ?_; go_frame)
            | (show wpList _ _ _ (⟨some 88, .load _ _, _, _, _, _⟩ :: _) _ _; refine wpList_val rfl (op_load1S (b := m) (T := 52) oneU64 ((hS.bring (by repeat (first | exact t0 | apply tS)))) rfl rfl G0.out) ?_; go_frame)
            | (show wpList _ _ _ (⟨some 97, .load _ _, _, _, _, _⟩ :: _) _ _; refine wpList_val rfl (op_load1S (b := m) (T := 52) oneU64 ((hS.bring (by repeat (first | exact t0 | apply tS)))) rfl rfl G1.out) ?_; go_frame)
            | (show wpList _ _ _ (⟨some 106, .load _ _, _, _, _, _⟩ :: _) _ _; refine wpList_val rfl (op_load agg2 rfl rfl ((SepL.getBlk (b := m) (T := 52) ((hS.bring (by repeat (first | exact t0 | apply tS))))).cells.subN 35 2 G3.out) rfl) ?_; go_frame)
            | (show wpList _ _ _ (⟨_, .binOp .neq 33 _ _ _, _, _, _, _⟩ :: _) _ _; (first | refine wpList_val rfl (opU_neq rfl (a := x2.epoch) (b := x2.epoch) rfl rfl NE.out) ?_ | refine wpList_val rfl (opU_neq rfl (a := x2.fin) (b := x2.fin) rfl rfl NF.out) ?_); go_frame)
            )
          refine segQ_mk (⟨((hS.bring (by repeat (first | exact t0 | apply tS))).getBlk), ((hS.bring (by repeat (first | exact t0 | apply tS))).getBlk)⟩ : Blk _ m 52 (rrC sa x2) ∧ Blk _ n8 38 (aC (u, a))) ?_
          refine ord_seg (by repeat (first | exact Clean.body | refine Clean.then ?_ | refine Clean.inBlock ?_ | refine SegQ.clean ?_ | refine FinC.clean ?_)) (n := 24) (rest := [[37, 38, 39, 40, 41, 42, 44, 45, 46, 43, 47, 48, 49, 50, 51, 52, 53, 55, 56, 57, 54, 58, 59, 60]]) [28, 29, 30, 31, 33, 34, 35, 36, 32] [⟨_, _, _, _, _, _⟩, ⟨_, _, _, _, _, _⟩, ⟨_, _, _, _, _, _⟩, ⟨_, _, _, _, _, _⟩, ⟨_, _, _, _, _, _⟩, ⟨_, _, _, _, _, _⟩, ⟨_, _, _, _, _, _⟩, ⟨_, _, _, _, _, _⟩, ⟨_, _, _, _, _, _⟩] rfl (by kernel_rfl) (by simp) _ _ ?_
          go_wp2_with (first
            | go_big_skip
            | (show wpList _ _ _ (⟨_, .binOp .neq 4 _ _ _, _, _, _, _⟩ :: _) _ _; refine wpList_val rfl (op_neBool rfl rfl rfl) ?_; go_frame)
            | (go_at_call 25; (refine Ret.calls (stems_s (p := p) (sa := sa) (r := x2) (hS.bring (by repeat (first | exact t0 | apply tS))) hsa) ?_); clear hS; rintro r1 w ⟨rfl, hS⟩)
            | (go_at_call 26; (refine Ret.calls (epoch_s (p := p) (sa := sa) (r := x2) (hS.bring (by repeat (first | exact t0 | apply tS))) hsa) ?_); clear hS; rintro r1 w ⟨rfl, hS⟩)
            | (go_at_call 27; (refine Ret.calls (end_s (p := p) (sa := sa) (r := x2) (hS.bring (by repeat (first | exact t0 | apply tS))) hsa) ?_); clear hS; rintro r1 w ⟨rfl, hS⟩)
            | (go_at_call 13; (refine Ret.calls (succ_s (p := p) (sa := sa) (r := x2) (hS.bring (by repeat (first | exact t0 | apply tS))) hsa) ?_); clear hS; rintro r1 w ⟨rfl, hS⟩)
            | (show wpList _ _ _ (⟨some 79, .load _ _, _, _, _, _⟩ :: _) _ _; refine wpList_val rfl (op_load1S (b := m) (T := 52) oneBool ((hS.bring (by repeat (first | exact t0 | apply tS)))) rfl rfl G2.out) ?_; go_frame)
            | (show wpList _ _ _ (⟨some 88, .load _ _, _, _, _, _⟩ :: _) _ _; refine wpList_val rfl (op_load1S (b := m) (T := 52) oneU64 ((hS.bring (by repeat (first | exact t0 | apply tS)))) rfl rfl G0.out) ?_; go_frame)
            | (show wpList _ _ _ (⟨some 97, .load _ _, _, _, _, _⟩ :: _) _ _; refine wpList_val rfl (op_load1S (b := m) (T := 52) oneU64 ((hS.bring (by repeat (first | exact t0 | apply tS)))) rfl rfl G1.out) ?_; go_frame)
            | (show wpList _ _ _ (⟨some 106, .load _ _, _, _, _, _⟩ :: _) _ _; refine wpList_val rfl (op_load agg2 rfl rfl ((SepL.getBlk (b := m) (T := 52) ((hS.bring (by repeat (first | exact t0 | apply tS))))).cells.subN 35 2 G3.out) rfl) ?_; go_frame)
            | (show wpList _ _ _ (⟨_, .binOp .neq 33 _ _ _, _, _, _, _⟩ :: _) _ _; (first | refine wpList_val rfl (opU_neq rfl (a := x2.epoch) (b := x2.epoch) rfl rfl NE.out) ?_ | refine wpList_val rfl (opU_neq rfl (a := x2.fin) (b := x2.fin) rfl rfl NF.out) ?_); go_frame)
            )
          refine segQ_mk (⟨((hS.bring (by repeat (first | exact t0 | apply tS))).getBlk), ((hS.bring (by repeat (first | exact t0 | apply tS))).getBlk)⟩ : Blk _ m 52 (rrC sa x2) ∧ Blk _ n8 38 (aC (u, a))) ?_
          refine ord_seg (by repeat (first | exact Clean.body | refine Clean.then ?_ | refine Clean.inBlock ?_ | refine SegQ.clean ?_ | refine FinC.clean ?_)) (n := 23) (rest := [[38, 39, 40, 41, 42, 44, 45, 46, 43, 47, 48, 49, 50, 51, 52, 53, 55, 56, 57, 54, 58, 59, 60]]) [37] [⟨_, _, _, _, _, _⟩] rfl (by kernel_rfl) (by simp) _ _ ?_
          go_wp2_with (first
            | go_big_skip
            | (go_at_call 28; (refine Ret.calls (misses_s (MM := 3) (p := p) (sa := sa) (r := x2) (s := a.source) (hS.bring (by repeat (first | exact t0 | apply tS))) hsa HOX.out) ?_); clear hS; rintro r1 w ⟨rfl, hS⟩)
            | (go_at_call 14; (refine Ret.calls (way_s (p := p) (sa := sa) (r := x2) (s := a.source) (hS.bring (by repeat (first | exact t0 | apply tS))) hK hF hsa HOX.out) ?_); clear hS; rintro r1 w ⟨rfl, hS⟩)
            | (go_at_call 29; (refine Ret.calls (missed_s (p := m) (sa := sa) (r := x2) (s := a.source) (hS.bring (by repeat (first | exact t0 | apply tS))) hsa HOX.out) ?_); clear hS; rintro r1 w ⟨rfl, hS⟩)
            | (go_at_call 30; (refine Ret.calls (rway_s (p := m) (sa := sa) (r := x2) (s := a.source) (hS.bring (by repeat (first | exact t0 | apply tS))) hsa HOX.out) ?_); clear hS; rintro r1 w ⟨rfl, hS⟩)
            | (show wpList _ _ _ (⟨_, .load 3 _, _, _, _, _⟩ :: _) _ _; refine wpList_val rfl (op_load1S (b := n8) (T := 38) oneInt ((hS.bring (by repeat (first | exact t0 | apply tS)))) rfl rfl rfl) ?_; go_frame)
            | (show wpList _ _ _ (⟨_, .binOp .neq 29 _ _ _, _, _, _, _⟩ :: _) _ _; refine wpList_val rfl (op_neP rfl rfl rfl NS.out) ?_; go_frame)
            | (show wpList _ _ _ (⟨some 118, .binOp _ _ _ _ _, _, _, _, _⟩ :: _) _ _; refine wpList_val rfl (op_ineI rfl rfl rfl NM.out) ?_; go_frame)
            | (show wpList _ _ _ (⟨some 129, .binOp _ _ _ _ _, _, _, _, _⟩ :: _) _ _; refine wpList_val rfl (op_ineI rfl rfl rfl NW.out) ?_; go_frame)
            )
          refine segQ_mk (⟨((hS.bring (by repeat (first | exact t0 | apply tS))).getBlk), ((hS.bring (by repeat (first | exact t0 | apply tS))).getBlk)⟩ : Blk _ m 52 (rrC sa x2) ∧ Blk _ n8 38 (aC (u, a))) ?_
          refine ord_seg (by repeat (first | exact Clean.body | refine Clean.then ?_ | refine Clean.inBlock ?_ | refine SegQ.clean ?_ | refine FinC.clean ?_)) (n := 14) (rest := [[47, 48, 49, 50, 51, 52, 53, 55, 56, 57, 54, 58, 59, 60]]) [38, 39, 40, 41, 42, 44, 45, 46, 43] [⟨_, _, _, _, _, _⟩, ⟨_, _, _, _, _, _⟩, ⟨_, _, _, _, _, _⟩, ⟨_, _, _, _, _, _⟩, ⟨_, _, _, _, _, _⟩, ⟨_, _, _, _, _, _⟩, ⟨_, _, _, _, _, _⟩, ⟨_, _, _, _, _, _⟩, ⟨_, _, _, _, _, _⟩] rfl (by kernel_rfl) (by simp) _ _ ?_
          go_wp2_with (first
            | go_big_skip
            | (go_at_call 28; (refine Ret.calls (misses_s (MM := 3) (p := p) (sa := sa) (r := x2) (s := a.source) (hS.bring (by repeat (first | exact t0 | apply tS))) hsa HOX.out) ?_); clear hS; rintro r1 w ⟨rfl, hS⟩)
            | (go_at_call 14; (refine Ret.calls (way_s (p := p) (sa := sa) (r := x2) (s := a.source) (hS.bring (by repeat (first | exact t0 | apply tS))) hK hF hsa HOX.out) ?_); clear hS; rintro r1 w ⟨rfl, hS⟩)
            | (go_at_call 29; (refine Ret.calls (missed_s (p := m) (sa := sa) (r := x2) (s := a.source) (hS.bring (by repeat (first | exact t0 | apply tS))) hsa HOX.out) ?_); clear hS; rintro r1 w ⟨rfl, hS⟩)
            | (go_at_call 30; (refine Ret.calls (rway_s (p := m) (sa := sa) (r := x2) (s := a.source) (hS.bring (by repeat (first | exact t0 | apply tS))) hsa HOX.out) ?_); clear hS; rintro r1 w ⟨rfl, hS⟩)
            | (show wpList _ _ _ (⟨_, .load 3 _, _, _, _, _⟩ :: _) _ _; refine wpList_val rfl (op_load1S (b := n8) (T := 38) oneInt ((hS.bring (by repeat (first | exact t0 | apply tS)))) rfl rfl rfl) ?_; go_frame)
            | (show wpList _ _ _ (⟨_, .binOp .neq 29 _ _ _, _, _, _, _⟩ :: _) _ _; refine wpList_val rfl (op_neP rfl rfl rfl NS.out) ?_; go_frame)
            | (show wpList _ _ _ (⟨some 118, .binOp _ _ _ _ _, _, _, _, _⟩ :: _) _ _; refine wpList_val rfl (op_ineI rfl rfl rfl NM.out) ?_; go_frame)
            | (show wpList _ _ _ (⟨some 129, .binOp _ _ _ _ _, _, _, _, _⟩ :: _) _ _; refine wpList_val rfl (op_ineI rfl rfl rfl NW.out) ?_; go_frame)
            )
          refine segQ_mk (⟨((hS.bring (by repeat (first | exact t0 | apply tS))).getBlk), ((hS.bring (by repeat (first | exact t0 | apply tS))).getBlk)⟩ : Blk _ m 52 (rrC sa x2) ∧ Blk _ n8 38 (aC (u, a))) ?_
          refine ord_seg (by repeat (first | exact Clean.body | refine Clean.then ?_ | refine Clean.inBlock ?_ | refine SegQ.clean ?_ | refine FinC.clean ?_)) (n := 13) (rest := [[48, 49, 50, 51, 52, 53, 55, 56, 57, 54, 58, 59, 60]]) [47] [⟨_, _, _, _, _, _⟩] rfl (by kernel_rfl) (by simp) _ _ ?_
          go_wp2_with (first
            | go_big_skip
            | (go_at_call 28; (refine Ret.calls (misses_s (MM := 3) (p := p) (sa := sa) (r := x2) (s := a.source) (hS.bring (by repeat (first | exact t0 | apply tS))) hsa HOX.out) ?_); clear hS; rintro r1 w ⟨rfl, hS⟩)
            | (go_at_call 14; (refine Ret.calls (way_s (p := p) (sa := sa) (r := x2) (s := a.source) (hS.bring (by repeat (first | exact t0 | apply tS))) hK hF hsa HOX.out) ?_); clear hS; rintro r1 w ⟨rfl, hS⟩)
            | (go_at_call 29; (refine Ret.calls (missed_s (p := m) (sa := sa) (r := x2) (s := a.source) (hS.bring (by repeat (first | exact t0 | apply tS))) hsa HOX.out) ?_); clear hS; rintro r1 w ⟨rfl, hS⟩)
            | (go_at_call 30; (refine Ret.calls (rway_s (p := m) (sa := sa) (r := x2) (s := a.source) (hS.bring (by repeat (first | exact t0 | apply tS))) hsa HOX.out) ?_); clear hS; rintro r1 w ⟨rfl, hS⟩)
            | (show wpList _ _ _ (⟨_, .load 3 _, _, _, _, _⟩ :: _) _ _; refine wpList_val rfl (op_load1S (b := n8) (T := 38) oneInt ((hS.bring (by repeat (first | exact t0 | apply tS)))) rfl rfl rfl) ?_; go_frame)
            | (show wpList _ _ _ (⟨_, .binOp .neq 29 _ _ _, _, _, _, _⟩ :: _) _ _; refine wpList_val rfl (op_neP rfl rfl rfl NS.out) ?_; go_frame)
            | (show wpList _ _ _ (⟨some 118, .binOp _ _ _ _ _, _, _, _, _⟩ :: _) _ _; refine wpList_val rfl (op_ineI rfl rfl rfl NM.out) ?_; go_frame)
            | (show wpList _ _ _ (⟨some 129, .binOp _ _ _ _ _, _, _, _, _⟩ :: _) _ _; refine wpList_val rfl (op_ineI rfl rfl rfl NW.out) ?_; go_frame)
            )
          refine segQ_mk (⟨((hS.bring (by repeat (first | exact t0 | apply tS))).getBlk), ((hS.bring (by repeat (first | exact t0 | apply tS))).getBlk)⟩ : Blk _ m 52 (rrC sa x2) ∧ Blk _ n8 38 (aC (u, a))) ?_
          refine ord_seg (by repeat (first | exact Clean.body | refine Clean.then ?_ | refine Clean.inBlock ?_ | refine SegQ.clean ?_ | refine FinC.clean ?_)) (n := 3) (rest := [[58, 59, 60]]) [48, 49, 50, 51, 52, 53, 55, 56, 57, 54] [⟨_, _, _, _, _, _⟩, ⟨_, _, _, _, _, _⟩, ⟨_, _, _, _, _, _⟩, ⟨_, _, _, _, _, _⟩, ⟨_, _, _, _, _, _⟩, ⟨_, _, _, _, _, _⟩, ⟨_, _, _, _, _, _⟩, ⟨_, _, _, _, _, _⟩, ⟨_, _, _, _, _, _⟩, ⟨_, _, _, _, _, _⟩] rfl (by kernel_rfl) (by simp) _ _ ?_
          go_wp2_with (first
            | go_big_skip
            | (go_at_call 28; (refine Ret.calls (misses_s (MM := 3) (p := p) (sa := sa) (r := x2) (s := a.source) (hS.bring (by repeat (first | exact t0 | apply tS))) hsa HOX.out) ?_); clear hS; rintro r1 w ⟨rfl, hS⟩)
            | (go_at_call 14; (refine Ret.calls (way_s (p := p) (sa := sa) (r := x2) (s := a.source) (hS.bring (by repeat (first | exact t0 | apply tS))) hK hF hsa HOX.out) ?_); clear hS; rintro r1 w ⟨rfl, hS⟩)
            | (go_at_call 29; (refine Ret.calls (missed_s (p := m) (sa := sa) (r := x2) (s := a.source) (hS.bring (by repeat (first | exact t0 | apply tS))) hsa HOX.out) ?_); clear hS; rintro r1 w ⟨rfl, hS⟩)
            | (go_at_call 30; (refine Ret.calls (rway_s (p := m) (sa := sa) (r := x2) (s := a.source) (hS.bring (by repeat (first | exact t0 | apply tS))) hsa HOX.out) ?_); clear hS; rintro r1 w ⟨rfl, hS⟩)
            | (show wpList _ _ _ (⟨_, .load 3 _, _, _, _, _⟩ :: _) _ _; refine wpList_val rfl (op_load1S (b := n8) (T := 38) oneInt ((hS.bring (by repeat (first | exact t0 | apply tS)))) rfl rfl rfl) ?_; go_frame)
            | (show wpList _ _ _ (⟨_, .binOp .neq 29 _ _ _, _, _, _, _⟩ :: _) _ _; refine wpList_val rfl (op_neP rfl rfl rfl NS.out) ?_; go_frame)
            | (show wpList _ _ _ (⟨some 118, .binOp _ _ _ _ _, _, _, _, _⟩ :: _) _ _; refine wpList_val rfl (op_ineI rfl rfl rfl NM.out) ?_; go_frame)
            | (show wpList _ _ _ (⟨some 129, .binOp _ _ _ _ _, _, _, _, _⟩ :: _) _ _; refine wpList_val rfl (op_ineI rfl rfl rfl NW.out) ?_; go_frame)
            )
          refine segQ_mk (⟨((hS.bring (by repeat (first | exact t0 | apply tS))).getBlk), ((hS.bring (by repeat (first | exact t0 | apply tS))).getBlk)⟩ : Blk _ m 52 (rrC sa x2) ∧ Blk _ n8 38 (aC (u, a))) ?_
          refine ord_seg (by repeat (first | exact Clean.body | refine Clean.then ?_ | refine Clean.inBlock ?_ | refine SegQ.clean ?_ | refine FinC.clean ?_)) (n := 2) (rest := [[59, 60]]) [58] [⟨_, _, _, _, _, _⟩] rfl (by kernel_rfl) (by simp) _ _ ?_
          go_wp2_with (first
            | go_big_skip
            | (go_at_call 28; (refine Ret.calls (misses_s (MM := 3) (p := p) (sa := sa) (r := x2) (s := a.source) (hS.bring (by repeat (first | exact t0 | apply tS))) hsa HOX.out) ?_); clear hS; rintro r1 w ⟨rfl, hS⟩)
            | (go_at_call 14; (refine Ret.calls (way_s (p := p) (sa := sa) (r := x2) (s := a.source) (hS.bring (by repeat (first | exact t0 | apply tS))) hK hF hsa HOX.out) ?_); clear hS; rintro r1 w ⟨rfl, hS⟩)
            | (go_at_call 29; (refine Ret.calls (missed_s (p := m) (sa := sa) (r := x2) (s := a.source) (hS.bring (by repeat (first | exact t0 | apply tS))) hsa HOX.out) ?_); clear hS; rintro r1 w ⟨rfl, hS⟩)
            | (go_at_call 30; (refine Ret.calls (rway_s (p := m) (sa := sa) (r := x2) (s := a.source) (hS.bring (by repeat (first | exact t0 | apply tS))) hsa HOX.out) ?_); clear hS; rintro r1 w ⟨rfl, hS⟩)
            | (show wpList _ _ _ (⟨_, .load 3 _, _, _, _, _⟩ :: _) _ _; refine wpList_val rfl (op_load1S (b := n8) (T := 38) oneInt ((hS.bring (by repeat (first | exact t0 | apply tS)))) rfl rfl rfl) ?_; go_frame)
            | (show wpList _ _ _ (⟨_, .binOp .neq 29 _ _ _, _, _, _, _⟩ :: _) _ _; refine wpList_val rfl (op_neP rfl rfl rfl NS.out) ?_; go_frame)
            | (show wpList _ _ _ (⟨some 118, .binOp _ _ _ _ _, _, _, _, _⟩ :: _) _ _; refine wpList_val rfl (op_ineI rfl rfl rfl NM.out) ?_; go_frame)
            | (show wpList _ _ _ (⟨some 129, .binOp _ _ _ _ _, _, _, _, _⟩ :: _) _ _; refine wpList_val rfl (op_ineI rfl rfl rfl NW.out) ?_; go_frame)
            )
          refine segQ_mk (⟨((hS.bring (by repeat (first | exact t0 | apply tS))).getBlk), ((hS.bring (by repeat (first | exact t0 | apply tS))).getBlk)⟩ : Blk _ m 52 (rrC sa x2) ∧ Blk _ n8 38 (aC (u, a))) ?_
          refine ord_seg (by repeat (first | exact Clean.body | refine Clean.then ?_ | refine Clean.inBlock ?_ | refine SegQ.clean ?_ | refine FinC.clean ?_)) (n := 0) (rest := [[]]) [59, 60] [⟨_, _, _, _, _, _⟩, ⟨_, _, _, _, _, _⟩] rfl (by kernel_rfl) (by simp) _ _ ?_
          go_wp2_with (first
            | go_big_skip
            | (go_at_call 28; (refine Ret.calls (misses_s (MM := 3) (p := p) (sa := sa) (r := x2) (s := a.source) (hS.bring (by repeat (first | exact t0 | apply tS))) hsa HOX.out) ?_); clear hS; rintro r1 w ⟨rfl, hS⟩)
            | (go_at_call 14; (refine Ret.calls (way_s (p := p) (sa := sa) (r := x2) (s := a.source) (hS.bring (by repeat (first | exact t0 | apply tS))) hK hF hsa HOX.out) ?_); clear hS; rintro r1 w ⟨rfl, hS⟩)
            | (go_at_call 29; (refine Ret.calls (missed_s (p := m) (sa := sa) (r := x2) (s := a.source) (hS.bring (by repeat (first | exact t0 | apply tS))) hsa HOX.out) ?_); clear hS; rintro r1 w ⟨rfl, hS⟩)
            | (go_at_call 30; (refine Ret.calls (rway_s (p := m) (sa := sa) (r := x2) (s := a.source) (hS.bring (by repeat (first | exact t0 | apply tS))) hsa HOX.out) ?_); clear hS; rintro r1 w ⟨rfl, hS⟩)
            | (show wpList _ _ _ (⟨_, .load 3 _, _, _, _, _⟩ :: _) _ _; refine wpList_val rfl (op_load1S (b := n8) (T := 38) oneInt ((hS.bring (by repeat (first | exact t0 | apply tS)))) rfl rfl rfl) ?_; go_frame)
            | (show wpList _ _ _ (⟨_, .binOp .neq 29 _ _ _, _, _, _, _⟩ :: _) _ _; refine wpList_val rfl (op_neP rfl rfl rfl NS.out) ?_; go_frame)
            | (show wpList _ _ _ (⟨some 118, .binOp _ _ _ _ _, _, _, _, _⟩ :: _) _ _; refine wpList_val rfl (op_ineI rfl rfl rfl NM.out) ?_; go_frame)
            | (show wpList _ _ _ (⟨some 129, .binOp _ _ _ _ _, _, _, _, _⟩ :: _) _ _; refine wpList_val rfl (op_ineI rfl rfl rfl NW.out) ?_; go_frame)
            )
          refine segQ_mk (⟨((hS.bring (by repeat (first | exact t0 | apply tS))).getBlk), ((hS.bring (by repeat (first | exact t0 | apply tS))).getBlk)⟩ : Blk _ m 52 (rrC sa x2) ∧ Blk _ n8 38 (aC (u, a))) ?_
          refine finC_mk (by kernel_rfl) (by
            intro t ht
            simp only [List.mem_cons, List.not_mem_nil, or_false] at ht
            rcases ht with rfl | rfl | rfl | rfl | rfl | rfl | rfl | rfl <;> first | exact stab_blk (b := m) (fun w h => h.1) _ none | exact stab_blk (b := n8) (fun w h => h.2) _ none) ?_
          go_wp2_with fail
          go_roundw
          case rel =>
            refine ⟨k + 1, by go_num, by omega, ?_⟩
            rw [HSN.out]
            exact hS.sel (by repeat (first | exact Sel.refl | refine Sel.take (by repeat (first | exact t0 | apply tS)) ?_ | apply Sel.drop))
          case measure => simp [intOf]; omega
        have HK1 := eqF h1
        rw [if_neg h1] at hx2
        by_cases h2 : a.kind = 2
        · have HK2 := eqT h2
          rw [if_pos h2] at hx2
          have HRM := hide hx2
          clear h0 h1 h2 h3 hx2
          go_wp2_with (first
            | go_big_skip
            | (show wpList _ _ _ (⟨some 24, .indexAddr _ _ _, _, _, _, _⟩ :: _) _ _; refine wpList_val rfl (op_indexAddr slAct rfl (v := v) (xs := L.map aC) rfl (k := k) rfl (by exact hS.rd hv.rd) hlk) ?_; go_frame)
            | (show wpList _ _ _ (⟨some 25, .load _ _, _, _, _, _⟩ :: _) _ _; refine wpList_val rfl (op_loadE aggAct rfl (v := v) (xs := L.map aC) (k := k) rfl (by exact hS.rd hv.rd) hlk) ?_; rw [HX.out]; go_frame)
            | (show wpList _ _ _ (⟨some 8, .alloc _, _, _, _, _⟩ :: _) _ _; refine wpS_alloc hS rfl rfl Tryd.zeroValue38 (zs := [.int .i64 0, .int .i64 0, .int .i64 0, .int .u64 0, .slice none 0 0, .int .u16 0, .int .u16 0, .int .u16 0]) rfl ?_; clear hS; intro n8 w hS; go_frame)
            | (show wpList _ _ _ (⟨_, .store 38 _ _, _, _, _, _⟩ :: _) _ _; (refine wpS_storeAll (b := n8) aggAct (hS.bring (by repeat (first | exact t0 | apply tS))) rfl rfl rfl (vs := aC (u, a)) rfl rfl HUF.out rfl ?_); clear hS; intro w hS; go_frame)
            | (show wpList _ _ _ (⟨_, .load 38 _, _, _, _, _⟩ :: _) _ _; refine wpList_val rfl (op_load aggAct rfl rfl (SepL.getBlk (b := n8) (T := 38) ((hS.bring (by repeat (first | exact t0 | apply tS))))).cells rfl) ?_; go_frame)
            | (go_at_call 19; (refine Ret.calls (do_s (p := p) (r := x) (u := u) (s := a) (hS.bring (by repeat (first | exact t0 | apply tS))) hsa HOX0.out HUR.out HAO1.out) ?_); clear hS; rintro r1 w ⟨rfl, hS⟩; rw [HX2.out] at hS; rw [HBB.out])
            | (show wpList _ _ _ (⟨_, .load 3 _, _, _, _, _⟩ :: _) _ _; refine wpList_val rfl (op_load1S (b := n8) (T := 38) oneInt ((hS.bring (by repeat (first | exact t0 | apply tS)))) rfl rfl rfl) ?_; go_frame)
            | (show wpList _ _ _ (⟨_, .load 33 _, _, _, _, _⟩ :: _) _ _; refine wpList_val rfl (op_load1S (b := n8) (T := 38) oneU64 ((hS.bring (by repeat (first | exact t0 | apply tS)))) rfl rfl rfl) ?_; go_frame)
            | (show wpList _ _ _ (⟨_, .load 34 _, _, _, _, _⟩ :: _) _ _; refine wpList_val rfl (op_load1S (b := n8) (T := 38) oneInts ((hS.bring (by repeat (first | exact t0 | apply tS)))) rfl rfl rfl) ?_; go_frame)
            | (show wpList _ _ _ (⟨_, .load 36 _, _, _, _, _⟩ :: _) _ _; refine wpList_val rfl (op_load agg3u rfl rfl ((SepL.getBlk (b := n8) (T := 38) ((hS.bring (by repeat (first | exact t0 | apply tS))))).cells.subN 5 3 (ds := [.int .u16 a.d0, .int .u16 a.d1, .int .u16 a.d2]) rfl) rfl) ?_; go_frame)
            | (show wpList _ _ _ (⟨some 55, .indexAddr _ _ _, _, _, _, _⟩ :: _) _ _; refine wpList_val rfl (op_indexArrZ arr3u rfl (b := n8) (off := 5) rfl rfl 0 rfl (by omega)) ?_; go_frame)
            | (show wpList _ _ _ (⟨_, .load 35 _, _, _, _, _⟩ :: _) _ _; refine wpList_val rfl (op_load1S (b := n8) (T := 38) oneU16 ((hS.bring (by repeat (first | exact t0 | apply tS)))) rfl rfl rfl) ?_; go_frame)
            | (show wpList _ _ _ (⟨some 32, .binOp _ _ _ _ _, _, _, _, _⟩ :: _) _ _; refine wpList_val rfl (op_eqI' rfl rfl rfl HK0.out) ?_; go_frame)
            | (show wpList _ _ _ (⟨some 42, .binOp _ _ _ _ _, _, _, _, _⟩ :: _) _ _; refine wpList_val rfl (op_eqI' rfl rfl rfl HK1.out) ?_; go_frame)
            | (show wpList _ _ _ (⟨some 48, .binOp _ _ _ _ _, _, _, _, _⟩ :: _) _ _; refine wpList_val rfl (op_eqI' rfl rfl rfl HK2.out) ?_; go_frame)
            | (show wpList _ _ _ (⟨some 59, .binOp _ _ _ _ _, _, _, _, _⟩ :: _) _ _; refine wpList_val rfl (op_eqI' rfl rfl rfl HK3.out) ?_; go_frame)
            | (show wpList _ _ _ (⟨some 65, .binOp _ _ _ _ _, _, _, _, _⟩ :: _) _ _; refine wpList_val rfl (op_eqI' rfl rfl rfl HK4.out) ?_; go_frame)
            | (go_at_call 20; (refine Ret.calls (rtick_s (p := m) (r := x) (peers := a.peers) (hS.bring (by repeat (first | exact t0 | apply tS))) hsa HOX0.out HUR.out HAO1.out.2 HAO1.out.1.now HAO1.out.1.d1 HAO1.out.1.d2) ?_); clear hS; rintro r1 w ⟨rfl, hS⟩; rw [HRM.out] at hS; rw [HRB.out])
            | (go_at_call 21; (refine Ret.calls (rjoined_s (p := m) (r := x) (hS.bring (by repeat (first | exact t0 | apply tS))) hsa) ?_); clear hS; rintro r1 w hS; rw [HRM.out] at hS)
            | (go_at_call 22; (refine Ret.calls (rleft_s (p := m) (r := x) (peers := a.peers) (hS.bring (by repeat (first | exact t0 | apply tS))) hsa HUR.out HAO1.out.2 HAO1.out.1.d0) ?_); clear hS; rintro r1 w hS; rw [HRM.out] at hS)
            | (go_at_call 23; (refine Ret.calls (rmiss_s (p := m) (r := x) (hS.bring (by repeat (first | exact t0 | apply tS))) hsa HOX0.out) ?_); clear hS; rintro r1 w ⟨rfl, hS⟩; rw [HRM.out] at hS; rw [HRB.out])
            | (go_at_call 24; (refine Ret.calls (rhit_s (p := m) (r := x) (hS.bring (by repeat (first | exact t0 | apply tS))) hsa HOX0.out) ?_); clear hS; rintro r1 w hS; rw [HRM.out] at hS)
            )
          refine wp_region_ord (by kernel_rfl) [78, 87, 96, 105, 111, 115, 122, 126] [[0, 1, 2, 3, 4, 6, 7, 8, 9, 5, 10, 11, 12, 13, 15, 16, 17, 18, 14, 19, 20, 21, 22, 24, 25, 26, 27, 23, 28, 29, 30, 31, 33, 34, 35, 36, 32, 37, 38, 39, 40, 41, 42, 44, 45, 46, 43, 47, 48, 49, 50, 51, 52, 53, 55, 56, 57, 54, 58, 59, 60]] (by kernel_rfl) (by kernel_rfl) (fun w' => Blk w' m 52 (rrC sa x2) ∧ Blk w' n8 38 (aC (u, a))) (Up.and Up.blk Up.blk) ⟨((hS.bring (by repeat (first | exact t0 | apply tS))).getBlk), ((hS.bring (by repeat (first | exact t0 | apply tS))).getBlk)⟩ (by repeat (first | exact Clean.body | refine Clean.then ?_ | refine Clean.inBlock ?_ | refine SegQ.clean ?_ | refine FinC.clean ?_)) ?_
          replace hS := hS.drew
          refine ord_seg (by repeat (first | exact Clean.body | refine Clean.then ?_ | refine Clean.inBlock ?_ | refine SegQ.clean ?_ | refine FinC.clean ?_)) (n := 51) (rest := [[10, 11, 12, 13, 15, 16, 17, 18, 14, 19, 20, 21, 22, 24, 25, 26, 27, 23, 28, 29, 30, 31, 33, 34, 35, 36, 32, 37, 38, 39, 40, 41, 42, 44, 45, 46, 43, 47, 48, 49, 50, 51, 52, 53, 55, 56, 57, 54, 58, 59, 60]]) [0, 1, 2, 3, 4, 6, 7, 8, 9, 5] [⟨_, _, _, _, _, _⟩, ⟨_, _, _, _, _, _⟩, ⟨_, _, _, _, _, _⟩, ⟨_, _, _, _, _, _⟩, ⟨_, _, _, _, _, _⟩, ⟨_, _, _, _, _, _⟩, ⟨_, _, _, _, _, _⟩, ⟨_, _, _, _, _, _⟩, ⟨_, _, _, _, _, _⟩, ⟨_, _, _, _, _, _⟩] rfl (by kernel_rfl) (by simp) _ _ ?_
          go_wp2_with (first
            | go_big_skip
            | (show wpList _ _ _ (⟨_, .binOp .neq 4 _ _ _, _, _, _, _⟩ :: _) _ _; refine wpList_val rfl (op_neBool rfl rfl rfl) ?_; go_frame)
            | (go_at_call 25; (refine Ret.calls (stems_s (p := p) (sa := sa) (r := x2) (hS.bring (by repeat (first | exact t0 | apply tS))) hsa) ?_); clear hS; rintro r1 w ⟨rfl, hS⟩)
            | (go_at_call 26; (refine Ret.calls (epoch_s (p := p) (sa := sa) (r := x2) (hS.bring (by repeat (first | exact t0 | apply tS))) hsa) ?_); clear hS; rintro r1 w ⟨rfl, hS⟩)
            | (go_at_call 27; (refine Ret.calls (end_s (p := p) (sa := sa) (r := x2) (hS.bring (by repeat (first | exact t0 | apply tS))) hsa) ?_); clear hS; rintro r1 w ⟨rfl, hS⟩)
            | (go_at_call 13; (refine Ret.calls (succ_s (p := p) (sa := sa) (r := x2) (hS.bring (by repeat (first | exact t0 | apply tS))) hsa) ?_); clear hS; rintro r1 w ⟨rfl, hS⟩)
            | (show wpList _ _ _ (⟨some 79, .load _ _, _, _, _, _⟩ :: _) _ _; refine wpList_val rfl (op_load1S (b := m) (T := 52) oneBool ((hS.bring (by repeat (first | exact t0 | apply tS)))) rfl rfl G2.out) ?_; go_frame)
            | (show wpList _ _ _ (⟨some 88, .load _ _, _, _, _, _⟩ :: _) _ _; refine wpList_val rfl (op_load1S (b := m) (T := 52) oneU64 ((hS.bring (by repeat (first | exact t0 | apply tS)))) rfl rfl G0.out) ?_; go_frame)
            | (show wpList _ _ _ (⟨some 97, .load _ _, _, _, _, _⟩ :: _) _ _; refine wpList_val rfl (op_load1S (b := m) (T := 52) oneU64 ((hS.bring (by repeat (first | exact t0 | apply tS)))) rfl rfl G1.out) ?_; go_frame)
            | (show wpList _ _ _ (⟨some 106, .load _ _, _, _, _, _⟩ :: _) _ _; refine wpList_val rfl (op_load agg2 rfl rfl ((SepL.getBlk (b := m) (T := 52) ((hS.bring (by repeat (first | exact t0 | apply tS))))).cells.subN 35 2 G3.out) rfl) ?_; go_frame)
            | (show wpList _ _ _ (⟨_, .binOp .neq 33 _ _ _, _, _, _, _⟩ :: _) _ _; (first | refine wpList_val rfl (opU_neq rfl (a := x2.epoch) (b := x2.epoch) rfl rfl NE.out) ?_ | refine wpList_val rfl (opU_neq rfl (a := x2.fin) (b := x2.fin) rfl rfl NF.out) ?_); go_frame)
            )
          refine segQ_mk (⟨((hS.bring (by repeat (first | exact t0 | apply tS))).getBlk), ((hS.bring (by repeat (first | exact t0 | apply tS))).getBlk)⟩ : Blk _ m 52 (rrC sa x2) ∧ Blk _ n8 38 (aC (u, a))) ?_
          refine ord_seg (by repeat (first | exact Clean.body | refine Clean.then ?_ | refine Clean.inBlock ?_ | refine SegQ.clean ?_ | refine FinC.clean ?_)) (n := 42) (rest := [[19, 20, 21, 22, 24, 25, 26, 27, 23, 28, 29, 30, 31, 33, 34, 35, 36, 32, 37, 38, 39, 40, 41, 42, 44, 45, 46, 43, 47, 48, 49, 50, 51, 52, 53, 55, 56, 57, 54, 58, 59, 60]]) [10, 11, 12, 13, 15, 16, 17, 18, 14] [⟨_, _, _, _, _, _⟩, ⟨_, _, _, _, _, _⟩, ⟨_, _, _, _, _, _⟩, ⟨_, _, _, _, _, _⟩, ⟨_, _, _, _, _, _⟩, ⟨_, _, _, _, _, _⟩, ⟨_, _, _, _, _, _⟩, ⟨_, _, _, _, _, _⟩, ⟨_, _, _, _, _, _⟩] rfl (by kernel_rfl) (by simp) _ _ ?_
          go_wp2_with (first
            | go_big_skip
            | (show wpList _ _ _ (⟨_, .binOp .neq 4 _ _ _, _, _, _, _⟩ :: _) _ _; refine wpList_val rfl (op_neBool rfl rfl rfl) ?_; go_frame)
            | (go_at_call 25; (refine Ret.calls (stems_s (p := p) (sa := sa) (r := x2) (hS.bring (by repeat (first | exact t0 | apply tS))) hsa) ?_); clear hS; rintro r1 w ⟨rfl, hS⟩)
            | (go_at_call 26; (refine Ret.calls (epoch_s (p := p) (sa := sa) (r := x2) (hS.bring (by repeat (first | exact t0 | apply tS))) hsa) ?_); clear hS; rintro r1 w ⟨rfl, hS⟩)
            | (go_at_call 27; (refine Ret.calls (end_s (p := p) (sa := sa) (r := x2) (hS.bring (by repeat (first | exact t0 | apply tS))) hsa) ?_); clear hS; rintro r1 w ⟨rfl, hS⟩)
            | (go_at_call 13; (refine Ret.calls (succ_s (p := p) (sa := sa) (r := x2) (hS.bring (by repeat (first | exact t0 | apply tS))) hsa) ?_); clear hS; rintro r1 w ⟨rfl, hS⟩)
            | (show wpList _ _ _ (⟨some 79, .load _ _, _, _, _, _⟩ :: _) _ _; refine wpList_val rfl (op_load1S (b := m) (T := 52) oneBool ((hS.bring (by repeat (first | exact t0 | apply tS)))) rfl rfl G2.out) ?_; go_frame)
            | (show wpList _ _ _ (⟨some 88, .load _ _, _, _, _, _⟩ :: _) _ _; refine wpList_val rfl (op_load1S (b := m) (T := 52) oneU64 ((hS.bring (by repeat (first | exact t0 | apply tS)))) rfl rfl G0.out) ?_; go_frame)
            | (show wpList _ _ _ (⟨some 97, .load _ _, _, _, _, _⟩ :: _) _ _; refine wpList_val rfl (op_load1S (b := m) (T := 52) oneU64 ((hS.bring (by repeat (first | exact t0 | apply tS)))) rfl rfl G1.out) ?_; go_frame)
            | (show wpList _ _ _ (⟨some 106, .load _ _, _, _, _, _⟩ :: _) _ _; refine wpList_val rfl (op_load agg2 rfl rfl ((SepL.getBlk (b := m) (T := 52) ((hS.bring (by repeat (first | exact t0 | apply tS))))).cells.subN 35 2 G3.out) rfl) ?_; go_frame)
            | (show wpList _ _ _ (⟨_, .binOp .neq 33 _ _ _, _, _, _, _⟩ :: _) _ _; (first | refine wpList_val rfl (opU_neq rfl (a := x2.epoch) (b := x2.epoch) rfl rfl NE.out) ?_ | refine wpList_val rfl (opU_neq rfl (a := x2.fin) (b := x2.fin) rfl rfl NF.out) ?_); go_frame)
            )
          refine segQ_mk (⟨((hS.bring (by repeat (first | exact t0 | apply tS))).getBlk), ((hS.bring (by repeat (first | exact t0 | apply tS))).getBlk)⟩ : Blk _ m 52 (rrC sa x2) ∧ Blk _ n8 38 (aC (u, a))) ?_
          refine ord_seg (by repeat (first | exact Clean.body | refine Clean.then ?_ | refine Clean.inBlock ?_ | refine SegQ.clean ?_ | refine FinC.clean ?_)) (n := 33) (rest := [[28, 29, 30, 31, 33, 34, 35, 36, 32, 37, 38, 39, 40, 41, 42, 44, 45, 46, 43, 47, 48, 49, 50, 51, 52, 53, 55, 56, 57, 54, 58, 59, 60]]) [19, 20, 21, 22, 24, 25, 26, 27, 23] [⟨_, _, _, _, _, _⟩, ⟨_, _, _, _, _, _⟩, ⟨_, _, _, _, _, _⟩, ⟨_, _, _, _, _, _⟩, ⟨_, _, _, _, _, _⟩, ⟨_, _, _, _, _, _⟩, ⟨_, _, _, _, _, _⟩, ⟨_, _, _, _, _, _⟩, ⟨_, _, _, _, _, _⟩] rfl (by kernel_rfl) (by simp) _ _ ?_
          go_wp2_with (first
            | go_big_skip
            | (show wpList _ _ _ (⟨_, .binOp .neq 4 _ _ _, _, _, _, _⟩ :: _) _ _; refine wpList_val rfl (op_neBool rfl rfl rfl) ?_; go_frame)
            | (go_at_call 25; (refine Ret.calls (stems_s (p := p) (sa := sa) (r := x2) (hS.bring (by repeat (first | exact t0 | apply tS))) hsa) ?_); clear hS; rintro r1 w ⟨rfl, hS⟩)
            | (go_at_call 26; (refine Ret.calls (epoch_s (p := p) (sa := sa) (r := x2) (hS.bring (by repeat (first | exact t0 | apply tS))) hsa) ?_); clear hS; rintro r1 w ⟨rfl, hS⟩)
            | (go_at_call 27; (refine Ret.calls (end_s (p := p) (sa := sa) (r := x2) (hS.bring (by repeat (first | exact t0 | apply tS))) hsa) ?_); clear hS; rintro r1 w ⟨rfl, hS⟩)
            | (go_at_call 13; (refine Ret.calls (succ_s (p := p) (sa := sa) (r := x2) (hS.bring (by repeat (first | exact t0 | apply tS))) hsa) ?_); clear hS; rintro r1 w ⟨rfl, hS⟩)
            | (show wpList _ _ _ (⟨some 79, .load _ _, _, _, _, _⟩ :: _) _ _; refine wpList_val rfl (op_load1S (b := m) (T := 52) oneBool ((hS.bring (by repeat (first | exact t0 | apply tS)))) rfl rfl G2.out) ?_; go_frame)
            | (show wpList _ _ _ (⟨some 88, .load _ _, _, _, _, _⟩ :: _) _ _; refine wpList_val rfl (op_load1S (b := m) (T := 52) oneU64 ((hS.bring (by repeat (first | exact t0 | apply tS)))) rfl rfl G0.out) ?_; go_frame)
            | (show wpList _ _ _ (⟨some 97, .load _ _, _, _, _, _⟩ :: _) _ _; refine wpList_val rfl (op_load1S (b := m) (T := 52) oneU64 ((hS.bring (by repeat (first | exact t0 | apply tS)))) rfl rfl G1.out) ?_; go_frame)
            | (show wpList _ _ _ (⟨some 106, .load _ _, _, _, _, _⟩ :: _) _ _; refine wpList_val rfl (op_load agg2 rfl rfl ((SepL.getBlk (b := m) (T := 52) ((hS.bring (by repeat (first | exact t0 | apply tS))))).cells.subN 35 2 G3.out) rfl) ?_; go_frame)
            | (show wpList _ _ _ (⟨_, .binOp .neq 33 _ _ _, _, _, _, _⟩ :: _) _ _; (first | refine wpList_val rfl (opU_neq rfl (a := x2.epoch) (b := x2.epoch) rfl rfl NE.out) ?_ | refine wpList_val rfl (opU_neq rfl (a := x2.fin) (b := x2.fin) rfl rfl NF.out) ?_); go_frame)
            )
          refine segQ_mk (⟨((hS.bring (by repeat (first | exact t0 | apply tS))).getBlk), ((hS.bring (by repeat (first | exact t0 | apply tS))).getBlk)⟩ : Blk _ m 52 (rrC sa x2) ∧ Blk _ n8 38 (aC (u, a))) ?_
          refine ord_seg (by repeat (first | exact Clean.body | refine Clean.then ?_ | refine Clean.inBlock ?_ | refine SegQ.clean ?_ | refine FinC.clean ?_)) (n := 24) (rest := [[37, 38, 39, 40, 41, 42, 44, 45, 46, 43, 47, 48, 49, 50, 51, 52, 53, 55, 56, 57, 54, 58, 59, 60]]) [28, 29, 30, 31, 33, 34, 35, 36, 32] [⟨_, _, _, _, _, _⟩, ⟨_, _, _, _, _, _⟩, ⟨_, _, _, _, _, _⟩, ⟨_, _, _, _, _, _⟩, ⟨_, _, _, _, _, _⟩, ⟨_, _, _, _, _, _⟩, ⟨_, _, _, _, _, _⟩, ⟨_, _, _, _, _, _⟩, ⟨_, _, _, _, _, _⟩] rfl (by kernel_rfl) (by simp) _ _ ?_
          go_wp2_with (first
            | go_big_skip
            | (show wpList _ _ _ (⟨_, .binOp .neq 4 _ _ _, _, _, _, _⟩ :: _) _ _; refine wpList_val rfl (op_neBool rfl rfl rfl) ?_; go_frame)
            | (go_at_call 25; (refine Ret.calls (stems_s (p := p) (sa := sa) (r := x2) (hS.bring (by repeat (first | exact t0 | apply tS))) hsa) ?_); clear hS; rintro r1 w ⟨rfl, hS⟩)
            | (go_at_call 26; (refine Ret.calls (epoch_s (p := p) (sa := sa) (r := x2) (hS.bring (by repeat (first | exact t0 | apply tS))) hsa) ?_); clear hS; rintro r1 w ⟨rfl, hS⟩)
            | (go_at_call 27; (refine Ret.calls (end_s (p := p) (sa := sa) (r := x2) (hS.bring (by repeat (first | exact t0 | apply tS))) hsa) ?_); clear hS; rintro r1 w ⟨rfl, hS⟩)
            | (go_at_call 13; (refine Ret.calls (succ_s (p := p) (sa := sa) (r := x2) (hS.bring (by repeat (first | exact t0 | apply tS))) hsa) ?_); clear hS; rintro r1 w ⟨rfl, hS⟩)
            | (show wpList _ _ _ (⟨some 79, .load _ _, _, _, _, _⟩ :: _) _ _; refine wpList_val rfl (op_load1S (b := m) (T := 52) oneBool ((hS.bring (by repeat (first | exact t0 | apply tS)))) rfl rfl G2.out) ?_; go_frame)
            | (show wpList _ _ _ (⟨some 88, .load _ _, _, _, _, _⟩ :: _) _ _; refine wpList_val rfl (op_load1S (b := m) (T := 52) oneU64 ((hS.bring (by repeat (first | exact t0 | apply tS)))) rfl rfl G0.out) ?_; go_frame)
            | (show wpList _ _ _ (⟨some 97, .load _ _, _, _, _, _⟩ :: _) _ _; refine wpList_val rfl (op_load1S (b := m) (T := 52) oneU64 ((hS.bring (by repeat (first | exact t0 | apply tS)))) rfl rfl G1.out) ?_; go_frame)
            | (show wpList _ _ _ (⟨some 106, .load _ _, _, _, _, _⟩ :: _) _ _; refine wpList_val rfl (op_load agg2 rfl rfl ((SepL.getBlk (b := m) (T := 52) ((hS.bring (by repeat (first | exact t0 | apply tS))))).cells.subN 35 2 G3.out) rfl) ?_; go_frame)
            | (show wpList _ _ _ (⟨_, .binOp .neq 33 _ _ _, _, _, _, _⟩ :: _) _ _; (first | refine wpList_val rfl (opU_neq rfl (a := x2.epoch) (b := x2.epoch) rfl rfl NE.out) ?_ | refine wpList_val rfl (opU_neq rfl (a := x2.fin) (b := x2.fin) rfl rfl NF.out) ?_); go_frame)
            )
          refine segQ_mk (⟨((hS.bring (by repeat (first | exact t0 | apply tS))).getBlk), ((hS.bring (by repeat (first | exact t0 | apply tS))).getBlk)⟩ : Blk _ m 52 (rrC sa x2) ∧ Blk _ n8 38 (aC (u, a))) ?_
          refine ord_seg (by repeat (first | exact Clean.body | refine Clean.then ?_ | refine Clean.inBlock ?_ | refine SegQ.clean ?_ | refine FinC.clean ?_)) (n := 23) (rest := [[38, 39, 40, 41, 42, 44, 45, 46, 43, 47, 48, 49, 50, 51, 52, 53, 55, 56, 57, 54, 58, 59, 60]]) [37] [⟨_, _, _, _, _, _⟩] rfl (by kernel_rfl) (by simp) _ _ ?_
          go_wp2_with (first
            | go_big_skip
            | (go_at_call 28; (refine Ret.calls (misses_s (MM := 3) (p := p) (sa := sa) (r := x2) (s := a.source) (hS.bring (by repeat (first | exact t0 | apply tS))) hsa HOX.out) ?_); clear hS; rintro r1 w ⟨rfl, hS⟩)
            | (go_at_call 14; (refine Ret.calls (way_s (p := p) (sa := sa) (r := x2) (s := a.source) (hS.bring (by repeat (first | exact t0 | apply tS))) hK hF hsa HOX.out) ?_); clear hS; rintro r1 w ⟨rfl, hS⟩)
            | (go_at_call 29; (refine Ret.calls (missed_s (p := m) (sa := sa) (r := x2) (s := a.source) (hS.bring (by repeat (first | exact t0 | apply tS))) hsa HOX.out) ?_); clear hS; rintro r1 w ⟨rfl, hS⟩)
            | (go_at_call 30; (refine Ret.calls (rway_s (p := m) (sa := sa) (r := x2) (s := a.source) (hS.bring (by repeat (first | exact t0 | apply tS))) hsa HOX.out) ?_); clear hS; rintro r1 w ⟨rfl, hS⟩)
            | (show wpList _ _ _ (⟨_, .load 3 _, _, _, _, _⟩ :: _) _ _; refine wpList_val rfl (op_load1S (b := n8) (T := 38) oneInt ((hS.bring (by repeat (first | exact t0 | apply tS)))) rfl rfl rfl) ?_; go_frame)
            | (show wpList _ _ _ (⟨_, .binOp .neq 29 _ _ _, _, _, _, _⟩ :: _) _ _; refine wpList_val rfl (op_neP rfl rfl rfl NS.out) ?_; go_frame)
            | (show wpList _ _ _ (⟨some 118, .binOp _ _ _ _ _, _, _, _, _⟩ :: _) _ _; refine wpList_val rfl (op_ineI rfl rfl rfl NM.out) ?_; go_frame)
            | (show wpList _ _ _ (⟨some 129, .binOp _ _ _ _ _, _, _, _, _⟩ :: _) _ _; refine wpList_val rfl (op_ineI rfl rfl rfl NW.out) ?_; go_frame)
            )
          refine segQ_mk (⟨((hS.bring (by repeat (first | exact t0 | apply tS))).getBlk), ((hS.bring (by repeat (first | exact t0 | apply tS))).getBlk)⟩ : Blk _ m 52 (rrC sa x2) ∧ Blk _ n8 38 (aC (u, a))) ?_
          refine ord_seg (by repeat (first | exact Clean.body | refine Clean.then ?_ | refine Clean.inBlock ?_ | refine SegQ.clean ?_ | refine FinC.clean ?_)) (n := 14) (rest := [[47, 48, 49, 50, 51, 52, 53, 55, 56, 57, 54, 58, 59, 60]]) [38, 39, 40, 41, 42, 44, 45, 46, 43] [⟨_, _, _, _, _, _⟩, ⟨_, _, _, _, _, _⟩, ⟨_, _, _, _, _, _⟩, ⟨_, _, _, _, _, _⟩, ⟨_, _, _, _, _, _⟩, ⟨_, _, _, _, _, _⟩, ⟨_, _, _, _, _, _⟩, ⟨_, _, _, _, _, _⟩, ⟨_, _, _, _, _, _⟩] rfl (by kernel_rfl) (by simp) _ _ ?_
          go_wp2_with (first
            | go_big_skip
            | (go_at_call 28; (refine Ret.calls (misses_s (MM := 3) (p := p) (sa := sa) (r := x2) (s := a.source) (hS.bring (by repeat (first | exact t0 | apply tS))) hsa HOX.out) ?_); clear hS; rintro r1 w ⟨rfl, hS⟩)
            | (go_at_call 14; (refine Ret.calls (way_s (p := p) (sa := sa) (r := x2) (s := a.source) (hS.bring (by repeat (first | exact t0 | apply tS))) hK hF hsa HOX.out) ?_); clear hS; rintro r1 w ⟨rfl, hS⟩)
            | (go_at_call 29; (refine Ret.calls (missed_s (p := m) (sa := sa) (r := x2) (s := a.source) (hS.bring (by repeat (first | exact t0 | apply tS))) hsa HOX.out) ?_); clear hS; rintro r1 w ⟨rfl, hS⟩)
            | (go_at_call 30; (refine Ret.calls (rway_s (p := m) (sa := sa) (r := x2) (s := a.source) (hS.bring (by repeat (first | exact t0 | apply tS))) hsa HOX.out) ?_); clear hS; rintro r1 w ⟨rfl, hS⟩)
            | (show wpList _ _ _ (⟨_, .load 3 _, _, _, _, _⟩ :: _) _ _; refine wpList_val rfl (op_load1S (b := n8) (T := 38) oneInt ((hS.bring (by repeat (first | exact t0 | apply tS)))) rfl rfl rfl) ?_; go_frame)
            | (show wpList _ _ _ (⟨_, .binOp .neq 29 _ _ _, _, _, _, _⟩ :: _) _ _; refine wpList_val rfl (op_neP rfl rfl rfl NS.out) ?_; go_frame)
            | (show wpList _ _ _ (⟨some 118, .binOp _ _ _ _ _, _, _, _, _⟩ :: _) _ _; refine wpList_val rfl (op_ineI rfl rfl rfl NM.out) ?_; go_frame)
            | (show wpList _ _ _ (⟨some 129, .binOp _ _ _ _ _, _, _, _, _⟩ :: _) _ _; refine wpList_val rfl (op_ineI rfl rfl rfl NW.out) ?_; go_frame)
            )
          refine segQ_mk (⟨((hS.bring (by repeat (first | exact t0 | apply tS))).getBlk), ((hS.bring (by repeat (first | exact t0 | apply tS))).getBlk)⟩ : Blk _ m 52 (rrC sa x2) ∧ Blk _ n8 38 (aC (u, a))) ?_
          refine ord_seg (by repeat (first | exact Clean.body | refine Clean.then ?_ | refine Clean.inBlock ?_ | refine SegQ.clean ?_ | refine FinC.clean ?_)) (n := 13) (rest := [[48, 49, 50, 51, 52, 53, 55, 56, 57, 54, 58, 59, 60]]) [47] [⟨_, _, _, _, _, _⟩] rfl (by kernel_rfl) (by simp) _ _ ?_
          go_wp2_with (first
            | go_big_skip
            | (go_at_call 28; (refine Ret.calls (misses_s (MM := 3) (p := p) (sa := sa) (r := x2) (s := a.source) (hS.bring (by repeat (first | exact t0 | apply tS))) hsa HOX.out) ?_); clear hS; rintro r1 w ⟨rfl, hS⟩)
            | (go_at_call 14; (refine Ret.calls (way_s (p := p) (sa := sa) (r := x2) (s := a.source) (hS.bring (by repeat (first | exact t0 | apply tS))) hK hF hsa HOX.out) ?_); clear hS; rintro r1 w ⟨rfl, hS⟩)
            | (go_at_call 29; (refine Ret.calls (missed_s (p := m) (sa := sa) (r := x2) (s := a.source) (hS.bring (by repeat (first | exact t0 | apply tS))) hsa HOX.out) ?_); clear hS; rintro r1 w ⟨rfl, hS⟩)
            | (go_at_call 30; (refine Ret.calls (rway_s (p := m) (sa := sa) (r := x2) (s := a.source) (hS.bring (by repeat (first | exact t0 | apply tS))) hsa HOX.out) ?_); clear hS; rintro r1 w ⟨rfl, hS⟩)
            | (show wpList _ _ _ (⟨_, .load 3 _, _, _, _, _⟩ :: _) _ _; refine wpList_val rfl (op_load1S (b := n8) (T := 38) oneInt ((hS.bring (by repeat (first | exact t0 | apply tS)))) rfl rfl rfl) ?_; go_frame)
            | (show wpList _ _ _ (⟨_, .binOp .neq 29 _ _ _, _, _, _, _⟩ :: _) _ _; refine wpList_val rfl (op_neP rfl rfl rfl NS.out) ?_; go_frame)
            | (show wpList _ _ _ (⟨some 118, .binOp _ _ _ _ _, _, _, _, _⟩ :: _) _ _; refine wpList_val rfl (op_ineI rfl rfl rfl NM.out) ?_; go_frame)
            | (show wpList _ _ _ (⟨some 129, .binOp _ _ _ _ _, _, _, _, _⟩ :: _) _ _; refine wpList_val rfl (op_ineI rfl rfl rfl NW.out) ?_; go_frame)
            )
          refine segQ_mk (⟨((hS.bring (by repeat (first | exact t0 | apply tS))).getBlk), ((hS.bring (by repeat (first | exact t0 | apply tS))).getBlk)⟩ : Blk _ m 52 (rrC sa x2) ∧ Blk _ n8 38 (aC (u, a))) ?_
          refine ord_seg (by repeat (first | exact Clean.body | refine Clean.then ?_ | refine Clean.inBlock ?_ | refine SegQ.clean ?_ | refine FinC.clean ?_)) (n := 3) (rest := [[58, 59, 60]]) [48, 49, 50, 51, 52, 53, 55, 56, 57, 54] [⟨_, _, _, _, _, _⟩, ⟨_, _, _, _, _, _⟩, ⟨_, _, _, _, _, _⟩, ⟨_, _, _, _, _, _⟩, ⟨_, _, _, _, _, _⟩, ⟨_, _, _, _, _, _⟩, ⟨_, _, _, _, _, _⟩, ⟨_, _, _, _, _, _⟩, ⟨_, _, _, _, _, _⟩, ⟨_, _, _, _, _, _⟩] rfl (by kernel_rfl) (by simp) _ _ ?_
          go_wp2_with (first
            | go_big_skip
            | (go_at_call 28; (refine Ret.calls (misses_s (MM := 3) (p := p) (sa := sa) (r := x2) (s := a.source) (hS.bring (by repeat (first | exact t0 | apply tS))) hsa HOX.out) ?_); clear hS; rintro r1 w ⟨rfl, hS⟩)
            | (go_at_call 14; (refine Ret.calls (way_s (p := p) (sa := sa) (r := x2) (s := a.source) (hS.bring (by repeat (first | exact t0 | apply tS))) hK hF hsa HOX.out) ?_); clear hS; rintro r1 w ⟨rfl, hS⟩)
            | (go_at_call 29; (refine Ret.calls (missed_s (p := m) (sa := sa) (r := x2) (s := a.source) (hS.bring (by repeat (first | exact t0 | apply tS))) hsa HOX.out) ?_); clear hS; rintro r1 w ⟨rfl, hS⟩)
            | (go_at_call 30; (refine Ret.calls (rway_s (p := m) (sa := sa) (r := x2) (s := a.source) (hS.bring (by repeat (first | exact t0 | apply tS))) hsa HOX.out) ?_); clear hS; rintro r1 w ⟨rfl, hS⟩)
            | (show wpList _ _ _ (⟨_, .load 3 _, _, _, _, _⟩ :: _) _ _; refine wpList_val rfl (op_load1S (b := n8) (T := 38) oneInt ((hS.bring (by repeat (first | exact t0 | apply tS)))) rfl rfl rfl) ?_; go_frame)
            | (show wpList _ _ _ (⟨_, .binOp .neq 29 _ _ _, _, _, _, _⟩ :: _) _ _; refine wpList_val rfl (op_neP rfl rfl rfl NS.out) ?_; go_frame)
            | (show wpList _ _ _ (⟨some 118, .binOp _ _ _ _ _, _, _, _, _⟩ :: _) _ _; refine wpList_val rfl (op_ineI rfl rfl rfl NM.out) ?_; go_frame)
            | (show wpList _ _ _ (⟨some 129, .binOp _ _ _ _ _, _, _, _, _⟩ :: _) _ _; refine wpList_val rfl (op_ineI rfl rfl rfl NW.out) ?_; go_frame)
            )
          refine segQ_mk (⟨((hS.bring (by repeat (first | exact t0 | apply tS))).getBlk), ((hS.bring (by repeat (first | exact t0 | apply tS))).getBlk)⟩ : Blk _ m 52 (rrC sa x2) ∧ Blk _ n8 38 (aC (u, a))) ?_
          refine ord_seg (by repeat (first | exact Clean.body | refine Clean.then ?_ | refine Clean.inBlock ?_ | refine SegQ.clean ?_ | refine FinC.clean ?_)) (n := 2) (rest := [[59, 60]]) [58] [⟨_, _, _, _, _, _⟩] rfl (by kernel_rfl) (by simp) _ _ ?_
          go_wp2_with (first
            | go_big_skip
            | (go_at_call 28; (refine Ret.calls (misses_s (MM := 3) (p := p) (sa := sa) (r := x2) (s := a.source) (hS.bring (by repeat (first | exact t0 | apply tS))) hsa HOX.out) ?_); clear hS; rintro r1 w ⟨rfl, hS⟩)
            | (go_at_call 14; (refine Ret.calls (way_s (p := p) (sa := sa) (r := x2) (s := a.source) (hS.bring (by repeat (first | exact t0 | apply tS))) hK hF hsa HOX.out) ?_); clear hS; rintro r1 w ⟨rfl, hS⟩)
            | (go_at_call 29; (refine Ret.calls (missed_s (p := m) (sa := sa) (r := x2) (s := a.source) (hS.bring (by repeat (first | exact t0 | apply tS))) hsa HOX.out) ?_); clear hS; rintro r1 w ⟨rfl, hS⟩)
            | (go_at_call 30; (refine Ret.calls (rway_s (p := m) (sa := sa) (r := x2) (s := a.source) (hS.bring (by repeat (first | exact t0 | apply tS))) hsa HOX.out) ?_); clear hS; rintro r1 w ⟨rfl, hS⟩)
            | (show wpList _ _ _ (⟨_, .load 3 _, _, _, _, _⟩ :: _) _ _; refine wpList_val rfl (op_load1S (b := n8) (T := 38) oneInt ((hS.bring (by repeat (first | exact t0 | apply tS)))) rfl rfl rfl) ?_; go_frame)
            | (show wpList _ _ _ (⟨_, .binOp .neq 29 _ _ _, _, _, _, _⟩ :: _) _ _; refine wpList_val rfl (op_neP rfl rfl rfl NS.out) ?_; go_frame)
            | (show wpList _ _ _ (⟨some 118, .binOp _ _ _ _ _, _, _, _, _⟩ :: _) _ _; refine wpList_val rfl (op_ineI rfl rfl rfl NM.out) ?_; go_frame)
            | (show wpList _ _ _ (⟨some 129, .binOp _ _ _ _ _, _, _, _, _⟩ :: _) _ _; refine wpList_val rfl (op_ineI rfl rfl rfl NW.out) ?_; go_frame)
            )
          refine segQ_mk (⟨((hS.bring (by repeat (first | exact t0 | apply tS))).getBlk), ((hS.bring (by repeat (first | exact t0 | apply tS))).getBlk)⟩ : Blk _ m 52 (rrC sa x2) ∧ Blk _ n8 38 (aC (u, a))) ?_
          refine ord_seg (by repeat (first | exact Clean.body | refine Clean.then ?_ | refine Clean.inBlock ?_ | refine SegQ.clean ?_ | refine FinC.clean ?_)) (n := 0) (rest := [[]]) [59, 60] [⟨_, _, _, _, _, _⟩, ⟨_, _, _, _, _, _⟩] rfl (by kernel_rfl) (by simp) _ _ ?_
          go_wp2_with (first
            | go_big_skip
            | (go_at_call 28; (refine Ret.calls (misses_s (MM := 3) (p := p) (sa := sa) (r := x2) (s := a.source) (hS.bring (by repeat (first | exact t0 | apply tS))) hsa HOX.out) ?_); clear hS; rintro r1 w ⟨rfl, hS⟩)
            | (go_at_call 14; (refine Ret.calls (way_s (p := p) (sa := sa) (r := x2) (s := a.source) (hS.bring (by repeat (first | exact t0 | apply tS))) hK hF hsa HOX.out) ?_); clear hS; rintro r1 w ⟨rfl, hS⟩)
            | (go_at_call 29; (refine Ret.calls (missed_s (p := m) (sa := sa) (r := x2) (s := a.source) (hS.bring (by repeat (first | exact t0 | apply tS))) hsa HOX.out) ?_); clear hS; rintro r1 w ⟨rfl, hS⟩)
            | (go_at_call 30; (refine Ret.calls (rway_s (p := m) (sa := sa) (r := x2) (s := a.source) (hS.bring (by repeat (first | exact t0 | apply tS))) hsa HOX.out) ?_); clear hS; rintro r1 w ⟨rfl, hS⟩)
            | (show wpList _ _ _ (⟨_, .load 3 _, _, _, _, _⟩ :: _) _ _; refine wpList_val rfl (op_load1S (b := n8) (T := 38) oneInt ((hS.bring (by repeat (first | exact t0 | apply tS)))) rfl rfl rfl) ?_; go_frame)
            | (show wpList _ _ _ (⟨_, .binOp .neq 29 _ _ _, _, _, _, _⟩ :: _) _ _; refine wpList_val rfl (op_neP rfl rfl rfl NS.out) ?_; go_frame)
            | (show wpList _ _ _ (⟨some 118, .binOp _ _ _ _ _, _, _, _, _⟩ :: _) _ _; refine wpList_val rfl (op_ineI rfl rfl rfl NM.out) ?_; go_frame)
            | (show wpList _ _ _ (⟨some 129, .binOp _ _ _ _ _, _, _, _, _⟩ :: _) _ _; refine wpList_val rfl (op_ineI rfl rfl rfl NW.out) ?_; go_frame)
            )
          refine segQ_mk (⟨((hS.bring (by repeat (first | exact t0 | apply tS))).getBlk), ((hS.bring (by repeat (first | exact t0 | apply tS))).getBlk)⟩ : Blk _ m 52 (rrC sa x2) ∧ Blk _ n8 38 (aC (u, a))) ?_
          refine finC_mk (by kernel_rfl) (by
            intro t ht
            simp only [List.mem_cons, List.not_mem_nil, or_false] at ht
            rcases ht with rfl | rfl | rfl | rfl | rfl | rfl | rfl | rfl <;> first | exact stab_blk (b := m) (fun w h => h.1) _ none | exact stab_blk (b := n8) (fun w h => h.2) _ none) ?_
          go_wp2_with fail
          go_roundw
          case rel =>
            refine ⟨k + 1, by go_num, by omega, ?_⟩
            rw [HSN.out]
            exact hS.sel (by repeat (first | exact Sel.refl | refine Sel.take (by repeat (first | exact t0 | apply tS)) ?_ | apply Sel.drop))
          case measure => simp [intOf]; omega
        have HK2 := eqF h2
        rw [if_neg h2, if_neg h3] at hx2
        by_cases h4 : a.kind = 4
        · have HK4 := eqT h4
          rw [if_pos h4] at hx2
          have HRM := hide hx2
          clear h0 h1 h2 h3 h4 hx2
          go_wp2_with (first
            | go_big_skip
            | (show wpList _ _ _ (⟨some 24, .indexAddr _ _ _, _, _, _, _⟩ :: _) _ _; refine wpList_val rfl (op_indexAddr slAct rfl (v := v) (xs := L.map aC) rfl (k := k) rfl (by exact hS.rd hv.rd) hlk) ?_; go_frame)
            | (show wpList _ _ _ (⟨some 25, .load _ _, _, _, _, _⟩ :: _) _ _; refine wpList_val rfl (op_loadE aggAct rfl (v := v) (xs := L.map aC) (k := k) rfl (by exact hS.rd hv.rd) hlk) ?_; rw [HX.out]; go_frame)
            | (show wpList _ _ _ (⟨some 8, .alloc _, _, _, _, _⟩ :: _) _ _; refine wpS_alloc hS rfl rfl Tryd.zeroValue38 (zs := [.int .i64 0, .int .i64 0, .int .i64 0, .int .u64 0, .slice none 0 0, .int .u16 0, .int .u16 0, .int .u16 0]) rfl ?_; clear hS; intro n8 w hS; go_frame)
            | (show wpList _ _ _ (⟨_, .store 38 _ _, _, _, _, _⟩ :: _) _ _; (refine wpS_storeAll (b := n8) aggAct (hS.bring (by repeat (first | exact t0 | apply tS))) rfl rfl rfl (vs := aC (u, a)) rfl rfl HUF.out rfl ?_); clear hS; intro w hS; go_frame)
            | (show wpList _ _ _ (⟨_, .load 38 _, _, _, _, _⟩ :: _) _ _; refine wpList_val rfl (op_load aggAct rfl rfl (SepL.getBlk (b := n8) (T := 38) ((hS.bring (by repeat (first | exact t0 | apply tS))))).cells rfl) ?_; go_frame)
            | (go_at_call 19; (refine Ret.calls (do_s (p := p) (r := x) (u := u) (s := a) (hS.bring (by repeat (first | exact t0 | apply tS))) hsa HOX0.out HUR.out HAO1.out) ?_); clear hS; rintro r1 w ⟨rfl, hS⟩; rw [HX2.out] at hS; rw [HBB.out])
            | (show wpList _ _ _ (⟨_, .load 3 _, _, _, _, _⟩ :: _) _ _; refine wpList_val rfl (op_load1S (b := n8) (T := 38) oneInt ((hS.bring (by repeat (first | exact t0 | apply tS)))) rfl rfl rfl) ?_; go_frame)
            | (show wpList _ _ _ (⟨_, .load 33 _, _, _, _, _⟩ :: _) _ _; refine wpList_val rfl (op_load1S (b := n8) (T := 38) oneU64 ((hS.bring (by repeat (first | exact t0 | apply tS)))) rfl rfl rfl) ?_; go_frame)
            | (show wpList _ _ _ (⟨_, .load 34 _, _, _, _, _⟩ :: _) _ _; refine wpList_val rfl (op_load1S (b := n8) (T := 38) oneInts ((hS.bring (by repeat (first | exact t0 | apply tS)))) rfl rfl rfl) ?_; go_frame)
            | (show wpList _ _ _ (⟨_, .load 36 _, _, _, _, _⟩ :: _) _ _; refine wpList_val rfl (op_load agg3u rfl rfl ((SepL.getBlk (b := n8) (T := 38) ((hS.bring (by repeat (first | exact t0 | apply tS))))).cells.subN 5 3 (ds := [.int .u16 a.d0, .int .u16 a.d1, .int .u16 a.d2]) rfl) rfl) ?_; go_frame)
            | (show wpList _ _ _ (⟨some 55, .indexAddr _ _ _, _, _, _, _⟩ :: _) _ _; refine wpList_val rfl (op_indexArrZ arr3u rfl (b := n8) (off := 5) rfl rfl 0 rfl (by omega)) ?_; go_frame)
            | (show wpList _ _ _ (⟨_, .load 35 _, _, _, _, _⟩ :: _) _ _; refine wpList_val rfl (op_load1S (b := n8) (T := 38) oneU16 ((hS.bring (by repeat (first | exact t0 | apply tS)))) rfl rfl rfl) ?_; go_frame)
            | (show wpList _ _ _ (⟨some 32, .binOp _ _ _ _ _, _, _, _, _⟩ :: _) _ _; refine wpList_val rfl (op_eqI' rfl rfl rfl HK0.out) ?_; go_frame)
            | (show wpList _ _ _ (⟨some 42, .binOp _ _ _ _ _, _, _, _, _⟩ :: _) _ _; refine wpList_val rfl (op_eqI' rfl rfl rfl HK1.out) ?_; go_frame)
            | (show wpList _ _ _ (⟨some 48, .binOp _ _ _ _ _, _, _, _, _⟩ :: _) _ _; refine wpList_val rfl (op_eqI' rfl rfl rfl HK2.out) ?_; go_frame)
            | (show wpList _ _ _ (⟨some 59, .binOp _ _ _ _ _, _, _, _, _⟩ :: _) _ _; refine wpList_val rfl (op_eqI' rfl rfl rfl HK3.out) ?_; go_frame)
            | (show wpList _ _ _ (⟨some 65, .binOp _ _ _ _ _, _, _, _, _⟩ :: _) _ _; refine wpList_val rfl (op_eqI' rfl rfl rfl HK4.out) ?_; go_frame)
            | (go_at_call 20; (refine Ret.calls (rtick_s (p := m) (r := x) (peers := a.peers) (hS.bring (by repeat (first | exact t0 | apply tS))) hsa HOX0.out HUR.out HAO1.out.2 HAO1.out.1.now HAO1.out.1.d1 HAO1.out.1.d2) ?_); clear hS; rintro r1 w ⟨rfl, hS⟩; rw [HRM.out] at hS; rw [HRB.out])
            | (go_at_call 21; (refine Ret.calls (rjoined_s (p := m) (r := x) (hS.bring (by repeat (first | exact t0 | apply tS))) hsa) ?_); clear hS; rintro r1 w hS; rw [HRM.out] at hS)
            | (go_at_call 22; (refine Ret.calls (rleft_s (p := m) (r := x) (peers := a.peers) (hS.bring (by repeat (first | exact t0 | apply tS))) hsa HUR.out HAO1.out.2 HAO1.out.1.d0) ?_); clear hS; rintro r1 w hS; rw [HRM.out] at hS)
            | (go_at_call 23; (refine Ret.calls (rmiss_s (p := m) (r := x) (hS.bring (by repeat (first | exact t0 | apply tS))) hsa HOX0.out) ?_); clear hS; rintro r1 w ⟨rfl, hS⟩; rw [HRM.out] at hS; rw [HRB.out])
            | (go_at_call 24; (refine Ret.calls (rhit_s (p := m) (r := x) (hS.bring (by repeat (first | exact t0 | apply tS))) hsa HOX0.out) ?_); clear hS; rintro r1 w hS; rw [HRM.out] at hS)
            )
          refine wp_region_ord (by kernel_rfl) [78, 87, 96, 105, 111, 115, 122, 126] [[0, 1, 2, 3, 4, 6, 7, 8, 9, 5, 10, 11, 12, 13, 15, 16, 17, 18, 14, 19, 20, 21, 22, 24, 25, 26, 27, 23, 28, 29, 30, 31, 33, 34, 35, 36, 32, 37, 38, 39, 40, 41, 42, 44, 45, 46, 43, 47, 48, 49, 50, 51, 52, 53, 55, 56, 57, 54, 58, 59, 60]] (by kernel_rfl) (by kernel_rfl) (fun w' => Blk w' m 52 (rrC sa x2) ∧ Blk w' n8 38 (aC (u, a))) (Up.and Up.blk Up.blk) ⟨((hS.bring (by repeat (first | exact t0 | apply tS))).getBlk), ((hS.bring (by repeat (first | exact t0 | apply tS))).getBlk)⟩ (by repeat (first | exact Clean.body | refine Clean.then ?_ | refine Clean.inBlock ?_ | refine SegQ.clean ?_ | refine FinC.clean ?_)) ?_
          replace hS := hS.drew
          refine ord_seg (by repeat (first | exact Clean.body | refine Clean.then ?_ | refine Clean.inBlock ?_ | refine SegQ.clean ?_ | refine FinC.clean ?_)) (n := 51) (rest := [[10, 11, 12, 13, 15, 16, 17, 18, 14, 19, 20, 21, 22, 24, 25, 26, 27, 23, 28, 29, 30, 31, 33, 34, 35, 36, 32, 37, 38, 39, 40, 41, 42, 44, 45, 46, 43, 47, 48, 49, 50, 51, 52, 53, 55, 56, 57, 54, 58, 59, 60]]) [0, 1, 2, 3, 4, 6, 7, 8, 9, 5] [⟨_, _, _, _, _, _⟩, ⟨_, _, _, _, _, _⟩, ⟨_, _, _, _, _, _⟩, ⟨_, _, _, _, _, _⟩, ⟨_, _, _, _, _, _⟩, ⟨_, _, _, _, _, _⟩, ⟨_, _, _, _, _, _⟩, ⟨_, _, _, _, _, _⟩, ⟨_, _, _, _, _, _⟩, ⟨_, _, _, _, _, _⟩] rfl (by kernel_rfl) (by simp) _ _ ?_
          go_wp2_with (first
            | go_big_skip
            | (show wpList _ _ _ (⟨_, .binOp .neq 4 _ _ _, _, _, _, _⟩ :: _) _ _; refine wpList_val rfl (op_neBool rfl rfl rfl) ?_; go_frame)
            | (go_at_call 25; (refine Ret.calls (stems_s (p := p) (sa := sa) (r := x2) (hS.bring (by repeat (first | exact t0 | apply tS))) hsa) ?_); clear hS; rintro r1 w ⟨rfl, hS⟩)
            | (go_at_call 26; (refine Ret.calls (epoch_s (p := p) (sa := sa) (r := x2) (hS.bring (by repeat (first | exact t0 | apply tS))) hsa) ?_); clear hS; rintro r1 w ⟨rfl, hS⟩)
            | (go_at_call 27; (refine Ret.calls (end_s (p := p) (sa := sa) (r := x2) (hS.bring (by repeat (first | exact t0 | apply tS))) hsa) ?_); clear hS; rintro r1 w ⟨rfl, hS⟩)
            | (go_at_call 13; (refine Ret.calls (succ_s (p := p) (sa := sa) (r := x2) (hS.bring (by repeat (first | exact t0 | apply tS))) hsa) ?_); clear hS; rintro r1 w ⟨rfl, hS⟩)
            | (show wpList _ _ _ (⟨some 79, .load _ _, _, _, _, _⟩ :: _) _ _; refine wpList_val rfl (op_load1S (b := m) (T := 52) oneBool ((hS.bring (by repeat (first | exact t0 | apply tS)))) rfl rfl G2.out) ?_; go_frame)
            | (show wpList _ _ _ (⟨some 88, .load _ _, _, _, _, _⟩ :: _) _ _; refine wpList_val rfl (op_load1S (b := m) (T := 52) oneU64 ((hS.bring (by repeat (first | exact t0 | apply tS)))) rfl rfl G0.out) ?_; go_frame)
            | (show wpList _ _ _ (⟨some 97, .load _ _, _, _, _, _⟩ :: _) _ _; refine wpList_val rfl (op_load1S (b := m) (T := 52) oneU64 ((hS.bring (by repeat (first | exact t0 | apply tS)))) rfl rfl G1.out) ?_; go_frame)
            | (show wpList _ _ _ (⟨some 106, .load _ _, _, _, _, _⟩ :: _) _ _; refine wpList_val rfl (op_load agg2 rfl rfl ((SepL.getBlk (b := m) (T := 52) ((hS.bring (by repeat (first | exact t0 | apply tS))))).cells.subN 35 2 G3.out) rfl) ?_; go_frame)
            | (show wpList _ _ _ (⟨_, .binOp .neq 33 _ _ _, _, _, _, _⟩ :: _) _ _; (first | refine wpList_val rfl (opU_neq rfl (a := x2.epoch) (b := x2.epoch) rfl rfl NE.out) ?_ | refine wpList_val rfl (opU_neq rfl (a := x2.fin) (b := x2.fin) rfl rfl NF.out) ?_); go_frame)
            )
          refine segQ_mk (⟨((hS.bring (by repeat (first | exact t0 | apply tS))).getBlk), ((hS.bring (by repeat (first | exact t0 | apply tS))).getBlk)⟩ : Blk _ m 52 (rrC sa x2) ∧ Blk _ n8 38 (aC (u, a))) ?_
          refine ord_seg (by repeat (first | exact Clean.body | refine Clean.then ?_ | refine Clean.inBlock ?_ | refine SegQ.clean ?_ | refine FinC.clean ?_)) (n := 42) (rest := [[19, 20, 21, 22, 24, 25, 26, 27, 23, 28, 29, 30, 31, 33, 34, 35, 36, 32, 37, 38, 39, 40, 41, 42, 44, 45, 46, 43, 47, 48, 49, 50, 51, 52, 53, 55, 56, 57, 54, 58, 59, 60]]) [10, 11, 12, 13, 15, 16, 17, 18, 14] [⟨_, _, _, _, _, _⟩, ⟨_, _, _, _, _, _⟩, ⟨_, _, _, _, _, _⟩, ⟨_, _, _, _, _, _⟩, ⟨_, _, _, _, _, _⟩, ⟨_, _, _, _, _, _⟩, ⟨_, _, _, _, _, _⟩, ⟨_, _, _, _, _, _⟩, ⟨_, _, _, _, _, _⟩] rfl (by kernel_rfl) (by simp) _ _ ?_
          go_wp2_with (first
            | go_big_skip
            | (show wpList _ _ _ (⟨_, .binOp .neq 4 _ _ _, _, _, _, _⟩ :: _) _ _; refine wpList_val rfl (op_neBool rfl rfl rfl) ?_; go_frame)
            | (go_at_call 25; (refine Ret.calls (stems_s (p := p) (sa := sa) (r := x2) (hS.bring (by repeat (first | exact t0 | apply tS))) hsa) ?_); clear hS; rintro r1 w ⟨rfl, hS⟩)
            | (go_at_call 26; (refine Ret.calls (epoch_s (p := p) (sa := sa) (r := x2) (hS.bring (by repeat (first | exact t0 | apply tS))) hsa) ?_); clear hS; rintro r1 w ⟨rfl, hS⟩)
            | (go_at_call 27; (refine Ret.calls (end_s (p := p) (sa := sa) (r := x2) (hS.bring (by repeat (first | exact t0 | apply tS))) hsa) ?_); clear hS; rintro r1 w ⟨rfl, hS⟩)
            | (go_at_call 13; (refine Ret.calls (succ_s (p := p) (sa := sa) (r := x2) (hS.bring (by repeat (first | exact t0 | apply tS))) hsa) ?_); clear hS; rintro r1 w ⟨rfl, hS⟩)
            | (show wpList _ _ _ (⟨some 79, .load _ _, _, _, _, _⟩ :: _) _ _; refine wpList_val rfl (op_load1S (b := m) (T := 52) oneBool ((hS.bring (by repeat (first | exact t0 | apply tS)))) rfl rfl G2.out) ?_; go_frame)
            | (show wpList _ _ _ (⟨some 88, .load _ _, _, _, _, _⟩ :: _) _ _; refine wpList_val rfl (op_load1S (b := m) (T := 52) oneU64 ((hS.bring (by repeat (first | exact t0 | apply tS)))) rfl rfl G0.out) ?_; go_frame)
            | (show wpList _ _ _ (⟨some 97, .load _ _, _, _, _, _⟩ :: _) _ _; refine wpList_val rfl (op_load1S (b := m) (T := 52) oneU64 ((hS.bring (by repeat (first | exact t0 | apply tS)))) rfl rfl G1.out) ?_; go_frame)
            | (show wpList _ _ _ (⟨some 106, .load _ _, _, _, _, _⟩ :: _) _ _; refine wpList_val rfl (op_load agg2 rfl rfl ((SepL.getBlk (b := m) (T := 52) ((hS.bring (by repeat (first | exact t0 | apply tS))))).cells.subN 35 2 G3.out) rfl) ?_; go_frame)
            | (show wpList _ _ _ (⟨_, .binOp .neq 33 _ _ _, _, _, _, _⟩ :: _) _ _; (first | refine wpList_val rfl (opU_neq rfl (a := x2.epoch) (b := x2.epoch) rfl rfl NE.out) ?_ | refine wpList_val rfl (opU_neq rfl (a := x2.fin) (b := x2.fin) rfl rfl NF.out) ?_); go_frame)
            )
          refine segQ_mk (⟨((hS.bring (by repeat (first | exact t0 | apply tS))).getBlk), ((hS.bring (by repeat (first | exact t0 | apply tS))).getBlk)⟩ : Blk _ m 52 (rrC sa x2) ∧ Blk _ n8 38 (aC (u, a))) ?_
          refine ord_seg (by repeat (first | exact Clean.body | refine Clean.then ?_ | refine Clean.inBlock ?_ | refine SegQ.clean ?_ | refine FinC.clean ?_)) (n := 33) (rest := [[28, 29, 30, 31, 33, 34, 35, 36, 32, 37, 38, 39, 40, 41, 42, 44, 45, 46, 43, 47, 48, 49, 50, 51, 52, 53, 55, 56, 57, 54, 58, 59, 60]]) [19, 20, 21, 22, 24, 25, 26, 27, 23] [⟨_, _, _, _, _, _⟩, ⟨_, _, _, _, _, _⟩, ⟨_, _, _, _, _, _⟩, ⟨_, _, _, _, _, _⟩, ⟨_, _, _, _, _, _⟩, ⟨_, _, _, _, _, _⟩, ⟨_, _, _, _, _, _⟩, ⟨_, _, _, _, _, _⟩, ⟨_, _, _, _, _, _⟩] rfl (by kernel_rfl) (by simp) _ _ ?_
          go_wp2_with (first
            | go_big_skip
            | (show wpList _ _ _ (⟨_, .binOp .neq 4 _ _ _, _, _, _, _⟩ :: _) _ _; refine wpList_val rfl (op_neBool rfl rfl rfl) ?_; go_frame)
            | (go_at_call 25; (refine Ret.calls (stems_s (p := p) (sa := sa) (r := x2) (hS.bring (by repeat (first | exact t0 | apply tS))) hsa) ?_); clear hS; rintro r1 w ⟨rfl, hS⟩)
            | (go_at_call 26; (refine Ret.calls (epoch_s (p := p) (sa := sa) (r := x2) (hS.bring (by repeat (first | exact t0 | apply tS))) hsa) ?_); clear hS; rintro r1 w ⟨rfl, hS⟩)
            | (go_at_call 27; (refine Ret.calls (end_s (p := p) (sa := sa) (r := x2) (hS.bring (by repeat (first | exact t0 | apply tS))) hsa) ?_); clear hS; rintro r1 w ⟨rfl, hS⟩)
            | (go_at_call 13; (refine Ret.calls (succ_s (p := p) (sa := sa) (r := x2) (hS.bring (by repeat (first | exact t0 | apply tS))) hsa) ?_); clear hS; rintro r1 w ⟨rfl, hS⟩)
            | (show wpList _ _ _ (⟨some 79, .load _ _, _, _, _, _⟩ :: _) _ _; refine wpList_val rfl (op_load1S (b := m) (T := 52) oneBool ((hS.bring (by repeat (first | exact t0 | apply tS)))) rfl rfl G2.out) ?_; go_frame)
            | (show wpList _ _ _ (⟨some 88, .load _ _, _, _, _, _⟩ :: _) _ _; refine wpList_val rfl (op_load1S (b := m) (T := 52) oneU64 ((hS.bring (by repeat (first | exact t0 | apply tS)))) rfl rfl G0.out) ?_; go_frame)
            | (show wpList _ _ _ (⟨some 97, .load _ _, _, _, _, _⟩ :: _) _ _; refine wpList_val rfl (op_load1S (b := m) (T := 52) oneU64 ((hS.bring (by repeat (first | exact t0 | apply tS)))) rfl rfl G1.out) ?_; go_frame)
            | (show wpList _ _ _ (⟨some 106, .load _ _, _, _, _, _⟩ :: _) _ _; refine wpList_val rfl (op_load agg2 rfl rfl ((SepL.getBlk (b := m) (T := 52) ((hS.bring (by repeat (first | exact t0 | apply tS))))).cells.subN 35 2 G3.out) rfl) ?_; go_frame)
            | (show wpList _ _ _ (⟨_, .binOp .neq 33 _ _ _, _, _, _, _⟩ :: _) _ _; (first | refine wpList_val rfl (opU_neq rfl (a := x2.epoch) (b := x2.epoch) rfl rfl NE.out) ?_ | refine wpList_val rfl (opU_neq rfl (a := x2.fin) (b := x2.fin) rfl rfl NF.out) ?_); go_frame)
            )
          refine segQ_mk (⟨((hS.bring (by repeat (first | exact t0 | apply tS))).getBlk), ((hS.bring (by repeat (first | exact t0 | apply tS))).getBlk)⟩ : Blk _ m 52 (rrC sa x2) ∧ Blk _ n8 38 (aC (u, a))) ?_
          refine ord_seg (by repeat (first | exact Clean.body | refine Clean.then ?_ | refine Clean.inBlock ?_ | refine SegQ.clean ?_ | refine FinC.clean ?_)) (n := 24) (rest := [[37, 38, 39, 40, 41, 42, 44, 45, 46, 43, 47, 48, 49, 50, 51, 52, 53, 55, 56, 57, 54, 58, 59, 60]]) [28, 29, 30, 31, 33, 34, 35, 36, 32] [⟨_, _, _, _, _, _⟩, ⟨_, _, _, _, _, _⟩, ⟨_, _, _, _, _, _⟩, ⟨_, _, _, _, _, _⟩, ⟨_, _, _, _, _, _⟩, ⟨_, _, _, _, _, _⟩, ⟨_, _, _, _, _, _⟩, ⟨_, _, _, _, _, _⟩, ⟨_, _, _, _, _, _⟩] rfl (by kernel_rfl) (by simp) _ _ ?_
          go_wp2_with (first
            | go_big_skip
            | (show wpList _ _ _ (⟨_, .binOp .neq 4 _ _ _, _, _, _, _⟩ :: _) _ _; refine wpList_val rfl (op_neBool rfl rfl rfl) ?_; go_frame)
            | (go_at_call 25; (refine Ret.calls (stems_s (p := p) (sa := sa) (r := x2) (hS.bring (by repeat (first | exact t0 | apply tS))) hsa) ?_); clear hS; rintro r1 w ⟨rfl, hS⟩)
            | (go_at_call 26; (refine Ret.calls (epoch_s (p := p) (sa := sa) (r := x2) (hS.bring (by repeat (first | exact t0 | apply tS))) hsa) ?_); clear hS; rintro r1 w ⟨rfl, hS⟩)
            | (go_at_call 27; (refine Ret.calls (end_s (p := p) (sa := sa) (r := x2) (hS.bring (by repeat (first | exact t0 | apply tS))) hsa) ?_); clear hS; rintro r1 w ⟨rfl, hS⟩)
            | (go_at_call 13; (refine Ret.calls (succ_s (p := p) (sa := sa) (r := x2) (hS.bring (by repeat (first | exact t0 | apply tS))) hsa) ?_); clear hS; rintro r1 w ⟨rfl, hS⟩)
            | (show wpList _ _ _ (⟨some 79, .load _ _, _, _, _, _⟩ :: _) _ _; refine wpList_val rfl (op_load1S (b := m) (T := 52) oneBool ((hS.bring (by repeat (first | exact t0 | apply tS)))) rfl rfl G2.out) ?_; go_frame)
            | (show wpList _ _ _ (⟨some 88, .load _ _, _, _, _, _⟩ :: _) _ _; refine wpList_val rfl (op_load1S (b := m) (T := 52) oneU64 ((hS.bring (by repeat (first | exact t0 | apply tS)))) rfl rfl G0.out) ?_; go_frame)
            | (show wpList _ _ _ (⟨some 97, .load _ _, _, _, _, _⟩ :: _) _ _; refine wpList_val rfl (op_load1S (b := m) (T := 52) oneU64 ((hS.bring (by repeat (first | exact t0 | apply tS)))) rfl rfl G1.out) ?_; go_frame)
            | (show wpList _ _ _ (⟨some 106, .load _ _, _, _, _, _⟩ :: _) _ _; refine wpList_val rfl (op_load agg2 rfl rfl ((SepL.getBlk (b := m) (T := 52) ((hS.bring (by repeat (first | exact t0 | apply tS))))).cells.subN 35 2 G3.out) rfl) ?_; go_frame)
            | (show wpList _ _ _ (⟨_, .binOp .neq 33 _ _ _, _, _, _, _⟩ :: _) _ _; (first | refine wpList_val rfl (opU_neq rfl (a := x2.epoch) (b := x2.epoch) rfl rfl NE.out) ?_ | refine wpList_val rfl (opU_neq rfl (a := x2.fin) (b := x2.fin) rfl rfl NF.out) ?_); go_frame)
            )
          refine segQ_mk (⟨((hS.bring (by repeat (first | exact t0 | apply tS))).getBlk), ((hS.bring (by repeat (first | exact t0 | apply tS))).getBlk)⟩ : Blk _ m 52 (rrC sa x2) ∧ Blk _ n8 38 (aC (u, a))) ?_
          refine ord_seg (by repeat (first | exact Clean.body | refine Clean.then ?_ | refine Clean.inBlock ?_ | refine SegQ.clean ?_ | refine FinC.clean ?_)) (n := 23) (rest := [[38, 39, 40, 41, 42, 44, 45, 46, 43, 47, 48, 49, 50, 51, 52, 53, 55, 56, 57, 54, 58, 59, 60]]) [37] [⟨_, _, _, _, _, _⟩] rfl (by kernel_rfl) (by simp) _ _ ?_
          go_wp2_with (first
            | go_big_skip
            | (go_at_call 28; (refine Ret.calls (misses_s (MM := 3) (p := p) (sa := sa) (r := x2) (s := a.source) (hS.bring (by repeat (first | exact t0 | apply tS))) hsa HOX.out) ?_); clear hS; rintro r1 w ⟨rfl, hS⟩)
            | (go_at_call 14; (refine Ret.calls (way_s (p := p) (sa := sa) (r := x2) (s := a.source) (hS.bring (by repeat (first | exact t0 | apply tS))) hK hF hsa HOX.out) ?_); clear hS; rintro r1 w ⟨rfl, hS⟩)
            | (go_at_call 29; (refine Ret.calls (missed_s (p := m) (sa := sa) (r := x2) (s := a.source) (hS.bring (by repeat (first | exact t0 | apply tS))) hsa HOX.out) ?_); clear hS; rintro r1 w ⟨rfl, hS⟩)
            | (go_at_call 30; (refine Ret.calls (rway_s (p := m) (sa := sa) (r := x2) (s := a.source) (hS.bring (by repeat (first | exact t0 | apply tS))) hsa HOX.out) ?_); clear hS; rintro r1 w ⟨rfl, hS⟩)
            | (show wpList _ _ _ (⟨_, .load 3 _, _, _, _, _⟩ :: _) _ _; refine wpList_val rfl (op_load1S (b := n8) (T := 38) oneInt ((hS.bring (by repeat (first | exact t0 | apply tS)))) rfl rfl rfl) ?_; go_frame)
            | (show wpList _ _ _ (⟨_, .binOp .neq 29 _ _ _, _, _, _, _⟩ :: _) _ _; refine wpList_val rfl (op_neP rfl rfl rfl NS.out) ?_; go_frame)
            | (show wpList _ _ _ (⟨some 118, .binOp _ _ _ _ _, _, _, _, _⟩ :: _) _ _; refine wpList_val rfl (op_ineI rfl rfl rfl NM.out) ?_; go_frame)
            | (show wpList _ _ _ (⟨some 129, .binOp _ _ _ _ _, _, _, _, _⟩ :: _) _ _; refine wpList_val rfl (op_ineI rfl rfl rfl NW.out) ?_; go_frame)
            )
          refine segQ_mk (⟨((hS.bring (by repeat (first | exact t0 | apply tS))).getBlk), ((hS.bring (by repeat (first | exact t0 | apply tS))).getBlk)⟩ : Blk _ m 52 (rrC sa x2) ∧ Blk _ n8 38 (aC (u, a))) ?_
          refine ord_seg (by repeat (first | exact Clean.body | refine Clean.then ?_ | refine Clean.inBlock ?_ | refine SegQ.clean ?_ | refine FinC.clean ?_)) (n := 14) (rest := [[47, 48, 49, 50, 51, 52, 53, 55, 56, 57, 54, 58, 59, 60]]) [38, 39, 40, 41, 42, 44, 45, 46, 43] [⟨_, _, _, _, _, _⟩, ⟨_, _, _, _, _, _⟩, ⟨_, _, _, _, _, _⟩, ⟨_, _, _, _, _, _⟩, ⟨_, _, _, _, _, _⟩, ⟨_, _, _, _, _, _⟩, ⟨_, _, _, _, _, _⟩, ⟨_, _, _, _, _, _⟩, ⟨_, _, _, _, _, _⟩] rfl (by kernel_rfl) (by simp) _ _ ?_
          go_wp2_with (first
            | go_big_skip
            | (go_at_call 28; (refine Ret.calls (misses_s (MM := 3) (p := p) (sa := sa) (r := x2) (s := a.source) (hS.bring (by repeat (first | exact t0 | apply tS))) hsa HOX.out) ?_); clear hS; rintro r1 w ⟨rfl, hS⟩)
            | (go_at_call 14; (refine Ret.calls (way_s (p := p) (sa := sa) (r := x2) (s := a.source) (hS.bring (by repeat (first | exact t0 | apply tS))) hK hF hsa HOX.out) ?_); clear hS; rintro r1 w ⟨rfl, hS⟩)
            | (go_at_call 29; (refine Ret.calls (missed_s (p := m) (sa := sa) (r := x2) (s := a.source) (hS.bring (by repeat (first | exact t0 | apply tS))) hsa HOX.out) ?_); clear hS; rintro r1 w ⟨rfl, hS⟩)
            | (go_at_call 30; (refine Ret.calls (rway_s (p := m) (sa := sa) (r := x2) (s := a.source) (hS.bring (by repeat (first | exact t0 | apply tS))) hsa HOX.out) ?_); clear hS; rintro r1 w ⟨rfl, hS⟩)
            | (show wpList _ _ _ (⟨_, .load 3 _, _, _, _, _⟩ :: _) _ _; refine wpList_val rfl (op_load1S (b := n8) (T := 38) oneInt ((hS.bring (by repeat (first | exact t0 | apply tS)))) rfl rfl rfl) ?_; go_frame)
            | (show wpList _ _ _ (⟨_, .binOp .neq 29 _ _ _, _, _, _, _⟩ :: _) _ _; refine wpList_val rfl (op_neP rfl rfl rfl NS.out) ?_; go_frame)
            | (show wpList _ _ _ (⟨some 118, .binOp _ _ _ _ _, _, _, _, _⟩ :: _) _ _; refine wpList_val rfl (op_ineI rfl rfl rfl NM.out) ?_; go_frame)
            | (show wpList _ _ _ (⟨some 129, .binOp _ _ _ _ _, _, _, _, _⟩ :: _) _ _; refine wpList_val rfl (op_ineI rfl rfl rfl NW.out) ?_; go_frame)
            )
          refine segQ_mk (⟨((hS.bring (by repeat (first | exact t0 | apply tS))).getBlk), ((hS.bring (by repeat (first | exact t0 | apply tS))).getBlk)⟩ : Blk _ m 52 (rrC sa x2) ∧ Blk _ n8 38 (aC (u, a))) ?_
          refine ord_seg (by repeat (first | exact Clean.body | refine Clean.then ?_ | refine Clean.inBlock ?_ | refine SegQ.clean ?_ | refine FinC.clean ?_)) (n := 13) (rest := [[48, 49, 50, 51, 52, 53, 55, 56, 57, 54, 58, 59, 60]]) [47] [⟨_, _, _, _, _, _⟩] rfl (by kernel_rfl) (by simp) _ _ ?_
          go_wp2_with (first
            | go_big_skip
            | (go_at_call 28; (refine Ret.calls (misses_s (MM := 3) (p := p) (sa := sa) (r := x2) (s := a.source) (hS.bring (by repeat (first | exact t0 | apply tS))) hsa HOX.out) ?_); clear hS; rintro r1 w ⟨rfl, hS⟩)
            | (go_at_call 14; (refine Ret.calls (way_s (p := p) (sa := sa) (r := x2) (s := a.source) (hS.bring (by repeat (first | exact t0 | apply tS))) hK hF hsa HOX.out) ?_); clear hS; rintro r1 w ⟨rfl, hS⟩)
            | (go_at_call 29; (refine Ret.calls (missed_s (p := m) (sa := sa) (r := x2) (s := a.source) (hS.bring (by repeat (first | exact t0 | apply tS))) hsa HOX.out) ?_); clear hS; rintro r1 w ⟨rfl, hS⟩)
            | (go_at_call 30; (refine Ret.calls (rway_s (p := m) (sa := sa) (r := x2) (s := a.source) (hS.bring (by repeat (first | exact t0 | apply tS))) hsa HOX.out) ?_); clear hS; rintro r1 w ⟨rfl, hS⟩)
            | (show wpList _ _ _ (⟨_, .load 3 _, _, _, _, _⟩ :: _) _ _; refine wpList_val rfl (op_load1S (b := n8) (T := 38) oneInt ((hS.bring (by repeat (first | exact t0 | apply tS)))) rfl rfl rfl) ?_; go_frame)
            | (show wpList _ _ _ (⟨_, .binOp .neq 29 _ _ _, _, _, _, _⟩ :: _) _ _; refine wpList_val rfl (op_neP rfl rfl rfl NS.out) ?_; go_frame)
            | (show wpList _ _ _ (⟨some 118, .binOp _ _ _ _ _, _, _, _, _⟩ :: _) _ _; refine wpList_val rfl (op_ineI rfl rfl rfl NM.out) ?_; go_frame)
            | (show wpList _ _ _ (⟨some 129, .binOp _ _ _ _ _, _, _, _, _⟩ :: _) _ _; refine wpList_val rfl (op_ineI rfl rfl rfl NW.out) ?_; go_frame)
            )
          refine segQ_mk (⟨((hS.bring (by repeat (first | exact t0 | apply tS))).getBlk), ((hS.bring (by repeat (first | exact t0 | apply tS))).getBlk)⟩ : Blk _ m 52 (rrC sa x2) ∧ Blk _ n8 38 (aC (u, a))) ?_
          refine ord_seg (by repeat (first | exact Clean.body | refine Clean.then ?_ | refine Clean.inBlock ?_ | refine SegQ.clean ?_ | refine FinC.clean ?_)) (n := 3) (rest := [[58, 59, 60]]) [48, 49, 50, 51, 52, 53, 55, 56, 57, 54] [⟨_, _, _, _, _, _⟩, ⟨_, _, _, _, _, _⟩, ⟨_, _, _, _, _, _⟩, ⟨_, _, _, _, _, _⟩, ⟨_, _, _, _, _, _⟩, ⟨_, _, _, _, _, _⟩, ⟨_, _, _, _, _, _⟩, ⟨_, _, _, _, _, _⟩, ⟨_, _, _, _, _, _⟩, ⟨_, _, _, _, _, _⟩] rfl (by kernel_rfl) (by simp) _ _ ?_
          go_wp2_with (first
            | go_big_skip
            | (go_at_call 28; (refine Ret.calls (misses_s (MM := 3) (p := p) (sa := sa) (r := x2) (s := a.source) (hS.bring (by repeat (first | exact t0 | apply tS))) hsa HOX.out) ?_); clear hS; rintro r1 w ⟨rfl, hS⟩)
            | (go_at_call 14; (refine Ret.calls (way_s (p := p) (sa := sa) (r := x2) (s := a.source) (hS.bring (by repeat (first | exact t0 | apply tS))) hK hF hsa HOX.out) ?_); clear hS; rintro r1 w ⟨rfl, hS⟩)
            | (go_at_call 29; (refine Ret.calls (missed_s (p := m) (sa := sa) (r := x2) (s := a.source) (hS.bring (by repeat (first | exact t0 | apply tS))) hsa HOX.out) ?_); clear hS; rintro r1 w ⟨rfl, hS⟩)
            | (go_at_call 30; (refine Ret.calls (rway_s (p := m) (sa := sa) (r := x2) (s := a.source) (hS.bring (by repeat (first | exact t0 | apply tS))) hsa HOX.out) ?_); clear hS; rintro r1 w ⟨rfl, hS⟩)
            | (show wpList _ _ _ (⟨_, .load 3 _, _, _, _, _⟩ :: _) _ _; refine wpList_val rfl (op_load1S (b := n8) (T := 38) oneInt ((hS.bring (by repeat (first | exact t0 | apply tS)))) rfl rfl rfl) ?_; go_frame)
            | (show wpList _ _ _ (⟨_, .binOp .neq 29 _ _ _, _, _, _, _⟩ :: _) _ _; refine wpList_val rfl (op_neP rfl rfl rfl NS.out) ?_; go_frame)
            | (show wpList _ _ _ (⟨some 118, .binOp _ _ _ _ _, _, _, _, _⟩ :: _) _ _; refine wpList_val rfl (op_ineI rfl rfl rfl NM.out) ?_; go_frame)
            | (show wpList _ _ _ (⟨some 129, .binOp _ _ _ _ _, _, _, _, _⟩ :: _) _ _; refine wpList_val rfl (op_ineI rfl rfl rfl NW.out) ?_; go_frame)
            )
          refine segQ_mk (⟨((hS.bring (by repeat (first | exact t0 | apply tS))).getBlk), ((hS.bring (by repeat (first | exact t0 | apply tS))).getBlk)⟩ : Blk _ m 52 (rrC sa x2) ∧ Blk _ n8 38 (aC (u, a))) ?_
          refine ord_seg (by repeat (first | exact Clean.body | refine Clean.then ?_ | refine Clean.inBlock ?_ | refine SegQ.clean ?_ | refine FinC.clean ?_)) (n := 2) (rest := [[59, 60]]) [58] [⟨_, _, _, _, _, _⟩] rfl (by kernel_rfl) (by simp) _ _ ?_
          go_wp2_with (first
            | go_big_skip
            | (go_at_call 28; (refine Ret.calls (misses_s (MM := 3) (p := p) (sa := sa) (r := x2) (s := a.source) (hS.bring (by repeat (first | exact t0 | apply tS))) hsa HOX.out) ?_); clear hS; rintro r1 w ⟨rfl, hS⟩)
            | (go_at_call 14; (refine Ret.calls (way_s (p := p) (sa := sa) (r := x2) (s := a.source) (hS.bring (by repeat (first | exact t0 | apply tS))) hK hF hsa HOX.out) ?_); clear hS; rintro r1 w ⟨rfl, hS⟩)
            | (go_at_call 29; (refine Ret.calls (missed_s (p := m) (sa := sa) (r := x2) (s := a.source) (hS.bring (by repeat (first | exact t0 | apply tS))) hsa HOX.out) ?_); clear hS; rintro r1 w ⟨rfl, hS⟩)
            | (go_at_call 30; (refine Ret.calls (rway_s (p := m) (sa := sa) (r := x2) (s := a.source) (hS.bring (by repeat (first | exact t0 | apply tS))) hsa HOX.out) ?_); clear hS; rintro r1 w ⟨rfl, hS⟩)
            | (show wpList _ _ _ (⟨_, .load 3 _, _, _, _, _⟩ :: _) _ _; refine wpList_val rfl (op_load1S (b := n8) (T := 38) oneInt ((hS.bring (by repeat (first | exact t0 | apply tS)))) rfl rfl rfl) ?_; go_frame)
            | (show wpList _ _ _ (⟨_, .binOp .neq 29 _ _ _, _, _, _, _⟩ :: _) _ _; refine wpList_val rfl (op_neP rfl rfl rfl NS.out) ?_; go_frame)
            | (show wpList _ _ _ (⟨some 118, .binOp _ _ _ _ _, _, _, _, _⟩ :: _) _ _; refine wpList_val rfl (op_ineI rfl rfl rfl NM.out) ?_; go_frame)
            | (show wpList _ _ _ (⟨some 129, .binOp _ _ _ _ _, _, _, _, _⟩ :: _) _ _; refine wpList_val rfl (op_ineI rfl rfl rfl NW.out) ?_; go_frame)
            )
          refine segQ_mk (⟨((hS.bring (by repeat (first | exact t0 | apply tS))).getBlk), ((hS.bring (by repeat (first | exact t0 | apply tS))).getBlk)⟩ : Blk _ m 52 (rrC sa x2) ∧ Blk _ n8 38 (aC (u, a))) ?_
          refine ord_seg (by repeat (first | exact Clean.body | refine Clean.then ?_ | refine Clean.inBlock ?_ | refine SegQ.clean ?_ | refine FinC.clean ?_)) (n := 0) (rest := [[]]) [59, 60] [⟨_, _, _, _, _, _⟩, ⟨_, _, _, _, _, _⟩] rfl (by kernel_rfl) (by simp) _ _ ?_
          go_wp2_with (first
            | go_big_skip
            | (go_at_call 28; (refine Ret.calls (misses_s (MM := 3) (p := p) (sa := sa) (r := x2) (s := a.source) (hS.bring (by repeat (first | exact t0 | apply tS))) hsa HOX.out) ?_); clear hS; rintro r1 w ⟨rfl, hS⟩)
            | (go_at_call 14; (refine Ret.calls (way_s (p := p) (sa := sa) (r := x2) (s := a.source) (hS.bring (by repeat (first | exact t0 | apply tS))) hK hF hsa HOX.out) ?_); clear hS; rintro r1 w ⟨rfl, hS⟩)
            | (go_at_call 29; (refine Ret.calls (missed_s (p := m) (sa := sa) (r := x2) (s := a.source) (hS.bring (by repeat (first | exact t0 | apply tS))) hsa HOX.out) ?_); clear hS; rintro r1 w ⟨rfl, hS⟩)
            | (go_at_call 30; (refine Ret.calls (rway_s (p := m) (sa := sa) (r := x2) (s := a.source) (hS.bring (by repeat (first | exact t0 | apply tS))) hsa HOX.out) ?_); clear hS; rintro r1 w ⟨rfl, hS⟩)
            | (show wpList _ _ _ (⟨_, .load 3 _, _, _, _, _⟩ :: _) _ _; refine wpList_val rfl (op_load1S (b := n8) (T := 38) oneInt ((hS.bring (by repeat (first | exact t0 | apply tS)))) rfl rfl rfl) ?_; go_frame)
            | (show wpList _ _ _ (⟨_, .binOp .neq 29 _ _ _, _, _, _, _⟩ :: _) _ _; refine wpList_val rfl (op_neP rfl rfl rfl NS.out) ?_; go_frame)
            | (show wpList _ _ _ (⟨some 118, .binOp _ _ _ _ _, _, _, _, _⟩ :: _) _ _; refine wpList_val rfl (op_ineI rfl rfl rfl NM.out) ?_; go_frame)
            | (show wpList _ _ _ (⟨some 129, .binOp _ _ _ _ _, _, _, _, _⟩ :: _) _ _; refine wpList_val rfl (op_ineI rfl rfl rfl NW.out) ?_; go_frame)
            )
          refine segQ_mk (⟨((hS.bring (by repeat (first | exact t0 | apply tS))).getBlk), ((hS.bring (by repeat (first | exact t0 | apply tS))).getBlk)⟩ : Blk _ m 52 (rrC sa x2) ∧ Blk _ n8 38 (aC (u, a))) ?_
          refine finC_mk (by kernel_rfl) (by
            intro t ht
            simp only [List.mem_cons, List.not_mem_nil, or_false] at ht
            rcases ht with rfl | rfl | rfl | rfl | rfl | rfl | rfl | rfl <;> first | exact stab_blk (b := m) (fun w h => h.1) _ none | exact stab_blk (b := n8) (fun w h => h.2) _ none) ?_
          go_wp2_with fail
          go_roundw
          case rel =>
            refine ⟨k + 1, by go_num, by omega, ?_⟩
            rw [HSN.out]
            exact hS.sel (by repeat (first | exact Sel.refl | refine Sel.take (by repeat (first | exact t0 | apply tS)) ?_ | apply Sel.drop))
          case measure => simp [intOf]; omega
        have HK4 := eqF h4
        rw [if_neg h4] at hx2
        subst hx2
        clear h0 h1 h2 h3 h4
        go_wp2_with (first
          | go_big_skip
          | (show wpList _ _ _ (⟨some 24, .indexAddr _ _ _, _, _, _, _⟩ :: _) _ _; refine wpList_val rfl (op_indexAddr slAct rfl (v := v) (xs := L.map aC) rfl (k := k) rfl (by exact hS.rd hv.rd) hlk) ?_; go_frame)
          | (show wpList _ _ _ (⟨some 25, .load _ _, _, _, _, _⟩ :: _) _ _; refine wpList_val rfl (op_loadE aggAct rfl (v := v) (xs := L.map aC) (k := k) rfl (by exact hS.rd hv.rd) hlk) ?_; rw [HX.out]; go_frame)
          | (show wpList _ _ _ (⟨some 8, .alloc _, _, _, _, _⟩ :: _) _ _; refine wpS_alloc hS rfl rfl Tryd.zeroValue38 (zs := [.int .i64 0, .int .i64 0, .int .i64 0, .int .u64 0, .slice none 0 0, .int .u16 0, .int .u16 0, .int .u16 0]) rfl ?_; clear hS; intro n8 w hS; go_frame)
          | (show wpList _ _ _ (⟨_, .store 38 _ _, _, _, _, _⟩ :: _) _ _; (refine wpS_storeAll (b := n8) aggAct (hS.bring (by repeat (first | exact t0 | apply tS))) rfl rfl rfl (vs := aC (u, a)) rfl rfl HUF.out rfl ?_); clear hS; intro w hS; go_frame)
          | (show wpList _ _ _ (⟨_, .load 38 _, _, _, _, _⟩ :: _) _ _; refine wpList_val rfl (op_load aggAct rfl rfl (SepL.getBlk (b := n8) (T := 38) ((hS.bring (by repeat (first | exact t0 | apply tS))))).cells rfl) ?_; go_frame)
          | (go_at_call 19; (refine Ret.calls (do_s (p := p) (r := x) (u := u) (s := a) (hS.bring (by repeat (first | exact t0 | apply tS))) hsa HOX0.out HUR.out HAO1.out) ?_); clear hS; rintro r1 w ⟨rfl, hS⟩; rw [HX2.out] at hS; rw [HBB.out])
          | (show wpList _ _ _ (⟨_, .load 3 _, _, _, _, _⟩ :: _) _ _; refine wpList_val rfl (op_load1S (b := n8) (T := 38) oneInt ((hS.bring (by repeat (first | exact t0 | apply tS)))) rfl rfl rfl) ?_; go_frame)
          | (show wpList _ _ _ (⟨_, .load 33 _, _, _, _, _⟩ :: _) _ _; refine wpList_val rfl (op_load1S (b := n8) (T := 38) oneU64 ((hS.bring (by repeat (first | exact t0 | apply tS)))) rfl rfl rfl) ?_; go_frame)
          | (show wpList _ _ _ (⟨_, .load 34 _, _, _, _, _⟩ :: _) _ _; refine wpList_val rfl (op_load1S (b := n8) (T := 38) oneInts ((hS.bring (by repeat (first | exact t0 | apply tS)))) rfl rfl rfl) ?_; go_frame)
          | (show wpList _ _ _ (⟨_, .load 36 _, _, _, _, _⟩ :: _) _ _; refine wpList_val rfl (op_load agg3u rfl rfl ((SepL.getBlk (b := n8) (T := 38) ((hS.bring (by repeat (first | exact t0 | apply tS))))).cells.subN 5 3 (ds := [.int .u16 a.d0, .int .u16 a.d1, .int .u16 a.d2]) rfl) rfl) ?_; go_frame)
          | (show wpList _ _ _ (⟨some 55, .indexAddr _ _ _, _, _, _, _⟩ :: _) _ _; refine wpList_val rfl (op_indexArrZ arr3u rfl (b := n8) (off := 5) rfl rfl 0 rfl (by omega)) ?_; go_frame)
          | (show wpList _ _ _ (⟨_, .load 35 _, _, _, _, _⟩ :: _) _ _; refine wpList_val rfl (op_load1S (b := n8) (T := 38) oneU16 ((hS.bring (by repeat (first | exact t0 | apply tS)))) rfl rfl rfl) ?_; go_frame)
          | (show wpList _ _ _ (⟨some 32, .binOp _ _ _ _ _, _, _, _, _⟩ :: _) _ _; refine wpList_val rfl (op_eqI' rfl rfl rfl HK0.out) ?_; go_frame)
          | (show wpList _ _ _ (⟨some 42, .binOp _ _ _ _ _, _, _, _, _⟩ :: _) _ _; refine wpList_val rfl (op_eqI' rfl rfl rfl HK1.out) ?_; go_frame)
          | (show wpList _ _ _ (⟨some 48, .binOp _ _ _ _ _, _, _, _, _⟩ :: _) _ _; refine wpList_val rfl (op_eqI' rfl rfl rfl HK2.out) ?_; go_frame)
          | (show wpList _ _ _ (⟨some 59, .binOp _ _ _ _ _, _, _, _, _⟩ :: _) _ _; refine wpList_val rfl (op_eqI' rfl rfl rfl HK3.out) ?_; go_frame)
          | (show wpList _ _ _ (⟨some 65, .binOp _ _ _ _ _, _, _, _, _⟩ :: _) _ _; refine wpList_val rfl (op_eqI' rfl rfl rfl HK4.out) ?_; go_frame)
          | (go_at_call 20; (refine Ret.calls (rtick_s (p := m) (r := x) (peers := a.peers) (hS.bring (by repeat (first | exact t0 | apply tS))) hsa HOX0.out HUR.out HAO1.out.2 HAO1.out.1.now HAO1.out.1.d1 HAO1.out.1.d2) ?_); clear hS; rintro r1 w ⟨rfl, hS⟩; rw [HRM.out] at hS; rw [HRB.out])
          | (go_at_call 21; (refine Ret.calls (rjoined_s (p := m) (r := x) (hS.bring (by repeat (first | exact t0 | apply tS))) hsa) ?_); clear hS; rintro r1 w hS; rw [HRM.out] at hS)
          | (go_at_call 22; (refine Ret.calls (rleft_s (p := m) (r := x) (peers := a.peers) (hS.bring (by repeat (first | exact t0 | apply tS))) hsa HUR.out HAO1.out.2 HAO1.out.1.d0) ?_); clear hS; rintro r1 w hS; rw [HRM.out] at hS)
          | (go_at_call 23; (refine Ret.calls (rmiss_s (p := m) (r := x) (hS.bring (by repeat (first | exact t0 | apply tS))) hsa HOX0.out) ?_); clear hS; rintro r1 w ⟨rfl, hS⟩; rw [HRM.out] at hS; rw [HRB.out])
          | (go_at_call 24; (refine Ret.calls (rhit_s (p := m) (r := x) (hS.bring (by repeat (first | exact t0 | apply tS))) hsa HOX0.out) ?_); clear hS; rintro r1 w hS; rw [HRM.out] at hS)
          )
        refine wp_region_ord (by kernel_rfl) [78, 87, 96, 105, 111, 115, 122, 126] [[0, 1, 2, 3, 4, 6, 7, 8, 9, 5, 10, 11, 12, 13, 15, 16, 17, 18, 14, 19, 20, 21, 22, 24, 25, 26, 27, 23, 28, 29, 30, 31, 33, 34, 35, 36, 32, 37, 38, 39, 40, 41, 42, 44, 45, 46, 43, 47, 48, 49, 50, 51, 52, 53, 55, 56, 57, 54, 58, 59, 60]] (by kernel_rfl) (by kernel_rfl) (fun w' => Blk w' m 52 (rrC sa x) ∧ Blk w' n8 38 (aC (u, a))) (Up.and Up.blk Up.blk) ⟨((hS.bring (by repeat (first | exact t0 | apply tS))).getBlk), ((hS.bring (by repeat (first | exact t0 | apply tS))).getBlk)⟩ (by repeat (first | exact Clean.body | refine Clean.then ?_ | refine Clean.inBlock ?_ | refine SegQ.clean ?_ | refine FinC.clean ?_)) ?_
        replace hS := hS.drew
        refine ord_seg (by repeat (first | exact Clean.body | refine Clean.then ?_ | refine Clean.inBlock ?_ | refine SegQ.clean ?_ | refine FinC.clean ?_)) (n := 51) (rest := [[10, 11, 12, 13, 15, 16, 17, 18, 14, 19, 20, 21, 22, 24, 25, 26, 27, 23, 28, 29, 30, 31, 33, 34, 35, 36, 32, 37, 38, 39, 40, 41, 42, 44, 45, 46, 43, 47, 48, 49, 50, 51, 52, 53, 55, 56, 57, 54, 58, 59, 60]]) [0, 1, 2, 3, 4, 6, 7, 8, 9, 5] [⟨_, _, _, _, _, _⟩, ⟨_, _, _, _, _, _⟩, ⟨_, _, _, _, _, _⟩, ⟨_, _, _, _, _, _⟩, ⟨_, _, _, _, _, _⟩, ⟨_, _, _, _, _, _⟩, ⟨_, _, _, _, _, _⟩, ⟨_, _, _, _, _, _⟩, ⟨_, _, _, _, _, _⟩, ⟨_, _, _, _, _, _⟩] rfl (by kernel_rfl) (by simp) _ _ ?_
        go_wp2_with (first
          | go_big_skip
          | (show wpList _ _ _ (⟨_, .binOp .neq 4 _ _ _, _, _, _, _⟩ :: _) _ _; refine wpList_val rfl (op_neBool rfl rfl rfl) ?_; go_frame)
          | (go_at_call 25; (refine Ret.calls (stems_s (p := p) (sa := sa) (r := x) (hS.bring (by repeat (first | exact t0 | apply tS))) hsa) ?_); clear hS; rintro r1 w ⟨rfl, hS⟩)
          | (go_at_call 26; (refine Ret.calls (epoch_s (p := p) (sa := sa) (r := x) (hS.bring (by repeat (first | exact t0 | apply tS))) hsa) ?_); clear hS; rintro r1 w ⟨rfl, hS⟩)
          | (go_at_call 27; (refine Ret.calls (end_s (p := p) (sa := sa) (r := x) (hS.bring (by repeat (first | exact t0 | apply tS))) hsa) ?_); clear hS; rintro r1 w ⟨rfl, hS⟩)
          | (go_at_call 13; (refine Ret.calls (succ_s (p := p) (sa := sa) (r := x) (hS.bring (by repeat (first | exact t0 | apply tS))) hsa) ?_); clear hS; rintro r1 w ⟨rfl, hS⟩)
          | (show wpList _ _ _ (⟨some 79, .load _ _, _, _, _, _⟩ :: _) _ _; refine wpList_val rfl (op_load1S (b := m) (T := 52) oneBool ((hS.bring (by repeat (first | exact t0 | apply tS)))) rfl rfl G2.out) ?_; go_frame)
          | (show wpList _ _ _ (⟨some 88, .load _ _, _, _, _, _⟩ :: _) _ _; refine wpList_val rfl (op_load1S (b := m) (T := 52) oneU64 ((hS.bring (by repeat (first | exact t0 | apply tS)))) rfl rfl G0.out) ?_; go_frame)
          | (show wpList _ _ _ (⟨some 97, .load _ _, _, _, _, _⟩ :: _) _ _; refine wpList_val rfl (op_load1S (b := m) (T := 52) oneU64 ((hS.bring (by repeat (first | exact t0 | apply tS)))) rfl rfl G1.out) ?_; go_frame)
          | (show wpList _ _ _ (⟨some 106, .load _ _, _, _, _, _⟩ :: _) _ _; refine wpList_val rfl (op_load agg2 rfl rfl ((SepL.getBlk (b := m) (T := 52) ((hS.bring (by repeat (first | exact t0 | apply tS))))).cells.subN 35 2 G3.out) rfl) ?_; go_frame)
          | (show wpList _ _ _ (⟨_, .binOp .neq 33 _ _ _, _, _, _, _⟩ :: _) _ _; (first | refine wpList_val rfl (opU_neq rfl (a := x.epoch) (b := x.epoch) rfl rfl NE.out) ?_ | refine wpList_val rfl (opU_neq rfl (a := x.fin) (b := x.fin) rfl rfl NF.out) ?_); go_frame)
          )
        refine segQ_mk (⟨((hS.bring (by repeat (first | exact t0 | apply tS))).getBlk), ((hS.bring (by repeat (first | exact t0 | apply tS))).getBlk)⟩ : Blk _ m 52 (rrC sa x) ∧ Blk _ n8 38 (aC (u, a))) ?_
        refine ord_seg (by repeat (first | exact Clean.body | refine Clean.then ?_ | refine Clean.inBlock ?_ | refine SegQ.clean ?_ | refine FinC.clean ?_)) (n := 42) (rest := [[19, 20, 21, 22, 24, 25, 26, 27, 23, 28, 29, 30, 31, 33, 34, 35, 36, 32, 37, 38, 39, 40, 41, 42, 44, 45, 46, 43, 47, 48, 49, 50, 51, 52, 53, 55, 56, 57, 54, 58, 59, 60]]) [10, 11, 12, 13, 15, 16, 17, 18, 14] [⟨_, _, _, _, _, _⟩, ⟨_, _, _, _, _, _⟩, ⟨_, _, _, _, _, _⟩, ⟨_, _, _, _, _, _⟩, ⟨_, _, _, _, _, _⟩, ⟨_, _, _, _, _, _⟩, ⟨_, _, _, _, _, _⟩, ⟨_, _, _, _, _, _⟩, ⟨_, _, _, _, _, _⟩] rfl (by kernel_rfl) (by simp) _ _ ?_
        go_wp2_with (first
          | go_big_skip
          | (show wpList _ _ _ (⟨_, .binOp .neq 4 _ _ _, _, _, _, _⟩ :: _) _ _; refine wpList_val rfl (op_neBool rfl rfl rfl) ?_; go_frame)
          | (go_at_call 25; (refine Ret.calls (stems_s (p := p) (sa := sa) (r := x) (hS.bring (by repeat (first | exact t0 | apply tS))) hsa) ?_); clear hS; rintro r1 w ⟨rfl, hS⟩)
          | (go_at_call 26; (refine Ret.calls (epoch_s (p := p) (sa := sa) (r := x) (hS.bring (by repeat (first | exact t0 | apply tS))) hsa) ?_); clear hS; rintro r1 w ⟨rfl, hS⟩)
          | (go_at_call 27; (refine Ret.calls (end_s (p := p) (sa := sa) (r := x) (hS.bring (by repeat (first | exact t0 | apply tS))) hsa) ?_); clear hS; rintro r1 w ⟨rfl, hS⟩)
          | (go_at_call 13; (refine Ret.calls (succ_s (p := p) (sa := sa) (r := x) (hS.bring (by repeat (first | exact t0 | apply tS))) hsa) ?_); clear hS; rintro r1 w ⟨rfl, hS⟩)
          | (show wpList _ _ _ (⟨some 79, .load _ _, _, _, _, _⟩ :: _) _ _; refine wpList_val rfl (op_load1S (b := m) (T := 52) oneBool ((hS.bring (by repeat (first | exact t0 | apply tS)))) rfl rfl G2.out) ?_; go_frame)
          | (show wpList _ _ _ (⟨some 88, .load _ _, _, _, _, _⟩ :: _) _ _; refine wpList_val rfl (op_load1S (b := m) (T := 52) oneU64 ((hS.bring (by repeat (first | exact t0 | apply tS)))) rfl rfl G0.out) ?_; go_frame)
          | (show wpList _ _ _ (⟨some 97, .load _ _, _, _, _, _⟩ :: _) _ _; refine wpList_val rfl (op_load1S (b := m) (T := 52) oneU64 ((hS.bring (by repeat (first | exact t0 | apply tS)))) rfl rfl G1.out) ?_; go_frame)
          | (show wpList _ _ _ (⟨some 106, .load _ _, _, _, _, _⟩ :: _) _ _; refine wpList_val rfl (op_load agg2 rfl rfl ((SepL.getBlk (b := m) (T := 52) ((hS.bring (by repeat (first | exact t0 | apply tS))))).cells.subN 35 2 G3.out) rfl) ?_; go_frame)
          | (show wpList _ _ _ (⟨_, .binOp .neq 33 _ _ _, _, _, _, _⟩ :: _) _ _; (first | refine wpList_val rfl (opU_neq rfl (a := x.epoch) (b := x.epoch) rfl rfl NE.out) ?_ | refine wpList_val rfl (opU_neq rfl (a := x.fin) (b := x.fin) rfl rfl NF.out) ?_); go_frame)
          )
        refine segQ_mk (⟨((hS.bring (by repeat (first | exact t0 | apply tS))).getBlk), ((hS.bring (by repeat (first | exact t0 | apply tS))).getBlk)⟩ : Blk _ m 52 (rrC sa x) ∧ Blk _ n8 38 (aC (u, a))) ?_
        refine ord_seg (by repeat (first | exact Clean.body | refine Clean.then ?_ | refine Clean.inBlock ?_ | refine SegQ.clean ?_ | refine FinC.clean ?_)) (n := 33) (rest := [[28, 29, 30, 31, 33, 34, 35, 36, 32, 37, 38, 39, 40, 41, 42, 44, 45, 46, 43, 47, 48, 49, 50, 51, 52, 53, 55, 56, 57, 54, 58, 59, 60]]) [19, 20, 21, 22, 24, 25, 26, 27, 23] [⟨_, _, _, _, _, _⟩, ⟨_, _, _, _, _, _⟩, ⟨_, _, _, _, _, _⟩, ⟨_, _, _, _, _, _⟩, ⟨_, _, _, _, _, _⟩, ⟨_, _, _, _, _, _⟩, ⟨_, _, _, _, _, _⟩, ⟨_, _, _, _, _, _⟩, ⟨_, _, _, _, _, _⟩] rfl (by kernel_rfl) (by simp) _ _ ?_
        go_wp2_with (first
          | go_big_skip
          | (show wpList _ _ _ (⟨_, .binOp .neq 4 _ _ _, _, _, _, _⟩ :: _) _ _; refine wpList_val rfl (op_neBool rfl rfl rfl) ?_; go_frame)
          | (go_at_call 25; (refine Ret.calls (stems_s (p := p) (sa := sa) (r := x) (hS.bring (by repeat (first | exact t0 | apply tS))) hsa) ?_); clear hS; rintro r1 w ⟨rfl, hS⟩)
          | (go_at_call 26; (refine Ret.calls (epoch_s (p := p) (sa := sa) (r := x) (hS.bring (by repeat (first | exact t0 | apply tS))) hsa) ?_); clear hS; rintro r1 w ⟨rfl, hS⟩)
          | (go_at_call 27; (refine Ret.calls (end_s (p := p) (sa := sa) (r := x) (hS.bring (by repeat (first | exact t0 | apply tS))) hsa) ?_); clear hS; rintro r1 w ⟨rfl, hS⟩)
          | (go_at_call 13; (refine Ret.calls (succ_s (p := p) (sa := sa) (r := x) (hS.bring (by repeat (first | exact t0 | apply tS))) hsa) ?_); clear hS; rintro r1 w ⟨rfl, hS⟩)
          | (show wpList _ _ _ (⟨some 79, .load _ _, _, _, _, _⟩ :: _) _ _; refine wpList_val rfl (op_load1S (b := m) (T := 52) oneBool ((hS.bring (by repeat (first | exact t0 | apply tS)))) rfl rfl G2.out) ?_; go_frame)
          | (show wpList _ _ _ (⟨some 88, .load _ _, _, _, _, _⟩ :: _) _ _; refine wpList_val rfl (op_load1S (b := m) (T := 52) oneU64 ((hS.bring (by repeat (first | exact t0 | apply tS)))) rfl rfl G0.out) ?_; go_frame)
          | (show wpList _ _ _ (⟨some 97, .load _ _, _, _, _, _⟩ :: _) _ _; refine wpList_val rfl (op_load1S (b := m) (T := 52) oneU64 ((hS.bring (by repeat (first | exact t0 | apply tS)))) rfl rfl G1.out) ?_; go_frame)
          | (show wpList _ _ _ (⟨some 106, .load _ _, _, _, _, _⟩ :: _) _ _; refine wpList_val rfl (op_load agg2 rfl rfl ((SepL.getBlk (b := m) (T := 52) ((hS.bring (by repeat (first | exact t0 | apply tS))))).cells.subN 35 2 G3.out) rfl) ?_; go_frame)
          | (show wpList _ _ _ (⟨_, .binOp .neq 33 _ _ _, _, _, _, _⟩ :: _) _ _; (first | refine wpList_val rfl (opU_neq rfl (a := x.epoch) (b := x.epoch) rfl rfl NE.out) ?_ | refine wpList_val rfl (opU_neq rfl (a := x.fin) (b := x.fin) rfl rfl NF.out) ?_); go_frame)
          )
        refine segQ_mk (⟨((hS.bring (by repeat (first | exact t0 | apply tS))).getBlk), ((hS.bring (by repeat (first | exact t0 | apply tS))).getBlk)⟩ : Blk _ m 52 (rrC sa x) ∧ Blk _ n8 38 (aC (u, a))) ?_
        refine ord_seg (by repeat (first | exact Clean.body | refine Clean.then ?_ | refine Clean.inBlock ?_ | refine SegQ.clean ?_ | refine FinC.clean ?_)) (n := 24) (rest := [[37, 38, 39, 40, 41, 42, 44, 45, 46, 43, 47, 48, 49, 50, 51, 52, 53, 55, 56, 57, 54, 58, 59, 60]]) [28, 29, 30, 31, 33, 34, 35, 36, 32] [⟨_, _, _, _, _, _⟩, ⟨_, _, _, _, _, _⟩, ⟨_, _, _, _, _, _⟩, ⟨_, _, _, _, _, _⟩, ⟨_, _, _, _, _, _⟩, ⟨_, _, _, _, _, _⟩, ⟨_, _, _, _, _, _⟩, ⟨_, _, _, _, _, _⟩, ⟨_, _, _, _, _, _⟩] rfl (by kernel_rfl) (by simp) _ _ ?_
        go_wp2_with (first
          | go_big_skip
          | (show wpList _ _ _ (⟨_, .binOp .neq 4 _ _ _, _, _, _, _⟩ :: _) _ _; refine wpList_val rfl (op_neBool rfl rfl rfl) ?_; go_frame)
          | (go_at_call 25; (refine Ret.calls (stems_s (p := p) (sa := sa) (r := x) (hS.bring (by repeat (first | exact t0 | apply tS))) hsa) ?_); clear hS; rintro r1 w ⟨rfl, hS⟩)
          | (go_at_call 26; (refine Ret.calls (epoch_s (p := p) (sa := sa) (r := x) (hS.bring (by repeat (first | exact t0 | apply tS))) hsa) ?_); clear hS; rintro r1 w ⟨rfl, hS⟩)
          | (go_at_call 27; (refine Ret.calls (end_s (p := p) (sa := sa) (r := x) (hS.bring (by repeat (first | exact t0 | apply tS))) hsa) ?_); clear hS; rintro r1 w ⟨rfl, hS⟩)
          | (go_at_call 13; (refine Ret.calls (succ_s (p := p) (sa := sa) (r := x) (hS.bring (by repeat (first | exact t0 | apply tS))) hsa) ?_); clear hS; rintro r1 w ⟨rfl, hS⟩)
          | (show wpList _ _ _ (⟨some 79, .load _ _, _, _, _, _⟩ :: _) _ _; refine wpList_val rfl (op_load1S (b := m) (T := 52) oneBool ((hS.bring (by repeat (first | exact t0 | apply tS)))) rfl rfl G2.out) ?_; go_frame)
          | (show wpList _ _ _ (⟨some 88, .load _ _, _, _, _, _⟩ :: _) _ _; refine wpList_val rfl (op_load1S (b := m) (T := 52) oneU64 ((hS.bring (by repeat (first | exact t0 | apply tS)))) rfl rfl G0.out) ?_; go_frame)
          | (show wpList _ _ _ (⟨some 97, .load _ _, _, _, _, _⟩ :: _) _ _; refine wpList_val rfl (op_load1S (b := m) (T := 52) oneU64 ((hS.bring (by repeat (first | exact t0 | apply tS)))) rfl rfl G1.out) ?_; go_frame)
          | (show wpList _ _ _ (⟨some 106, .load _ _, _, _, _, _⟩ :: _) _ _; refine wpList_val rfl (op_load agg2 rfl rfl ((SepL.getBlk (b := m) (T := 52) ((hS.bring (by repeat (first | exact t0 | apply tS))))).cells.subN 35 2 G3.out) rfl) ?_; go_frame)
          | (show wpList _ _ _ (⟨_, .binOp .neq 33 _ _ _, _, _, _, _⟩ :: _) _ _; (first | refine wpList_val rfl (opU_neq rfl (a := x.epoch) (b := x.epoch) rfl rfl NE.out) ?_ | refine wpList_val rfl (opU_neq rfl (a := x.fin) (b := x.fin) rfl rfl NF.out) ?_); go_frame)
          )
        refine segQ_mk (⟨((hS.bring (by repeat (first | exact t0 | apply tS))).getBlk), ((hS.bring (by repeat (first | exact t0 | apply tS))).getBlk)⟩ : Blk _ m 52 (rrC sa x) ∧ Blk _ n8 38 (aC (u, a))) ?_
        refine ord_seg (by repeat (first | exact Clean.body | refine Clean.then ?_ | refine Clean.inBlock ?_ | refine SegQ.clean ?_ | refine FinC.clean ?_)) (n := 23) (rest := [[38, 39, 40, 41, 42, 44, 45, 46, 43, 47, 48, 49, 50, 51, 52, 53, 55, 56, 57, 54, 58, 59, 60]]) [37] [⟨_, _, _, _, _, _⟩] rfl (by kernel_rfl) (by simp) _ _ ?_
        go_wp2_with (first
          | go_big_skip
          | (go_at_call 28; (refine Ret.calls (misses_s (MM := 3) (p := p) (sa := sa) (r := x) (s := a.source) (hS.bring (by repeat (first | exact t0 | apply tS))) hsa HOX.out) ?_); clear hS; rintro r1 w ⟨rfl, hS⟩)
          | (go_at_call 14; (refine Ret.calls (way_s (p := p) (sa := sa) (r := x) (s := a.source) (hS.bring (by repeat (first | exact t0 | apply tS))) hK hF hsa HOX.out) ?_); clear hS; rintro r1 w ⟨rfl, hS⟩)
          | (go_at_call 29; (refine Ret.calls (missed_s (p := m) (sa := sa) (r := x) (s := a.source) (hS.bring (by repeat (first | exact t0 | apply tS))) hsa HOX.out) ?_); clear hS; rintro r1 w ⟨rfl, hS⟩)
          | (go_at_call 30; (refine Ret.calls (rway_s (p := m) (sa := sa) (r := x) (s := a.source) (hS.bring (by repeat (first | exact t0 | apply tS))) hsa HOX.out) ?_); clear hS; rintro r1 w ⟨rfl, hS⟩)
          | (show wpList _ _ _ (⟨_, .load 3 _, _, _, _, _⟩ :: _) _ _; refine wpList_val rfl (op_load1S (b := n8) (T := 38) oneInt ((hS.bring (by repeat (first | exact t0 | apply tS)))) rfl rfl rfl) ?_; go_frame)
          | (show wpList _ _ _ (⟨_, .binOp .neq 29 _ _ _, _, _, _, _⟩ :: _) _ _; refine wpList_val rfl (op_neP rfl rfl rfl NS.out) ?_; go_frame)
          | (show wpList _ _ _ (⟨some 118, .binOp _ _ _ _ _, _, _, _, _⟩ :: _) _ _; refine wpList_val rfl (op_ineI rfl rfl rfl NM.out) ?_; go_frame)
          | (show wpList _ _ _ (⟨some 129, .binOp _ _ _ _ _, _, _, _, _⟩ :: _) _ _; refine wpList_val rfl (op_ineI rfl rfl rfl NW.out) ?_; go_frame)
          )
        refine segQ_mk (⟨((hS.bring (by repeat (first | exact t0 | apply tS))).getBlk), ((hS.bring (by repeat (first | exact t0 | apply tS))).getBlk)⟩ : Blk _ m 52 (rrC sa x) ∧ Blk _ n8 38 (aC (u, a))) ?_
        refine ord_seg (by repeat (first | exact Clean.body | refine Clean.then ?_ | refine Clean.inBlock ?_ | refine SegQ.clean ?_ | refine FinC.clean ?_)) (n := 14) (rest := [[47, 48, 49, 50, 51, 52, 53, 55, 56, 57, 54, 58, 59, 60]]) [38, 39, 40, 41, 42, 44, 45, 46, 43] [⟨_, _, _, _, _, _⟩, ⟨_, _, _, _, _, _⟩, ⟨_, _, _, _, _, _⟩, ⟨_, _, _, _, _, _⟩, ⟨_, _, _, _, _, _⟩, ⟨_, _, _, _, _, _⟩, ⟨_, _, _, _, _, _⟩, ⟨_, _, _, _, _, _⟩, ⟨_, _, _, _, _, _⟩] rfl (by kernel_rfl) (by simp) _ _ ?_
        go_wp2_with (first
          | go_big_skip
          | (go_at_call 28; (refine Ret.calls (misses_s (MM := 3) (p := p) (sa := sa) (r := x) (s := a.source) (hS.bring (by repeat (first | exact t0 | apply tS))) hsa HOX.out) ?_); clear hS; rintro r1 w ⟨rfl, hS⟩)
          | (go_at_call 14; (refine Ret.calls (way_s (p := p) (sa := sa) (r := x) (s := a.source) (hS.bring (by repeat (first | exact t0 | apply tS))) hK hF hsa HOX.out) ?_); clear hS; rintro r1 w ⟨rfl, hS⟩)
          | (go_at_call 29; (refine Ret.calls (missed_s (p := m) (sa := sa) (r := x) (s := a.source) (hS.bring (by repeat (first | exact t0 | apply tS))) hsa HOX.out) ?_); clear hS; rintro r1 w ⟨rfl, hS⟩)
          | (go_at_call 30; (refine Ret.calls (rway_s (p := m) (sa := sa) (r := x) (s := a.source) (hS.bring (by repeat (first | exact t0 | apply tS))) hsa HOX.out) ?_); clear hS; rintro r1 w ⟨rfl, hS⟩)
          | (show wpList _ _ _ (⟨_, .load 3 _, _, _, _, _⟩ :: _) _ _; refine wpList_val rfl (op_load1S (b := n8) (T := 38) oneInt ((hS.bring (by repeat (first | exact t0 | apply tS)))) rfl rfl rfl) ?_; go_frame)
          | (show wpList _ _ _ (⟨_, .binOp .neq 29 _ _ _, _, _, _, _⟩ :: _) _ _; refine wpList_val rfl (op_neP rfl rfl rfl NS.out) ?_; go_frame)
          | (show wpList _ _ _ (⟨some 118, .binOp _ _ _ _ _, _, _, _, _⟩ :: _) _ _; refine wpList_val rfl (op_ineI rfl rfl rfl NM.out) ?_; go_frame)
          | (show wpList _ _ _ (⟨some 129, .binOp _ _ _ _ _, _, _, _, _⟩ :: _) _ _; refine wpList_val rfl (op_ineI rfl rfl rfl NW.out) ?_; go_frame)
          )
        refine segQ_mk (⟨((hS.bring (by repeat (first | exact t0 | apply tS))).getBlk), ((hS.bring (by repeat (first | exact t0 | apply tS))).getBlk)⟩ : Blk _ m 52 (rrC sa x) ∧ Blk _ n8 38 (aC (u, a))) ?_
        refine ord_seg (by repeat (first | exact Clean.body | refine Clean.then ?_ | refine Clean.inBlock ?_ | refine SegQ.clean ?_ | refine FinC.clean ?_)) (n := 13) (rest := [[48, 49, 50, 51, 52, 53, 55, 56, 57, 54, 58, 59, 60]]) [47] [⟨_, _, _, _, _, _⟩] rfl (by kernel_rfl) (by simp) _ _ ?_
        go_wp2_with (first
          | go_big_skip
          | (go_at_call 28; (refine Ret.calls (misses_s (MM := 3) (p := p) (sa := sa) (r := x) (s := a.source) (hS.bring (by repeat (first | exact t0 | apply tS))) hsa HOX.out) ?_); clear hS; rintro r1 w ⟨rfl, hS⟩)
          | (go_at_call 14; (refine Ret.calls (way_s (p := p) (sa := sa) (r := x) (s := a.source) (hS.bring (by repeat (first | exact t0 | apply tS))) hK hF hsa HOX.out) ?_); clear hS; rintro r1 w ⟨rfl, hS⟩)
          | (go_at_call 29; (refine Ret.calls (missed_s (p := m) (sa := sa) (r := x) (s := a.source) (hS.bring (by repeat (first | exact t0 | apply tS))) hsa HOX.out) ?_); clear hS; rintro r1 w ⟨rfl, hS⟩)
          | (go_at_call 30; (refine Ret.calls (rway_s (p := m) (sa := sa) (r := x) (s := a.source) (hS.bring (by repeat (first | exact t0 | apply tS))) hsa HOX.out) ?_); clear hS; rintro r1 w ⟨rfl, hS⟩)
          | (show wpList _ _ _ (⟨_, .load 3 _, _, _, _, _⟩ :: _) _ _; refine wpList_val rfl (op_load1S (b := n8) (T := 38) oneInt ((hS.bring (by repeat (first | exact t0 | apply tS)))) rfl rfl rfl) ?_; go_frame)
          | (show wpList _ _ _ (⟨_, .binOp .neq 29 _ _ _, _, _, _, _⟩ :: _) _ _; refine wpList_val rfl (op_neP rfl rfl rfl NS.out) ?_; go_frame)
          | (show wpList _ _ _ (⟨some 118, .binOp _ _ _ _ _, _, _, _, _⟩ :: _) _ _; refine wpList_val rfl (op_ineI rfl rfl rfl NM.out) ?_; go_frame)
          | (show wpList _ _ _ (⟨some 129, .binOp _ _ _ _ _, _, _, _, _⟩ :: _) _ _; refine wpList_val rfl (op_ineI rfl rfl rfl NW.out) ?_; go_frame)
          )
        refine segQ_mk (⟨((hS.bring (by repeat (first | exact t0 | apply tS))).getBlk), ((hS.bring (by repeat (first | exact t0 | apply tS))).getBlk)⟩ : Blk _ m 52 (rrC sa x) ∧ Blk _ n8 38 (aC (u, a))) ?_
        refine ord_seg (by repeat (first | exact Clean.body | refine Clean.then ?_ | refine Clean.inBlock ?_ | refine SegQ.clean ?_ | refine FinC.clean ?_)) (n := 3) (rest := [[58, 59, 60]]) [48, 49, 50, 51, 52, 53, 55, 56, 57, 54] [⟨_, _, _, _, _, _⟩, ⟨_, _, _, _, _, _⟩, ⟨_, _, _, _, _, _⟩, ⟨_, _, _, _, _, _⟩, ⟨_, _, _, _, _, _⟩, ⟨_, _, _, _, _, _⟩, ⟨_, _, _, _, _, _⟩, ⟨_, _, _, _, _, _⟩, ⟨_, _, _, _, _, _⟩, ⟨_, _, _, _, _, _⟩] rfl (by kernel_rfl) (by simp) _ _ ?_
        go_wp2_with (first
          | go_big_skip
          | (go_at_call 28; (refine Ret.calls (misses_s (MM := 3) (p := p) (sa := sa) (r := x) (s := a.source) (hS.bring (by repeat (first | exact t0 | apply tS))) hsa HOX.out) ?_); clear hS; rintro r1 w ⟨rfl, hS⟩)
          | (go_at_call 14; (refine Ret.calls (way_s (p := p) (sa := sa) (r := x) (s := a.source) (hS.bring (by repeat (first | exact t0 | apply tS))) hK hF hsa HOX.out) ?_); clear hS; rintro r1 w ⟨rfl, hS⟩)
          | (go_at_call 29; (refine Ret.calls (missed_s (p := m) (sa := sa) (r := x) (s := a.source) (hS.bring (by repeat (first | exact t0 | apply tS))) hsa HOX.out) ?_); clear hS; rintro r1 w ⟨rfl, hS⟩)
          | (go_at_call 30; (refine Ret.calls (rway_s (p := m) (sa := sa) (r := x) (s := a.source) (hS.bring (by repeat (first | exact t0 | apply tS))) hsa HOX.out) ?_); clear hS; rintro r1 w ⟨rfl, hS⟩)
          | (show wpList _ _ _ (⟨_, .load 3 _, _, _, _, _⟩ :: _) _ _; refine wpList_val rfl (op_load1S (b := n8) (T := 38) oneInt ((hS.bring (by repeat (first | exact t0 | apply tS)))) rfl rfl rfl) ?_; go_frame)
          | (show wpList _ _ _ (⟨_, .binOp .neq 29 _ _ _, _, _, _, _⟩ :: _) _ _; refine wpList_val rfl (op_neP rfl rfl rfl NS.out) ?_; go_frame)
          | (show wpList _ _ _ (⟨some 118, .binOp _ _ _ _ _, _, _, _, _⟩ :: _) _ _; refine wpList_val rfl (op_ineI rfl rfl rfl NM.out) ?_; go_frame)
          | (show wpList _ _ _ (⟨some 129, .binOp _ _ _ _ _, _, _, _, _⟩ :: _) _ _; refine wpList_val rfl (op_ineI rfl rfl rfl NW.out) ?_; go_frame)
          )
        refine segQ_mk (⟨((hS.bring (by repeat (first | exact t0 | apply tS))).getBlk), ((hS.bring (by repeat (first | exact t0 | apply tS))).getBlk)⟩ : Blk _ m 52 (rrC sa x) ∧ Blk _ n8 38 (aC (u, a))) ?_
        refine ord_seg (by repeat (first | exact Clean.body | refine Clean.then ?_ | refine Clean.inBlock ?_ | refine SegQ.clean ?_ | refine FinC.clean ?_)) (n := 2) (rest := [[59, 60]]) [58] [⟨_, _, _, _, _, _⟩] rfl (by kernel_rfl) (by simp) _ _ ?_
        go_wp2_with (first
          | go_big_skip
          | (go_at_call 28; (refine Ret.calls (misses_s (MM := 3) (p := p) (sa := sa) (r := x) (s := a.source) (hS.bring (by repeat (first | exact t0 | apply tS))) hsa HOX.out) ?_); clear hS; rintro r1 w ⟨rfl, hS⟩)
          | (go_at_call 14; (refine Ret.calls (way_s (p := p) (sa := sa) (r := x) (s := a.source) (hS.bring (by repeat (first | exact t0 | apply tS))) hK hF hsa HOX.out) ?_); clear hS; rintro r1 w ⟨rfl, hS⟩)
          | (go_at_call 29; (refine Ret.calls (missed_s (p := m) (sa := sa) (r := x) (s := a.source) (hS.bring (by repeat (first | exact t0 | apply tS))) hsa HOX.out) ?_); clear hS; rintro r1 w ⟨rfl, hS⟩)
          | (go_at_call 30; (refine Ret.calls (rway_s (p := m) (sa := sa) (r := x) (s := a.source) (hS.bring (by repeat (first | exact t0 | apply tS))) hsa HOX.out) ?_); clear hS; rintro r1 w ⟨rfl, hS⟩)
          | (show wpList _ _ _ (⟨_, .load 3 _, _, _, _, _⟩ :: _) _ _; refine wpList_val rfl (op_load1S (b := n8) (T := 38) oneInt ((hS.bring (by repeat (first | exact t0 | apply tS)))) rfl rfl rfl) ?_; go_frame)
          | (show wpList _ _ _ (⟨_, .binOp .neq 29 _ _ _, _, _, _, _⟩ :: _) _ _; refine wpList_val rfl (op_neP rfl rfl rfl NS.out) ?_; go_frame)
          | (show wpList _ _ _ (⟨some 118, .binOp _ _ _ _ _, _, _, _, _⟩ :: _) _ _; refine wpList_val rfl (op_ineI rfl rfl rfl NM.out) ?_; go_frame)
          | (show wpList _ _ _ (⟨some 129, .binOp _ _ _ _ _, _, _, _, _⟩ :: _) _ _; refine wpList_val rfl (op_ineI rfl rfl rfl NW.out) ?_; go_frame)
          )
        refine segQ_mk (⟨((hS.bring (by repeat (first | exact t0 | apply tS))).getBlk), ((hS.bring (by repeat (first | exact t0 | apply tS))).getBlk)⟩ : Blk _ m 52 (rrC sa x) ∧ Blk _ n8 38 (aC (u, a))) ?_
        refine ord_seg (by repeat (first | exact Clean.body | refine Clean.then ?_ | refine Clean.inBlock ?_ | refine SegQ.clean ?_ | refine FinC.clean ?_)) (n := 0) (rest := [[]]) [59, 60] [⟨_, _, _, _, _, _⟩, ⟨_, _, _, _, _, _⟩] rfl (by kernel_rfl) (by simp) _ _ ?_
        go_wp2_with (first
          | go_big_skip
          | (go_at_call 28; (refine Ret.calls (misses_s (MM := 3) (p := p) (sa := sa) (r := x) (s := a.source) (hS.bring (by repeat (first | exact t0 | apply tS))) hsa HOX.out) ?_); clear hS; rintro r1 w ⟨rfl, hS⟩)
          | (go_at_call 14; (refine Ret.calls (way_s (p := p) (sa := sa) (r := x) (s := a.source) (hS.bring (by repeat (first | exact t0 | apply tS))) hK hF hsa HOX.out) ?_); clear hS; rintro r1 w ⟨rfl, hS⟩)
          | (go_at_call 29; (refine Ret.calls (missed_s (p := m) (sa := sa) (r := x) (s := a.source) (hS.bring (by repeat (first | exact t0 | apply tS))) hsa HOX.out) ?_); clear hS; rintro r1 w ⟨rfl, hS⟩)
          | (go_at_call 30; (refine Ret.calls (rway_s (p := m) (sa := sa) (r := x) (s := a.source) (hS.bring (by repeat (first | exact t0 | apply tS))) hsa HOX.out) ?_); clear hS; rintro r1 w ⟨rfl, hS⟩)
          | (show wpList _ _ _ (⟨_, .load 3 _, _, _, _, _⟩ :: _) _ _; refine wpList_val rfl (op_load1S (b := n8) (T := 38) oneInt ((hS.bring (by repeat (first | exact t0 | apply tS)))) rfl rfl rfl) ?_; go_frame)
          | (show wpList _ _ _ (⟨_, .binOp .neq 29 _ _ _, _, _, _, _⟩ :: _) _ _; refine wpList_val rfl (op_neP rfl rfl rfl NS.out) ?_; go_frame)
          | (show wpList _ _ _ (⟨some 118, .binOp _ _ _ _ _, _, _, _, _⟩ :: _) _ _; refine wpList_val rfl (op_ineI rfl rfl rfl NM.out) ?_; go_frame)
          | (show wpList _ _ _ (⟨some 129, .binOp _ _ _ _ _, _, _, _, _⟩ :: _) _ _; refine wpList_val rfl (op_ineI rfl rfl rfl NW.out) ?_; go_frame)
          )
        refine segQ_mk (⟨((hS.bring (by repeat (first | exact t0 | apply tS))).getBlk), ((hS.bring (by repeat (first | exact t0 | apply tS))).getBlk)⟩ : Blk _ m 52 (rrC sa x) ∧ Blk _ n8 38 (aC (u, a))) ?_
        refine finC_mk (by kernel_rfl) (by
          intro t ht
          simp only [List.mem_cons, List.not_mem_nil, or_false] at ht
          rcases ht with rfl | rfl | rfl | rfl | rfl | rfl | rfl | rfl <;> first | exact stab_blk (b := m) (fun w h => h.1) _ none | exact stab_blk (b := n8) (fun w h => h.2) _ none) ?_
        go_wp2_with fail
        go_roundw
        case rel =>
          refine ⟨k + 1, by go_num, by omega, ?_⟩
          rw [HSN.out]
          exact hS.sel (by repeat (first | exact Sel.refl | refine Sel.take (by repeat (first | exact t0 | apply tS)) ?_ | apply Sel.drop))
        case measure => simp [intOf]; omega
      · have hk2 : k = L.length := by omega
        subst hk2
        rw [← HTL.out, List.take_length] at hS
        clear hk hlt
        have hox := runs_ok T
        obtain ⟨r, hr⟩ : ∃ q, runs T = q := ⟨_, rfl⟩
        rw [hr] at hS hox
        have HOX := hide hox
        clear hox hr
        go_wp2_with fail
        go_loopw [11] (fun iv wr => ∃ z : Int, iv = .int .i64 z ∧ -1 ≤ z ∧ z ≤ 66 ∧ SepL All W wr [.blk p 58 (rtC sa r), .blk m 52 (rrC sa r)]) (fun iv _ => (66 - intOf iv).toNat)
        case atStart => exact ⟨-1, rfl, by omega, by omega, hS⟩
        case round =>
          clear hS
          obtain ⟨z, rfl, hz1, hz2, hS⟩ := hrel
          by_cases hz : z ≤ 65
          · obtain ⟨n, hn⟩ : ∃ n : Nat, z + 1 = n := ⟨(z + 1).toNat, by omega⟩
            have HN := hide hn
            have HZ : Hid (decide (z ≤ 65) = true) := decide_eq_true hz
            have NM := neF (Eq.refl (missN r z : Int))
            have NW := neF (Eq.refl (wayS sa r z))
            go_wp2_with (first
              | go_big_skip
              | (show wpList _ _ _ (⟨some 133, .binOp _ _ _ _ _, _, _, _, _⟩ :: _) _ _; refine wpList_val rfl (op_ileq rfl rfl rfl HZ.out) ?_; go_frame)
              | (go_at_call 14; (refine Ret.calls (way_s (p := p) (sa := sa) (r := r) (s := z) (hS.bring (by repeat (first | exact t0 | apply tS))) hK hF hsa HOX.out) ?_); clear hS; rintro r1 w ⟨rfl, hS⟩)
              | (go_at_call 30; (refine Ret.calls (rway_s (p := m) (sa := sa) (r := r) (s := z) (hS.bring (by repeat (first | exact t0 | apply tS))) hsa HOX.out) ?_); clear hS; rintro r1 w ⟨rfl, hS⟩)
              | (go_at_call 28; (refine Ret.calls (misses_s (MM := 3) (p := p) (sa := sa) (r := r) (s := z) (hS.bring (by repeat (first | exact t0 | apply tS))) hsa HOX.out) ?_); clear hS; rintro r1 w ⟨rfl, hS⟩)
              | (go_at_call 29; (refine Ret.calls (missed_s (p := m) (sa := sa) (r := r) (s := z) (hS.bring (by repeat (first | exact t0 | apply tS))) hsa HOX.out) ?_); clear hS; rintro r1 w ⟨rfl, hS⟩)
              | (show wpList _ _ _ (⟨some 142, .binOp _ _ _ _ _, _, _, _, _⟩ :: _) _ _; refine wpList_val rfl (op_ineI rfl rfl rfl NW.out) ?_; go_frame)
              | (show wpList _ _ _ (⟨some 150, .binOp _ _ _ _ _, _, _, _, _⟩ :: _) _ _; refine wpList_val rfl (op_ineI rfl rfl rfl NM.out) ?_; go_frame)
              | (show wpList _ _ _ (⟨some 135, .binOp _ _ _ _ _, _, _, _, _⟩ :: _) _ _; refine wpList_val rfl (op_iaddN rfl rfl rfl n HN.out (by omega)) ?_; go_frame)
              )
            go_roundw
            case rel => exact ⟨n, rfl, by omega, by omega, hS.sel (by repeat (first | exact Sel.refl | refine Sel.take (by repeat (first | exact t0 | apply tS)) ?_ | apply Sel.drop))⟩
            case measure => simp [intOf]; omega
          · have HZ : Hid (decide (z ≤ 65) = false) := decide_eq_false hz
            go_wp2_with (first
              | (show wpList _ _ _ (⟨some 133, .binOp _ _ _ _ _, _, _, _, _⟩ :: _) _ _; refine wpList_val rfl (op_ileq rfl rfl rfl HZ.out) ?_; go_frame)
              )
            go_ret
            exact ⟨rfl, hS.chg⟩
end Go.Proofs.YtlplgobkidpgkaaDoor
