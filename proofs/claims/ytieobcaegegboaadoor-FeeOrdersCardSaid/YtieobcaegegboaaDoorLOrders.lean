/- Of any weights the order, the worst, and who is less than whom are the document's: the law returns true. Conditions: those that stand ahead of each theorem. -/
import Derived.Test.YtieobcaegegboaaDoorGWfC
namespace Go.Proofs.YtieobcaegegboaaDoor
open Go Go.RowKit Go.Px Go.Sha Go.Calc
set_option maxRecDepth 100000 in
set_option maxHeartbeats 8000000 in
theorem feeOrders_w {W : World} (hK : CIn All W 3 (kTab.map W32)) (hF : CIn All W 0 (first.map W32)) {lv : Value} {l : List Wt} (hl : LIn All W lv l) :
    Calls Tryd.prog 4 #[lv] W (Ret fun r w' => r = .bool true ∧ Chg No W w') := by
  have hS := SepL.start W
  obtain ⟨n, hn⟩ : ∃ n, l.length = n := ⟨_, rfl⟩
  have HNL : Hid ((l.map wtC).length = n) := by unfold Hid; rw [List.length_map, hn]
  have HL0 := hide hl
  by_cases hbig : 60 < n
  · have HG : Hid (decide ((60 : Int) < (n : Int)) = true) := decide_eq_true (by omega)
    clear hbig hn
    go_enter Tryd.func4, Tryd.ntmps4
    go_wp2_with (first
      | (go_at_call 11; refine Ret.calls (alive_s hS hK hF) ?_; clear hS; rintro r1 w ⟨rfl, hS⟩)
      | (show wpList _ _ _ (⟨some 11, .call _, _, _, _, _⟩ :: _) _ _; refine wpList_val rfl (op_len slRWt rfl rfl (v := lv) (xs := l.map wtC) rfl (by exact hS.rd HL0.out.rd)) ?_; rw [HNL.out]; go_frame)
      | (show wpList _ _ _ (⟨some 12, .binOp _ _ _ _ _, _, _, _, _⟩ :: _) _ _; refine wpList_val rfl (op_igtr rfl rfl rfl HG.out) ?_; go_frame)
      )
    go_ret
    exact ⟨rfl, hS.chg⟩
  have HG : Hid (decide ((60 : Int) < (n : Int)) = false) := decide_eq_false (by omega)
  have hlen6 : l.length ≤ 1000000 := by omega
  have hn60 : n ≤ 60 := by omega
  obtain ⟨O, hO⟩ : ∃ O, ordK l l.length = O := ⟨_, rfl⟩
  have HO := hide hO
  have HOL : Hid ((ints O).length = n) := by unfold Hid; rw [ints_len, ← hO, ordK_len, hn]
  obtain ⟨z, hz⟩ : ∃ z, worstK l l.length = z := ⟨_, rfl⟩
  have HZ := hide hz
  have HNE : Hid (((n : Int) != (n : Int)) = false) := neF rfl
  have HNZ : Hid ((z != z) = false) := neF rfl
  have HN := hide hn
  clear hbig hO hz hn
  go_enter Tryd.func4, Tryd.ntmps4
  go_upto_region 6 with (first
    | (go_at_call 11; refine Ret.calls (alive_s hS hK hF) ?_; clear hS; rintro r1 w ⟨rfl, hS⟩)
    | (show wpList _ _ _ (⟨some 11, .call _, _, _, _, _⟩ :: _) _ _; refine wpList_val rfl (op_len slRWt rfl rfl (v := lv) (xs := l.map wtC) rfl (by exact hS.rd HL0.out.rd)) ?_; rw [HNL.out]; go_frame)
    | (show wpList _ _ _ (⟨some 12, .binOp _ _ _ _ _, _, _, _, _⟩ :: _) _ _; refine wpList_val rfl (op_igtr rfl rfl rfl HG.out) ?_; go_frame)
    | (go_at_call 19; refine Ret.calls (weights_s hS HL0.out hlen6) ?_; clear hS; rintro r14 w7 hS)
    )
  obtain ⟨R1, h1, h2, h3, h4⟩ := hS.freezeOwn
  have HBK := hide h4
  have HRW := hide h2
  have HLW : Hid (LIn R1 w7 r14 l) := ⟨h2, HL0.out.ok⟩
  have HLR := hide (HL0.out.mv h3)
  have HRL : Hid (RdIn R1 w7 2 lv (l.map wtC)) := HLR.out.rd
  clear hS h2 h3 h4 hl
  have hS := h1
  clear h1
  go_wp2_with (first
    | go_big_skip
    | (go_at_call 20; refine Ret.calls (order_s hS HLW.out hlen6) ?_; clear hS; rintro r16 w hS; rw [HO.out] at hS)
    | (go_at_call 21; refine Ret.calls (rorder_s hS HLR.out hlen6) ?_; clear hS; rintro r18 w hS; rw [HO.out] at hS)
    | (show wpList _ _ _ (⟨some 20, .call _, _, _, _, _⟩ :: _) _ _; refine wpList_val rfl (op_len slInt rfl rfl (v := r16) (xs := ints O) rfl (SepL.getOwn (v := r16) ((hS.bring (by repeat (first | exact t0 | apply tS))))).rd) ?_; rw [HOL.out]; go_frame)
    | (show wpList _ _ _ (⟨some 22, .call _, _, _, _, _⟩ :: _) _ _; refine wpList_val rfl (op_len slInt rfl rfl (v := r18) (xs := ints O) rfl (SepL.getOwn (v := r18) ((hS.bring (by repeat (first | exact t0 | apply tS))))).rd) ?_; rw [HOL.out]; go_frame)
    | (show wpList _ _ _ (⟨some 23, .binOp _ _ _ _ _, _, _, _, _⟩ :: _) _ _; refine wpList_val rfl (op_ineI rfl rfl rfl HNE.out) ?_; go_frame)
    | (go_at_call 22; refine Ret.calls (worst_s hS HLW.out hlen6) ?_; clear hS; rintro r1 w ⟨rfl, hS⟩; rw [HZ.out])
    | (go_at_call 23; refine Ret.calls (rworst_s hS HLR.out hlen6) ?_; clear hS; rintro r1 w ⟨rfl, hS⟩; rw [HZ.out])
    | (show wpList _ _ _ (⟨some 29, .binOp _ _ _ _ _, _, _, _, _⟩ :: _) _ _; refine wpList_val rfl (op_ineI rfl rfl rfl HNZ.out) ?_; go_frame)
    | (show wpList _ _ _ (⟨some 32, .call _, _, _, _, _⟩ :: _) _ _; refine wpList_val rfl (op_len slInt rfl rfl (v := r16) (xs := ints O) rfl (SepL.getOwn (v := r16) ((hS.bring (by repeat (first | exact t0 | apply tS))))).rd) ?_; rw [HOL.out]; go_frame)
    )
  go_loopw [33, 6] (fun kv _ wr => ∃ k : Nat, kv = .int .i64 k ∧ k ≤ n ∧ SepL R1 w7 wr [.own 3 1 r18 (ints O), .own 3 1 r16 (ints O)]) (fun kv _ _ => n - (intOf kv).toNat)
  case atStart => exact ⟨0, rfl, Nat.zero_le _, hS.sel (by repeat (first | exact Sel.refl | refine Sel.take (by repeat (first | exact t0 | apply tS)) ?_ | apply Sel.drop))⟩
  case round =>
    clear hS
    obtain ⟨k, rfl, hk, hS⟩ := hrel
    by_cases hlt : k < n
    · have hkO : k < (ints O).length := by have := HOL.out; omega
      have hkO2 : k < O.length := by have := HOL.out; rw [ints_len] at this; omega
      obtain ⟨y, hy⟩ : ∃ y, O[k] = y := ⟨_, rfl⟩
      have HY := hide hy
      have HNY : Hid ((y != y) = false) := neF rfl
      clear hy
      go_wp2_with fail
      refine wp_region_text (by kernel_rfl) (by kernel_rfl) (by repeat (first | exact Clean.body | refine Clean.then ?_ | refine Clean.inBlock ?_)) ?_
      replace hS := hS.drew
      go_wp2_with (first
        | (show wpList _ _ _ (⟨some 38, .indexAddr _ _ _, _, _, _, _⟩ :: _) _ _; refine wpList_val rfl (op_indexAddr slInt rfl (v := r16) (xs := ints O) rfl (k := k) rfl (SepL.getOwn (v := r16) ((hS.bring (by repeat (first | exact t0 | apply tS))))).rd hkO) ?_; go_frame)
        | (show wpList _ _ _ (⟨some 39, .load _ _, _, _, _, _⟩ :: _) _ _; refine wpList_val rfl (op_loadE1 oneInt rfl (v := r16) (k := k) rfl (f := I64) (us := O) (SepL.getOwn (v := r16) ((hS.bring (by repeat (first | exact t0 | apply tS))))).rd hkO2) ?_; rw [HY.out]; go_frame)
        | (show wpList _ _ _ (⟨some 42, .indexAddr _ _ _, _, _, _, _⟩ :: _) _ _; refine wpList_val rfl (op_indexAddr slInt rfl (v := r18) (xs := ints O) rfl (k := k) rfl (SepL.getOwn (v := r18) ((hS.bring (by repeat (first | exact t0 | apply tS))))).rd hkO) ?_; go_frame)
        | (show wpList _ _ _ (⟨some 43, .load _ _, _, _, _, _⟩ :: _) _ _; refine wpList_val rfl (op_loadE1 oneInt rfl (v := r18) (k := k) rfl (f := I64) (us := O) (SepL.getOwn (v := r18) ((hS.bring (by repeat (first | exact t0 | apply tS))))).rd hkO2) ?_; rw [HY.out]; go_frame)
        | (show wpList _ _ _ (⟨some 44, .binOp _ _ _ _ _, _, _, _, _⟩ :: _) _ _; refine wpList_val rfl (op_ineI rfl rfl rfl HNY.out) ?_; go_frame)
        | (refine fin_mk (by kernel_rfl) ?_)
        )
      go_roundw
      case rel => exact ⟨k + 1, by go_num, hlt, hS.sel (by repeat (first | exact Sel.refl | refine Sel.take (by repeat (first | exact t0 | apply tS)) ?_ | apply Sel.drop))⟩
      case measure => simp [intOf]; omega
    · go_wp2_with (first
        | (show wpList _ _ _ (⟨some 47, .call _, _, _, _, _⟩ :: _) _ _; refine wpList_val rfl (op_len slRWt rfl rfl (v := lv) (xs := l.map wtC) rfl (by exact hS.rd HRL.out)) ?_; rw [HNL.out]; go_frame)
        )
      go_loopw [48, 7] (fun kv _ wr => ∃ k : Nat, kv = .int .i64 k ∧ k ≤ n ∧ SepL R1 w7 wr []) (fun kv _ _ => n - (intOf kv).toNat)
      case atStart => exact ⟨0, rfl, Nat.zero_le _, hS.tail.tail⟩
      case round =>
        clear hS
        obtain ⟨k, rfl, hk, hS⟩ := hrel
        by_cases hlt : k < n
        · have hkL : k < l.length := by have := HN.out; omega
          have h0L : 0 < l.length := by omega
          have hkr : k < (l.map wtC).length := by rw [List.length_map]; exact hkL
          have hr0 : 0 < (l.map wtC).length := by rw [List.length_map]; exact h0L
          obtain ⟨a, ha⟩ : ∃ a, l[0] = a := ⟨_, rfl⟩
          obtain ⟨b, hb⟩ : ∃ b, l[k] = b := ⟨_, rfl⟩
          have HX0 : Hid ((l.map wtC)[0] = [U a.fee, I64 a.size]) := by unfold Hid; rw [List.getElem_map, ha]; rfl
          have HX : Hid ((l.map wtC)[k] = [U b.fee, I64 b.size]) := by unfold Hid; rw [List.getElem_map, hb]; rfl
          have HA0 := hide (HL0.out.ok a (ha ▸ List.getElem_mem h0L))
          have HAK := hide (HL0.out.ok b (hb ▸ List.getElem_mem hkL))
          obtain ⟨r, hr⟩ : ∃ r, decide (lessW a b) = r := ⟨_, rfl⟩
          have HRR := hide hr
          have hne : l.map wtC ≠ [] := by intro h; rw [h] at hr0; simp at hr0
          obtain ⟨b7, o7, c7, cs, T7, fr7, he7, hro⟩ := ro_of HRW.out hne
          have HE7 := hide he7
          have HRO := hide hro
          obtain ⟨b8, o8, c8, cs8, T8, fr8, he8, hro2⟩ := ro_of HRL.out hne
          have HE8 := hide he8
          have HRO2 := hide hro2
          clear ha hb hr hne he7 hro he8 hro2
          go_wp2_with fail
          cases r
          · skip
            refine wp_region_ord (by kernel_rfl) [52, 56, 60, 64] [[0, 1, 2, 3, 4, 5, 6, 8, 9, 10, 11, 12, 13, 14, 7, 15, 16]] (by kernel_rfl) (by kernel_rfl) (fun w' => w'.heap[b7]? = some (.cells cs T7 fr7) ∧ w'.heap[b8]? = some (.cells cs8 T8 fr8)) (Up.and Up.obj Up.obj) ⟨HRO.out.now hS.drew, HRO2.out.now hS.drew⟩ (by repeat (first | exact Clean.body | refine Clean.then ?_ | refine Clean.inBlock ?_ | refine SegQ.clean ?_ | refine FinC.clean ?_)) ?_
            replace hS := hS.drew
            refine ord_seg (by repeat (first | exact Clean.body | refine Clean.then ?_ | refine Clean.inBlock ?_ | refine SegQ.clean ?_ | refine FinC.clean ?_)) (n := 9) (rest := [[9, 10, 11, 12, 13, 14, 7, 15, 16]]) [0, 1, 2, 3, 4, 5, 6, 8] [⟨_, _, _, _, _, _⟩, ⟨_, _, _, _, _, _⟩, ⟨_, _, _, _, _, _⟩, ⟨_, _, _, _, _, _⟩, ⟨_, _, _, _, _, _⟩, ⟨_, _, _, _, _, _⟩, ⟨_, _, _, _, _, _⟩, ⟨_, _, _, _, _, _⟩] rfl (by kernel_rfl) (by simp) _ _ ?_
            go_wp2_with (first
              | (show wpList _ _ _ (⟨some 52, .indexAddr _ _ _, _, _, _, _⟩ :: _) _ _; refine wpList_val rfl (op_indexAddr slWt rfl (v := r14) (xs := l.map wtC) rfl (k := 0) rfl (by exact hS.rd HRW.out) hr0) ?_; go_frame)
              | (show wpList _ _ _ (⟨some 53, .load _ _, _, _, _, _⟩ :: _) _ _; refine wpList_val rfl (op_loadE aggWt rfl (v := r14) (xs := l.map wtC) (k := 0) rfl (by exact hS.rd HRW.out) hr0) ?_; rw [HX0.out]; go_frame)
              | (show wpList _ _ _ (⟨some 56, .indexAddr _ _ _, _, _, _, _⟩ :: _) _ _; refine wpList_val rfl (op_indexAddr slWt rfl (v := r14) (xs := l.map wtC) rfl (k := k) rfl (by exact hS.rd HRW.out) hkr) ?_; go_frame)
              | (show wpList _ _ _ (⟨some 57, .load _ _, _, _, _, _⟩ :: _) _ _; refine wpList_val rfl (op_loadE aggWt rfl (v := r14) (xs := l.map wtC) (k := k) rfl (by exact hS.rd HRW.out) hkr) ?_; rw [HX.out]; go_frame)
              | (show wpList _ _ _ (⟨some 60, .indexAddr _ _ _, _, _, _, _⟩ :: _) _ _; refine wpList_val rfl (op_indexAddr slRWt rfl (v := lv) (xs := l.map wtC) rfl (k := 0) rfl (by exact hS.rd HRL.out) hr0) ?_; go_frame)
              | (show wpList _ _ _ (⟨some 61, .load _ _, _, _, _, _⟩ :: _) _ _; refine wpList_val rfl (op_loadE aggRWt rfl (v := lv) (xs := l.map wtC) (k := 0) rfl (by exact hS.rd HRL.out) hr0) ?_; rw [HX0.out]; go_frame)
              | (show wpList _ _ _ (⟨some 64, .indexAddr _ _ _, _, _, _, _⟩ :: _) _ _; refine wpList_val rfl (op_indexAddr slRWt rfl (v := lv) (xs := l.map wtC) rfl (k := k) rfl (by exact hS.rd HRL.out) hkr) ?_; go_frame)
              | (show wpList _ _ _ (⟨some 65, .load _ _, _, _, _, _⟩ :: _) _ _; refine wpList_val rfl (op_loadE aggRWt rfl (v := lv) (xs := l.map wtC) (k := k) rfl (by exact hS.rd HRL.out) hkr) ?_; rw [HX.out]; go_frame)
              | (go_at_call 24; refine Ret.calls (less_s hS HA0.out HAK.out HRR) ?_; clear hS; rintro r1 w ⟨rfl, hS⟩)
              | (go_at_call 25; refine Ret.calls (rless_s hS HA0.out HAK.out HRR) ?_; clear hS; rintro r1 w ⟨rfl, hS⟩)
              )
            refine segQ_mk (⟨HRO.out.now hS, HRO2.out.now hS⟩) ?_
            refine ord_seg (by repeat (first | exact Clean.body | refine Clean.then ?_ | refine Clean.inBlock ?_ | refine SegQ.clean ?_ | refine FinC.clean ?_)) (n := 2) (rest := [[15, 16]]) [9, 10, 11, 12, 13, 14, 7] [⟨_, _, _, _, _, _⟩, ⟨_, _, _, _, _, _⟩, ⟨_, _, _, _, _, _⟩, ⟨_, _, _, _, _, _⟩, ⟨_, _, _, _, _, _⟩, ⟨_, _, _, _, _, _⟩, ⟨_, _, _, _, _, _⟩] rfl (by kernel_rfl) (by simp) _ _ ?_
            go_wp2_with (first
              | (show wpList _ _ _ (⟨some 52, .indexAddr _ _ _, _, _, _, _⟩ :: _) _ _; refine wpList_val rfl (op_indexAddr slWt rfl (v := r14) (xs := l.map wtC) rfl (k := 0) rfl (by exact hS.rd HRW.out) hr0) ?_; go_frame)
              | (show wpList _ _ _ (⟨some 53, .load _ _, _, _, _, _⟩ :: _) _ _; refine wpList_val rfl (op_loadE aggWt rfl (v := r14) (xs := l.map wtC) (k := 0) rfl (by exact hS.rd HRW.out) hr0) ?_; rw [HX0.out]; go_frame)
              | (show wpList _ _ _ (⟨some 56, .indexAddr _ _ _, _, _, _, _⟩ :: _) _ _; refine wpList_val rfl (op_indexAddr slWt rfl (v := r14) (xs := l.map wtC) rfl (k := k) rfl (by exact hS.rd HRW.out) hkr) ?_; go_frame)
              | (show wpList _ _ _ (⟨some 57, .load _ _, _, _, _, _⟩ :: _) _ _; refine wpList_val rfl (op_loadE aggWt rfl (v := r14) (xs := l.map wtC) (k := k) rfl (by exact hS.rd HRW.out) hkr) ?_; rw [HX.out]; go_frame)
              | (show wpList _ _ _ (⟨some 60, .indexAddr _ _ _, _, _, _, _⟩ :: _) _ _; refine wpList_val rfl (op_indexAddr slRWt rfl (v := lv) (xs := l.map wtC) rfl (k := 0) rfl (by exact hS.rd HRL.out) hr0) ?_; go_frame)
              | (show wpList _ _ _ (⟨some 61, .load _ _, _, _, _, _⟩ :: _) _ _; refine wpList_val rfl (op_loadE aggRWt rfl (v := lv) (xs := l.map wtC) (k := 0) rfl (by exact hS.rd HRL.out) hr0) ?_; rw [HX0.out]; go_frame)
              | (show wpList _ _ _ (⟨some 64, .indexAddr _ _ _, _, _, _, _⟩ :: _) _ _; refine wpList_val rfl (op_indexAddr slRWt rfl (v := lv) (xs := l.map wtC) rfl (k := k) rfl (by exact hS.rd HRL.out) hkr) ?_; go_frame)
              | (show wpList _ _ _ (⟨some 65, .load _ _, _, _, _, _⟩ :: _) _ _; refine wpList_val rfl (op_loadE aggRWt rfl (v := lv) (xs := l.map wtC) (k := k) rfl (by exact hS.rd HRL.out) hkr) ?_; rw [HX.out]; go_frame)
              | (go_at_call 24; refine Ret.calls (less_s hS HA0.out HAK.out HRR) ?_; clear hS; rintro r1 w ⟨rfl, hS⟩)
              | (go_at_call 25; refine Ret.calls (rless_s hS HA0.out HAK.out HRR) ?_; clear hS; rintro r1 w ⟨rfl, hS⟩)
              )
            refine segQ_mk (⟨HRO.out.now hS, HRO2.out.now hS⟩) ?_
            refine ord_seg (by repeat (first | exact Clean.body | refine Clean.then ?_ | refine Clean.inBlock ?_ | refine SegQ.clean ?_ | refine FinC.clean ?_)) (n := 1) (rest := [[16]]) [15] [⟨_, _, _, _, _, _⟩] rfl (by kernel_rfl) (by simp) _ _ ?_
            go_wp2_with (first
              | (show wpList _ _ _ (⟨some 52, .indexAddr _ _ _, _, _, _, _⟩ :: _) _ _; refine wpList_val rfl (op_indexAddr slWt rfl (v := r14) (xs := l.map wtC) rfl (k := 0) rfl (by exact hS.rd HRW.out) hr0) ?_; go_frame)
              | (show wpList _ _ _ (⟨some 53, .load _ _, _, _, _, _⟩ :: _) _ _; refine wpList_val rfl (op_loadE aggWt rfl (v := r14) (xs := l.map wtC) (k := 0) rfl (by exact hS.rd HRW.out) hr0) ?_; rw [HX0.out]; go_frame)
              | (show wpList _ _ _ (⟨some 56, .indexAddr _ _ _, _, _, _, _⟩ :: _) _ _; refine wpList_val rfl (op_indexAddr slWt rfl (v := r14) (xs := l.map wtC) rfl (k := k) rfl (by exact hS.rd HRW.out) hkr) ?_; go_frame)
              | (show wpList _ _ _ (⟨some 57, .load _ _, _, _, _, _⟩ :: _) _ _; refine wpList_val rfl (op_loadE aggWt rfl (v := r14) (xs := l.map wtC) (k := k) rfl (by exact hS.rd HRW.out) hkr) ?_; rw [HX.out]; go_frame)
              | (show wpList _ _ _ (⟨some 60, .indexAddr _ _ _, _, _, _, _⟩ :: _) _ _; refine wpList_val rfl (op_indexAddr slRWt rfl (v := lv) (xs := l.map wtC) rfl (k := 0) rfl (by exact hS.rd HRL.out) hr0) ?_; go_frame)
              | (show wpList _ _ _ (⟨some 61, .load _ _, _, _, _, _⟩ :: _) _ _; refine wpList_val rfl (op_loadE aggRWt rfl (v := lv) (xs := l.map wtC) (k := 0) rfl (by exact hS.rd HRL.out) hr0) ?_; rw [HX0.out]; go_frame)
              | (show wpList _ _ _ (⟨some 64, .indexAddr _ _ _, _, _, _, _⟩ :: _) _ _; refine wpList_val rfl (op_indexAddr slRWt rfl (v := lv) (xs := l.map wtC) rfl (k := k) rfl (by exact hS.rd HRL.out) hkr) ?_; go_frame)
              | (show wpList _ _ _ (⟨some 65, .load _ _, _, _, _, _⟩ :: _) _ _; refine wpList_val rfl (op_loadE aggRWt rfl (v := lv) (xs := l.map wtC) (k := k) rfl (by exact hS.rd HRL.out) hkr) ?_; rw [HX.out]; go_frame)
              | (go_at_call 24; refine Ret.calls (less_s hS HA0.out HAK.out HRR) ?_; clear hS; rintro r1 w ⟨rfl, hS⟩)
              | (go_at_call 25; refine Ret.calls (rless_s hS HA0.out HAK.out HRR) ?_; clear hS; rintro r1 w ⟨rfl, hS⟩)
              )
            refine segQ_mk (⟨HRO.out.now hS, HRO2.out.now hS⟩) ?_
            refine ord_seg (by repeat (first | exact Clean.body | refine Clean.then ?_ | refine Clean.inBlock ?_ | refine SegQ.clean ?_ | refine FinC.clean ?_)) (n := 0) (rest := [[]]) [16] [⟨_, _, _, _, _, _⟩] rfl (by kernel_rfl) (by simp) _ _ ?_
            go_wp2_with (first
              | (show wpList _ _ _ (⟨some 52, .indexAddr _ _ _, _, _, _, _⟩ :: _) _ _; refine wpList_val rfl (op_indexAddr slWt rfl (v := r14) (xs := l.map wtC) rfl (k := 0) rfl (by exact hS.rd HRW.out) hr0) ?_; go_frame)
              | (show wpList _ _ _ (⟨some 53, .load _ _, _, _, _, _⟩ :: _) _ _; refine wpList_val rfl (op_loadE aggWt rfl (v := r14) (xs := l.map wtC) (k := 0) rfl (by exact hS.rd HRW.out) hr0) ?_; rw [HX0.out]; go_frame)
              | (show wpList _ _ _ (⟨some 56, .indexAddr _ _ _, _, _, _, _⟩ :: _) _ _; refine wpList_val rfl (op_indexAddr slWt rfl (v := r14) (xs := l.map wtC) rfl (k := k) rfl (by exact hS.rd HRW.out) hkr) ?_; go_frame)
              | (show wpList _ _ _ (⟨some 57, .load _ _, _, _, _, _⟩ :: _) _ _; refine wpList_val rfl (op_loadE aggWt rfl (v := r14) (xs := l.map wtC) (k := k) rfl (by exact hS.rd HRW.out) hkr) ?_; rw [HX.out]; go_frame)
              | (show wpList _ _ _ (⟨some 60, .indexAddr _ _ _, _, _, _, _⟩ :: _) _ _; refine wpList_val rfl (op_indexAddr slRWt rfl (v := lv) (xs := l.map wtC) rfl (k := 0) rfl (by exact hS.rd HRL.out) hr0) ?_; go_frame)
              | (show wpList _ _ _ (⟨some 61, .load _ _, _, _, _, _⟩ :: _) _ _; refine wpList_val rfl (op_loadE aggRWt rfl (v := lv) (xs := l.map wtC) (k := 0) rfl (by exact hS.rd HRL.out) hr0) ?_; rw [HX0.out]; go_frame)
              | (show wpList _ _ _ (⟨some 64, .indexAddr _ _ _, _, _, _, _⟩ :: _) _ _; refine wpList_val rfl (op_indexAddr slRWt rfl (v := lv) (xs := l.map wtC) rfl (k := k) rfl (by exact hS.rd HRL.out) hkr) ?_; go_frame)
              | (show wpList _ _ _ (⟨some 65, .load _ _, _, _, _, _⟩ :: _) _ _; refine wpList_val rfl (op_loadE aggRWt rfl (v := lv) (xs := l.map wtC) (k := k) rfl (by exact hS.rd HRL.out) hkr) ?_; rw [HX.out]; go_frame)
              | (go_at_call 24; refine Ret.calls (less_s hS HA0.out HAK.out HRR) ?_; clear hS; rintro r1 w ⟨rfl, hS⟩)
              | (go_at_call 25; refine Ret.calls (rless_s hS HA0.out HAK.out HRR) ?_; clear hS; rintro r1 w ⟨rfl, hS⟩)
              )
            refine segQ_mk (⟨HRO.out.now hS, HRO2.out.now hS⟩) ?_
            refine finC_mk (by kernel_rfl) (by
              intro t ht
              simp only [List.mem_cons, List.not_mem_nil, or_false] at ht
              rcases ht with rfl | rfl | rfl | rfl
              · exact stab_elE (n := 2) (k := 0) HE7.out fun w h => h.1
              · exact stab_elE (n := 2) (k := k) HE7.out fun w h => h.1
              · exact stab_elE (n := 2) (k := 0) HE8.out fun w h => h.2
              · exact stab_elE (n := 2) (k := k) HE8.out fun w h => h.2) ?_
            go_wp2_with fail
            go_roundw
            case rel => exact ⟨k + 1, by go_num, hlt, hS⟩
            case measure => simp [intOf]; omega
          · skip
            refine wp_region_ord (by kernel_rfl) [52, 56, 60, 64] [[0, 1, 2, 3, 4, 5, 6, 8, 9, 10, 11, 12, 13, 14, 7, 15, 16]] (by kernel_rfl) (by kernel_rfl) (fun w' => w'.heap[b7]? = some (.cells cs T7 fr7) ∧ w'.heap[b8]? = some (.cells cs8 T8 fr8)) (Up.and Up.obj Up.obj) ⟨HRO.out.now hS.drew, HRO2.out.now hS.drew⟩ (by repeat (first | exact Clean.body | refine Clean.then ?_ | refine Clean.inBlock ?_ | refine SegQ.clean ?_ | refine FinC.clean ?_)) ?_
            replace hS := hS.drew
            refine ord_seg (by repeat (first | exact Clean.body | refine Clean.then ?_ | refine Clean.inBlock ?_ | refine SegQ.clean ?_ | refine FinC.clean ?_)) (n := 9) (rest := [[9, 10, 11, 12, 13, 14, 7, 15, 16]]) [0, 1, 2, 3, 4, 5, 6, 8] [⟨_, _, _, _, _, _⟩, ⟨_, _, _, _, _, _⟩, ⟨_, _, _, _, _, _⟩, ⟨_, _, _, _, _, _⟩, ⟨_, _, _, _, _, _⟩, ⟨_, _, _, _, _, _⟩, ⟨_, _, _, _, _, _⟩, ⟨_, _, _, _, _, _⟩] rfl (by kernel_rfl) (by simp) _ _ ?_
            go_wp2_with (first
              | (show wpList _ _ _ (⟨some 52, .indexAddr _ _ _, _, _, _, _⟩ :: _) _ _; refine wpList_val rfl (op_indexAddr slWt rfl (v := r14) (xs := l.map wtC) rfl (k := 0) rfl (by exact hS.rd HRW.out) hr0) ?_; go_frame)
              | (show wpList _ _ _ (⟨some 53, .load _ _, _, _, _, _⟩ :: _) _ _; refine wpList_val rfl (op_loadE aggWt rfl (v := r14) (xs := l.map wtC) (k := 0) rfl (by exact hS.rd HRW.out) hr0) ?_; rw [HX0.out]; go_frame)
              | (show wpList _ _ _ (⟨some 56, .indexAddr _ _ _, _, _, _, _⟩ :: _) _ _; refine wpList_val rfl (op_indexAddr slWt rfl (v := r14) (xs := l.map wtC) rfl (k := k) rfl (by exact hS.rd HRW.out) hkr) ?_; go_frame)
              | (show wpList _ _ _ (⟨some 57, .load _ _, _, _, _, _⟩ :: _) _ _; refine wpList_val rfl (op_loadE aggWt rfl (v := r14) (xs := l.map wtC) (k := k) rfl (by exact hS.rd HRW.out) hkr) ?_; rw [HX.out]; go_frame)
              | (show wpList _ _ _ (⟨some 60, .indexAddr _ _ _, _, _, _, _⟩ :: _) _ _; refine wpList_val rfl (op_indexAddr slRWt rfl (v := lv) (xs := l.map wtC) rfl (k := 0) rfl (by exact hS.rd HRL.out) hr0) ?_; go_frame)
              | (show wpList _ _ _ (⟨some 61, .load _ _, _, _, _, _⟩ :: _) _ _; refine wpList_val rfl (op_loadE aggRWt rfl (v := lv) (xs := l.map wtC) (k := 0) rfl (by exact hS.rd HRL.out) hr0) ?_; rw [HX0.out]; go_frame)
              | (show wpList _ _ _ (⟨some 64, .indexAddr _ _ _, _, _, _, _⟩ :: _) _ _; refine wpList_val rfl (op_indexAddr slRWt rfl (v := lv) (xs := l.map wtC) rfl (k := k) rfl (by exact hS.rd HRL.out) hkr) ?_; go_frame)
              | (show wpList _ _ _ (⟨some 65, .load _ _, _, _, _, _⟩ :: _) _ _; refine wpList_val rfl (op_loadE aggRWt rfl (v := lv) (xs := l.map wtC) (k := k) rfl (by exact hS.rd HRL.out) hkr) ?_; rw [HX.out]; go_frame)
              | (go_at_call 24; refine Ret.calls (less_s hS HA0.out HAK.out HRR) ?_; clear hS; rintro r1 w ⟨rfl, hS⟩)
              | (go_at_call 25; refine Ret.calls (rless_s hS HA0.out HAK.out HRR) ?_; clear hS; rintro r1 w ⟨rfl, hS⟩)
              )
            refine segQ_mk (⟨HRO.out.now hS, HRO2.out.now hS⟩) ?_
            refine ord_seg (by repeat (first | exact Clean.body | refine Clean.then ?_ | refine Clean.inBlock ?_ | refine SegQ.clean ?_ | refine FinC.clean ?_)) (n := 2) (rest := [[15, 16]]) [9, 10, 11, 12, 13, 14, 7] [⟨_, _, _, _, _, _⟩, ⟨_, _, _, _, _, _⟩, ⟨_, _, _, _, _, _⟩, ⟨_, _, _, _, _, _⟩, ⟨_, _, _, _, _, _⟩, ⟨_, _, _, _, _, _⟩, ⟨_, _, _, _, _, _⟩] rfl (by kernel_rfl) (by simp) _ _ ?_
            go_wp2_with (first
              | (show wpList _ _ _ (⟨some 52, .indexAddr _ _ _, _, _, _, _⟩ :: _) _ _; refine wpList_val rfl (op_indexAddr slWt rfl (v := r14) (xs := l.map wtC) rfl (k := 0) rfl (by exact hS.rd HRW.out) hr0) ?_; go_frame)
              | (show wpList _ _ _ (⟨some 53, .load _ _, _, _, _, _⟩ :: _) _ _; refine wpList_val rfl (op_loadE aggWt rfl (v := r14) (xs := l.map wtC) (k := 0) rfl (by exact hS.rd HRW.out) hr0) ?_; rw [HX0.out]; go_frame)
              | (show wpList _ _ _ (⟨some 56, .indexAddr _ _ _, _, _, _, _⟩ :: _) _ _; refine wpList_val rfl (op_indexAddr slWt rfl (v := r14) (xs := l.map wtC) rfl (k := k) rfl (by exact hS.rd HRW.out) hkr) ?_; go_frame)
              | (show wpList _ _ _ (⟨some 57, .load _ _, _, _, _, _⟩ :: _) _ _; refine wpList_val rfl (op_loadE aggWt rfl (v := r14) (xs := l.map wtC) (k := k) rfl (by exact hS.rd HRW.out) hkr) ?_; rw [HX.out]; go_frame)
              | (show wpList _ _ _ (⟨some 60, .indexAddr _ _ _, _, _, _, _⟩ :: _) _ _; refine wpList_val rfl (op_indexAddr slRWt rfl (v := lv) (xs := l.map wtC) rfl (k := 0) rfl (by exact hS.rd HRL.out) hr0) ?_; go_frame)
              | (show wpList _ _ _ (⟨some 61, .load _ _, _, _, _, _⟩ :: _) _ _; refine wpList_val rfl (op_loadE aggRWt rfl (v := lv) (xs := l.map wtC) (k := 0) rfl (by exact hS.rd HRL.out) hr0) ?_; rw [HX0.out]; go_frame)
              | (show wpList _ _ _ (⟨some 64, .indexAddr _ _ _, _, _, _, _⟩ :: _) _ _; refine wpList_val rfl (op_indexAddr slRWt rfl (v := lv) (xs := l.map wtC) rfl (k := k) rfl (by exact hS.rd HRL.out) hkr) ?_; go_frame)
              | (show wpList _ _ _ (⟨some 65, .load _ _, _, _, _, _⟩ :: _) _ _; refine wpList_val rfl (op_loadE aggRWt rfl (v := lv) (xs := l.map wtC) (k := k) rfl (by exact hS.rd HRL.out) hkr) ?_; rw [HX.out]; go_frame)
              | (go_at_call 24; refine Ret.calls (less_s hS HA0.out HAK.out HRR) ?_; clear hS; rintro r1 w ⟨rfl, hS⟩)
              | (go_at_call 25; refine Ret.calls (rless_s hS HA0.out HAK.out HRR) ?_; clear hS; rintro r1 w ⟨rfl, hS⟩)
              )
            refine segQ_mk (⟨HRO.out.now hS, HRO2.out.now hS⟩) ?_
            refine ord_seg (by repeat (first | exact Clean.body | refine Clean.then ?_ | refine Clean.inBlock ?_ | refine SegQ.clean ?_ | refine FinC.clean ?_)) (n := 1) (rest := [[16]]) [15] [⟨_, _, _, _, _, _⟩] rfl (by kernel_rfl) (by simp) _ _ ?_
            go_wp2_with (first
              | (show wpList _ _ _ (⟨some 52, .indexAddr _ _ _, _, _, _, _⟩ :: _) _ _; refine wpList_val rfl (op_indexAddr slWt rfl (v := r14) (xs := l.map wtC) rfl (k := 0) rfl (by exact hS.rd HRW.out) hr0) ?_; go_frame)
              | (show wpList _ _ _ (⟨some 53, .load _ _, _, _, _, _⟩ :: _) _ _; refine wpList_val rfl (op_loadE aggWt rfl (v := r14) (xs := l.map wtC) (k := 0) rfl (by exact hS.rd HRW.out) hr0) ?_; rw [HX0.out]; go_frame)
              | (show wpList _ _ _ (⟨some 56, .indexAddr _ _ _, _, _, _, _⟩ :: _) _ _; refine wpList_val rfl (op_indexAddr slWt rfl (v := r14) (xs := l.map wtC) rfl (k := k) rfl (by exact hS.rd HRW.out) hkr) ?_; go_frame)
              | (show wpList _ _ _ (⟨some 57, .load _ _, _, _, _, _⟩ :: _) _ _; refine wpList_val rfl (op_loadE aggWt rfl (v := r14) (xs := l.map wtC) (k := k) rfl (by exact hS.rd HRW.out) hkr) ?_; rw [HX.out]; go_frame)
              | (show wpList _ _ _ (⟨some 60, .indexAddr _ _ _, _, _, _, _⟩ :: _) _ _; refine wpList_val rfl (op_indexAddr slRWt rfl (v := lv) (xs := l.map wtC) rfl (k := 0) rfl (by exact hS.rd HRL.out) hr0) ?_; go_frame)
              | (show wpList _ _ _ (⟨some 61, .load _ _, _, _, _, _⟩ :: _) _ _; refine wpList_val rfl (op_loadE aggRWt rfl (v := lv) (xs := l.map wtC) (k := 0) rfl (by exact hS.rd HRL.out) hr0) ?_; rw [HX0.out]; go_frame)
              | (show wpList _ _ _ (⟨some 64, .indexAddr _ _ _, _, _, _, _⟩ :: _) _ _; refine wpList_val rfl (op_indexAddr slRWt rfl (v := lv) (xs := l.map wtC) rfl (k := k) rfl (by exact hS.rd HRL.out) hkr) ?_; go_frame)
              | (show wpList _ _ _ (⟨some 65, .load _ _, _, _, _, _⟩ :: _) _ _; refine wpList_val rfl (op_loadE aggRWt rfl (v := lv) (xs := l.map wtC) (k := k) rfl (by exact hS.rd HRL.out) hkr) ?_; rw [HX.out]; go_frame)
              | (go_at_call 24; refine Ret.calls (less_s hS HA0.out HAK.out HRR) ?_; clear hS; rintro r1 w ⟨rfl, hS⟩)
              | (go_at_call 25; refine Ret.calls (rless_s hS HA0.out HAK.out HRR) ?_; clear hS; rintro r1 w ⟨rfl, hS⟩)
              )
            refine segQ_mk (⟨HRO.out.now hS, HRO2.out.now hS⟩) ?_
            refine ord_seg (by repeat (first | exact Clean.body | refine Clean.then ?_ | refine Clean.inBlock ?_ | refine SegQ.clean ?_ | refine FinC.clean ?_)) (n := 0) (rest := [[]]) [16] [⟨_, _, _, _, _, _⟩] rfl (by kernel_rfl) (by simp) _ _ ?_
            go_wp2_with (first
              | (show wpList _ _ _ (⟨some 52, .indexAddr _ _ _, _, _, _, _⟩ :: _) _ _; refine wpList_val rfl (op_indexAddr slWt rfl (v := r14) (xs := l.map wtC) rfl (k := 0) rfl (by exact hS.rd HRW.out) hr0) ?_; go_frame)
              | (show wpList _ _ _ (⟨some 53, .load _ _, _, _, _, _⟩ :: _) _ _; refine wpList_val rfl (op_loadE aggWt rfl (v := r14) (xs := l.map wtC) (k := 0) rfl (by exact hS.rd HRW.out) hr0) ?_; rw [HX0.out]; go_frame)
              | (show wpList _ _ _ (⟨some 56, .indexAddr _ _ _, _, _, _, _⟩ :: _) _ _; refine wpList_val rfl (op_indexAddr slWt rfl (v := r14) (xs := l.map wtC) rfl (k := k) rfl (by exact hS.rd HRW.out) hkr) ?_; go_frame)
              | (show wpList _ _ _ (⟨some 57, .load _ _, _, _, _, _⟩ :: _) _ _; refine wpList_val rfl (op_loadE aggWt rfl (v := r14) (xs := l.map wtC) (k := k) rfl (by exact hS.rd HRW.out) hkr) ?_; rw [HX.out]; go_frame)
              | (show wpList _ _ _ (⟨some 60, .indexAddr _ _ _, _, _, _, _⟩ :: _) _ _; refine wpList_val rfl (op_indexAddr slRWt rfl (v := lv) (xs := l.map wtC) rfl (k := 0) rfl (by exact hS.rd HRL.out) hr0) ?_; go_frame)
              | (show wpList _ _ _ (⟨some 61, .load _ _, _, _, _, _⟩ :: _) _ _; refine wpList_val rfl (op_loadE aggRWt rfl (v := lv) (xs := l.map wtC) (k := 0) rfl (by exact hS.rd HRL.out) hr0) ?_; rw [HX0.out]; go_frame)
              | (show wpList _ _ _ (⟨some 64, .indexAddr _ _ _, _, _, _, _⟩ :: _) _ _; refine wpList_val rfl (op_indexAddr slRWt rfl (v := lv) (xs := l.map wtC) rfl (k := k) rfl (by exact hS.rd HRL.out) hkr) ?_; go_frame)
              | (show wpList _ _ _ (⟨some 65, .load _ _, _, _, _, _⟩ :: _) _ _; refine wpList_val rfl (op_loadE aggRWt rfl (v := lv) (xs := l.map wtC) (k := k) rfl (by exact hS.rd HRL.out) hkr) ?_; rw [HX.out]; go_frame)
              | (go_at_call 24; refine Ret.calls (less_s hS HA0.out HAK.out HRR) ?_; clear hS; rintro r1 w ⟨rfl, hS⟩)
              | (go_at_call 25; refine Ret.calls (rless_s hS HA0.out HAK.out HRR) ?_; clear hS; rintro r1 w ⟨rfl, hS⟩)
              )
            refine segQ_mk (⟨HRO.out.now hS, HRO2.out.now hS⟩) ?_
            refine finC_mk (by kernel_rfl) (by
              intro t ht
              simp only [List.mem_cons, List.not_mem_nil, or_false] at ht
              rcases ht with rfl | rfl | rfl | rfl
              · exact stab_elE (n := 2) (k := 0) HE7.out fun w h => h.1
              · exact stab_elE (n := 2) (k := k) HE7.out fun w h => h.1
              · exact stab_elE (n := 2) (k := 0) HE8.out fun w h => h.2
              · exact stab_elE (n := 2) (k := k) HE8.out fun w h => h.2) ?_
            go_wp2_with fail
            go_roundw
            case rel => exact ⟨k + 1, by go_num, hlt, hS⟩
            case measure => simp [intOf]; omega
        · go_wp2_with fail
          go_ret
          exact ⟨rfl, (HBK.out _ _ hS).chg⟩
end Go.Proofs.YtieobcaegegboaaDoor
