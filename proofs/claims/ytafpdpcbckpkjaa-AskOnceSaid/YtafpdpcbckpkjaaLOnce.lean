/- Each id is asked for once, of the first of its peers: the law returns true. Conditions: those that stand ahead of each theorem. -/
import Derived.Test.YtafpdpcbckpkjaaOnceP
import Derived.Deep.DeepCutAuto
namespace Go.Proofs.Ytafpdpcbckpkjaa
open Go.RowKit Go.Px
theorem cutI {w : World} {v : Value} {P : List Int} (h : Rd 1 w v (P.map fun z => [I64 z])) {m : Nat} (hm : m ≤ P.length) : Rd 1 w (cutV 1 v 0 m) ((P.take m).map fun z => [I64 z]) := by
  have := h.cutV (Nat.zero_le m) (by simpa using hm)
  rw [List.drop_zero, Nat.sub_zero, ← List.map_take] at this
  exact this
set_option maxRecDepth 100000 in
set_option maxHeartbeats 8000000 in
theorem askOnce_w {W : World} {v : Value} {L : List PAct} {id : List Byte} (hv0 : Rd 35 W v (L.map actC)) (ha : ∀ a ∈ L, AOk a) (hid : id.length = 32) :
    Calls Try.prog 5 #[v, .agg (id.map B8).toArray] W (Ret fun r w' => r = .bool true ∧ Chg No W w') := by
  have hS := SepL.start W
  have hv := RdIn.of hv0
  have HL : Hid ((L.map actC).length = L.length) := by simp [Hid]
  have HA := hide ha
  have HIL : Hid ((id.map B8).length = 32) := by simp [Hid, hid]
  have HID := hide hid
  have KI := isKey hid
  clear hv0
  by_cases h200 : 200 < L.length
  · have HG : Hid (decide ((200 : Int) < (L.length : Int)) = true) := decT (by omega)
    clear h200 ha hid
    go_enter Try.func5, Try.ntmps5
    go_wp2_with (first
      | (show wpList _ _ _ (⟨_, .box 28 _, _, _, _, _⟩ :: _) _ _; refine wpS_boxA (cs := id.map B8) hS rfl rfl rfl ?_; clear hS; intro nid w hS; go_frame)
      | (show wpList _ _ _ (⟨some 19, .call _, _, _, _, _⟩ :: _) _ _; refine wpList_val rfl (op_len slAct rfl rfl (v := v) (xs := L.map actC) rfl (by exact hS.rd hv)) ?_; rw [HL.out]; go_frame)
      | (show wpList _ _ _ (⟨some 20, .binOp _ _ _ _ _, _, _, _, _⟩ :: _) _ _; refine wpList_val rfl (op_igtr rfl rfl rfl HG.out) ?_; go_frame)
      | (go_at_call 9; refine Ret.calls (alive_s hS) ?_; clear hS; rintro r w ⟨rfl, hS⟩)
      )
    go_ret
    exact ⟨rfl, hS.chg⟩
  have HG : Hid (decide ((200 : Int) < (L.length : Int)) = false) := decF (by omega)
  have hok := runB_ok BOk.nil ha
  obtain ⟨B, hB0⟩ : ∃ B, runB [] L = B := ⟨_, rfl⟩
  rw [hB0] at hok
  have HB := hide hB0
  have HOK := hide hok
  have HN : Hid (((allB B).map wC).length = B.length) := by simp [Hid, allB]
  have hfew := hok.few
  have HN32 : Hid (decide ((B.length : Int) ≤ (32 : Int)) = true) := decT (by omega)
  have HPN : Hid (((peersL id B).map fun z => [I64 z]).length = (peersL id B).length) := by simp [Hid]
  obtain ⟨bt, hbt⟩ : ∃ b, decide (id ∈ ids B) = b := ⟨_, rfl⟩
  have HBT := hide hbt
  have HPG : Hid (decide ((0 : Int) < ((peersL id B).length : Int)) = bt) := by
    unfold Hid
    rw [← hbt, decide_eq_decide, ← peersL_pos]
    omega
  clear ha hid hB0 hok hbt h200
  go_enter Try.func5, Try.ntmps5
  go_wp2_with (first
    | (show wpList _ _ _ (⟨_, .box 28 _, _, _, _, _⟩ :: _) _ _; refine wpS_boxA (cs := id.map B8) hS rfl rfl rfl ?_; clear hS; intro nid w hS; go_frame)
    | (show wpList _ _ _ (⟨some 19, .call _, _, _, _, _⟩ :: _) _ _; refine wpList_val rfl (op_len slAct rfl rfl (v := v) (xs := L.map actC) rfl (by exact hS.rd hv)) ?_; rw [HL.out]; go_frame)
    | (show wpList _ _ _ (⟨some 20, .binOp _ _ _ _ _, _, _, _, _⟩ :: _) _ _; refine wpList_val rfl (op_igtr rfl rfl rfl HG.out) ?_; go_frame)
    | (go_at_call 9; refine Ret.calls (alive_s hS) ?_; clear hS; rintro r w ⟨rfl, hS⟩)
    | (go_at_call 22; refine Ret.calls (grown_s hS hv HA.out) ?_; clear hS; rintro r w ⟨p, rfl, hS⟩; rw [HB.out] at hS)
    | (go_at_call 12; refine Ret.calls (all_s hS HOK.out) ?_; clear hS; rintro av w hS)
    | (show wpList _ _ _ (⟨some 26, .call _, _, _, _, _⟩ :: _) _ _; refine wpList_val rfl (op_len slWant rfl rfl (v := av) (xs := (allB B).map wC) rfl ((hS.bring (by repeat (first | exact t0 | apply tS))).getOwn.rd)) ?_; rw [HN.out]; go_frame)
    )
  go_loopw [7, 27] (fun tv iv wr => ∃ (k : Nat) (th : Bool), iv = .int .i64 k ∧ tv = .bool th ∧ Hid (decide (id ∈ ids (B.take k)) = th) ∧ k ≤ B.length ∧ SepL All W wr [.own 55 33 av ((allB B).map wC), hB p B, .blk nid 28 (id.map B8)]) (fun _ iv _ => B.length - (intOf iv).toNat)
  case atStart => exact ⟨0, false, rfl, rfl, decide_eq_false (by simp [ids]), by omega, hS.sel (by repeat (first | exact Sel.refl | refine Sel.take (by repeat (first | exact t0 | apply tS)) ?_ | apply Sel.drop))⟩
  case round =>
    clear hS
    obtain ⟨k, th, rfl, rfl, HTH, hk, hS⟩ := hrel
    by_cases hlt : k < B.length
    · have hlk : k < ((allB B).map wC).length := by rw [HN.out]; exact hlt
      obtain ⟨x, hx⟩ : ∃ x, B[k] = x := ⟨_, rfl⟩
      have hxm : x ∈ B := by rw [← hx]; exact List.getElem_mem hlt
      have HXK : Hid (((allB B).map wC)[k] = x.id.map B8 ++ [.int .i64 x.peer]) := by
        unfold Hid
        simp [allB, wC, hx]
      have hx32 := HOK.out.len x hxm
      have HX32 := hide hx32
      have HXL : Hid ((x.id.map B8).length = 32) := by simp [Hid, hx32]
      have KX := isKey hx32
      have HC0 : Hid ((x.id.map B8 ++ [Value.int .i64 x.peer]).take 32 = x.id.map B8) := by
        unfold Hid
        rw [List.take_left' HXL.out]
      have HP32 : Hid ((x.id.map B8 ++ [Value.int .i64 x.peer])[32]? = some (.int .i64 x.peer)) := by
        unfold Hid
        rw [List.getElem?_append_right (by rw [HXL.out]; omega), HXL.out]
        rfl
      have HKL : Hid (k ≤ ((allB B).map wC).length) := by unfold Hid; rw [HN.out]; omega
      have HCL : Hid (((((allB B).map wC).drop 0).take (k - 0)).length = k) := by
        unfold Hid
        rw [List.drop_zero, List.length_take, HN.out]
        omega
      obtain ⟨be, hbe⟩ : ∃ b, decide (x.id = id) = b := ⟨_, rfl⟩
      have HE : Hid (eqv (.agg (x.id.map B8).toArray) (.agg (id.map B8).toArray) = be) := (HV_eqv _ _).trans hbe
      have HTN : Hid (decide (id ∈ ids (B.take (k + 1))) = (th || be)) := by
        unfold Hid
        rw [ids_take hlt, HTH.out, hx, hbe]
      obtain ⟨P, hP⟩ : ∃ P, x.peer :: x.waits = P := ⟨_, rfl⟩
      have hw := HOK.out.wait x hxm
      have hnd := hw.1
      have hpl : P.length ≤ 4 := by rw [← hP]; simp; omega
      have hpl1 : 1 ≤ P.length := by rw [← hP]; simp
      have HPE : Hid (peersL x.id B = P) := by
        unfold Hid
        rw [peersL_at HOK.out.nodup hxm, hP]
      rw [hP] at hnd
      have HND := hide hnd
      have HPL : Hid ((P.map fun z => [I64 z]).length = P.length) := by simp [Hid]
      have HQ0 : Hid (((P.length : Int) == 0) = false) := eqF (by omega)
      have HQ4 : Hid (decide ((4 : Int) < (P.length : Int)) = false) := decF (by omega)
      have HP1 : Hid (0 < (P.map fun z => [I64 z]).length) := by unfold Hid; rw [HPL.out]; omega
      have HP2 : Hid (0 < P.length) := hpl1
      have HP0 : Hid (P[0]'HP2.out = x.peer) := by
        unfold Hid
        simp only [← hP, List.getElem_cons_zero]
      have HQ5 : Hid ((x.peer != x.peer) = false) := by simp [Hid]
      have HAP : Hid (∀ (j : Nat) (hj : j < k), (B[j]'(by omega)).id ≠ x.id) := by
        intro j hj
        rw [← hx]
        exact ids_apart HOK.out.nodup hj hlt
      clear hx hxm hx32 hbe hP hw hnd
      unfold HV at KI KX
      go_upto_region 11 with (first
        | (show wpList _ _ _ (⟨some 30, .indexAddr _ _ _, _, _, _, _⟩ :: _) _ _; refine wpList_val rfl (op_indexAddr slWant rfl (v := av) (xs := (allB B).map wC) rfl (k := k) rfl ((hS.bring (by repeat (first | exact t0 | apply tS))).getOwn.rd) hlk) ?_; go_frame)
        | (show wpList _ _ _ (⟨some 31, .load _ _, _, _, _, _⟩ :: _) _ _; refine wpList_val rfl (op_loadE aggWant rfl (v := av) (xs := (allB B).map wC) (k := k) rfl ((hS.bring (by repeat (first | exact t0 | apply tS))).getOwn.rd) hlk) ?_; rw [HXK.out]; go_frame)
        | (show wpList _ _ _ (⟨some 9, .alloc _, _, _, _, _⟩ :: _) _ _; refine wpS_alloc hS rfl rfl Try.zeroValue55 (zs := List.replicate 32 (.int .u8 0) ++ [Value.int .i64 0]) rfl ?_; clear hS; intro nb w hS; go_frame)
        | (show wpList _ _ _ (⟨_, .store 55 (.tmp 9) _, _, _, _, _⟩ :: _) _ _; (refine wpS_storeAll (b := nb) aggWant (hS.bring (by repeat (first | exact t0 | apply tS))) rfl rfl rfl (vs := x.id.map B8 ++ [.int .i64 x.peer]) rfl (w33 HXL.out _) (flat_want _ _) (by simp) ?_); clear hS; intro w hS; go_frame)
        )
      go_cut [7] (fun s7 wx => s7 = .bool (th || be) ∧ SepL All W wx [.blk nb 55 (x.id.map B8 ++ [.int .i64 x.peer]), .own 55 33 av ((allB B).map wC), hB p B, .blk nid 28 (id.map B8)])
      case first =>
        cases th
        · go_wp2_with (first
            | (show wpList _ _ _ (⟨some 35, .load _ _, _, _, _, _⟩ :: _) _ _; refine wpList_val rfl (op_load aggHash rfl rfl ((SepL.getBlk (b := nb) (T := 55) ((hS.bring (by repeat (first | exact t0 | apply tS))))).cells.sub0 32 HC0.out) HXL.out) ?_; go_frame)
            | (show wpList _ _ _ (⟨some 36, .load _ _, _, _, _, _⟩ :: _) _ _; refine wpList_val rfl (op_load aggHash rfl rfl (SepL.getBlk (b := nid) (T := 28) ((hS.bring (by repeat (first | exact t0 | apply tS))))).cells HIL.out) ?_; go_frame)
            | (show wpList _ _ _ (⟨some 37, .binOp _ _ _ _ _, _, _, _, _⟩ :: _) _ _; refine wpList_val rfl (op_eql keyHash rfl rfl rfl KX KI) ?_; rw [HE.out]; go_frame)
            )
          go_meet
          exact ⟨rfl, hS.sel (by repeat (first | exact Sel.refl | refine Sel.take (by repeat (first | exact t0 | apply tS)) ?_ | apply Sel.drop))⟩
        · go_wp2_with (first
            | go_big_skip
            )
          go_meet
          exact ⟨rfl, hS.sel (by repeat (first | exact Sel.refl | refine Sel.take (by repeat (first | exact t0 | apply tS)) ?_ | apply Sel.drop))⟩
      case rest =>
        clear hS
        obtain ⟨rfl, hS⟩ := hcut
        go_wp2_with (first
          | (show wpList _ _ _ (⟨some 41, .slice _ _ _ _ _, _, _, _, _⟩ :: _) _ _; refine wpList_val rfl (op_cut slWant rfl (v := av) (xs := (allB B).map wC) rfl ((hS.bring (by repeat (first | exact t0 | apply tS))).getOwn.rd) (l := 0) (h := k) (Or.inl ⟨rfl, rfl⟩) (Or.inr rfl) (Nat.zero_le _) HKL.out) ?_; go_frame)
          | (show wpList _ _ _ (⟨some 42, .call _, _, _, _, _⟩ :: _) _ _; refine wpList_val rfl (op_len slWant rfl rfl (v := cutV 33 av 0 k) rfl ((hS.bring (by repeat (first | exact t0 | apply tS))).getOwn.rd.cutV (Nat.zero_le _) HKL.out)) ?_; rw [HCL.out]; go_frame)
          )
        go_loopw [43] (fun jv wr => ∃ (j : Nat), jv = .int .i64 j ∧ j ≤ k ∧ SepL All W wr [.blk nb 55 (x.id.map B8 ++ [.int .i64 x.peer]), .own 55 33 av ((allB B).map wC), hB p B, .blk nid 28 (id.map B8)]) (fun jv _ => k - (intOf jv).toNat)
        case atStart => exact ⟨0, rfl, by omega, hS.sel (by repeat (first | exact Sel.refl | refine Sel.take (by repeat (first | exact t0 | apply tS)) ?_ | apply Sel.drop))⟩
        case round =>
          clear hS
          obtain ⟨j, rfl, hj, hS⟩ := hrel
          by_cases hjk : j < k
          · have HJL : Hid (j < ((((allB B).map wC).drop 0).take (k - 0)).length) := by unfold Hid; rw [HCL.out]; exact hjk
            have hjB : j < B.length := by omega
            obtain ⟨y, hy⟩ : ∃ y, B[j] = y := ⟨_, rfl⟩
            have HYJ : Hid ((((((allB B).map wC).drop 0).take (k - 0)))[j]'HJL.out = y.id.map B8 ++ [.int .i64 y.peer]) := by
              unfold Hid
              simp [allB, wC, hy]
            have hy32 := HOK.out.len y (by rw [← hy]; exact List.getElem_mem hjB)
            have HYL : Hid ((y.id.map B8).length = 32) := by simp [Hid, hy32]
            have KY := isKey hy32
            have HD0 : Hid ((y.id.map B8 ++ [Value.int .i64 y.peer]).take 32 = y.id.map B8) := by
              unfold Hid
              rw [List.take_left' HYL.out]
            have HEY : Hid (eqv (.agg (y.id.map B8).toArray) (.agg (x.id.map B8).toArray) = false) := (HV_eqv _ _).trans (decide_eq_false (by rw [← hy]; exact HAP.out j hjk))
            clear hy hy32
            unfold HV at KY
            go_wp2_with (first
              | (show wpList _ _ _ (⟨some 45, .indexAddr _ _ _, _, _, _, _⟩ :: _) _ _; refine wpList_val rfl (op_indexAddr slWant rfl (v := cutV 33 av 0 k) (xs := ((((allB B).map wC).drop 0).take (k - 0))) rfl (k := j) rfl ((hS.bring (by repeat (first | exact t0 | apply tS))).getOwn.rd.cutV (Nat.zero_le _) HKL.out) HJL.out) ?_; go_frame)
              | (show wpList _ _ _ (⟨some 46, .load _ _, _, _, _, _⟩ :: _) _ _; refine wpList_val rfl (op_loadE aggWant rfl (v := cutV 33 av 0 k) (xs := ((((allB B).map wC).drop 0).take (k - 0))) (k := j) rfl ((hS.bring (by repeat (first | exact t0 | apply tS))).getOwn.rd.cutV (Nat.zero_le _) HKL.out) HJL.out) ?_; rw [HYJ.out]; go_frame)
              | (show wpList _ _ _ (⟨some 11, .alloc _, _, _, _, _⟩ :: _) _ _; refine wpS_alloc hS rfl rfl Try.zeroValue55 (zs := List.replicate 32 (.int .u8 0) ++ [Value.int .i64 0]) rfl ?_; clear hS; intro nv w hS; go_frame)
              | (show wpList _ _ _ (⟨_, .store 55 (.tmp 11) _, _, _, _, _⟩ :: _) _ _; (refine wpS_storeAll (b := nv) aggWant (hS.bring (by repeat (first | exact t0 | apply tS))) rfl rfl rfl (vs := y.id.map B8 ++ [.int .i64 y.peer]) rfl (w33 HYL.out _) (flat_want _ _) (by simp) ?_); clear hS; intro w hS; go_frame)
              | (show wpList _ _ _ (⟨some 48, .load _ _, _, _, _, _⟩ :: _) _ _; refine wpList_val rfl (op_load aggHash rfl rfl ((SepL.getBlk (b := nv) (T := 55) ((hS.bring (by repeat (first | exact t0 | apply tS))))).cells.sub0 32 HD0.out) HYL.out) ?_; go_frame)
              | (show wpList _ _ _ (⟨some 50, .load _ _, _, _, _, _⟩ :: _) _ _; refine wpList_val rfl (op_load aggHash rfl rfl ((SepL.getBlk (b := nb) (T := 55) ((hS.bring (by repeat (first | exact t0 | apply tS))))).cells.sub0 32 HC0.out) HXL.out) ?_; go_frame)
              | (show wpList _ _ _ (⟨some 51, .binOp _ _ _ _ _, _, _, _, _⟩ :: _) _ _; refine wpList_val rfl (op_eql keyHash rfl rfl rfl KY KX) ?_; rw [HEY.out]; go_frame)
              )
            go_roundw
            case rel => exact ⟨j + 1, by go_num, by omega, hS.sel (by repeat (first | exact Sel.refl | refine Sel.take (by repeat (first | exact t0 | apply tS)) ?_ | apply Sel.drop))⟩
            case measure => simp [intOf]; omega
          · have hjk2 : j = k := by omega
            subst hjk2
            go_wp2_with (first
              | (show wpList _ _ _ (⟨some 55, .load _ _, _, _, _, _⟩ :: _) _ _; refine wpList_val rfl (op_load aggHash rfl rfl ((SepL.getBlk (b := nb) (T := 55) ((hS.bring (by repeat (first | exact t0 | apply tS))))).cells.sub0 32 HC0.out) HXL.out) ?_; go_frame)
              | (go_at_call 20; (refine Ret.calls (peers_any (i := x.id) (hS.bring (by repeat (first | exact t0 | apply tS))) HOK.out HX32.out) ?_); clear hS; rintro pv w hS; rw [HPE.out] at hS)
              )
            refine wp_region_text (by kernel_rfl) (by kernel_rfl) (by repeat (first | exact Clean.body | refine Clean.then ?_ | refine Clean.inBlock ?_)) ?_
            replace hS := hS.drew
            go_wp2_with (first
              | (show wpList _ _ _ (⟨_, .call ⟨.builtin .len, _, _⟩, _, _, _, _⟩ :: _) _ _; refine wpList_val rfl (op_len slInt rfl rfl (v := pv) (xs := P.map fun z => [I64 z]) rfl ((hS.bring (by repeat (first | exact t0 | apply tS))).getOwn.rd)) ?_; rw [HPL.out]; go_frame)
              | (show wpList _ _ _ (⟨some 59, .binOp _ _ _ _ _, _, _, _, _⟩ :: _) _ _; refine wpList_val rfl (op_eqI' rfl rfl rfl HQ0.out) ?_; go_frame)
              | (show wpList _ _ _ (⟨some 63, .binOp _ _ _ _ _, _, _, _, _⟩ :: _) _ _; refine wpList_val rfl (op_igtr rfl rfl rfl HQ4.out) ?_; go_frame)
              | (show wpList _ _ _ (⟨some 67, .indexAddr _ _ _, _, _, _, _⟩ :: _) _ _; refine wpList_val rfl (op_indexAddrZ slInt rfl (v := pv) (xs := P.map fun z => [I64 z]) rfl rfl ((hS.bring (by repeat (first | exact t0 | apply tS))).getOwn.rd) 0 rfl HP1.out) ?_; go_frame)
              | (show wpList _ _ _ (⟨some 68, .load _ _, _, _, _, _⟩ :: _) _ _; refine wpList_val rfl (op_loadE1 oneInt rfl (v := pv) (k := 0) rfl (f := I64) (us := P) ((hS.bring (by repeat (first | exact t0 | apply tS))).getOwn.rd) HP2.out) ?_; rw [HP0.out]; go_frame)
              | (show wpList _ _ _ (⟨some 70, .load _ _, _, _, _, _⟩ :: _) _ _; refine wpList_val rfl (op_load1S (b := nb) (T := 55) oneInt ((hS.bring (by repeat (first | exact t0 | apply tS)))) rfl rfl HP32.out) ?_; go_frame)
              | (show wpList _ _ _ (⟨some 71, .binOp _ _ _ _ _, _, _, _, _⟩ :: _) _ _; refine wpList_val rfl (op_ineI rfl rfl rfl HQ5.out) ?_; go_frame)
              | (refine fin_mk (by kernel_rfl) ?_)
              )
            go_wp2_with fail
            go_loopw [75] (fun mv wr => ∃ (m : Nat), mv = .int .i64 m ∧ m ≤ P.length ∧ SepL All W wr [.own 3 1 pv (P.map fun z => [I64 z]), .own 55 33 av ((allB B).map wC), hB p B, .blk nid 28 (id.map B8)]) (fun mv _ => P.length - (intOf mv).toNat)
            case atStart => exact ⟨0, rfl, by omega, hS.sel (by repeat (first | exact Sel.refl | refine Sel.take (by repeat (first | exact t0 | apply tS)) ?_ | apply Sel.drop))⟩
            case round =>
              clear hS
              obtain ⟨m, rfl, hm, hS⟩ := hrel
              by_cases hmP : m < P.length
              · have HML : Hid (m ≤ (P.map fun z => [I64 z]).length) := by unfold Hid; rw [HPL.out]; omega
                have HML3 : Hid (m ≤ P.length) := hm
                have HML2 : Hid ((((P.map fun z => [I64 z]).drop 0).take (m - 0)).length = m) := by
                  unfold Hid
                  rw [List.drop_zero, List.length_take, HPL.out]
                  omega
                have HMP : Hid (m < (P.map fun z => [I64 z]).length) := by unfold Hid; rw [HPL.out]; exact hmP
                have HMQ : Hid (m < P.length) := hmP
                go_wp2_with (first
                  | (show wpList _ _ _ (⟨some 80, .slice _ _ _ _ _, _, _, _, _⟩ :: _) _ _; refine wpList_val rfl (op_cut slInt rfl (v := pv) (xs := P.map fun z => [I64 z]) rfl ((hS.bring (by repeat (first | exact t0 | apply tS))).getOwn.rd) (l := 0) (h := m) (Or.inl ⟨rfl, rfl⟩) (Or.inr rfl) (Nat.zero_le _) HML.out) ?_; go_frame)
                  | (show wpList _ _ _ (⟨some 81, .call _, _, _, _, _⟩ :: _) _ _; refine wpList_val rfl (op_len slInt rfl rfl (v := cutV 1 pv 0 m) rfl ((hS.bring (by repeat (first | exact t0 | apply tS))).getOwn.rd.cutV (Nat.zero_le _) HML.out)) ?_; rw [HML2.out]; go_frame)
                  )
                go_loopw [82] (fun qv wr => ∃ (q : Nat), qv = .int .i64 q ∧ q ≤ m ∧ SepL All W wr [.own 3 1 pv (P.map fun z => [I64 z]), .own 55 33 av ((allB B).map wC), hB p B, .blk nid 28 (id.map B8)]) (fun qv _ => m - (intOf qv).toNat)
                case atStart => exact ⟨0, rfl, by omega, hS.sel (by repeat (first | exact Sel.refl | refine Sel.take (by repeat (first | exact t0 | apply tS)) ?_ | apply Sel.drop))⟩
                case round =>
                  clear hS
                  obtain ⟨q, rfl, hq, hS⟩ := hrel
                  by_cases hqm : q < m
                  · have HQL : Hid (q < (((P.map fun z => [I64 z]).drop 0).take (m - 0)).length) := by unfold Hid; rw [HML2.out]; exact hqm
                    have HQM : Hid (q < (P.take m).length) := by unfold Hid; rw [List.length_take]; omega
                    obtain ⟨z1, hz1⟩ : ∃ z, P[q]'(by omega) = z := ⟨_, rfl⟩
                    obtain ⟨z2, hz2⟩ : ∃ z, P[m] = z := ⟨_, rfl⟩
                    have HZQ : Hid ((P.take m)[q]'HQM.out = z1) := by unfold Hid; rw [List.getElem_take, hz1]
                    have HZM : Hid (P[m]'HMQ.out = z2) := hz2
                    have HZZ : Hid ((z1 == z2) = false) := eqF (by rw [← hz1, ← hz2]; exact nodup_apart HND.out hqm hmP)
                    clear hz1 hz2
                    go_wp2_with (first
                      | (show wpList _ _ _ (⟨some 84, .indexAddr _ _ _, _, _, _, _⟩ :: _) _ _; refine wpList_val rfl (op_indexAddr slInt rfl (v := cutV 1 pv 0 m) rfl (k := q) rfl (((hS.bring (by repeat (first | exact t0 | apply tS))).getOwn.rd.cutV (Nat.zero_le _) HML.out)) HQL.out) ?_; go_frame)
                      | (show wpList _ _ _ (⟨some 85, .load _ _, _, _, _, _⟩ :: _) _ _; refine wpList_val rfl (op_loadE1 oneInt rfl (v := cutV 1 pv 0 m) (k := q) rfl (f := I64) (us := P.take m) (by exact cutI ((hS.bring (by repeat (first | exact t0 | apply tS))).getOwn.rd) HML3.out) HQM.out) ?_; rw [HZQ.out]; go_frame)
                      | (show wpList _ _ _ (⟨some 89, .indexAddr _ _ _, _, _, _, _⟩ :: _) _ _; refine wpList_val rfl (op_indexAddr slInt rfl (v := pv) (xs := P.map fun z => [I64 z]) rfl (k := m) rfl ((hS.bring (by repeat (first | exact t0 | apply tS))).getOwn.rd) HMP.out) ?_; go_frame)
                      | (show wpList _ _ _ (⟨some 90, .load _ _, _, _, _, _⟩ :: _) _ _; refine wpList_val rfl (op_loadE1 oneInt rfl (v := pv) (k := m) rfl (f := I64) (us := P) ((hS.bring (by repeat (first | exact t0 | apply tS))).getOwn.rd) HMQ.out) ?_; rw [HZM.out]; go_frame)
                      | (show wpList _ _ _ (⟨some 91, .binOp _ _ _ _ _, _, _, _, _⟩ :: _) _ _; refine wpList_val rfl (op_eqI' rfl rfl rfl HZZ.out) ?_; go_frame)
                      )
                    go_roundw
                    case rel => exact ⟨q + 1, by go_num, by omega, hS.sel (by repeat (first | exact Sel.refl | refine Sel.take (by repeat (first | exact t0 | apply tS)) ?_ | apply Sel.drop))⟩
                    case measure => simp [intOf]; omega
                  · have hqm2 : q = m := by omega
                    subst hqm2
                    go_wp2_with fail
                    go_roundw
                    case rel => exact ⟨q + 1, by go_num, by omega, hS.sel (by repeat (first | exact Sel.refl | refine Sel.take (by repeat (first | exact t0 | apply tS)) ?_ | apply Sel.drop))⟩
                    case measure => simp [intOf]; omega
              · go_wp2_with fail
                go_roundw
                case rel => exact ⟨j + 1, _, by go_num, rfl, HTN, by omega, hS.sel (by repeat (first | exact Sel.refl | refine Sel.take (by repeat (first | exact t0 | apply tS)) ?_ | apply Sel.drop))⟩
                case measure => simp [intOf]; omega
    · have hk2 : k = B.length := by omega
      subst hk2
      have hth := HTH.out
      rw [List.take_length, HBT.out] at hth
      subst hth
      go_wp2_with (first
        | (show wpList _ _ _ (⟨some 96, .call _, _, _, _, _⟩ :: _) _ _; refine wpList_val rfl (op_len slWant rfl rfl (v := av) (xs := (allB B).map wC) rfl ((hS.bring (by repeat (first | exact t0 | apply tS))).getOwn.rd)) ?_; rw [HN.out]; go_frame)
        | (show wpList _ _ _ (⟨some 97, .binOp _ _ _ _ _, _, _, _, _⟩ :: _) _ _; refine wpList_val rfl (op_ileq rfl rfl rfl HN32.out) ?_; go_frame)
        | (show wpList _ _ _ (⟨some 101, .load _ _, _, _, _, _⟩ :: _) _ _; refine wpList_val rfl (op_load aggHash rfl rfl (SepL.getBlk (b := nid) (T := 28) ((hS.bring (by repeat (first | exact t0 | apply tS))))).cells HIL.out) ?_; go_frame)
        | (go_at_call 20; (refine Ret.calls (peers_any (i := id) (hS.bring (by repeat (first | exact t0 | apply tS))) HOK.out HID.out) ?_); clear hS; rintro pv w hS)
        | (show wpList _ _ _ (⟨some 103, .call _, _, _, _, _⟩ :: _) _ _; refine wpList_val rfl (op_len slInt rfl rfl (v := pv) (xs := (peersL id B).map fun z => [I64 z]) rfl ((hS.bring (by repeat (first | exact t0 | apply tS))).getOwn.rd)) ?_; rw [HPN.out]; go_frame)
        | (show wpList _ _ _ (⟨some 104, .binOp _ _ _ _ _, _, _, _, _⟩ :: _) _ _; refine wpList_val rfl (op_igtr rfl rfl rfl HPG.out) ?_; go_frame)
        )
      go_ret
      exact ⟨rfl, hS.chg⟩
end Go.Proofs.Ytafpdpcbckpkjaa
