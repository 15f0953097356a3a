/- What is new is asked at once if there is room: the law returns true. Conditions: those that stand ahead of each theorem. -/
import Derived.Test.YtafpdpcbckpkjaaOffersP
import Derived.Deep.DeepCutAuto
namespace Go.Proofs.Ytafpdpcbckpkjaa
open Go.RowKit Go.Px
set_option maxRecDepth 100000 in
set_option maxHeartbeats 8000000 in
theorem askOffers_w {W : World} {v : Value} {L : List PAct} {a : PAct} (hv0 : Rd 35 W v (L.map actC)) (hLA : ∀ a ∈ L, AOk a) (ha : AOk a) :
    Calls Try.prog 6 #[v, .agg (actC a).toArray] W (Ret fun r w' => r = .bool true ∧ Chg No W w') := by
  have hS := SepL.start W
  have hv := RdIn.of hv0
  have HL : Hid ((L.map actC).length = L.length) := by simp [Hid]
  have HA := hide hLA
  clear hv0
  by_cases h200 : 200 < L.length
  · have HG : Hid (decide ((200 : Int) < (L.length : Int)) = true) := decT (by omega)
    clear h200 hLA ha
    go_enter Try.func6, Try.ntmps6
    go_wp2_with (first
      | (show wpList _ _ _ (⟨_, .box 40 _, _, _, _, _⟩ :: _) _ _; refine wpS_boxA (cs := actC a) hS rfl rfl rfl ?_; clear hS; intro na w hS; go_frame)
      | (show wpList _ _ _ (⟨some 16, .call _, _, _, _, _⟩ :: _) _ _; refine wpList_val rfl (op_len slAct rfl rfl (v := v) (xs := L.map actC) rfl (by exact hS.rd hv)) ?_; rw [HL.out]; go_frame)
      | (show wpList _ _ _ (⟨some 17, .binOp _ _ _ _ _, _, _, _, _⟩ :: _) _ _; refine wpList_val rfl (op_igtr rfl rfl rfl HG.out) ?_; go_frame)
      | (go_at_call 9; refine Ret.calls (alive_s hS) ?_; clear hS; rintro r w ⟨rfl, hS⟩)
      )
    go_ret
    exact ⟨rfl, hS.chg⟩
  have HG : Hid (decide ((200 : Int) < (L.length : Int)) = false) := decF (by omega)
  have hok := runB_ok BOk.nil hLA
  have hin := runB_in (B := []) (fun _ h => by cases h) hLA
  obtain ⟨B, hB0⟩ : ∃ B, runB [] L = B := ⟨_, rfl⟩
  rw [hB0] at hok hin
  have HB := hide hB0
  have HOK := hide hok
  have hok2 := offer_ok (p := a.peer) hok ha.id ha.now
  have hin2 : BIn (offerB a.id a.peer a.now B) := by
    have := act_in (a := ⟨0, a.peer, a.id, a.now⟩) hin ⟨by simp [In64], ha.peer, ha.id, ha.now⟩
    simpa [actB] using this
  obtain ⟨B2, hB2⟩ : ∃ B2, offerB a.id a.peer a.now B = B2 := ⟨_, rfl⟩
  obtain ⟨P, hP⟩ : ∃ P, peersL a.id B = P := ⟨_, rfl⟩
  obtain ⟨P2, hP2⟩ : ∃ P2, peersL a.id B2 = P2 := ⟨_, rfl⟩
  obtain ⟨bo, hbo⟩ : ∃ b, offerA a.id B = b := ⟨_, rfl⟩
  have HOK2 : Hid (BOk B2) := by rw [← hB2]; exact hok2
  have HALW1 := hide (allB_ok hin hok)
  have HALW2 : Hid (WOk (allB B2)) := by rw [← hB2]; exact allB_ok hin2 hok2
  have HAL1 : Hid (∀ y ∈ allB B, y.1.length = 32) := hide fun y hy => (HALW1.out y hy).1
  have HAL2 : Hid (∀ y ∈ allB B2, y.1.length = 32) := hide fun y hy => (HALW2.out y hy).1
  have hl1 : (allB B).length = B.length := by simp [allB]
  have hl2 : (allB B2).length = B2.length := by simp [allB]
  have hf1 := hok.few
  have hf2 := HOK2.out.few
  have HAN1 : Hid ((allB B).length ≤ 1000) := by unfold Hid; omega
  have HAN2 : Hid ((allB B2).length ≤ 1000) := by unfold Hid; omega
  have HAN : Hid (((allB B).map wC).length = B.length) := by unfold Hid; simp [hl1]
  have HAI := hide (actC_id ha.id)
  have HAI32 : Hid ((a.id.map B8).length = 32) := by simp [Hid, ha.id]
  have HA1 := hide (actC_peer a)
  have HA34 := hide (actC_now ha.id)
  have hp4 : P.length ≤ 4 := by rw [← hP]; exact peersL_len hok _
  have HPL : Hid ((P.map fun z => [I64 z]).length = P.length) := by simp [Hid]
  have HP2L : Hid ((P2.map fun z => [I64 z]).length = P2.length) := by simp [Hid]
  have cp1 := fun (p : Nat) (w : World) (F : List Hp) (h : SepL All W w (hB p B :: F)) => peers_any (i := a.id) h hok ha.id
  have cp2 := fun (p : Nat) (w : World) (F : List Hp) (h : SepL All W w (hB p B2 :: F)) => peers_any (i := a.id) h HOK2.out ha.id
  have co := fun (p : Nat) (w : World) (F : List Hp) (h : SepL All W w (hB p B :: F)) => offer_any (i := a.id) (q := a.peer) (t := a.now) h hok ha.id ha.peer
  rw [hP] at cp1
  rw [hP2] at cp2
  rw [hB2, hbo] at co
  unfold HV at cp1 cp2 co
  have CP1 := hide cp1
  have CP2 := hide cp2
  have CO := hide co
  clear cp1 cp2 co
  obtain ⟨M0, hM0⟩ : ∃ m : Nat, m = 0 := ⟨0, rfl⟩
  clear hM0
  by_cases hin : a.id ∈ ids B
  · obtain ⟨e1, e2, e3⟩ := off_in (q := a.peer) (t := a.now) hok hin
    have hpos := peersL_pos.2 hin
    rw [hP] at hpos e3
    rw [hB2] at e2 e3
    rw [hP2] at e3
    rw [hbo] at e1
    subst e1
    have HSA : Hid (allB B2 = allB B) := e2
    have HP0 : Hid (((P.length : Int) == 0) = false) := eqF (by omega)
    obtain ⟨PM, hPM⟩ : ∃ PM, more a.peer P = PM := ⟨_, rfl⟩
    rw [hPM] at e3
    have HSM : Hid (P2 = PM) := e3
    have HPB1 : Hid (((P.map fun z => [I64 z]).length + [[Value.int .i64 a.peer]].length) * 8 ≤ 140737488355328) := by unfold Hid; simp; omega
    have HPB2 : Hid ((P.map fun z => [I64 z]).length + [[Value.int .i64 a.peer]].length ≤ maxLen) := by unfold Hid maxLen; simp; omega
    have HPM0 := hide hPM
    clear hbo hLA hin hin2 hok hok2 hB0 hB2 hP hP2 e2 e3 h200 hPM hl1 hl2 hf1 hf2
    go_enter Try.func6, Try.ntmps6
    go_wp2_with (first
      | (show wpList _ _ _ (⟨_, .box 40 _, _, _, _, _⟩ :: _) _ _; refine wpS_boxA (cs := actC a) hS rfl rfl rfl ?_; clear hS; intro na w hS; go_frame)
      | (show wpList _ _ _ (⟨some 16, .call _, _, _, _, _⟩ :: _) _ _; refine wpList_val rfl (op_len slAct rfl rfl (v := v) (xs := L.map actC) rfl (by exact hS.rd hv)) ?_; rw [HL.out]; go_frame)
      | (show wpList _ _ _ (⟨some 17, .binOp _ _ _ _ _, _, _, _, _⟩ :: _) _ _; refine wpList_val rfl (op_igtr rfl rfl rfl HG.out) ?_; go_frame)
      | (go_at_call 9; refine Ret.calls (alive_s hS) ?_; clear hS; rintro r w ⟨rfl, hS⟩)
      | (show wpList _ _ _ (⟨_, .load 28 _, _, _, _, _⟩ :: _) _ _; refine wpList_val rfl (op_load aggHash rfl rfl ((SepL.getBlk (b := na) (T := 40) ((hS.bring (by repeat (first | exact t0 | apply tS))))).cells.subN 2 32 HAI.out) HAI32.out) ?_; go_frame)
      | (show wpList _ _ _ (⟨_, .load 3 (.tmp 30), _, _, _, _⟩ :: _) _ _; refine wpList_val rfl (op_load1S (b := na) (T := 40) oneInt ((hS.bring (by repeat (first | exact t0 | apply tS)))) rfl rfl HA1.out) ?_; go_frame)
      | (show wpList _ _ _ (⟨_, .load 23 _, _, _, _, _⟩ :: _) _ _; refine wpList_val rfl (op_load1S (b := na) (T := 40) oneU ((hS.bring (by repeat (first | exact t0 | apply tS)))) rfl rfl HA34.out) ?_; go_frame)
      | (go_at_call 22; refine Ret.calls (grown_s hS hv HA.out) ?_; clear hS; rintro r w ⟨p, rfl, hS⟩; rw [HB.out] at hS)
      | (go_at_call 20; first | (have m0 := M0; clear m0; with_reducible refine Ret.calls (CP1.out _ _ _ (by exact ((hS.bring (by repeat (first | exact t0 | apply tS)))))) ?_; clear hS; rintro r1 w hS) | (with_reducible refine Ret.calls (CP2.out _ _ _ (by exact ((hS.bring (by repeat (first | exact t0 | apply tS)))))) ?_; clear hS; rintro r4 w hS))
      | (go_at_call 12; first | (have m0 := M0; clear m0; with_reducible refine Ret.calls (all_s (B := B) (by exact ((hS.bring (by repeat (first | exact t0 | apply tS))))) HOK.out) ?_; clear hS; rintro r2 w hS) | (with_reducible refine Ret.calls (all_s (B := B2) (by exact ((hS.bring (by repeat (first | exact t0 | apply tS))))) HOK2.out) ?_; clear hS; rintro r5 w hS))
      | (go_at_call 17; first | (refine Ret.calls (plain_s (v := r5) hS HAL2.out HAN2.out) ?_; clear hS; rintro r6 w hS) | (refine Ret.calls (plain_s (v := r2) hS HAL1.out HAN1.out) ?_; clear hS; rintro r3 w hS))
      | (go_at_call 11; with_reducible refine Ret.calls (CO.out _ _ _ (by exact ((hS.bring (by repeat (first | exact t0 | apply tS)))))) ?_; clear hS; clear M0; rintro r w ⟨rfl, hS⟩)
      | (show wpList _ _ _ (⟨some 40, .call _, _, _, _, _⟩ :: _) _ _; refine wpList_val rfl (op_len slInt rfl rfl (v := r1) (xs := P.map fun z => [I64 z]) rfl ((hS.bring (by repeat (first | exact t0 | apply tS))).getOwn.rd)) ?_; rw [HPL.out]; go_frame)
      | (show wpList _ _ _ (⟨some 41, .binOp _ _ _ _ _, _, _, _, _⟩ :: _) _ _; refine wpList_val rfl (op_eqI' rfl rfl rfl HP0.out) ?_; go_frame)
      | (show wpList _ _ _ (⟨some 82, .call _, _, _, _, _⟩ :: _) _ _; refine wpList_val rfl (op_len slInt rfl rfl (v := r1) (xs := P.map fun z => [I64 z]) rfl ((hS.bring (by repeat (first | exact t0 | apply tS))).getOwn.rd)) ?_; rw [HPL.out]; go_frame)
      )
    go_loopw [10, 83] (fun tv iv wr => ∃ (k : Nat) (th : Bool), iv = .int .i64 k ∧ tv = .bool th ∧ Hid (decide (a.peer ∈ P.take k) = th) ∧ k ≤ P.length ∧ SepL All W wr [.own 3 1 r4 (P2.map fun z => [I64 z]), .own 57 33 r3 ((allB B).map wC), .own 3 1 r1 (P.map fun z => [I64 z]), hB p B2, .blk na 40 (actC a)]) (fun _ iv _ => P.length - (intOf iv).toNat)
    case atStart => exact ⟨0, false, rfl, rfl, decide_eq_false (by simp), by omega, hS.sel (by repeat (first | exact Sel.refl | refine Sel.take (by repeat (first | exact t0 | apply tS)) ?_ | apply Sel.drop))⟩
    case round =>
      clear hS
      obtain ⟨k, th, rfl, rfl, HTH, hk, hS⟩ := hrel
      by_cases hlt : k < P.length
      · have hlk : k < (P.map fun z => [I64 z]).length := by rw [HPL.out]; exact hlt
        obtain ⟨z, hz⟩ : ∃ z, P[k] = z := ⟨_, rfl⟩
        have HZ := hide hz
        obtain ⟨be, hbe⟩ : ∃ b, (z == a.peer) = b := ⟨_, rfl⟩
        have HZE := hide hbe
        have HTN : Hid (decide (a.peer ∈ P.take (k + 1)) = (th || be)) := by
          unfold Hid
          rw [mem_take_next hlt, HTH.out, hz, hbe]
        clear hz hbe
        cases th
        · go_wp2_with (first
            | (show wpList _ _ _ (⟨some 85, .indexAddr _ _ _, _, _, _, _⟩ :: _) _ _; refine wpList_val rfl (op_indexAddr slInt rfl (v := r1) (xs := P.map fun z => [I64 z]) rfl (k := k) rfl ((hS.bring (by repeat (first | exact t0 | apply tS))).getOwn.rd) hlk) ?_; go_frame)
            | (show wpList _ _ _ (⟨some 86, .load _ _, _, _, _, _⟩ :: _) _ _; refine wpList_val rfl (op_loadE1 oneInt rfl (v := r1) (k := k) rfl (f := I64) (us := P) ((hS.bring (by repeat (first | exact t0 | apply tS))).getOwn.rd) hlt) ?_; rw [HZ.out]; go_frame)
            | (show wpList _ _ _ (⟨some 91, .load _ _, _, _, _, _⟩ :: _) _ _; refine wpList_val rfl (op_load1S (b := na) (T := 40) oneInt ((hS.bring (by repeat (first | exact t0 | apply tS)))) rfl rfl HA1.out) ?_; go_frame)
            | (show wpList _ _ _ (⟨some 92, .binOp _ _ _ _ _, _, _, _, _⟩ :: _) _ _; refine wpList_val rfl (op_eqI' rfl rfl rfl HZE.out) ?_; go_frame)
            )
          go_roundw
          case rel => exact ⟨k + 1, _, by go_num, rfl, HTN, by omega, hS.sel (by repeat (first | exact Sel.refl | refine Sel.take (by repeat (first | exact t0 | apply tS)) ?_ | apply Sel.drop))⟩
          case measure => simp [intOf]; omega
        · go_wp2_with (first
            | (show wpList _ _ _ (⟨some 85, .indexAddr _ _ _, _, _, _, _⟩ :: _) _ _; refine wpList_val rfl (op_indexAddr slInt rfl (v := r1) (xs := P.map fun z => [I64 z]) rfl (k := k) rfl ((hS.bring (by repeat (first | exact t0 | apply tS))).getOwn.rd) hlk) ?_; go_frame)
            | (show wpList _ _ _ (⟨some 86, .load _ _, _, _, _, _⟩ :: _) _ _; refine wpList_val rfl (op_loadE1 oneInt rfl (v := r1) (k := k) rfl (f := I64) (us := P) ((hS.bring (by repeat (first | exact t0 | apply tS))).getOwn.rd) hlt) ?_; rw [HZ.out]; go_frame)
            )
          go_roundw
          case rel => exact ⟨k + 1, true, by go_num, rfl, HTN, by omega, hS.sel (by repeat (first | exact Sel.refl | refine Sel.take (by repeat (first | exact t0 | apply tS)) ?_ | apply Sel.drop))⟩
          case measure => simp [intOf]; omega
      · have hk2 : k = P.length := by omega
        subst hk2
        have hth := HTH.out
        rw [List.take_length] at hth
        cases th
        · have hm : a.peer ∉ P := of_decide_eq_false hth
          by_cases h4 : P.length < 4
          · have HL4 : Hid (decide ((P.length : Int) < (4 : Int)) = true) := decT (by omega)
            have HPM : Hid (PM = P ++ [a.peer]) := by
              unfold Hid
              rw [← HPM0.out]
              unfold more
              rw [if_pos ⟨hm, h4⟩]
            clear hth hm h4
            go_wp2_with (first
              | (show wpList _ _ _ (⟨some 99, .call _, _, _, _, _⟩ :: _) _ _; refine wpList_val rfl (op_len slInt rfl rfl (v := r1) (xs := P.map fun z => [I64 z]) rfl ((hS.bring (by repeat (first | exact t0 | apply tS))).getOwn.rd)) ?_; rw [HPL.out]; go_frame)
              | (show wpList _ _ _ (⟨some 100, .binOp _ _ _ _ _, _, _, _, _⟩ :: _) _ _; refine wpList_val rfl (op_ilss rfl rfl rfl HL4.out) ?_; go_frame)
              | (show wpList _ _ _ (⟨some 104, .load _ _, _, _, _, _⟩ :: _) _ _; refine wpList_val rfl (op_load1S (b := na) (T := 40) oneInt ((hS.bring (by repeat (first | exact t0 | apply tS)))) rfl rfl HA1.out) ?_; go_frame)
              | (show wpList _ _ _ (⟨_, .buildSlice 50 1 _, _, _, _, _⟩ :: _) _ _; refine wpS_build11 slInt hS rfl rfl (u := .int .i64 a.peer) rfl rfl ?_; clear hS; intro v1 w hS; go_frame)
              | (show wpList _ _ _ (⟨_, .call ⟨.builtin .append, _, _⟩, _, _, _, _⟩ :: _) _ _; (refine wpS_append slInt (hS.bring (by repeat (first | exact t0 | apply tS))) rfl rfl (sv := r1) (xs := P.map fun z => [I64 z]) (xv := v1) rfl rfl (ys := [[.int .i64 a.peer]]) ((hS.bring (by repeat (first | exact t0 | apply tS))).getOwn.rd) (flat_ints [a.peer]) HPB1.out HPB2.out ?_); clear hS; intro v3 w hS; go_frame)
              | (go_at_call 19; refine Ret.calls (hS.callNo (sameInts_s r4 _ P2 PM _ ((hS.bring (by repeat (first | exact t0 | apply tS))).getOwn.rd) (by first | exact ((hS.bring (by repeat (first | exact t0 | apply tS))).getOwn.rd) | (rw [HPM.out, List.map_append]; exact ((hS.bring (by repeat (first | exact t0 | apply tS))).getOwn.rd)) | (rw [HPM.out]; exact ((hS.bring (by repeat (first | exact t0 | apply tS))).getOwn.rd))))) ?_; clear hS; rw [decide_eq_true HSM.out]; rintro r w ⟨rfl, hS⟩)
              | (go_at_call 12; first | (have m0 := M0; clear m0; with_reducible refine Ret.calls (all_s (B := B) (by exact ((hS.bring (by repeat (first | exact t0 | apply tS))))) HOK.out) ?_; clear hS; rintro r2 w hS) | (with_reducible refine Ret.calls (all_s (B := B2) (by exact ((hS.bring (by repeat (first | exact t0 | apply tS))))) HOK2.out) ?_; clear hS; rintro r5 w hS))
              | (go_at_call 17; first | (refine Ret.calls (plain_s (v := r5) hS HAL2.out HAN2.out) ?_; clear hS; rintro r6 w hS) | (refine Ret.calls (plain_s (v := r2) hS HAL1.out HAN1.out) ?_; clear hS; rintro r3 w hS))
              | (go_at_call 16; refine Ret.calls (hS.callNo (same_s (v := r6) (u := r3) (L := allB B2) (M := allB B) ((hS.bring (by repeat (first | exact t0 | apply tS))).getOwn.rd) ((hS.bring (by repeat (first | exact t0 | apply tS))).getOwn.rd) HALW2.out HALW1.out)) ?_; clear hS; rw [decide_eq_true HSA.out]; rintro r w ⟨rfl, hS⟩)
              )
            go_ret
            exact ⟨rfl, hS.chg⟩
          · have HL4 : Hid (decide ((P.length : Int) < (4 : Int)) = false) := decF (by omega)
            have HPM : Hid (PM = P) := by
              unfold Hid
              rw [← HPM0.out]
              unfold more
              rw [if_neg fun h => h4 h.2]
            clear hth hm h4
            go_wp2_with (first
              | (show wpList _ _ _ (⟨some 99, .call _, _, _, _, _⟩ :: _) _ _; refine wpList_val rfl (op_len slInt rfl rfl (v := r1) (xs := P.map fun z => [I64 z]) rfl ((hS.bring (by repeat (first | exact t0 | apply tS))).getOwn.rd)) ?_; rw [HPL.out]; go_frame)
              | (show wpList _ _ _ (⟨some 100, .binOp _ _ _ _ _, _, _, _, _⟩ :: _) _ _; refine wpList_val rfl (op_ilss rfl rfl rfl HL4.out) ?_; go_frame)
              | (go_at_call 19; refine Ret.calls (hS.callNo (sameInts_s r4 _ P2 PM _ ((hS.bring (by repeat (first | exact t0 | apply tS))).getOwn.rd) (by first | exact ((hS.bring (by repeat (first | exact t0 | apply tS))).getOwn.rd) | (rw [HPM.out, List.map_append]; exact ((hS.bring (by repeat (first | exact t0 | apply tS))).getOwn.rd)) | (rw [HPM.out]; exact ((hS.bring (by repeat (first | exact t0 | apply tS))).getOwn.rd))))) ?_; clear hS; rw [decide_eq_true HSM.out]; rintro r w ⟨rfl, hS⟩)
              | (go_at_call 12; first | (have m0 := M0; clear m0; with_reducible refine Ret.calls (all_s (B := B) (by exact ((hS.bring (by repeat (first | exact t0 | apply tS))))) HOK.out) ?_; clear hS; rintro r2 w hS) | (with_reducible refine Ret.calls (all_s (B := B2) (by exact ((hS.bring (by repeat (first | exact t0 | apply tS))))) HOK2.out) ?_; clear hS; rintro r5 w hS))
              | (go_at_call 17; first | (refine Ret.calls (plain_s (v := r5) hS HAL2.out HAN2.out) ?_; clear hS; rintro r6 w hS) | (refine Ret.calls (plain_s (v := r2) hS HAL1.out HAN1.out) ?_; clear hS; rintro r3 w hS))
              | (go_at_call 16; refine Ret.calls (hS.callNo (same_s (v := r6) (u := r3) (L := allB B2) (M := allB B) ((hS.bring (by repeat (first | exact t0 | apply tS))).getOwn.rd) ((hS.bring (by repeat (first | exact t0 | apply tS))).getOwn.rd) HALW2.out HALW1.out)) ?_; clear hS; rw [decide_eq_true HSA.out]; rintro r w ⟨rfl, hS⟩)
              )
            go_ret
            exact ⟨rfl, hS.chg⟩
        · have hm : a.peer ∈ P := of_decide_eq_true hth
          have HPM : Hid (PM = P) := by
            unfold Hid
            rw [← HPM0.out]
            unfold more
            rw [if_neg fun h => h.1 hm]
          clear hth hm
          go_wp2_with (first
            | (go_at_call 19; refine Ret.calls (hS.callNo (sameInts_s r4 _ P2 PM _ ((hS.bring (by repeat (first | exact t0 | apply tS))).getOwn.rd) (by first | exact ((hS.bring (by repeat (first | exact t0 | apply tS))).getOwn.rd) | (rw [HPM.out, List.map_append]; exact ((hS.bring (by repeat (first | exact t0 | apply tS))).getOwn.rd)) | (rw [HPM.out]; exact ((hS.bring (by repeat (first | exact t0 | apply tS))).getOwn.rd))))) ?_; clear hS; rw [decide_eq_true HSM.out]; rintro r w ⟨rfl, hS⟩)
            | (go_at_call 12; first | (have m0 := M0; clear m0; with_reducible refine Ret.calls (all_s (B := B) (by exact ((hS.bring (by repeat (first | exact t0 | apply tS))))) HOK.out) ?_; clear hS; rintro r2 w hS) | (with_reducible refine Ret.calls (all_s (B := B2) (by exact ((hS.bring (by repeat (first | exact t0 | apply tS))))) HOK2.out) ?_; clear hS; rintro r5 w hS))
            | (go_at_call 17; first | (refine Ret.calls (plain_s (v := r5) hS HAL2.out HAN2.out) ?_; clear hS; rintro r6 w hS) | (refine Ret.calls (plain_s (v := r2) hS HAL1.out HAN1.out) ?_; clear hS; rintro r3 w hS))
            | (go_at_call 16; refine Ret.calls (hS.callNo (same_s (v := r6) (u := r3) (L := allB B2) (M := allB B) ((hS.bring (by repeat (first | exact t0 | apply tS))).getOwn.rd) ((hS.bring (by repeat (first | exact t0 | apply tS))).getOwn.rd) HALW2.out HALW1.out)) ?_; clear hS; rw [decide_eq_true HSA.out]; rintro r w ⟨rfl, hS⟩)
            )
          go_ret
          exact ⟨rfl, hS.chg⟩
  · have hp0 := peersL_out hin
    rw [hP] at hp0
    have HP0 : Hid (((P.length : Int) == 0) = true) := by rw [hp0]; exact rfl
    by_cases hfull : B.length < 32
    · obtain ⟨e1, e2, e3, e4⟩ := off_new (q := a.peer) (t := a.now) hin hfull
      rw [hB2] at e2
      rw [← e2] at e3 e4
      rw [hP2] at e3
      rw [hbo] at e1
      subst e1
      have HF : Hid (decide ((32 : Int) ≤ (B.length : Int)) = false) := decF (by omega)
      have HSP : Hid (P2 = [a.peer]) := e3
      have HSB : Hid (allB B2 = allB B ++ [(a.id, a.peer)]) := e4
      have HALW3 : Hid (WOk (allB B ++ [(a.id, a.peer)])) := by rw [← e4]; exact HALW2.out
      have HAB1 : Hid ((((allB B).map wC).length + [a.id.map B8 ++ [Value.int .i64 a.peer]].length) * 40 ≤ 140737488355328) := by unfold Hid; rw [HAN.out, List.length_singleton]; omega
      have HAB2 : Hid (((allB B).map wC).length + [a.id.map B8 ++ [Value.int .i64 a.peer]].length ≤ maxLen) := by unfold Hid maxLen; rw [HAN.out, List.length_singleton]; omega
      clear hbo hLA hin hin2 hok hok2 hB0 hB2 hP hP2 e2 e3 e4 h200 hl1 hl2 hf1 hf2 hp0 hfull
      go_enter Try.func6, Try.ntmps6
      go_wp2_with (first
        | (show wpList _ _ _ (⟨_, .box 40 _, _, _, _, _⟩ :: _) _ _; refine wpS_boxA (cs := actC a) hS rfl rfl rfl ?_; clear hS; intro na w hS; go_frame)
        | (show wpList _ _ _ (⟨some 16, .call _, _, _, _, _⟩ :: _) _ _; refine wpList_val rfl (op_len slAct rfl rfl (v := v) (xs := L.map actC) rfl (by exact hS.rd hv)) ?_; rw [HL.out]; go_frame)
        | (show wpList _ _ _ (⟨some 17, .binOp _ _ _ _ _, _, _, _, _⟩ :: _) _ _; refine wpList_val rfl (op_igtr rfl rfl rfl HG.out) ?_; go_frame)
        | (go_at_call 9; refine Ret.calls (alive_s hS) ?_; clear hS; rintro r w ⟨rfl, hS⟩)
        | (show wpList _ _ _ (⟨_, .load 28 _, _, _, _, _⟩ :: _) _ _; refine wpList_val rfl (op_load aggHash rfl rfl ((SepL.getBlk (b := na) (T := 40) ((hS.bring (by repeat (first | exact t0 | apply tS))))).cells.subN 2 32 HAI.out) HAI32.out) ?_; go_frame)
        | (show wpList _ _ _ (⟨_, .load 3 (.tmp 30), _, _, _, _⟩ :: _) _ _; refine wpList_val rfl (op_load1S (b := na) (T := 40) oneInt ((hS.bring (by repeat (first | exact t0 | apply tS)))) rfl rfl HA1.out) ?_; go_frame)
        | (show wpList _ _ _ (⟨_, .load 23 _, _, _, _, _⟩ :: _) _ _; refine wpList_val rfl (op_load1S (b := na) (T := 40) oneU ((hS.bring (by repeat (first | exact t0 | apply tS)))) rfl rfl HA34.out) ?_; go_frame)
        | (go_at_call 22; refine Ret.calls (grown_s hS hv HA.out) ?_; clear hS; rintro r w ⟨p, rfl, hS⟩; rw [HB.out] at hS)
        | (go_at_call 20; first | (have m0 := M0; clear m0; with_reducible refine Ret.calls (CP1.out _ _ _ (by exact ((hS.bring (by repeat (first | exact t0 | apply tS)))))) ?_; clear hS; rintro r1 w hS) | (with_reducible refine Ret.calls (CP2.out _ _ _ (by exact ((hS.bring (by repeat (first | exact t0 | apply tS)))))) ?_; clear hS; rintro r4 w hS))
        | (go_at_call 12; first | (have m0 := M0; clear m0; with_reducible refine Ret.calls (all_s (B := B) (by exact ((hS.bring (by repeat (first | exact t0 | apply tS))))) HOK.out) ?_; clear hS; rintro r2 w hS) | (with_reducible refine Ret.calls (all_s (B := B2) (by exact ((hS.bring (by repeat (first | exact t0 | apply tS))))) HOK2.out) ?_; clear hS; rintro r5 w hS))
        | (go_at_call 17; first | (refine Ret.calls (plain_s (v := r5) hS HAL2.out HAN2.out) ?_; clear hS; rintro r6 w hS) | (refine Ret.calls (plain_s (v := r2) hS HAL1.out HAN1.out) ?_; clear hS; rintro r3 w hS))
        | (go_at_call 11; with_reducible refine Ret.calls (CO.out _ _ _ (by exact ((hS.bring (by repeat (first | exact t0 | apply tS)))))) ?_; clear hS; clear M0; rintro r w ⟨rfl, hS⟩)
        | (show wpList _ _ _ (⟨some 40, .call _, _, _, _, _⟩ :: _) _ _; refine wpList_val rfl (op_len slInt rfl rfl (v := r1) (xs := P.map fun z => [I64 z]) rfl ((hS.bring (by repeat (first | exact t0 | apply tS))).getOwn.rd)) ?_; rw [HPL.out]; go_frame)
        | (show wpList _ _ _ (⟨some 41, .binOp _ _ _ _ _, _, _, _, _⟩ :: _) _ _; refine wpList_val rfl (op_eqI' rfl rfl rfl HP0.out) ?_; go_frame)
        | (show wpList _ _ _ (⟨some 43, .call _, _, _, _, _⟩ :: _) _ _; refine wpList_val rfl (op_len slRWant rfl rfl (v := r3) (xs := (allB B).map wC) rfl ((hS.bring (by repeat (first | exact t0 | apply tS))).getOwn.rd)) ?_; rw [HAN.out]; go_frame)
        | (show wpList _ _ _ (⟨some 44, .binOp _ _ _ _ _, _, _, _, _⟩ :: _) _ _; refine wpList_val rfl (op_igeq rfl rfl rfl HF.out) ?_; go_frame)
        )
      refine wp_region_ord (by kernel_rfl) [62, 72, 74] [[0, 1, 2, 3, 4, 5, 6, 7, 8, 9, 12, 13, 14, 15, 16, 17, 10, 11, 18, 19, 20, 21, 22], [0, 1, 2, 3, 4, 5, 6, 7, 8, 9, 12, 13, 14, 15, 16, 17, 10, 18, 11, 19, 20, 21, 22], [0, 1, 2, 3, 4, 5, 6, 7, 8, 9, 12, 13, 14, 15, 16, 17, 18, 10, 11, 19, 20, 21, 22]] (by kernel_rfl) (by kernel_rfl) (fun w' => Blk w' na 40 (actC a)) Up.blk ((hS.bring (by repeat (first | exact t0 | apply tS))).getBlk) (by repeat (first | exact Clean.body | refine Clean.then ?_ | refine Clean.inBlock ?_ | refine SegQ.clean ?_ | refine FinC.clean ?_)) ?_
      replace hS := hS.drew
      refine ord_seg (by repeat (first | exact Clean.body | refine Clean.then ?_ | refine Clean.inBlock ?_ | refine SegQ.clean ?_ | refine FinC.clean ?_)) (n := 16) (rest := [[7, 8, 9, 12, 13, 14, 15, 16, 17, 10, 11, 18, 19, 20, 21, 22], [7, 8, 9, 12, 13, 14, 15, 16, 17, 10, 18, 11, 19, 20, 21, 22], [7, 8, 9, 12, 13, 14, 15, 16, 17, 18, 10, 11, 19, 20, 21, 22]]) [0, 1, 2, 3, 4, 5, 6] [⟨_, _, _, _, _, _⟩, ⟨_, _, _, _, _, _⟩, ⟨_, _, _, _, _, _⟩, ⟨_, _, _, _, _, _⟩, ⟨_, _, _, _, _, _⟩, ⟨_, _, _, _, _, _⟩, ⟨_, _, _, _, _, _⟩] rfl (by kernel_rfl) (by simp) _ _ ?_
      go_wp2_with (first
        | (show wpList _ _ _ (⟨some 63, .load _ _, _, _, _, _⟩ :: _) _ _; refine wpList_val rfl (op_load1S (b := na) (T := 40) oneInt ((hS.bring (by repeat (first | exact t0 | apply tS)))) rfl rfl HA1.out) ?_; go_frame)
        | (show wpList _ _ _ (⟨_, .buildSlice 50 1 _, _, _, _, _⟩ :: _) _ _; refine wpS_build11 slInt hS rfl rfl (u := .int .i64 a.peer) rfl rfl ?_; clear hS; intro v1 w hS; go_frame)
        | (go_at_call 19; refine Ret.calls (hS.callNo (sameInts_s r4 v1 P2 [a.peer] _ ((hS.bring (by repeat (first | exact t0 | apply tS))).getOwn.rd) ((hS.bring (by repeat (first | exact t0 | apply tS))).getOwn.rd))) ?_; clear hS; rw [decide_eq_true HSP.out]; rintro r w ⟨rfl, hS⟩)
        )
      refine segQ_mk (((hS.bring (by repeat (first | exact t0 | apply tS))).getBlk) : Blk _ na 40 (actC a)) ?_
      refine ord_seg (by repeat (first | exact Clean.body | refine Clean.then ?_ | refine Clean.inBlock ?_ | refine SegQ.clean ?_ | refine FinC.clean ?_)) (n := 7) (rest := [[10, 11, 18, 19, 20, 21, 22], [10, 18, 11, 19, 20, 21, 22], [18, 10, 11, 19, 20, 21, 22]]) [7, 8, 9, 12, 13, 14, 15, 16, 17] [⟨_, _, _, _, _, _⟩, ⟨_, _, _, _, _, _⟩, ⟨_, _, _, _, _, _⟩, ⟨_, _, _, _, _, _⟩, ⟨_, _, _, _, _, _⟩, ⟨_, _, _, _, _, _⟩, ⟨_, _, _, _, _, _⟩, ⟨_, _, _, _, _, _⟩, ⟨_, _, _, _, _, _⟩] rfl (by kernel_rfl) (by simp) _ _ ?_
      go_wp2_with (first
        | (show wpList _ _ _ (⟨some 75, .load _ _, _, _, _, _⟩ :: _) _ _; refine wpList_val rfl (op_load1S (b := na) (T := 40) oneInt ((hS.bring (by repeat (first | exact t0 | apply tS)))) rfl rfl HA1.out) ?_; go_frame)
        | (show wpList _ _ _ (⟨_, .load 28 _, _, _, _, _⟩ :: _) _ _; refine wpList_val rfl (op_load aggHash rfl rfl ((SepL.getBlk (b := na) (T := 40) ((hS.bring (by repeat (first | exact t0 | apply tS))))).cells.subN 2 32 HAI.out) HAI32.out) ?_; go_frame)
        | (show wpList _ _ _ (⟨_, .build 57 _, _, _, _, _⟩ :: _) _ _; refine wpList_val rfl (op_build (ps := #[(0, .agg (a.id.map B8).toArray), (1, .int .i64 a.peer)]) rfl rfl (buildRWant a.id HAI32.out a.peer) _) ?_; go_frame)
        )
      refine segQ_mk (((hS.bring (by repeat (first | exact t0 | apply tS))).getBlk) : Blk _ na 40 (actC a)) ?_
      refine ord_fork (n := 6) (os1 := [[10, 11, 18, 19, 20, 21, 22], [10, 18, 11, 19, 20, 21, 22]]) (os2 := [[18, 10, 11, 19, 20, 21, 22]]) (by decide) ?_ ?_
      ·
        refine ord_seg (by repeat (first | exact Clean.body | refine Clean.then ?_ | refine Clean.inBlock ?_ | refine SegQ.clean ?_ | refine FinC.clean ?_)) (n := 6) (rest := [[11, 18, 19, 20, 21, 22], [18, 11, 19, 20, 21, 22]]) [10] [⟨_, _, _, _, _, _⟩] rfl (by kernel_rfl) (by simp) _ _ ?_
        go_wp2_with (first
          | (go_at_call 12; (refine Ret.calls (all_s (B := B2) (hS.bring (by repeat (first | exact t0 | apply tS))) HOK2.out) ?_); clear hS; rintro r5 w hS)
          )
        refine segQ_mk (((hS.bring (by repeat (first | exact t0 | apply tS))).getBlk) : Blk _ na 40 (actC a)) ?_
        refine ord_fork (n := 5) (os1 := [[11, 18, 19, 20, 21, 22]]) (os2 := [[18, 11, 19, 20, 21, 22]]) (by decide) ?_ ?_
        ·
          refine ord_seg (by repeat (first | exact Clean.body | refine Clean.then ?_ | refine Clean.inBlock ?_ | refine SegQ.clean ?_ | refine FinC.clean ?_)) (n := 5) (rest := [[18, 19, 20, 21, 22]]) [11] [⟨_, _, _, _, _, _⟩] rfl (by kernel_rfl) (by simp) _ _ ?_
          go_wp2_with (first
            | (go_at_call 17; (refine Ret.calls (plain_s (v := r5) (hS.bring (by repeat (first | exact t0 | apply tS))) HAL2.out HAN2.out) ?_); clear hS; rintro r6 w hS)
            )
          refine segQ_mk (((hS.bring (by repeat (first | exact t0 | apply tS))).getBlk) : Blk _ na 40 (actC a)) ?_
          refine ord_seg (by repeat (first | exact Clean.body | refine Clean.then ?_ | refine Clean.inBlock ?_ | refine SegQ.clean ?_ | refine FinC.clean ?_)) (n := 3) (rest := [[20, 21, 22]]) [18, 19] [⟨_, _, _, _, _, _⟩, ⟨_, _, _, _, _, _⟩] rfl (by kernel_rfl) (by simp) _ _ ?_
          go_wp2_with (first
            | (show wpList _ _ _ (⟨_, .buildSlice 41 1 _, _, _, _, _⟩ :: _) _ _; refine wpS_build1A slRWant (by omega) hS rfl rfl (cs := a.id.map B8 ++ [.int .i64 a.peer]) rfl (w33 HAI32.out _) ?_; clear hS; intro v2 w hS; go_frame)
            | (show wpList _ _ _ (⟨_, .call ⟨.builtin .append, _, _⟩, _, _, _, _⟩ :: _) _ _; (refine wpS_append slRWant (hS.bring (by repeat (first | exact t0 | apply tS))) rfl rfl (sv := r3) (xs := (allB B).map wC) (xv := v2) rfl rfl (ys := [a.id.map B8 ++ [.int .i64 a.peer]]) ((hS.bring (by repeat (first | exact t0 | apply tS))).getOwn.rd) (flat_w1 _ _) HAB1.out HAB2.out ?_); clear hS; intro v3 w hS; go_frame)
            )
          refine segQ_mk (((hS.bring (by repeat (first | exact t0 | apply tS))).getBlk) : Blk _ na 40 (actC a)) ?_
          refine ord_seg (by repeat (first | exact Clean.body | refine Clean.then ?_ | refine Clean.inBlock ?_ | refine SegQ.clean ?_ | refine FinC.clean ?_)) (n := 2) (rest := [[21, 22]]) [20] [⟨_, _, _, _, _, _⟩] rfl (by kernel_rfl) (by simp) _ _ ?_
          go_wp2_with (first
            | (go_at_call 16; refine Ret.calls (hS.callNo (same_s (v := r6) (u := v3) (L := allB B2) (M := allB B ++ [(a.id, a.peer)]) ((hS.bring (by repeat (first | exact t0 | apply tS))).getOwn.rd) (by rw [List.map_append]; exact ((hS.bring (by repeat (first | exact t0 | apply tS))).getOwn.rd)) HALW2.out HALW3.out)) ?_; clear hS; rw [decide_eq_true HSB.out]; rintro r w ⟨rfl, hS⟩)
            )
          refine segQ_mk (((hS.bring (by repeat (first | exact t0 | apply tS))).getBlk) : Blk _ na 40 (actC a)) ?_
          refine ord_seg (by repeat (first | exact Clean.body | refine Clean.then ?_ | refine Clean.inBlock ?_ | refine SegQ.clean ?_ | refine FinC.clean ?_)) (n := 0) (rest := [[]]) [21, 22] [⟨_, _, _, _, _, _⟩, ⟨_, _, _, _, _, _⟩] rfl (by kernel_rfl) (by simp) _ _ ?_
          go_wp2_with fail
          refine segQ_mk (((hS.bring (by repeat (first | exact t0 | apply tS))).getBlk) : Blk _ na 40 (actC a)) ?_
          refine finC_mk (by kernel_rfl) (by
            intro t ht
            simp only [List.mem_cons, List.not_mem_nil, or_false] at ht
            rcases ht with rfl | rfl | rfl <;> exact stab_blk (b := na) (fun w h => h) _ none) ?_
          go_wp2_with fail
          go_ret
          exact ⟨rfl, hS.chg⟩
        ·
          refine ord_seg (by repeat (first | exact Clean.body | refine Clean.then ?_ | refine Clean.inBlock ?_ | refine SegQ.clean ?_ | refine FinC.clean ?_)) (n := 4) (rest := [[19, 20, 21, 22]]) [18, 11] [⟨_, _, _, _, _, _⟩, ⟨_, _, _, _, _, _⟩] rfl (by kernel_rfl) (by simp) _ _ ?_
          go_wp2_with (first
            | (show wpList _ _ _ (⟨_, .buildSlice 41 1 _, _, _, _, _⟩ :: _) _ _; refine wpS_build1A slRWant (by omega) hS rfl rfl (cs := a.id.map B8 ++ [.int .i64 a.peer]) rfl (w33 HAI32.out _) ?_; clear hS; intro v2 w hS; go_frame)
            | (go_at_call 17; (refine Ret.calls (plain_s (v := r5) (hS.bring (by repeat (first | exact t0 | apply tS))) HAL2.out HAN2.out) ?_); clear hS; rintro r6 w hS)
            )
          refine segQ_mk (((hS.bring (by repeat (first | exact t0 | apply tS))).getBlk) : Blk _ na 40 (actC a)) ?_
          refine ord_seg (by repeat (first | exact Clean.body | refine Clean.then ?_ | refine Clean.inBlock ?_ | refine SegQ.clean ?_ | refine FinC.clean ?_)) (n := 3) (rest := [[20, 21, 22]]) [19] [⟨_, _, _, _, _, _⟩] rfl (by kernel_rfl) (by simp) _ _ ?_
          go_wp2_with (first
            | (show wpList _ _ _ (⟨_, .call ⟨.builtin .append, _, _⟩, _, _, _, _⟩ :: _) _ _; (refine wpS_append slRWant (hS.bring (by repeat (first | exact t0 | apply tS))) rfl rfl (sv := r3) (xs := (allB B).map wC) (xv := v2) rfl rfl (ys := [a.id.map B8 ++ [.int .i64 a.peer]]) ((hS.bring (by repeat (first | exact t0 | apply tS))).getOwn.rd) (flat_w1 _ _) HAB1.out HAB2.out ?_); clear hS; intro v3 w hS; go_frame)
            )
          refine segQ_mk (((hS.bring (by repeat (first | exact t0 | apply tS))).getBlk) : Blk _ na 40 (actC a)) ?_
          refine ord_seg (by repeat (first | exact Clean.body | refine Clean.then ?_ | refine Clean.inBlock ?_ | refine SegQ.clean ?_ | refine FinC.clean ?_)) (n := 2) (rest := [[21, 22]]) [20] [⟨_, _, _, _, _, _⟩] rfl (by kernel_rfl) (by simp) _ _ ?_
          go_wp2_with (first
            | (go_at_call 16; refine Ret.calls (hS.callNo (same_s (v := r6) (u := v3) (L := allB B2) (M := allB B ++ [(a.id, a.peer)]) ((hS.bring (by repeat (first | exact t0 | apply tS))).getOwn.rd) (by rw [List.map_append]; exact ((hS.bring (by repeat (first | exact t0 | apply tS))).getOwn.rd)) HALW2.out HALW3.out)) ?_; clear hS; rw [decide_eq_true HSB.out]; rintro r w ⟨rfl, hS⟩)
            )
          refine segQ_mk (((hS.bring (by repeat (first | exact t0 | apply tS))).getBlk) : Blk _ na 40 (actC a)) ?_
          refine ord_seg (by repeat (first | exact Clean.body | refine Clean.then ?_ | refine Clean.inBlock ?_ | refine SegQ.clean ?_ | refine FinC.clean ?_)) (n := 0) (rest := [[]]) [21, 22] [⟨_, _, _, _, _, _⟩, ⟨_, _, _, _, _, _⟩] rfl (by kernel_rfl) (by simp) _ _ ?_
          go_wp2_with fail
          refine segQ_mk (((hS.bring (by repeat (first | exact t0 | apply tS))).getBlk) : Blk _ na 40 (actC a)) ?_
          refine finC_mk (by kernel_rfl) (by
            intro t ht
            simp only [List.mem_cons, List.not_mem_nil, or_false] at ht
            rcases ht with rfl | rfl | rfl <;> exact stab_blk (b := na) (fun w h => h) _ none) ?_
          go_wp2_with fail
          go_ret
          exact ⟨rfl, hS.chg⟩
      ·
        refine ord_seg (by repeat (first | exact Clean.body | refine Clean.then ?_ | refine Clean.inBlock ?_ | refine SegQ.clean ?_ | refine FinC.clean ?_)) (n := 5) (rest := [[11, 19, 20, 21, 22]]) [18, 10] [⟨_, _, _, _, _, _⟩, ⟨_, _, _, _, _, _⟩] rfl (by kernel_rfl) (by simp) _ _ ?_
        go_wp2_with (first
          | (show wpList _ _ _ (⟨_, .buildSlice 41 1 _, _, _, _, _⟩ :: _) _ _; refine wpS_build1A slRWant (by omega) hS rfl rfl (cs := a.id.map B8 ++ [.int .i64 a.peer]) rfl (w33 HAI32.out _) ?_; clear hS; intro v2 w hS; go_frame)
          | (go_at_call 12; (refine Ret.calls (all_s (B := B2) (hS.bring (by repeat (first | exact t0 | apply tS))) HOK2.out) ?_); clear hS; rintro r5 w hS)
          )
        refine segQ_mk (((hS.bring (by repeat (first | exact t0 | apply tS))).getBlk) : Blk _ na 40 (actC a)) ?_
        refine ord_seg (by repeat (first | exact Clean.body | refine Clean.then ?_ | refine Clean.inBlock ?_ | refine SegQ.clean ?_ | refine FinC.clean ?_)) (n := 4) (rest := [[19, 20, 21, 22]]) [11] [⟨_, _, _, _, _, _⟩] rfl (by kernel_rfl) (by simp) _ _ ?_
        go_wp2_with (first
          | (go_at_call 17; (refine Ret.calls (plain_s (v := r5) (hS.bring (by repeat (first | exact t0 | apply tS))) HAL2.out HAN2.out) ?_); clear hS; rintro r6 w hS)
          )
        refine segQ_mk (((hS.bring (by repeat (first | exact t0 | apply tS))).getBlk) : Blk _ na 40 (actC a)) ?_
        refine ord_seg (by repeat (first | exact Clean.body | refine Clean.then ?_ | refine Clean.inBlock ?_ | refine SegQ.clean ?_ | refine FinC.clean ?_)) (n := 3) (rest := [[20, 21, 22]]) [19] [⟨_, _, _, _, _, _⟩] rfl (by kernel_rfl) (by simp) _ _ ?_
        go_wp2_with (first
          | (show wpList _ _ _ (⟨_, .call ⟨.builtin .append, _, _⟩, _, _, _, _⟩ :: _) _ _; (refine wpS_append slRWant (hS.bring (by repeat (first | exact t0 | apply tS))) rfl rfl (sv := r3) (xs := (allB B).map wC) (xv := v2) rfl rfl (ys := [a.id.map B8 ++ [.int .i64 a.peer]]) ((hS.bring (by repeat (first | exact t0 | apply tS))).getOwn.rd) (flat_w1 _ _) HAB1.out HAB2.out ?_); clear hS; intro v3 w hS; go_frame)
          )
        refine segQ_mk (((hS.bring (by repeat (first | exact t0 | apply tS))).getBlk) : Blk _ na 40 (actC a)) ?_
        refine ord_seg (by repeat (first | exact Clean.body | refine Clean.then ?_ | refine Clean.inBlock ?_ | refine SegQ.clean ?_ | refine FinC.clean ?_)) (n := 2) (rest := [[21, 22]]) [20] [⟨_, _, _, _, _, _⟩] rfl (by kernel_rfl) (by simp) _ _ ?_
        go_wp2_with (first
          | (go_at_call 16; refine Ret.calls (hS.callNo (same_s (v := r6) (u := v3) (L := allB B2) (M := allB B ++ [(a.id, a.peer)]) ((hS.bring (by repeat (first | exact t0 | apply tS))).getOwn.rd) (by rw [List.map_append]; exact ((hS.bring (by repeat (first | exact t0 | apply tS))).getOwn.rd)) HALW2.out HALW3.out)) ?_; clear hS; rw [decide_eq_true HSB.out]; rintro r w ⟨rfl, hS⟩)
          )
        refine segQ_mk (((hS.bring (by repeat (first | exact t0 | apply tS))).getBlk) : Blk _ na 40 (actC a)) ?_
        refine ord_seg (by repeat (first | exact Clean.body | refine Clean.then ?_ | refine Clean.inBlock ?_ | refine SegQ.clean ?_ | refine FinC.clean ?_)) (n := 0) (rest := [[]]) [21, 22] [⟨_, _, _, _, _, _⟩, ⟨_, _, _, _, _, _⟩] rfl (by kernel_rfl) (by simp) _ _ ?_
        go_wp2_with fail
        refine segQ_mk (((hS.bring (by repeat (first | exact t0 | apply tS))).getBlk) : Blk _ na 40 (actC a)) ?_
        refine finC_mk (by kernel_rfl) (by
          intro t ht
          simp only [List.mem_cons, List.not_mem_nil, or_false] at ht
          rcases ht with rfl | rfl | rfl <;> exact stab_blk (b := na) (fun w h => h) _ none) ?_
        go_wp2_with fail
        go_ret
        exact ⟨rfl, hS.chg⟩
    · obtain ⟨e1, e2⟩ := off_full (q := a.peer) (t := a.now) hin hfull
      rw [hB2] at e2
      rw [hbo] at e1
      subst e1
      have HF : Hid (decide ((32 : Int) ≤ (B.length : Int)) = true) := decT (by omega)
      have HP20 : Hid (((P2.length : Int) == 0) = true) := by
        rw [← hP2, e2, hP, hp0]
        exact rfl
      have HSA : Hid (allB B2 = allB B) := by
        unfold Hid
        rw [e2]
      clear hbo hLA hin hin2 hok hok2 hB0 hB2 hP hP2 e2 h200 hl1 hl2 hf1 hf2 hp0 hfull
      go_enter Try.func6, Try.ntmps6
      go_wp2_with (first
        | (show wpList _ _ _ (⟨_, .box 40 _, _, _, _, _⟩ :: _) _ _; refine wpS_boxA (cs := actC a) hS rfl rfl rfl ?_; clear hS; intro na w hS; go_frame)
        | (show wpList _ _ _ (⟨some 16, .call _, _, _, _, _⟩ :: _) _ _; refine wpList_val rfl (op_len slAct rfl rfl (v := v) (xs := L.map actC) rfl (by exact hS.rd hv)) ?_; rw [HL.out]; go_frame)
        | (show wpList _ _ _ (⟨some 17, .binOp _ _ _ _ _, _, _, _, _⟩ :: _) _ _; refine wpList_val rfl (op_igtr rfl rfl rfl HG.out) ?_; go_frame)
        | (go_at_call 9; refine Ret.calls (alive_s hS) ?_; clear hS; rintro r w ⟨rfl, hS⟩)
        | (show wpList _ _ _ (⟨_, .load 28 _, _, _, _, _⟩ :: _) _ _; refine wpList_val rfl (op_load aggHash rfl rfl ((SepL.getBlk (b := na) (T := 40) ((hS.bring (by repeat (first | exact t0 | apply tS))))).cells.subN 2 32 HAI.out) HAI32.out) ?_; go_frame)
        | (show wpList _ _ _ (⟨_, .load 3 (.tmp 30), _, _, _, _⟩ :: _) _ _; refine wpList_val rfl (op_load1S (b := na) (T := 40) oneInt ((hS.bring (by repeat (first | exact t0 | apply tS)))) rfl rfl HA1.out) ?_; go_frame)
        | (show wpList _ _ _ (⟨_, .load 23 _, _, _, _, _⟩ :: _) _ _; refine wpList_val rfl (op_load1S (b := na) (T := 40) oneU ((hS.bring (by repeat (first | exact t0 | apply tS)))) rfl rfl HA34.out) ?_; go_frame)
        | (go_at_call 22; refine Ret.calls (grown_s hS hv HA.out) ?_; clear hS; rintro r w ⟨p, rfl, hS⟩; rw [HB.out] at hS)
        | (go_at_call 20; first | (have m0 := M0; clear m0; with_reducible refine Ret.calls (CP1.out _ _ _ (by exact ((hS.bring (by repeat (first | exact t0 | apply tS)))))) ?_; clear hS; rintro r1 w hS) | (with_reducible refine Ret.calls (CP2.out _ _ _ (by exact ((hS.bring (by repeat (first | exact t0 | apply tS)))))) ?_; clear hS; rintro r4 w hS))
        | (go_at_call 12; first | (have m0 := M0; clear m0; with_reducible refine Ret.calls (all_s (B := B) (by exact ((hS.bring (by repeat (first | exact t0 | apply tS))))) HOK.out) ?_; clear hS; rintro r2 w hS) | (with_reducible refine Ret.calls (all_s (B := B2) (by exact ((hS.bring (by repeat (first | exact t0 | apply tS))))) HOK2.out) ?_; clear hS; rintro r5 w hS))
        | (go_at_call 17; first | (refine Ret.calls (plain_s (v := r5) hS HAL2.out HAN2.out) ?_; clear hS; rintro r6 w hS) | (refine Ret.calls (plain_s (v := r2) hS HAL1.out HAN1.out) ?_; clear hS; rintro r3 w hS))
        | (go_at_call 11; with_reducible refine Ret.calls (CO.out _ _ _ (by exact ((hS.bring (by repeat (first | exact t0 | apply tS)))))) ?_; clear hS; clear M0; rintro r w ⟨rfl, hS⟩)
        | (show wpList _ _ _ (⟨some 40, .call _, _, _, _, _⟩ :: _) _ _; refine wpList_val rfl (op_len slInt rfl rfl (v := r1) (xs := P.map fun z => [I64 z]) rfl ((hS.bring (by repeat (first | exact t0 | apply tS))).getOwn.rd)) ?_; rw [HPL.out]; go_frame)
        | (show wpList _ _ _ (⟨some 41, .binOp _ _ _ _ _, _, _, _, _⟩ :: _) _ _; refine wpList_val rfl (op_eqI' rfl rfl rfl HP0.out) ?_; go_frame)
        | (show wpList _ _ _ (⟨some 43, .call _, _, _, _, _⟩ :: _) _ _; refine wpList_val rfl (op_len slRWant rfl rfl (v := r3) (xs := (allB B).map wC) rfl ((hS.bring (by repeat (first | exact t0 | apply tS))).getOwn.rd)) ?_; rw [HAN.out]; go_frame)
        | (show wpList _ _ _ (⟨some 44, .binOp _ _ _ _ _, _, _, _, _⟩ :: _) _ _; refine wpList_val rfl (op_igeq rfl rfl rfl HF.out) ?_; go_frame)
        | (show wpList _ _ _ (⟨some 49, .call _, _, _, _, _⟩ :: _) _ _; refine wpList_val rfl (op_len slInt rfl rfl (v := r4) (xs := P2.map fun z => [I64 z]) rfl ((hS.bring (by repeat (first | exact t0 | apply tS))).getOwn.rd)) ?_; rw [HP2L.out]; go_frame)
        | (show wpList _ _ _ (⟨some 50, .binOp _ _ _ _ _, _, _, _, _⟩ :: _) _ _; refine wpList_val rfl (op_eqI' rfl rfl rfl HP20.out) ?_; go_frame)
        | (go_at_call 16; refine Ret.calls (hS.callNo (same_s (v := r6) (u := r3) (L := allB B2) (M := allB B) ((hS.bring (by repeat (first | exact t0 | apply tS))).getOwn.rd) ((hS.bring (by repeat (first | exact t0 | apply tS))).getOwn.rd) HALW2.out HALW1.out)) ?_; clear hS; rw [decide_eq_true HSA.out]; rintro r w ⟨rfl, hS⟩)
        )
      go_ret
      exact ⟨rfl, hS.chg⟩
end Go.Proofs.Ytafpdpcbckpkjaa
