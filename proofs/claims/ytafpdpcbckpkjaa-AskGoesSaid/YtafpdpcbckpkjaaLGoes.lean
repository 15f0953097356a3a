/- Who has it not is asked no more, and in the end each id goes: the law returns true. Conditions: those that stand ahead of each theorem. -/
import Derived.Test.YtafpdpcbckpkjaaGoesP
namespace Go.Proofs.Ytafpdpcbckpkjaa
open Go.RowKit Go.Px
theorem cutTail {w : World} {v : Value} {P : List Int} (h1 : 0 < P.length) (h : Rd 1 w v (P.map fun z => [I64 z])) : Rd 1 w (cutV 1 v 1 P.length) (P.tail.map fun z => [I64 z]) := by
  have := h.cutV (l := 1) (h := P.length) h1 (by simp)
  cases P with
  | nil => cases h1
  | cons z P =>
    rw [List.map_cons, List.drop_succ_cons, List.drop_zero, List.length_cons, Nat.add_sub_cancel, List.take_of_length_le (by simp)] at this
    exact this
set_option maxRecDepth 100000 in
set_option maxHeartbeats 8000000 in
theorem askGoes_w {W : World} {v : Value} {L : List PAct} {id : List Byte} {now : Nat} (hv0 : Rd 35 W v (L.map actC)) (ha : ∀ a ∈ L, AOk a) (hid : id.length = 32) (hn : now < 18446744073709551616) :
    Calls Try.prog 7 #[v, .agg (id.map B8).toArray, U now] W (Ret fun r w' => r = .bool true ∧ Chg No W w') := by
  have hS := SepL.start W
  have hv := RdIn.of hv0
  have HL : Hid ((L.map actC).length = L.length) := by simp [Hid]
  have HA := hide ha
  have HIL : Hid ((id.map B8).length = 32) := by simp [Hid, hid]
  have HID := hide hid
  clear hv0
  by_cases h200 : 200 < L.length
  · have HG : Hid (decide ((200 : Int) < (L.length : Int)) = true) := decT (by omega)
    clear h200 ha hid hn
    go_enter Try.func7, Try.ntmps7
    go_wp2_with (first
      | (show wpList _ _ _ (⟨_, .box 28 _, _, _, _, _⟩ :: _) _ _; refine wpS_boxA (cs := id.map B8) hS rfl rfl rfl ?_; clear hS; intro nid w hS; go_frame)
      | (show wpList _ _ _ (⟨some 17, .call _, _, _, _, _⟩ :: _) _ _; refine wpList_val rfl (op_len slAct rfl rfl (v := v) (xs := L.map actC) rfl (by exact hS.rd hv)) ?_; rw [HL.out]; go_frame)
      | (show wpList _ _ _ (⟨some 18, .binOp _ _ _ _ _, _, _, _, _⟩ :: _) _ _; refine wpList_val rfl (op_igtr rfl rfl rfl HG.out) ?_; go_frame)
      | (go_at_call 9; refine Ret.calls (alive_s hS) ?_; clear hS; rintro r w ⟨rfl, hS⟩)
      )
    go_ret
    exact ⟨rfl, hS.chg⟩
  have HG : Hid (decide ((200 : Int) < (L.length : Int)) = false) := decF (by omega)
  have hok := runB_ok BOk.nil ha
  obtain ⟨B, hB0⟩ : ∃ B, runB [] L = B := ⟨_, rfl⟩
  rw [hB0] at hok
  have HB := hide hB0
  have HOK := hide hok
  obtain ⟨P, hP⟩ : ∃ P, peersL id B = P := ⟨_, rfl⟩
  have HP := hide hP
  have HPL : Hid ((P.map fun z => [I64 z]).length = P.length) := by simp [Hid]
  by_cases hin : id ∈ ids B
  · obtain ⟨e, e1, e2, e3, e4⟩ := lack_first (t := now) hok hin
    obtain ⟨q, hq⟩ : ∃ q, e.peer = q := ⟨_, rfl⟩
    obtain ⟨nx, hnx⟩ : ∃ z, (e.waits.head?).getD 0 = z := ⟨_, rfl⟩
    obtain ⟨B2, hB2⟩ : ∃ B2, lackB id q now B = B2 := ⟨_, rfl⟩
    obtain ⟨PT, hPT⟩ : ∃ PT, peersL id B2 = PT := ⟨_, rfl⟩
    obtain ⟨B3, hB3⟩ : ∃ B3, gotB id B2 = B3 := ⟨_, rfl⟩
    rw [hP] at e1 e2 e4
    rw [hq] at e1 e2 e3 e4
    rw [hB2] at e3 e4
    rw [hPT] at e3
    have hok2 : BOk B2 := by rw [← hB2]; exact lack_ok hok hn
    have hok3 : BOk B3 := by rw [← hB3]; exact got_ok hok2
    have HOK2 := hide hok2
    have HOK3 := hide hok3
    have HOKE := hide hok3
    have hno : id ∉ ids B3 := by rw [← hB3]; exact got_gone
    have HG3 : Hid (decide (id ∈ ids B3) = false) := decide_eq_false hno
    have HB4 : Hid (gotB id B3 = B3) := turn_other hno
    have HB2 := hide hB2
    have HB3 := hide hB3
    have HPT := hide hPT
    have hpl : P.length = e.waits.length + 1 := by rw [e1, List.length_cons]
    have HP1b : Hid (0 < P.length) := by unfold Hid; omega
    have HP1 : Hid (0 < (P.map fun z => [I64 z]).length) := by unfold Hid; rw [HPL.out]; omega
    have HP0 : Hid (P[0]'HP1b.out = q) := by
      unfold Hid
      simp only [e1, List.getElem_cons_zero]
    have HQ0 : Hid (decide ((0 : Int) < (P.length : Int)) = true) := decT (by omega)
    have hpt : P.tail = PT := by rw [e1, ← e3]; rfl
    have HCUT : Hid (∀ (w : World) (v : Value), Rd 1 w v (P.map fun z => [I64 z]) → Rd 1 w (cutV 1 v 1 P.length) (PT.map fun z => [I64 z])) := by
      intro w v h
      rw [← hpt]
      exact cutTail HP1b.out h
    have HNX : Hid ((nx != nx) = false) := by simp [Hid]
    obtain ⟨bo, hbo⟩ : ∃ b, decide (1 < P.length) = b := ⟨_, rfl⟩
    rw [hbo, hnx] at e2
    have HLV := hide e2
    have HQ1 : Hid (decide ((1 : Int) < (P.length : Int)) = bo) := by
      unfold Hid
      rw [← hbo, decide_eq_decide]
      omega
    have HG2 : Hid (decide (id ∈ ids B2) = bo) := by
      unfold Hid
      rw [← hbo, decide_eq_decide]
      exact e4
    obtain ⟨M0, hM0⟩ : ∃ m : Nat, m = 0 := ⟨0, rfl⟩
    clear hM0
    cases bo
    · have h1 : P.length = 1 := by have := of_decide_eq_false hbo; omega
      have HQE : Hid (((P.length : Int) == 1) = true) := eqT (by omega)
      clear h200 ha hid hn hB0 hok hP hin e1 e2 e3 e4 hq hnx hB2 hPT hB3 hok2 hok3 hno hpl hpt hbo h1
      go_enter Try.func7, Try.ntmps7
      go_wp2_with (first
        | (show wpList _ _ _ (⟨_, .box 28 _, _, _, _, _⟩ :: _) _ _; refine wpS_boxA (cs := id.map B8) hS rfl rfl rfl ?_; clear hS; intro nid w hS; go_frame)
        | (show wpList _ _ _ (⟨some 17, .call _, _, _, _, _⟩ :: _) _ _; refine wpList_val rfl (op_len slAct rfl rfl (v := v) (xs := L.map actC) rfl (by exact hS.rd hv)) ?_; rw [HL.out]; go_frame)
        | (show wpList _ _ _ (⟨some 18, .binOp _ _ _ _ _, _, _, _, _⟩ :: _) _ _; refine wpList_val rfl (op_igtr rfl rfl rfl HG.out) ?_; go_frame)
        | (go_at_call 9; refine Ret.calls (alive_s hS) ?_; clear hS; rintro r w ⟨rfl, hS⟩)
        | (go_at_call 22; refine Ret.calls (grown_s hS hv HA.out) ?_; clear hS; rintro r w ⟨p, rfl, hS⟩; rw [HB.out] at hS)
        | (show wpList _ _ _ (⟨_, .load 28 (.tmp 4), _, _, _, _⟩ :: _) _ _; refine wpList_val rfl (op_load aggHash rfl rfl (SepL.getBlk (b := nid) (T := 28) ((hS.bring (by repeat (first | exact t0 | apply tS))))).cells HIL.out) ?_; go_frame)
        | (go_at_call 20; (refine Ret.calls (peers_any (B := B) (i := id) (hS.bring (by repeat (first | exact t0 | apply tS))) HOK.out HID.out) ?_); clear hS; rintro r1 w hS; rw [HP.out] at hS)
        | (show wpList _ _ _ (⟨some 25, .call _, _, _, _, _⟩ :: _) _ _; refine wpList_val rfl (op_len slInt rfl rfl (v := r1) (xs := P.map fun z => [I64 z]) rfl ((hS.bring (by repeat (first | exact t0 | apply tS))).getOwn.rd)) ?_; rw [HPL.out]; go_frame)
        | (show wpList _ _ _ (⟨some 26, .binOp _ _ _ _ _, _, _, _, _⟩ :: _) _ _; refine wpList_val rfl (op_igtr rfl rfl rfl HQ0.out) ?_; go_frame)
        )
      refine wp_region_text (by kernel_rfl) (by kernel_rfl) (by repeat (first | exact Clean.body | refine Clean.then ?_ | refine Clean.inBlock ?_)) ?_
      replace hS := hS.drew
      go_wp2_with (first
        | (show wpList _ _ _ (⟨_, .load 28 (.tmp 4), _, _, _, _⟩ :: _) _ _; refine wpList_val rfl (op_load aggHash rfl rfl (SepL.getBlk (b := nid) (T := 28) ((hS.bring (by repeat (first | exact t0 | apply tS))))).cells HIL.out) ?_; go_frame)
        | (show wpList _ _ _ (⟨some 31, .indexAddr _ _ _, _, _, _, _⟩ :: _) _ _; refine wpList_val rfl (op_indexAddrZ slInt rfl (v := r1) (xs := P.map fun z => [I64 z]) rfl rfl ((hS.bring (by repeat (first | exact t0 | apply tS))).getOwn.rd) 0 rfl HP1.out) ?_; go_frame)
        | (show wpList _ _ _ (⟨some 32, .load _ _, _, _, _, _⟩ :: _) _ _; refine wpList_val rfl (op_loadE1 oneInt rfl (v := r1) (k := 0) rfl (f := I64) (us := P) ((hS.bring (by repeat (first | exact t0 | apply tS))).getOwn.rd) HP1b.out) ?_; rw [HP0.out]; go_frame)
        | (go_at_call 23; (refine Ret.calls (lack_any (B := B) (q := q) (t := now) (hS.bring (by repeat (first | exact t0 | apply tS))) HOK.out HID.out) ?_); clear hS; rw [HLV.out, HB2.out]; rintro r w ⟨rfl, hS⟩)
        | (refine fin_mk (by kernel_rfl) ?_)
        )
      go_wp2_with fail
      refine wp_region_text (by kernel_rfl) (by kernel_rfl) (by repeat (first | exact Clean.body | refine Clean.then ?_ | refine Clean.inBlock ?_)) ?_
      replace hS := hS.drew
      go_wp2_with (first
        | (show wpList _ _ _ (⟨_, .load 28 (.tmp 4), _, _, _, _⟩ :: _) _ _; refine wpList_val rfl (op_load aggHash rfl rfl (SepL.getBlk (b := nid) (T := 28) ((hS.bring (by repeat (first | exact t0 | apply tS))))).cells HIL.out) ?_; go_frame)
        | (show wpList _ _ _ (⟨some 39, .call _, _, _, _, _⟩ :: _) _ _; refine wpList_val rfl (op_len slInt rfl rfl (v := r1) (xs := P.map fun z => [I64 z]) rfl ((hS.bring (by repeat (first | exact t0 | apply tS))).getOwn.rd)) ?_; rw [HPL.out]; go_frame)
        | (show wpList _ _ _ (⟨some 40, .binOp _ _ _ _ _, _, _, _, _⟩ :: _) _ _; refine wpList_val rfl (op_igtr rfl rfl rfl HQ1.out) ?_; go_frame)
        | (go_at_call 20; (refine Ret.calls (peers_any (B := B2) (i := id) (hS.bring (by repeat (first | exact t0 | apply tS))) HOK2.out HID.out) ?_); clear hS; rintro r2 w hS; rw [HPT.out] at hS)
        | (show wpList _ _ _ (⟨some 57, .slice _ _ _ _ _, _, _, _, _⟩ :: _) _ _; refine wpList_val rfl (op_cut slInt rfl (v := r1) (xs := P.map fun z => [I64 z]) rfl ((hS.bring (by repeat (first | exact t0 | apply tS))).getOwn.rd) (l := 1) (h := P.length) (Or.inr rfl) (Or.inl ⟨rfl, HPL.out.symm⟩) HP1b.out (Nat.le_of_eq HPL.out.symm)) ?_; go_frame)
        | (go_at_call 19; refine Ret.calls (hS.callNo (sameInts_s r2 (cutV 1 r1 1 P.length) PT PT _ ((hS.bring (by repeat (first | exact t0 | apply tS))).getOwn.rd) (by exact HCUT.out _ _ ((hS.bring (by repeat (first | exact t0 | apply tS))).getOwn.rd)))) ?_; clear hS; rw [decide_eq_true (Eq.refl PT)]; rintro r w ⟨rfl, hS⟩)
        | (refine fin_mk (by kernel_rfl) ?_)
        )
      go_wp2_with (first
        | (show wpList _ _ _ (⟨_, .load 28 (.tmp 4), _, _, _, _⟩ :: _) _ _; refine wpList_val rfl (op_load aggHash rfl rfl (SepL.getBlk (b := nid) (T := 28) ((hS.bring (by repeat (first | exact t0 | apply tS))))).cells HIL.out) ?_; go_frame)
        | (go_at_call 24; first | (have m0 := M0; clear m0; (refine Ret.calls (got_any (B := B2) (hS.bring (by repeat (first | exact t0 | apply tS))) HOK2.out HID.out) ?_); clear hS M0; rw [HG2.out, HB3.out]; rintro r w ⟨rfl, hS⟩) | ((refine Ret.calls (got_any (B := B3) (hS.bring (by repeat (first | exact t0 | apply tS))) HOK3.out HID.out) ?_); clear hS; rw [HG3.out, HB4.out]; rintro r w ⟨rfl, hS⟩))
        | (show wpList _ _ _ (⟨some 66, .call _, _, _, _, _⟩ :: _) _ _; refine wpList_val rfl (op_len slInt rfl rfl (v := r1) (xs := P.map fun z => [I64 z]) rfl ((hS.bring (by repeat (first | exact t0 | apply tS))).getOwn.rd)) ?_; rw [HPL.out]; go_frame)
        | (show wpList _ _ _ (⟨some 67, .binOp _ _ _ _ _, _, _, _, _⟩ :: _) _ _; refine wpList_val rfl (op_eqI' rfl rfl rfl HQE.out) ?_; go_frame)
        )
      go_loopw [74] (fun iv wr => ∃ (k : Nat) (C : List Ent), iv = .int .i64 k ∧ k ≤ 4 ∧ Hid (BOk C) ∧ Hid (Left (4 - k) C) ∧ SepL All W wr [hB p C]) (fun iv _ => 4 - (intOf iv).toNat)
      case atStart => exact ⟨0, _, rfl, by omega, HOKE, hide (left_four HOKE.out), hS.sel (by repeat (first | exact Sel.refl | refine Sel.take (by repeat (first | exact t0 | apply tS)) ?_ | apply Sel.drop))⟩
      case round =>
        clear hS
        obtain ⟨k, C, rfl, hk, HOKC, HLC, hS⟩ := hrel
        by_cases hlt : k < 4
        · obtain ⟨WL, hWL⟩ : ∃ WL, endW C = WL := ⟨_, rfl⟩
          obtain ⟨C2, hC2⟩ : ∃ C2, endB C = C2 := ⟨_, rfl⟩
          have HOKC2 : Hid (BOk C2) := by rw [← hC2]; exact end_ok HOKC.out
          have HLC2 : Hid (Left (4 - (k + 1)) C2) := by
            have h1 : 4 - k = 4 - (k + 1) + 1 := by omega
            have h2 := HLC.out
            rw [h1] at h2
            rw [← hC2]
            exact left_next h2
          have HFI : Hid (∀ x ∈ WL, x.1.length = 32 ∧ ∃ r, peersL x.1 C2 = x.2 :: r) := by
            rw [← hWL, ← hC2]
            exact fun x hx => end_first HOKC.out hx
          have HN : Hid ((WL.map wC).length = WL.length) := by simp [Hid]
          have hw32 : WL.length ≤ 32 := by rw [← hWL]; exact endW_len HOKC.out
          have HWL := hide hWL
          have HC2 := hide hC2
          clear hWL hC2
          go_wp2_with (first
            | (go_at_call 13; (refine Ret.calls (end_s (B := C) (hS.bring (by repeat (first | exact t0 | apply tS))) HOKC.out) ?_); clear hS; rw [HWL.out, HC2.out]; rintro av w hS)
            | (show wpList _ _ _ (⟨some 78, .call _, _, _, _, _⟩ :: _) _ _; refine wpList_val rfl (op_len slWant rfl rfl (v := av) (xs := WL.map wC) rfl ((hS.bring (by repeat (first | exact t0 | apply tS))).getOwn.rd)) ?_; rw [HN.out]; go_frame)
            )
          go_loopw [79] (fun jv wr => ∃ (j : Nat), jv = .int .i64 j ∧ j ≤ WL.length ∧ SepL All W wr [.own 55 33 av (WL.map wC), hB p C2]) (fun jv _ => WL.length - (intOf jv).toNat)
          case atStart => exact ⟨0, rfl, by omega, hS.sel (by repeat (first | exact Sel.refl | refine Sel.take (by repeat (first | exact t0 | apply tS)) ?_ | apply Sel.drop))⟩
          case round =>
            clear hS
            obtain ⟨j, rfl, hj, hS⟩ := hrel
            by_cases hjw : j < WL.length
            · have hjl : j < (WL.map wC).length := by rw [HN.out]; exact hjw
              obtain ⟨⟨xi, xp⟩, hx⟩ : ∃ x, WL[j] = x := ⟨_, rfl⟩
              obtain ⟨hx32, xr, hpe⟩ := HFI.out (xi, xp) (by rw [← hx]; exact List.getElem_mem hjw)
              have HXJ : Hid ((WL.map wC)[j] = xi.map B8 ++ [.int .i64 xp]) := by
                unfold Hid
                simp [wC, hx]
              have HX32 : Hid (xi.length = 32) := hx32
              have HXL : Hid ((xi.map B8).length = 32) := by simp [Hid, HX32.out]
              have HC0 : Hid ((xi.map B8 ++ [Value.int .i64 xp]).take 32 = xi.map B8) := by
                unfold Hid
                rw [List.take_left' HXL.out]
              have HP32 : Hid ((xi.map B8 ++ [Value.int .i64 xp])[32]? = some (.int .i64 xp)) := by
                unfold Hid
                rw [List.getElem?_append_right (by rw [HXL.out]; omega), HXL.out]
                rfl
              have HPE : Hid (peersL xi C2 = xp :: xr) := hpe
              obtain ⟨n, hn⟩ : ∃ n, ((xp :: xr).map fun z => [I64 z]).length = n := ⟨_, rfl⟩
              have HRL := hide hn
              have HR0 : Hid (((n : Int) == 0) = false) := eqF (by rw [List.length_map, List.length_cons] at hn; omega)
              have HR1 : Hid (0 < ((xp :: xr).map fun z => [I64 z]).length) := by unfold Hid; rw [List.length_map, List.length_cons]; omega
              have HR2 : Hid (0 < (xp :: xr).length) := by unfold Hid; rw [List.length_cons]; omega
              have HR3 : Hid ((xp :: xr)[0]'HR2.out = xp) := rfl
              have HR5 : Hid ((xp != xp) = false) := by simp [Hid]
              clear hx hx32 hpe hn
              go_wp2_with (first
                | (show wpList _ _ _ (⟨some 81, .indexAddr _ _ _, _, _, _, _⟩ :: _) _ _; refine wpList_val rfl (op_indexAddr slWant rfl (v := av) (xs := WL.map wC) rfl (k := j) rfl ((hS.bring (by repeat (first | exact t0 | apply tS))).getOwn.rd) hjl) ?_; go_frame)
                | (show wpList _ _ _ (⟨some 82, .load _ _, _, _, _, _⟩ :: _) _ _; refine wpList_val rfl (op_loadE aggWant rfl (v := av) (xs := WL.map wC) (k := j) rfl ((hS.bring (by repeat (first | exact t0 | apply tS))).getOwn.rd) hjl) ?_; rw [HXJ.out]; go_frame)
                | (show wpList _ _ _ (⟨some 12, .alloc _, _, _, _, _⟩ :: _) _ _; refine wpS_alloc hS rfl rfl Try.zeroValue55 (zs := List.replicate 32 (.int .u8 0) ++ [Value.int .i64 0]) rfl ?_; clear hS; intro nb w hS; go_frame)
                | (show wpList _ _ _ (⟨_, .store 55 (.tmp 12) _, _, _, _, _⟩ :: _) _ _; (refine wpS_storeAll (b := nb) aggWant (hS.bring (by repeat (first | exact t0 | apply tS))) rfl rfl rfl (vs := xi.map B8 ++ [.int .i64 xp]) rfl (w33 HXL.out _) (flat_want _ _) (by simp) ?_); clear hS; intro w hS; go_frame)
                | (show wpList _ _ _ (⟨some 85, .load _ _, _, _, _, _⟩ :: _) _ _; refine wpList_val rfl (op_load aggHash rfl rfl ((SepL.getBlk (b := nb) (T := 55) ((hS.bring (by repeat (first | exact t0 | apply tS))))).cells.sub0 32 HC0.out) HXL.out) ?_; go_frame)
                | (go_at_call 20; (refine Ret.calls (peers_any (B := C2) (i := xi) (hS.bring (by repeat (first | exact t0 | apply tS))) HOKC2.out HX32.out) ?_); clear hS; rintro pv w hS; rw [HPE.out] at hS)
                )
              refine wp_region_text (by kernel_rfl) (by kernel_rfl) (by repeat (first | exact Clean.body | refine Clean.then ?_ | refine Clean.inBlock ?_)) ?_
              replace hS := hS.drew
              go_wp2_with (first
                | (show wpList _ _ _ (⟨some 88, .call _, _, _, _, _⟩ :: _) _ _; refine wpList_val rfl (op_len slInt rfl rfl (v := pv) (xs := (xp :: xr).map fun z => [I64 z]) rfl ((hS.bring (by repeat (first | exact t0 | apply tS))).getOwn.rd)) ?_; rw [HRL.out]; go_frame)
                | (show wpList _ _ _ (⟨some 89, .binOp _ _ _ _ _, _, _, _, _⟩ :: _) _ _; refine wpList_val rfl (op_eqI' rfl rfl rfl HR0.out) ?_; go_frame)
                | (show wpList _ _ _ (⟨some 92, .indexAddr _ _ _, _, _, _, _⟩ :: _) _ _; refine wpList_val rfl (op_indexAddrZ slInt rfl (v := pv) (xs := (xp :: xr).map fun z => [I64 z]) rfl rfl ((hS.bring (by repeat (first | exact t0 | apply tS))).getOwn.rd) 0 rfl HR1.out) ?_; go_frame)
                | (show wpList _ _ _ (⟨some 93, .load _ _, _, _, _, _⟩ :: _) _ _; refine wpList_val rfl (op_loadE1 oneInt rfl (v := pv) (k := 0) rfl (f := I64) (us := xp :: xr) ((hS.bring (by repeat (first | exact t0 | apply tS))).getOwn.rd) HR2.out) ?_; rw [HR3.out]; go_frame)
                | (show wpList _ _ _ (⟨some 95, .load _ _, _, _, _, _⟩ :: _) _ _; refine wpList_val rfl (op_load1S (b := nb) (T := 55) oneInt ((hS.bring (by repeat (first | exact t0 | apply tS)))) rfl rfl HP32.out) ?_; go_frame)
                | (show wpList _ _ _ (⟨some 96, .binOp _ _ _ _ _, _, _, _, _⟩ :: _) _ _; refine wpList_val rfl (op_ineI rfl rfl rfl HR5.out) ?_; go_frame)
                | (refine fin_mk (by kernel_rfl) ?_)
                )
              go_wp2_with fail
              go_roundw
              case rel => exact ⟨j + 1, by go_num, by omega, hS.sel (by repeat (first | exact Sel.refl | refine Sel.take (by repeat (first | exact t0 | apply tS)) ?_ | apply Sel.drop))⟩
              case measure => simp [intOf]; omega
            · go_wp2_with fail
              go_roundw
              case rel => exact ⟨k + 1, _, by go_num, by omega, HOKC2, HLC2, hS.sel (by repeat (first | exact Sel.refl | refine Sel.take (by repeat (first | exact t0 | apply tS)) ?_ | apply Sel.drop))⟩
              case measure => simp [intOf]; omega
        · have hk4 : k = 4 := by omega
          subst hk4
          have h0 := left_none HLC.out
          subst h0
          have HA0 : Hid (((allB []).map wC).length = 0) := rfl
          go_wp2_with (first
            | (go_at_call 12; (refine Ret.calls (all_s (B := []) (hS.bring (by repeat (first | exact t0 | apply tS))) HOKC.out) ?_); clear hS; rintro av w hS)
            | (show wpList _ _ _ (⟨some 102, .call _, _, _, _, _⟩ :: _) _ _; refine wpList_val rfl (op_len slWant rfl rfl (v := av) (xs := (allB []).map wC) rfl ((hS.bring (by repeat (first | exact t0 | apply tS))).getOwn.rd)) ?_; rw [HA0.out]; go_frame)
            )
          go_ret
          exact ⟨rfl, hS.chg⟩
    · have h1 : 1 < P.length := of_decide_eq_true hbo
      have HQE : Hid (((P.length : Int) == 1) = false) := eqF (by omega)
      have HP2b : Hid (1 < P.length) := h1
      have HP2 : Hid (1 < (P.map fun z => [I64 z]).length) := by unfold Hid; rw [HPL.out]; exact h1
      have HP01 : Hid (P[1]'HP2b.out = nx) := by
        unfold Hid
        obtain ⟨z, r, hr⟩ : ∃ z r, e.waits = z :: r := by
          cases hw : e.waits with
          | nil => rw [hw] at hpl; simp at hpl; omega
          | cons z r => exact ⟨z, r, rfl⟩
        rw [hr] at e1 hnx
        simp only [e1, List.getElem_cons_succ, List.getElem_cons_zero]
        exact hnx
      clear h200 ha hid hn hB0 hok hP hin e1 e2 e3 e4 hq hnx hB2 hPT hB3 hok2 hok3 hno hpl hpt hbo h1
      go_enter Try.func7, Try.ntmps7
      go_wp2_with (first
        | (show wpList _ _ _ (⟨_, .box 28 _, _, _, _, _⟩ :: _) _ _; refine wpS_boxA (cs := id.map B8) hS rfl rfl rfl ?_; clear hS; intro nid w hS; go_frame)
        | (show wpList _ _ _ (⟨some 17, .call _, _, _, _, _⟩ :: _) _ _; refine wpList_val rfl (op_len slAct rfl rfl (v := v) (xs := L.map actC) rfl (by exact hS.rd hv)) ?_; rw [HL.out]; go_frame)
        | (show wpList _ _ _ (⟨some 18, .binOp _ _ _ _ _, _, _, _, _⟩ :: _) _ _; refine wpList_val rfl (op_igtr rfl rfl rfl HG.out) ?_; go_frame)
        | (go_at_call 9; refine Ret.calls (alive_s hS) ?_; clear hS; rintro r w ⟨rfl, hS⟩)
        | (go_at_call 22; refine Ret.calls (grown_s hS hv HA.out) ?_; clear hS; rintro r w ⟨p, rfl, hS⟩; rw [HB.out] at hS)
        | (show wpList _ _ _ (⟨_, .load 28 (.tmp 4), _, _, _, _⟩ :: _) _ _; refine wpList_val rfl (op_load aggHash rfl rfl (SepL.getBlk (b := nid) (T := 28) ((hS.bring (by repeat (first | exact t0 | apply tS))))).cells HIL.out) ?_; go_frame)
        | (go_at_call 20; (refine Ret.calls (peers_any (B := B) (i := id) (hS.bring (by repeat (first | exact t0 | apply tS))) HOK.out HID.out) ?_); clear hS; rintro r1 w hS; rw [HP.out] at hS)
        | (show wpList _ _ _ (⟨some 25, .call _, _, _, _, _⟩ :: _) _ _; refine wpList_val rfl (op_len slInt rfl rfl (v := r1) (xs := P.map fun z => [I64 z]) rfl ((hS.bring (by repeat (first | exact t0 | apply tS))).getOwn.rd)) ?_; rw [HPL.out]; go_frame)
        | (show wpList _ _ _ (⟨some 26, .binOp _ _ _ _ _, _, _, _, _⟩ :: _) _ _; refine wpList_val rfl (op_igtr rfl rfl rfl HQ0.out) ?_; go_frame)
        )
      refine wp_region_text (by kernel_rfl) (by kernel_rfl) (by repeat (first | exact Clean.body | refine Clean.then ?_ | refine Clean.inBlock ?_)) ?_
      replace hS := hS.drew
      go_wp2_with (first
        | (show wpList _ _ _ (⟨_, .load 28 (.tmp 4), _, _, _, _⟩ :: _) _ _; refine wpList_val rfl (op_load aggHash rfl rfl (SepL.getBlk (b := nid) (T := 28) ((hS.bring (by repeat (first | exact t0 | apply tS))))).cells HIL.out) ?_; go_frame)
        | (show wpList _ _ _ (⟨some 31, .indexAddr _ _ _, _, _, _, _⟩ :: _) _ _; refine wpList_val rfl (op_indexAddrZ slInt rfl (v := r1) (xs := P.map fun z => [I64 z]) rfl rfl ((hS.bring (by repeat (first | exact t0 | apply tS))).getOwn.rd) 0 rfl HP1.out) ?_; go_frame)
        | (show wpList _ _ _ (⟨some 32, .load _ _, _, _, _, _⟩ :: _) _ _; refine wpList_val rfl (op_loadE1 oneInt rfl (v := r1) (k := 0) rfl (f := I64) (us := P) ((hS.bring (by repeat (first | exact t0 | apply tS))).getOwn.rd) HP1b.out) ?_; rw [HP0.out]; go_frame)
        | (go_at_call 23; (refine Ret.calls (lack_any (B := B) (q := q) (t := now) (hS.bring (by repeat (first | exact t0 | apply tS))) HOK.out HID.out) ?_); clear hS; rw [HLV.out, HB2.out]; rintro r w ⟨rfl, hS⟩)
        | (refine fin_mk (by kernel_rfl) ?_)
        )
      go_wp2_with fail
      refine wp_region_text (by kernel_rfl) (by kernel_rfl) (by repeat (first | exact Clean.body | refine Clean.then ?_ | refine Clean.inBlock ?_)) ?_
      replace hS := hS.drew
      go_wp2_with (first
        | (show wpList _ _ _ (⟨_, .load 28 (.tmp 4), _, _, _, _⟩ :: _) _ _; refine wpList_val rfl (op_load aggHash rfl rfl (SepL.getBlk (b := nid) (T := 28) ((hS.bring (by repeat (first | exact t0 | apply tS))))).cells HIL.out) ?_; go_frame)
        | (show wpList _ _ _ (⟨some 39, .call _, _, _, _, _⟩ :: _) _ _; refine wpList_val rfl (op_len slInt rfl rfl (v := r1) (xs := P.map fun z => [I64 z]) rfl ((hS.bring (by repeat (first | exact t0 | apply tS))).getOwn.rd)) ?_; rw [HPL.out]; go_frame)
        | (show wpList _ _ _ (⟨some 40, .binOp _ _ _ _ _, _, _, _, _⟩ :: _) _ _; refine wpList_val rfl (op_igtr rfl rfl rfl HQ1.out) ?_; go_frame)
        | (show wpList _ _ _ (⟨some 47, .indexAddr _ _ _, _, _, _, _⟩ :: _) _ _; refine wpList_val rfl (op_indexAddrZ slInt rfl (v := r1) (xs := P.map fun z => [I64 z]) rfl rfl ((hS.bring (by repeat (first | exact t0 | apply tS))).getOwn.rd) 1 rfl HP2.out) ?_; go_frame)
        | (show wpList _ _ _ (⟨some 48, .load _ _, _, _, _, _⟩ :: _) _ _; refine wpList_val rfl (op_loadE1 oneInt rfl (v := r1) (k := 1) rfl (f := I64) (us := P) ((hS.bring (by repeat (first | exact t0 | apply tS))).getOwn.rd) HP2b.out) ?_; rw [HP01.out]; go_frame)
        | (show wpList _ _ _ (⟨some 49, .binOp _ _ _ _ _, _, _, _, _⟩ :: _) _ _; refine wpList_val rfl (op_ineI rfl rfl rfl HNX.out) ?_; go_frame)
        | (go_at_call 20; (refine Ret.calls (peers_any (B := B2) (i := id) (hS.bring (by repeat (first | exact t0 | apply tS))) HOK2.out HID.out) ?_); clear hS; rintro r2 w hS; rw [HPT.out] at hS)
        | (show wpList _ _ _ (⟨some 57, .slice _ _ _ _ _, _, _, _, _⟩ :: _) _ _; refine wpList_val rfl (op_cut slInt rfl (v := r1) (xs := P.map fun z => [I64 z]) rfl ((hS.bring (by repeat (first | exact t0 | apply tS))).getOwn.rd) (l := 1) (h := P.length) (Or.inr rfl) (Or.inl ⟨rfl, HPL.out.symm⟩) HP1b.out (Nat.le_of_eq HPL.out.symm)) ?_; go_frame)
        | (go_at_call 19; refine Ret.calls (hS.callNo (sameInts_s r2 (cutV 1 r1 1 P.length) PT PT _ ((hS.bring (by repeat (first | exact t0 | apply tS))).getOwn.rd) (by exact HCUT.out _ _ ((hS.bring (by repeat (first | exact t0 | apply tS))).getOwn.rd)))) ?_; clear hS; rw [decide_eq_true (Eq.refl PT)]; rintro r w ⟨rfl, hS⟩)
        | (refine fin_mk (by kernel_rfl) ?_)
        )
      go_wp2_with (first
        | (show wpList _ _ _ (⟨_, .load 28 (.tmp 4), _, _, _, _⟩ :: _) _ _; refine wpList_val rfl (op_load aggHash rfl rfl (SepL.getBlk (b := nid) (T := 28) ((hS.bring (by repeat (first | exact t0 | apply tS))))).cells HIL.out) ?_; go_frame)
        | (go_at_call 24; first | (have m0 := M0; clear m0; (refine Ret.calls (got_any (B := B2) (hS.bring (by repeat (first | exact t0 | apply tS))) HOK2.out HID.out) ?_); clear hS M0; rw [HG2.out, HB3.out]; rintro r w ⟨rfl, hS⟩) | ((refine Ret.calls (got_any (B := B3) (hS.bring (by repeat (first | exact t0 | apply tS))) HOK3.out HID.out) ?_); clear hS; rw [HG3.out, HB4.out]; rintro r w ⟨rfl, hS⟩))
        | (show wpList _ _ _ (⟨some 66, .call _, _, _, _, _⟩ :: _) _ _; refine wpList_val rfl (op_len slInt rfl rfl (v := r1) (xs := P.map fun z => [I64 z]) rfl ((hS.bring (by repeat (first | exact t0 | apply tS))).getOwn.rd)) ?_; rw [HPL.out]; go_frame)
        | (show wpList _ _ _ (⟨some 67, .binOp _ _ _ _ _, _, _, _, _⟩ :: _) _ _; refine wpList_val rfl (op_eqI' rfl rfl rfl HQE.out) ?_; go_frame)
        )
      go_loopw [74] (fun iv wr => ∃ (k : Nat) (C : List Ent), iv = .int .i64 k ∧ k ≤ 4 ∧ Hid (BOk C) ∧ Hid (Left (4 - k) C) ∧ SepL All W wr [hB p C]) (fun iv _ => 4 - (intOf iv).toNat)
      case atStart => exact ⟨0, _, rfl, by omega, HOKE, hide (left_four HOKE.out), hS.sel (by repeat (first | exact Sel.refl | refine Sel.take (by repeat (first | exact t0 | apply tS)) ?_ | apply Sel.drop))⟩
      case round =>
        clear hS
        obtain ⟨k, C, rfl, hk, HOKC, HLC, hS⟩ := hrel
        by_cases hlt : k < 4
        · obtain ⟨WL, hWL⟩ : ∃ WL, endW C = WL := ⟨_, rfl⟩
          obtain ⟨C2, hC2⟩ : ∃ C2, endB C = C2 := ⟨_, rfl⟩
          have HOKC2 : Hid (BOk C2) := by rw [← hC2]; exact end_ok HOKC.out
          have HLC2 : Hid (Left (4 - (k + 1)) C2) := by
            have h1 : 4 - k = 4 - (k + 1) + 1 := by omega
            have h2 := HLC.out
            rw [h1] at h2
            rw [← hC2]
            exact left_next h2
          have HFI : Hid (∀ x ∈ WL, x.1.length = 32 ∧ ∃ r, peersL x.1 C2 = x.2 :: r) := by
            rw [← hWL, ← hC2]
            exact fun x hx => end_first HOKC.out hx
          have HN : Hid ((WL.map wC).length = WL.length) := by simp [Hid]
          have hw32 : WL.length ≤ 32 := by rw [← hWL]; exact endW_len HOKC.out
          have HWL := hide hWL
          have HC2 := hide hC2
          clear hWL hC2
          go_wp2_with (first
            | (go_at_call 13; (refine Ret.calls (end_s (B := C) (hS.bring (by repeat (first | exact t0 | apply tS))) HOKC.out) ?_); clear hS; rw [HWL.out, HC2.out]; rintro av w hS)
            | (show wpList _ _ _ (⟨some 78, .call _, _, _, _, _⟩ :: _) _ _; refine wpList_val rfl (op_len slWant rfl rfl (v := av) (xs := WL.map wC) rfl ((hS.bring (by repeat (first | exact t0 | apply tS))).getOwn.rd)) ?_; rw [HN.out]; go_frame)
            )
          go_loopw [79] (fun jv wr => ∃ (j : Nat), jv = .int .i64 j ∧ j ≤ WL.length ∧ SepL All W wr [.own 55 33 av (WL.map wC), hB p C2]) (fun jv _ => WL.length - (intOf jv).toNat)
          case atStart => exact ⟨0, rfl, by omega, hS.sel (by repeat (first | exact Sel.refl | refine Sel.take (by repeat (first | exact t0 | apply tS)) ?_ | apply Sel.drop))⟩
          case round =>
            clear hS
            obtain ⟨j, rfl, hj, hS⟩ := hrel
            by_cases hjw : j < WL.length
            · have hjl : j < (WL.map wC).length := by rw [HN.out]; exact hjw
              obtain ⟨⟨xi, xp⟩, hx⟩ : ∃ x, WL[j] = x := ⟨_, rfl⟩
              obtain ⟨hx32, xr, hpe⟩ := HFI.out (xi, xp) (by rw [← hx]; exact List.getElem_mem hjw)
              have HXJ : Hid ((WL.map wC)[j] = xi.map B8 ++ [.int .i64 xp]) := by
                unfold Hid
                simp [wC, hx]
              have HX32 : Hid (xi.length = 32) := hx32
              have HXL : Hid ((xi.map B8).length = 32) := by simp [Hid, HX32.out]
              have HC0 : Hid ((xi.map B8 ++ [Value.int .i64 xp]).take 32 = xi.map B8) := by
                unfold Hid
                rw [List.take_left' HXL.out]
              have HP32 : Hid ((xi.map B8 ++ [Value.int .i64 xp])[32]? = some (.int .i64 xp)) := by
                unfold Hid
                rw [List.getElem?_append_right (by rw [HXL.out]; omega), HXL.out]
                rfl
              have HPE : Hid (peersL xi C2 = xp :: xr) := hpe
              obtain ⟨n, hn⟩ : ∃ n, ((xp :: xr).map fun z => [I64 z]).length = n := ⟨_, rfl⟩
              have HRL := hide hn
              have HR0 : Hid (((n : Int) == 0) = false) := eqF (by rw [List.length_map, List.length_cons] at hn; omega)
              have HR1 : Hid (0 < ((xp :: xr).map fun z => [I64 z]).length) := by unfold Hid; rw [List.length_map, List.length_cons]; omega
              have HR2 : Hid (0 < (xp :: xr).length) := by unfold Hid; rw [List.length_cons]; omega
              have HR3 : Hid ((xp :: xr)[0]'HR2.out = xp) := rfl
              have HR5 : Hid ((xp != xp) = false) := by simp [Hid]
              clear hx hx32 hpe hn
              go_wp2_with (first
                | (show wpList _ _ _ (⟨some 81, .indexAddr _ _ _, _, _, _, _⟩ :: _) _ _; refine wpList_val rfl (op_indexAddr slWant rfl (v := av) (xs := WL.map wC) rfl (k := j) rfl ((hS.bring (by repeat (first | exact t0 | apply tS))).getOwn.rd) hjl) ?_; go_frame)
                | (show wpList _ _ _ (⟨some 82, .load _ _, _, _, _, _⟩ :: _) _ _; refine wpList_val rfl (op_loadE aggWant rfl (v := av) (xs := WL.map wC) (k := j) rfl ((hS.bring (by repeat (first | exact t0 | apply tS))).getOwn.rd) hjl) ?_; rw [HXJ.out]; go_frame)
                | (show wpList _ _ _ (⟨some 12, .alloc _, _, _, _, _⟩ :: _) _ _; refine wpS_alloc hS rfl rfl Try.zeroValue55 (zs := List.replicate 32 (.int .u8 0) ++ [Value.int .i64 0]) rfl ?_; clear hS; intro nb w hS; go_frame)
                | (show wpList _ _ _ (⟨_, .store 55 (.tmp 12) _, _, _, _, _⟩ :: _) _ _; (refine wpS_storeAll (b := nb) aggWant (hS.bring (by repeat (first | exact t0 | apply tS))) rfl rfl rfl (vs := xi.map B8 ++ [.int .i64 xp]) rfl (w33 HXL.out _) (flat_want _ _) (by simp) ?_); clear hS; intro w hS; go_frame)
                | (show wpList _ _ _ (⟨some 85, .load _ _, _, _, _, _⟩ :: _) _ _; refine wpList_val rfl (op_load aggHash rfl rfl ((SepL.getBlk (b := nb) (T := 55) ((hS.bring (by repeat (first | exact t0 | apply tS))))).cells.sub0 32 HC0.out) HXL.out) ?_; go_frame)
                | (go_at_call 20; (refine Ret.calls (peers_any (B := C2) (i := xi) (hS.bring (by repeat (first | exact t0 | apply tS))) HOKC2.out HX32.out) ?_); clear hS; rintro pv w hS; rw [HPE.out] at hS)
                )
              refine wp_region_text (by kernel_rfl) (by kernel_rfl) (by repeat (first | exact Clean.body | refine Clean.then ?_ | refine Clean.inBlock ?_)) ?_
              replace hS := hS.drew
              go_wp2_with (first
                | (show wpList _ _ _ (⟨some 88, .call _, _, _, _, _⟩ :: _) _ _; refine wpList_val rfl (op_len slInt rfl rfl (v := pv) (xs := (xp :: xr).map fun z => [I64 z]) rfl ((hS.bring (by repeat (first | exact t0 | apply tS))).getOwn.rd)) ?_; rw [HRL.out]; go_frame)
                | (show wpList _ _ _ (⟨some 89, .binOp _ _ _ _ _, _, _, _, _⟩ :: _) _ _; refine wpList_val rfl (op_eqI' rfl rfl rfl HR0.out) ?_; go_frame)
                | (show wpList _ _ _ (⟨some 92, .indexAddr _ _ _, _, _, _, _⟩ :: _) _ _; refine wpList_val rfl (op_indexAddrZ slInt rfl (v := pv) (xs := (xp :: xr).map fun z => [I64 z]) rfl rfl ((hS.bring (by repeat (first | exact t0 | apply tS))).getOwn.rd) 0 rfl HR1.out) ?_; go_frame)
                | (show wpList _ _ _ (⟨some 93, .load _ _, _, _, _, _⟩ :: _) _ _; refine wpList_val rfl (op_loadE1 oneInt rfl (v := pv) (k := 0) rfl (f := I64) (us := xp :: xr) ((hS.bring (by repeat (first | exact t0 | apply tS))).getOwn.rd) HR2.out) ?_; rw [HR3.out]; go_frame)
                | (show wpList _ _ _ (⟨some 95, .load _ _, _, _, _, _⟩ :: _) _ _; refine wpList_val rfl (op_load1S (b := nb) (T := 55) oneInt ((hS.bring (by repeat (first | exact t0 | apply tS)))) rfl rfl HP32.out) ?_; go_frame)
                | (show wpList _ _ _ (⟨some 96, .binOp _ _ _ _ _, _, _, _, _⟩ :: _) _ _; refine wpList_val rfl (op_ineI rfl rfl rfl HR5.out) ?_; go_frame)
                | (refine fin_mk (by kernel_rfl) ?_)
                )
              go_wp2_with fail
              go_roundw
              case rel => exact ⟨j + 1, by go_num, by omega, hS.sel (by repeat (first | exact Sel.refl | refine Sel.take (by repeat (first | exact t0 | apply tS)) ?_ | apply Sel.drop))⟩
              case measure => simp [intOf]; omega
            · go_wp2_with fail
              go_roundw
              case rel => exact ⟨k + 1, _, by go_num, by omega, HOKC2, HLC2, hS.sel (by repeat (first | exact Sel.refl | refine Sel.take (by repeat (first | exact t0 | apply tS)) ?_ | apply Sel.drop))⟩
              case measure => simp [intOf]; omega
        · have hk4 : k = 4 := by omega
          subst hk4
          have h0 := left_none HLC.out
          subst h0
          have HA0 : Hid (((allB []).map wC).length = 0) := rfl
          go_wp2_with (first
            | (go_at_call 12; (refine Ret.calls (all_s (B := []) (hS.bring (by repeat (first | exact t0 | apply tS))) HOKC.out) ?_); clear hS; rintro av w hS)
            | (show wpList _ _ _ (⟨some 102, .call _, _, _, _, _⟩ :: _) _ _; refine wpList_val rfl (op_len slWant rfl rfl (v := av) (xs := (allB []).map wC) rfl ((hS.bring (by repeat (first | exact t0 | apply tS))).getOwn.rd)) ?_; rw [HA0.out]; go_frame)
            )
          go_ret
          exact ⟨rfl, hS.chg⟩
  · have h0 := peersL_out hin
    rw [hP] at h0
    have HQ0 : Hid (decide ((0 : Int) < (P.length : Int)) = false) := decF (by rw [h0]; simp)
    have HOKE := hide hok
    clear h200 ha hid hn hB0 hok hP hin h0
    go_enter Try.func7, Try.ntmps7
    go_wp2_with (first
      | (show wpList _ _ _ (⟨_, .box 28 _, _, _, _, _⟩ :: _) _ _; refine wpS_boxA (cs := id.map B8) hS rfl rfl rfl ?_; clear hS; intro nid w hS; go_frame)
      | (show wpList _ _ _ (⟨some 17, .call _, _, _, _, _⟩ :: _) _ _; refine wpList_val rfl (op_len slAct rfl rfl (v := v) (xs := L.map actC) rfl (by exact hS.rd hv)) ?_; rw [HL.out]; go_frame)
      | (show wpList _ _ _ (⟨some 18, .binOp _ _ _ _ _, _, _, _, _⟩ :: _) _ _; refine wpList_val rfl (op_igtr rfl rfl rfl HG.out) ?_; go_frame)
      | (go_at_call 9; refine Ret.calls (alive_s hS) ?_; clear hS; rintro r w ⟨rfl, hS⟩)
      | (go_at_call 22; refine Ret.calls (grown_s hS hv HA.out) ?_; clear hS; rintro r w ⟨p, rfl, hS⟩; rw [HB.out] at hS)
      | (show wpList _ _ _ (⟨_, .load 28 (.tmp 4), _, _, _, _⟩ :: _) _ _; refine wpList_val rfl (op_load aggHash rfl rfl (SepL.getBlk (b := nid) (T := 28) ((hS.bring (by repeat (first | exact t0 | apply tS))))).cells HIL.out) ?_; go_frame)
      | (go_at_call 20; (refine Ret.calls (peers_any (B := B) (i := id) (hS.bring (by repeat (first | exact t0 | apply tS))) HOK.out HID.out) ?_); clear hS; rintro r1 w hS; rw [HP.out] at hS)
      | (show wpList _ _ _ (⟨some 25, .call _, _, _, _, _⟩ :: _) _ _; refine wpList_val rfl (op_len slInt rfl rfl (v := r1) (xs := P.map fun z => [I64 z]) rfl ((hS.bring (by repeat (first | exact t0 | apply tS))).getOwn.rd)) ?_; rw [HPL.out]; go_frame)
      | (show wpList _ _ _ (⟨some 26, .binOp _ _ _ _ _, _, _, _, _⟩ :: _) _ _; refine wpList_val rfl (op_igtr rfl rfl rfl HQ0.out) ?_; go_frame)
      )
    go_loopw [74] (fun iv wr => ∃ (k : Nat) (C : List Ent), iv = .int .i64 k ∧ k ≤ 4 ∧ Hid (BOk C) ∧ Hid (Left (4 - k) C) ∧ SepL All W wr [hB p C]) (fun iv _ => 4 - (intOf iv).toNat)
    case atStart => exact ⟨0, _, rfl, by omega, HOKE, hide (left_four HOKE.out), hS.sel (by repeat (first | exact Sel.refl | refine Sel.take (by repeat (first | exact t0 | apply tS)) ?_ | apply Sel.drop))⟩
    case round =>
      clear hS
      obtain ⟨k, C, rfl, hk, HOKC, HLC, hS⟩ := hrel
      by_cases hlt : k < 4
      · obtain ⟨WL, hWL⟩ : ∃ WL, endW C = WL := ⟨_, rfl⟩
        obtain ⟨C2, hC2⟩ : ∃ C2, endB C = C2 := ⟨_, rfl⟩
        have HOKC2 : Hid (BOk C2) := by rw [← hC2]; exact end_ok HOKC.out
        have HLC2 : Hid (Left (4 - (k + 1)) C2) := by
          have h1 : 4 - k = 4 - (k + 1) + 1 := by omega
          have h2 := HLC.out
          rw [h1] at h2
          rw [← hC2]
          exact left_next h2
        have HFI : Hid (∀ x ∈ WL, x.1.length = 32 ∧ ∃ r, peersL x.1 C2 = x.2 :: r) := by
          rw [← hWL, ← hC2]
          exact fun x hx => end_first HOKC.out hx
        have HN : Hid ((WL.map wC).length = WL.length) := by simp [Hid]
        have hw32 : WL.length ≤ 32 := by rw [← hWL]; exact endW_len HOKC.out
        have HWL := hide hWL
        have HC2 := hide hC2
        clear hWL hC2
        go_wp2_with (first
          | (go_at_call 13; (refine Ret.calls (end_s (B := C) (hS.bring (by repeat (first | exact t0 | apply tS))) HOKC.out) ?_); clear hS; rw [HWL.out, HC2.out]; rintro av w hS)
          | (show wpList _ _ _ (⟨some 78, .call _, _, _, _, _⟩ :: _) _ _; refine wpList_val rfl (op_len slWant rfl rfl (v := av) (xs := WL.map wC) rfl ((hS.bring (by repeat (first | exact t0 | apply tS))).getOwn.rd)) ?_; rw [HN.out]; go_frame)
          )
        go_loopw [79] (fun jv wr => ∃ (j : Nat), jv = .int .i64 j ∧ j ≤ WL.length ∧ SepL All W wr [.own 55 33 av (WL.map wC), hB p C2]) (fun jv _ => WL.length - (intOf jv).toNat)
        case atStart => exact ⟨0, rfl, by omega, hS.sel (by repeat (first | exact Sel.refl | refine Sel.take (by repeat (first | exact t0 | apply tS)) ?_ | apply Sel.drop))⟩
        case round =>
          clear hS
          obtain ⟨j, rfl, hj, hS⟩ := hrel
          by_cases hjw : j < WL.length
          · have hjl : j < (WL.map wC).length := by rw [HN.out]; exact hjw
            obtain ⟨⟨xi, xp⟩, hx⟩ : ∃ x, WL[j] = x := ⟨_, rfl⟩
            obtain ⟨hx32, xr, hpe⟩ := HFI.out (xi, xp) (by rw [← hx]; exact List.getElem_mem hjw)
            have HXJ : Hid ((WL.map wC)[j] = xi.map B8 ++ [.int .i64 xp]) := by
              unfold Hid
              simp [wC, hx]
            have HX32 : Hid (xi.length = 32) := hx32
            have HXL : Hid ((xi.map B8).length = 32) := by simp [Hid, HX32.out]
            have HC0 : Hid ((xi.map B8 ++ [Value.int .i64 xp]).take 32 = xi.map B8) := by
              unfold Hid
              rw [List.take_left' HXL.out]
            have HP32 : Hid ((xi.map B8 ++ [Value.int .i64 xp])[32]? = some (.int .i64 xp)) := by
              unfold Hid
              rw [List.getElem?_append_right (by rw [HXL.out]; omega), HXL.out]
              rfl
            have HPE : Hid (peersL xi C2 = xp :: xr) := hpe
            obtain ⟨n, hn⟩ : ∃ n, ((xp :: xr).map fun z => [I64 z]).length = n := ⟨_, rfl⟩
            have HRL := hide hn
            have HR0 : Hid (((n : Int) == 0) = false) := eqF (by rw [List.length_map, List.length_cons] at hn; omega)
            have HR1 : Hid (0 < ((xp :: xr).map fun z => [I64 z]).length) := by unfold Hid; rw [List.length_map, List.length_cons]; omega
            have HR2 : Hid (0 < (xp :: xr).length) := by unfold Hid; rw [List.length_cons]; omega
            have HR3 : Hid ((xp :: xr)[0]'HR2.out = xp) := rfl
            have HR5 : Hid ((xp != xp) = false) := by simp [Hid]
            clear hx hx32 hpe hn
            go_wp2_with (first
              | (show wpList _ _ _ (⟨some 81, .indexAddr _ _ _, _, _, _, _⟩ :: _) _ _; refine wpList_val rfl (op_indexAddr slWant rfl (v := av) (xs := WL.map wC) rfl (k := j) rfl ((hS.bring (by repeat (first | exact t0 | apply tS))).getOwn.rd) hjl) ?_; go_frame)
              | (show wpList _ _ _ (⟨some 82, .load _ _, _, _, _, _⟩ :: _) _ _; refine wpList_val rfl (op_loadE aggWant rfl (v := av) (xs := WL.map wC) (k := j) rfl ((hS.bring (by repeat (first | exact t0 | apply tS))).getOwn.rd) hjl) ?_; rw [HXJ.out]; go_frame)
              | (show wpList _ _ _ (⟨some 12, .alloc _, _, _, _, _⟩ :: _) _ _; refine wpS_alloc hS rfl rfl Try.zeroValue55 (zs := List.replicate 32 (.int .u8 0) ++ [Value.int .i64 0]) rfl ?_; clear hS; intro nb w hS; go_frame)
              | (show wpList _ _ _ (⟨_, .store 55 (.tmp 12) _, _, _, _, _⟩ :: _) _ _; (refine wpS_storeAll (b := nb) aggWant (hS.bring (by repeat (first | exact t0 | apply tS))) rfl rfl rfl (vs := xi.map B8 ++ [.int .i64 xp]) rfl (w33 HXL.out _) (flat_want _ _) (by simp) ?_); clear hS; intro w hS; go_frame)
              | (show wpList _ _ _ (⟨some 85, .load _ _, _, _, _, _⟩ :: _) _ _; refine wpList_val rfl (op_load aggHash rfl rfl ((SepL.getBlk (b := nb) (T := 55) ((hS.bring (by repeat (first | exact t0 | apply tS))))).cells.sub0 32 HC0.out) HXL.out) ?_; go_frame)
              | (go_at_call 20; (refine Ret.calls (peers_any (B := C2) (i := xi) (hS.bring (by repeat (first | exact t0 | apply tS))) HOKC2.out HX32.out) ?_); clear hS; rintro pv w hS; rw [HPE.out] at hS)
              )
            refine wp_region_text (by kernel_rfl) (by kernel_rfl) (by repeat (first | exact Clean.body | refine Clean.then ?_ | refine Clean.inBlock ?_)) ?_
            replace hS := hS.drew
            go_wp2_with (first
              | (show wpList _ _ _ (⟨some 88, .call _, _, _, _, _⟩ :: _) _ _; refine wpList_val rfl (op_len slInt rfl rfl (v := pv) (xs := (xp :: xr).map fun z => [I64 z]) rfl ((hS.bring (by repeat (first | exact t0 | apply tS))).getOwn.rd)) ?_; rw [HRL.out]; go_frame)
              | (show wpList _ _ _ (⟨some 89, .binOp _ _ _ _ _, _, _, _, _⟩ :: _) _ _; refine wpList_val rfl (op_eqI' rfl rfl rfl HR0.out) ?_; go_frame)
              | (show wpList _ _ _ (⟨some 92, .indexAddr _ _ _, _, _, _, _⟩ :: _) _ _; refine wpList_val rfl (op_indexAddrZ slInt rfl (v := pv) (xs := (xp :: xr).map fun z => [I64 z]) rfl rfl ((hS.bring (by repeat (first | exact t0 | apply tS))).getOwn.rd) 0 rfl HR1.out) ?_; go_frame)
              | (show wpList _ _ _ (⟨some 93, .load _ _, _, _, _, _⟩ :: _) _ _; refine wpList_val rfl (op_loadE1 oneInt rfl (v := pv) (k := 0) rfl (f := I64) (us := xp :: xr) ((hS.bring (by repeat (first | exact t0 | apply tS))).getOwn.rd) HR2.out) ?_; rw [HR3.out]; go_frame)
              | (show wpList _ _ _ (⟨some 95, .load _ _, _, _, _, _⟩ :: _) _ _; refine wpList_val rfl (op_load1S (b := nb) (T := 55) oneInt ((hS.bring (by repeat (first | exact t0 | apply tS)))) rfl rfl HP32.out) ?_; go_frame)
              | (show wpList _ _ _ (⟨some 96, .binOp _ _ _ _ _, _, _, _, _⟩ :: _) _ _; refine wpList_val rfl (op_ineI rfl rfl rfl HR5.out) ?_; go_frame)
              | (refine fin_mk (by kernel_rfl) ?_)
              )
            go_wp2_with fail
            go_roundw
            case rel => exact ⟨j + 1, by go_num, by omega, hS.sel (by repeat (first | exact Sel.refl | refine Sel.take (by repeat (first | exact t0 | apply tS)) ?_ | apply Sel.drop))⟩
            case measure => simp [intOf]; omega
          · go_wp2_with fail
            go_roundw
            case rel => exact ⟨k + 1, _, by go_num, by omega, HOKC2, HLC2, hS.sel (by repeat (first | exact Sel.refl | refine Sel.take (by repeat (first | exact t0 | apply tS)) ?_ | apply Sel.drop))⟩
            case measure => simp [intOf]; omega
      · have hk4 : k = 4 := by omega
        subst hk4
        have h0 := left_none HLC.out
        subst h0
        have HA0 : Hid (((allB []).map wC).length = 0) := rfl
        go_wp2_with (first
          | (go_at_call 12; (refine Ret.calls (all_s (B := []) (hS.bring (by repeat (first | exact t0 | apply tS))) HOKC.out) ?_); clear hS; rintro av w hS)
          | (show wpList _ _ _ (⟨some 102, .call _, _, _, _, _⟩ :: _) _ _; refine wpList_val rfl (op_len slWant rfl rfl (v := av) (xs := (allB []).map wC) rfl ((hS.bring (by repeat (first | exact t0 | apply tS))).getOwn.rd)) ?_; rw [HA0.out]; go_frame)
          )
        go_ret
        exact ⟨rfl, hS.chg⟩
end Go.Proofs.Ytafpdpcbckpkjaa
