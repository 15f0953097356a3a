/- What a peer told waits no more, and is not put for it; others stay in their order: the law returns true. Conditions: those that stand ahead of each theorem. -/
import Derived.Test.YtffagjkjeojaaaaLAl
namespace Go.Proofs.Ytffagjkjeojaaaa
open Go.RowKit Go.Px
theorem runs_ok {L : List (Value × PA)} (hL : ∀ x ∈ L, Is32 x.2.ids) : QOk (runs (L.map (·.2))) := QOk.nil.runs fun a ha => by
  obtain ⟨x, hx, rfl⟩ := List.mem_map.1 ha
  exact hL x hx
theorem outIds_Y {r l : List Id} {x : Id} (h : x ∈ r) : outIds r (l ++ [x]) = outIds r l := by
  unfold outIds
  rw [List.filter_append]
  simp [h]
theorem outIds_N {r l : List Id} {x : Id} (h : x ∉ r) : outIds r (l ++ [x]) = outIds r l ++ [x] := by
  unfold outIds
  rw [List.filter_append]
  simp [h]
theorem in_last {L : List Id} {r : List Id} {m : Nat} (hm : m + 1 = r.length) : r[m] ∈ adds L r := by
  obtain ⟨x, hx⟩ : ∃ x, r[m] = x := ⟨_, rfl⟩
  have h : r = r.take m ++ [x] := by
    rw [← hx, ← List.take_succ_eq_append_getElem (by omega), hm, List.take_length]
  have h2 : x ∈ adds L (r.take m ++ [x]) := by
    rw [adds_app, adds_one]
    exact in_add1 _ _
  rw [hx]
  rwa [← h] at h2
set_option maxRecDepth 100000 in
set_option maxHeartbeats 8000000 in
theorem trickleLearns_w {W : World} {v vi : Value} {L : List (Value × PA)} {R : List Id} (hv : AIn All W v L) (hL : ∀ x ∈ L, Is32 x.2.ids) (hi0 : Rd 32 W vi (bys R)) (hR : Is32 R) :
    Calls Try.prog 8 #[v, vi] W (Ret fun r w' => r = .bool true ∧ Chg No W w') := by
  have hS := SepL.start W
  have hi := RdIn.of hi0
  have HRN : Hid ((bys R).length = R.length) := bys_length _
  have H32 := hide hL
  have HR32 := hide hR
  have hqo := runs_ok hL
  obtain ⟨q, hq⟩ : ∃ q, runs (L.map (·.2)) = q := ⟨_, rfl⟩
  have HQ := hide hq
  rw [hq] at hqo
  have HQO := hide hqo
  have HWL : Hid ((bys q.waits).length = q.waits.length) := bys_length _
  have hwl := hqo.wl
  obtain ⟨q2, hq2⟩ : ∃ q2, learnQ q R = q2 := ⟨_, rfl⟩
  have HQ2 := hide hq2
  have hqo2 : QOk q2 := by rw [← hq2]; exact hqo.learn hR
  have HQO2 := hide hqo2
  have HWO : Hid (Is32 (outIds R q.waits)) := hqo.w32.sub (outIds_sub R q.waits)
  have HSM : Hid (decide (q2.waits = outIds R q.waits) = true) := by
    refine decide_eq_true ?_
    rw [← hq2]
    rfl
  have HKN : Hid (∀ x, x ∈ adds q.known R → x ∈ q2.known) := fun x hx => by
    rw [← hq2]
    exact hx
  clear hL hq hqo hq2 hqo2 hi0 hR
  cases hg : greatA (L.map (·.2)) with
  | true =>
    have HGR := hide hg
    clear hg
    go_enter Try.func8, Try.ntmps8
    go_wp2_with (first
      | (go_at_call 9; refine Ret.calls (alive_s hS) ?_; clear hS; rintro r w ⟨rfl, hS⟩)
      | (go_at_call 10; refine Ret.calls (great_s hS hv HGR.out) ?_; clear hS; rintro r w ⟨rfl, hS⟩)
      )
    go_ret
    exact ⟨rfl, hS.chg⟩
  | false =>
    have HGR := hide hg
    clear hg
    by_cases hr64 : 64 < R.length
    · have HG : Hid (decide ((64 : Int) < (R.length : Int)) = true) := decide_eq_true (by omega)
      clear hr64
      go_enter Try.func8, Try.ntmps8
      go_wp2_with (first
        | (go_at_call 9; refine Ret.calls (alive_s hS) ?_; clear hS; rintro r w ⟨rfl, hS⟩)
        | (go_at_call 10; refine Ret.calls (great_s hS hv HGR.out) ?_; clear hS; rintro r w ⟨rfl, hS⟩)
        | (show wpList _ _ _ (⟨some 16, .call _, _, _, _, _⟩ :: _) _ _; refine wpList_val rfl (op_len slHash rfl rfl (v := vi) (xs := bys R) rfl (by exact hS.rd hi)) ?_; rw [HRN.out]; go_frame)
        | (show wpList _ _ _ (⟨some 17, .binOp _ _ _ _ _, _, _, _, _⟩ :: _) _ _; refine wpList_val rfl (op_igtr rfl rfl rfl HG.out) ?_; go_frame)
        )
      go_ret
      exact ⟨rfl, hS.chg⟩
    · have HG : Hid (decide ((64 : Int) < (R.length : Int)) = false) := decide_eq_false (by omega)
      have HRF : Hid (R.length ≤ 100000) := by unfold Hid; omega
      obtain ⟨M1, hM1⟩ : ∃ m : Nat, m = 0 := ⟨0, rfl⟩
      obtain ⟨M2, hM2⟩ : ∃ m : Nat, m = 0 := ⟨0, rfl⟩
      clear hM1 hM2
      go_enter Try.func8, Try.ntmps8
      go_wp2_with (first
        | (go_at_call 9; refine Ret.calls (alive_s hS) ?_; clear hS; rintro r w ⟨rfl, hS⟩)
        | (go_at_call 10; refine Ret.calls (great_s hS hv HGR.out) ?_; clear hS; rintro r w ⟨rfl, hS⟩)
        | (show wpList _ _ _ (⟨some 16, .call _, _, _, _, _⟩ :: _) _ _; refine wpList_val rfl (op_len slHash rfl rfl (v := vi) (xs := bys R) rfl (by exact hS.rd hi)) ?_; rw [HRN.out]; go_frame)
        | (show wpList _ _ _ (⟨some 17, .binOp _ _ _ _ _, _, _, _, _⟩ :: _) _ _; refine wpList_val rfl (op_igtr rfl rfl rfl HG.out) ?_; go_frame)
        | (go_at_call 24; refine Ret.calls (grown_s hS hv H32.out HGR.out) ?_; clear hS; rintro r w ⟨p, rfl, hS⟩; rw [HQ.out] at hS)
        | (go_at_call 20; (refine Ret.calls (qwaits_s (p := p) (q := q) (hS.bring (by repeat (first | exact t0 | apply tS))) HQO.out) ?_); clear hS; rintro wv w hS)
        | (show wpList _ _ _ (⟨some 23, .call _, _, _, _, _⟩ :: _) _ _; refine wpList_val rfl (op_len slHash rfl rfl (v := wv) (xs := bys q.waits) rfl ((hS.bring (by repeat (first | exact t0 | apply tS))).getOwn.rd)) ?_; rw [HWL.out]; go_frame)
        )
      go_loopw [6, 24] (fun sv iv wr => ∃ k : Nat, iv = .int .i64 k ∧ k ≤ q.waits.length ∧ SepL All W wr [.own 24 32 sv (bys (outIds R (q.waits.take k))), .own 24 32 wv (bys q.waits), hQ p q]) (fun _ iv _ => q.waits.length - (intOf iv).toNat)
      case atStart => exact ⟨0, rfl, by omega, (hS.nilOwn 24 32).sel (by repeat (first | exact Sel.refl | refine Sel.take (by repeat (first | exact t0 | apply tS)) ?_ | apply Sel.drop))⟩
      case round =>
        clear hS
        obtain ⟨k, rfl, hk, hS⟩ := hrel
        by_cases hlt : k < q.waits.length
        · have HKL : Hid (k < (bys q.waits).length) := by unfold Hid; rw [HWL.out]; exact hlt
          obtain ⟨x, hx⟩ : ∃ x, q.waits[k] = x := ⟨_, rfl⟩
          have hx32 := HQO.out.w32 x (by rw [← hx]; exact List.getElem_mem hlt)
          have HX0 := hide hx32
          have HX32 : Hid ((x.map B8).length = 32) := by simp [Hid, hx32]
          have HX : Hid ((bys q.waits)[k]'HKL.out = x.map B8) := by
            unfold Hid
            rw [bys_get HKL.out hlt, hx]
          have hsn : q.waits.take (k + 1) = q.waits.take k ++ [x] := by rw [List.take_succ_eq_append_getElem hlt, hx]
          have hol : (outIds R (q.waits.take k)).length ≤ 64 := by
            have h1 := (outIds_sub R (q.waits.take k)).length_le
            rw [List.length_take] at h1
            omega
          have HA1 : Hid (((bys (outIds R (q.waits.take k))).length + (bys [x]).length) * 32 ≤ 140737488355328) := by
            unfold Hid
            rw [bys_length, bys_length, List.length_singleton]
            omega
          have HA2 : Hid ((bys (outIds R (q.waits.take k))).length + (bys [x]).length ≤ maxLen) := by
            unfold Hid maxLen
            rw [bys_length, bys_length, List.length_singleton]
            omega
          by_cases hm : x ∈ R
          · have HMR : Hid (decide (x ∈ R) = true) := decide_eq_true hm
            have HON : Hid (outIds R (q.waits.take (k + 1)) = outIds R (q.waits.take k)) := by unfold Hid; rw [hsn]; exact outIds_Y hm
            clear hx hx32 hsn hol hm
            go_wp2_with (first
              | (show wpList _ _ _ (⟨some 26, .indexAddr _ _ _, _, _, _, _⟩ :: _) _ _; refine wpList_val rfl (op_indexAddr slHash rfl (v := wv) (xs := bys q.waits) rfl (k := k) rfl ((hS.bring (by repeat (first | exact t0 | apply tS))).getOwn.rd) HKL.out) ?_; go_frame)
              | (show wpList _ _ _ (⟨some 27, .load _ _, _, _, _, _⟩ :: _) _ _; refine wpList_val rfl (op_loadE aggHash rfl (v := wv) (xs := bys q.waits) (k := k) rfl ((hS.bring (by repeat (first | exact t0 | apply tS))).getOwn.rd) HKL.out) ?_; rw [HX.out]; go_frame)
              | (show wpList _ _ _ (⟨_, .alloc _, _, _, _, _⟩ :: _) _ _; refine wpS_alloc hS rfl rfl Try.zeroValue24 (zs := List.replicate 32 (.int .u8 0)) rfl ?_; clear hS; intro nb w hS; go_frame)
              | (show wpList _ _ _ (⟨_, .store 24 _ _, _, _, _, _⟩ :: _) _ _; (refine wpS_storeAll (b := nb) aggHash (hS.bring (by repeat (first | exact t0 | apply tS))) rfl rfl rfl (vs := x.map B8) rfl HX32.out (flat_B8 x) rfl ?_); clear hS; intro w hS; go_frame)
              | (show wpList _ _ _ (⟨_, .load 24 _, _, _, _, _⟩ :: _) _ _; refine wpList_val rfl (op_load aggHash rfl rfl (SepL.getBlk (b := nb) (T := 24) ((hS.bring (by repeat (first | exact t0 | apply tS))))).cells HX32.out) ?_; go_frame)
              | (go_at_call 25; refine Ret.calls (hS.callNo (has11_w (v := vi) (l := R) (x := x) (hS.rd hi) HR32.out HX0.out HMR)) ?_; clear hS; rintro r1 w ⟨rfl, hS⟩)
              )
            go_roundw
            case rel =>
              refine ⟨k + 1, by go_num, by omega, ?_⟩
              rw [HON.out]
              exact hS.sel (by repeat (first | exact Sel.refl | refine Sel.take (by repeat (first | exact t0 | apply tS)) ?_ | apply Sel.drop))
            case measure => simp [intOf]; omega
          · have HMR : Hid (decide (x ∈ R) = false) := decide_eq_false hm
            have HON : Hid (outIds R (q.waits.take (k + 1)) = outIds R (q.waits.take k) ++ [x]) := by unfold Hid; rw [hsn]; exact outIds_N hm
            clear hx hx32 hsn hol hm
            go_wp2_with (first
              | (show wpList _ _ _ (⟨some 26, .indexAddr _ _ _, _, _, _, _⟩ :: _) _ _; refine wpList_val rfl (op_indexAddr slHash rfl (v := wv) (xs := bys q.waits) rfl (k := k) rfl ((hS.bring (by repeat (first | exact t0 | apply tS))).getOwn.rd) HKL.out) ?_; go_frame)
              | (show wpList _ _ _ (⟨some 27, .load _ _, _, _, _, _⟩ :: _) _ _; refine wpList_val rfl (op_loadE aggHash rfl (v := wv) (xs := bys q.waits) (k := k) rfl ((hS.bring (by repeat (first | exact t0 | apply tS))).getOwn.rd) HKL.out) ?_; rw [HX.out]; go_frame)
              | (show wpList _ _ _ (⟨_, .alloc _, _, _, _, _⟩ :: _) _ _; refine wpS_alloc hS rfl rfl Try.zeroValue24 (zs := List.replicate 32 (.int .u8 0)) rfl ?_; clear hS; intro nb w hS; go_frame)
              | (show wpList _ _ _ (⟨_, .store 24 _ _, _, _, _, _⟩ :: _) _ _; (refine wpS_storeAll (b := nb) aggHash (hS.bring (by repeat (first | exact t0 | apply tS))) rfl rfl rfl (vs := x.map B8) rfl HX32.out (flat_B8 x) rfl ?_); clear hS; intro w hS; go_frame)
              | (show wpList _ _ _ (⟨_, .load 24 _, _, _, _, _⟩ :: _) _ _; refine wpList_val rfl (op_load aggHash rfl rfl (SepL.getBlk (b := nb) (T := 24) ((hS.bring (by repeat (first | exact t0 | apply tS))))).cells HX32.out) ?_; go_frame)
              | (go_at_call 25; refine Ret.calls (hS.callNo (has11_w (v := vi) (l := R) (x := x) (hS.rd hi) HR32.out HX0.out HMR)) ?_; clear hS; rintro r1 w ⟨rfl, hS⟩)
              | (show wpList _ _ _ (⟨some 34, .buildSlice _ _ _, _, _, _, _⟩ :: _) _ _; refine wpS_build1A slHash (by omega) hS rfl rfl (cs := x.map B8) rfl HX32.out ?_; clear hS; intro v34 w hS; go_frame)
              | (show wpList _ _ _ (⟨some 35, .call _, _, _, _, _⟩ :: _) _ _; (refine wpS_append slHash (hS.bring (by repeat (first | exact t0 | apply tS))) rfl rfl (sv := u6) (xs := bys (outIds R (q.waits.take k))) (xv := v34) rfl rfl (ys := bys [x]) ((hS.bring (by repeat (first | exact t0 | apply tS))).getOwn.rd) (flat_bys _) HA1.out HA2.out ?_); clear hS; intro v35 w hS; rw [← bys_app] at hS; go_frame)
              )
            go_roundw
            case rel =>
              refine ⟨k + 1, by go_num, by omega, ?_⟩
              rw [HON.out]
              exact hS.sel (by repeat (first | exact Sel.refl | refine Sel.take (by repeat (first | exact t0 | apply tS)) ?_ | apply Sel.drop))
            case measure => simp [intOf]; omega
        · have hk2 : k = q.waits.length := by omega
          rw [hk2, List.take_length] at hS
          by_cases hr0 : R.length = 0
          · have HC : Hid (decide ((0 : Int) < (R.length : Int)) = false) := decide_eq_false (by omega)
            clear hr0 hk2
            go_wp2_with (first
              | (go_at_call 15; (refine Ret.calls (qlearn_s (p := p) (q := q) (l := R) (hS.bring (by repeat (first | exact t0 | apply tS))) HQO.out hi HR32.out HRF.out) ?_); clear hS; rintro r1 w hS; rw [HQ2.out] at hS)
              | (have m1 := M1; clear m1; go_at_call 20; (refine Ret.calls (qwaits_s (p := p) (q := q2) (hS.bring (by repeat (first | exact t0 | apply tS))) HQO2.out) ?_); clear hS M1; rintro wv2 w hS)
              | (have m1 := M2; clear m1; go_at_call 17; refine Ret.calls (hS.callNo (sameIds_w (v := wv2) (u := u6) (l := q2.waits) (m := outIds R q.waits) ((hS.bring (by repeat (first | exact t0 | apply tS))).getOwn.rd) ((hS.bring (by repeat (first | exact t0 | apply tS))).getOwn.rd) HQO2.out.w32 HWO.out (b := true) HSM)) ?_; clear hS M2; rintro r1 w ⟨rfl, hS⟩)
              | (show wpList _ _ _ (⟨some 46, .call _, _, _, _, _⟩ :: _) _ _; refine wpList_val rfl (op_len slHash rfl rfl (v := vi) (xs := bys R) rfl (by exact hS.rd hi)) ?_; rw [HRN.out]; go_frame)
              | (show wpList _ _ _ (⟨some 47, .binOp _ _ _ _ _, _, _, _, _⟩ :: _) _ _; refine wpList_val rfl (op_igtr rfl rfl rfl HC.out) ?_; go_frame)
              )
            go_ret
            exact ⟨rfl, hS.chg⟩
          · have HC : Hid (decide ((0 : Int) < (R.length : Int)) = true) := decide_eq_true (by omega)
            obtain ⟨m, hm⟩ : ∃ m, m + 1 = R.length := ⟨R.length - 1, by omega⟩
            have hmr : m < R.length := by omega
            have HML : Hid (m < (bys R).length) := by unfold Hid; rw [HRN.out]; exact hmr
            obtain ⟨x, hx⟩ : ∃ x, R[m] = x := ⟨_, rfl⟩
            have hx32 := HR32.out x (by rw [← hx]; exact List.getElem_mem hmr)
            have HX0 := hide hx32
            have HX1 := hide (is32_1 hx32)
            have HX32 : Hid ((x.map B8).length = 32) := by simp [Hid, hx32]
            have HX : Hid ((bys R)[m]'HML.out = x.map B8) := by
              unfold Hid
              rw [bys_get HML.out hmr, hx]
            have hxk : x ∈ q2.known := HKN.out x (by rw [← hx]; exact in_last hm)
            have HXK : Hid (decide (x ∈ q2.known) = true) := decide_eq_true hxk
            have HPX : Hid (putQ q2 [x] = q2) := put_yes hxk
            clear hx hx32 hxk hr0 hk2 hmr
            go_wp2_with (first
              | (go_at_call 15; (refine Ret.calls (qlearn_s (p := p) (q := q) (l := R) (hS.bring (by repeat (first | exact t0 | apply tS))) HQO.out hi HR32.out HRF.out) ?_); clear hS; rintro r1 w hS; rw [HQ2.out] at hS)
              | (have m1 := M1; clear m1; go_at_call 20; (refine Ret.calls (qwaits_s (p := p) (q := q2) (hS.bring (by repeat (first | exact t0 | apply tS))) HQO2.out) ?_); clear hS M1; rintro wv2 w hS)
              | (have m1 := M2; clear m1; go_at_call 17; refine Ret.calls (hS.callNo (sameIds_w (v := wv2) (u := u6) (l := q2.waits) (m := outIds R q.waits) ((hS.bring (by repeat (first | exact t0 | apply tS))).getOwn.rd) ((hS.bring (by repeat (first | exact t0 | apply tS))).getOwn.rd) HQO2.out.w32 HWO.out (b := true) HSM)) ?_; clear hS M2; rintro r1 w ⟨rfl, hS⟩)
              | (show wpList _ _ _ (⟨some 46, .call _, _, _, _, _⟩ :: _) _ _; refine wpList_val rfl (op_len slHash rfl rfl (v := vi) (xs := bys R) rfl (by exact hS.rd hi)) ?_; rw [HRN.out]; go_frame)
              | (show wpList _ _ _ (⟨some 47, .binOp _ _ _ _ _, _, _, _, _⟩ :: _) _ _; refine wpList_val rfl (op_igtr rfl rfl rfl HC.out) ?_; go_frame)
              | (show wpList _ _ _ (⟨some 50, .call _, _, _, _, _⟩ :: _) _ _; refine wpList_val rfl (op_len slHash rfl rfl (v := vi) (xs := bys R) rfl (by exact hS.rd hi)) ?_; rw [HRN.out]; go_frame)
              | (show wpList _ _ _ (⟨some 51, .binOp _ _ _ _ _, _, _, _, _⟩ :: _) _ _; refine wpList_val rfl (op_isubN rfl rfl rfl m (by omega) (by omega)) ?_; go_frame)
              | (show wpList _ _ _ (⟨some 52, .indexAddr _ _ _, _, _, _, _⟩ :: _) _ _; refine wpList_val rfl (op_indexAddr slHash rfl (v := vi) (xs := bys R) rfl (k := m) rfl (by exact hS.rd hi) HML.out) ?_; go_frame)
              | (show wpList _ _ _ (⟨some 53, .load _ _, _, _, _, _⟩ :: _) _ _; refine wpList_val rfl (op_loadE aggHash rfl (v := vi) (xs := bys R) (k := m) rfl (by exact hS.rd hi) HML.out) ?_; rw [HX.out]; go_frame)
              | (show wpList _ _ _ (⟨_, .alloc _, _, _, _, _⟩ :: _) _ _; refine wpS_alloc hS rfl rfl Try.zeroValue24 (zs := List.replicate 32 (.int .u8 0)) rfl ?_; clear hS; intro n9 w hS; go_frame)
              | (show wpList _ _ _ (⟨_, .store 24 _ _, _, _, _, _⟩ :: _) _ _; (refine wpS_storeAll (b := n9) aggHash (hS.bring (by repeat (first | exact t0 | apply tS))) rfl rfl rfl (vs := x.map B8) rfl HX32.out (flat_B8 x) rfl ?_); clear hS; intro w hS; go_frame)
              | (show wpList _ _ _ (⟨_, .load 24 _, _, _, _, _⟩ :: _) _ _; refine wpList_val rfl (op_load aggHash rfl rfl (SepL.getBlk (b := n9) (T := 24) ((hS.bring (by repeat (first | exact t0 | apply tS))))).cells HX32.out) ?_; go_frame)
              | (show wpList _ _ _ (⟨some 56, .buildSlice _ _ _, _, _, _, _⟩ :: _) _ _; refine wpS_build1A slHash (by omega) hS rfl rfl (cs := x.map B8) rfl HX32.out ?_; clear hS; intro v56 w hS; go_frame)
              | (go_at_call 13; refine Ret.calls (qput_o (p := p) (q := q2) (T := 24) (v := v56) (l := [x]) (F := [.own 24 32 u6 (bys (outIds R q.waits)), .blk n9 24 (x.map B8)]) (hS.sel (by repeat (first | exact Sel.refl | refine Sel.take (by repeat (first | exact t0 | apply tS)) ?_ | apply Sel.drop))) HQO2.out HX1.out) ?_; clear hS; rintro r1 w hS; rw [HPX.out] at hS)
              | (go_at_call 22; (refine Ret.calls (qhas_s (p := p) (q := q2) (x := x) (hS.bring (by repeat (first | exact t0 | apply tS))) HX0.out (b := true) HXK) ?_); clear hS; rintro r1 w ⟨rfl, hS⟩)
              | (go_at_call 20; (refine Ret.calls (qwaits_s (p := p) (q := q2) (hS.bring (by repeat (first | exact t0 | apply tS))) HQO2.out) ?_); clear hS; rintro wv3 w hS)
              | (go_at_call 17; refine Ret.calls (hS.callNo (sameIds_w (v := wv3) (u := u6) (l := q2.waits) (m := outIds R q.waits) ((hS.bring (by repeat (first | exact t0 | apply tS))).getOwn.rd) ((hS.bring (by repeat (first | exact t0 | apply tS))).getOwn.rd) HQO2.out.w32 HWO.out (b := true) HSM)) ?_; clear hS; rintro r1 w ⟨rfl, hS⟩)
              )
            go_ret
            exact ⟨rfl, hS.chg⟩
end Go.Proofs.Ytffagjkjeojaaaa
