/- What is told waited, in that order, and is there; it is known then and waits no more: the law returns true. Conditions: those that stand ahead of each theorem. -/
import Derived.Test.YtffagjkjeojaaaaLAl
namespace Go.Proofs.Ytffagjkjeojaaaa
open Go.RowKit Go.Px
theorem runs_ok {L : List (Value × PA)} (hL : ∀ x ∈ L, Is32 x.2.ids) : QOk (runs (L.map (·.2))) := QOk.nil.runs fun a ha => by
  obtain ⟨x, hx, rfl⟩ := List.mem_map.1 ha
  exact hL x hx
set_option maxRecDepth 100000 in
set_option maxHeartbeats 8000000 in
theorem trickleTells_w {W : World} {v vi : Value} {L : List (Value × PA)} {R : List Id} (hv : AIn All W v L) (hL : ∀ x ∈ L, Is32 x.2.ids) (hi0 : Rd 32 W vi (bys R)) (hR : Is32 R) :
    Calls Try.prog 5 #[v, vi] W (Ret fun r w' => r = .bool true ∧ Chg No W w') := by
  have hS := SepL.start W
  have hi := RdIn.of hi0
  have HRN : Hid ((bys R).length = R.length) := bys_length _
  have H32 := hide hL
  have HR32 := hide hR
  have hqo := runs_ok hL
  obtain ⟨q, hq⟩ : ∃ q, runs (L.map (·.2)) = q := ⟨_, rfl⟩
  have HQ := hide hq
  rw [hq] at hqo
  have HQO := hide hqo
  have HWL : Hid ((bys q.waits).length = q.waits.length) := bys_length _
  have hwl := hqo.wl
  obtain ⟨q2, hq2⟩ : ∃ q2, flushQ q R = q2 := ⟨_, rfl⟩
  have HQ2 := hide hq2
  have HQO2 : Hid (QOk q2) := by unfold Hid; rw [← hq2]; exact hqo.flush
  obtain ⟨T, hT⟩ : ∃ T, told q R = T := ⟨_, rfl⟩
  have HT := hide hT
  have HT32 : Hid (Is32 T) := by unfold Hid; rw [← hT]; exact hqo.told
  have htl : T.length ≤ 32 := by rw [← hT]; exact told_len q R
  have HT32L : Hid (decide ((T.length : Int) ≤ 32) = true) := decide_eq_true (by omega)
  have HTL : Hid ((bys T).length = T.length) := bys_length _
  have HTK : Hid (∀ x ∈ T, x ∈ q2.known) := by
    intro x hx
    rw [← hT] at hx
    rw [← hq2]
    exact told_known hqo x hx
  clear hL hq hqo hq2 hi0 hR hT
  cases hg : greatA (L.map (·.2)) with
  | true =>
    have HGR := hide hg
    clear hg
    go_enter Try.func5, Try.ntmps5
    go_wp2_with (first
      | (go_at_call 9; refine Ret.calls (alive_s hS) ?_; clear hS; rintro r w ⟨rfl, hS⟩)
      | (go_at_call 10; refine Ret.calls (great_s hS hv HGR.out) ?_; clear hS; rintro r w ⟨rfl, hS⟩)
      )
    go_ret
    exact ⟨rfl, hS.chg⟩
  | false =>
    have HGR := hide hg
    clear hg
    by_cases hr64 : 300 < R.length
    · have HG : Hid (decide ((300 : Int) < (R.length : Int)) = true) := decide_eq_true (by omega)
      clear hr64
      go_enter Try.func5, Try.ntmps5
      go_wp2_with (first
        | (go_at_call 9; refine Ret.calls (alive_s hS) ?_; clear hS; rintro r w ⟨rfl, hS⟩)
        | (go_at_call 10; refine Ret.calls (great_s hS hv HGR.out) ?_; clear hS; rintro r w ⟨rfl, hS⟩)
        | (show wpList _ _ _ (⟨some 18, .call _, _, _, _, _⟩ :: _) _ _; refine wpList_val rfl (op_len slHash rfl rfl (v := vi) (xs := bys R) rfl (by exact hS.rd hi)) ?_; rw [HRN.out]; go_frame)
        | (show wpList _ _ _ (⟨some 19, .binOp _ _ _ _ _, _, _, _, _⟩ :: _) _ _; refine wpList_val rfl (op_igtr rfl rfl rfl HG.out) ?_; go_frame)
        )
      go_ret
      exact ⟨rfl, hS.chg⟩
    · have HG : Hid (decide ((300 : Int) < (R.length : Int)) = false) := decide_eq_false (by omega)
      clear hr64
      obtain ⟨M1, hM1⟩ : ∃ m : Nat, m = 0 := ⟨0, rfl⟩
      clear hM1
      go_enter Try.func5, Try.ntmps5
      go_wp2_with (first
        | (go_at_call 9; refine Ret.calls (alive_s hS) ?_; clear hS; rintro r w ⟨rfl, hS⟩)
        | (go_at_call 10; refine Ret.calls (great_s hS hv HGR.out) ?_; clear hS; rintro r w ⟨rfl, hS⟩)
        | (show wpList _ _ _ (⟨some 18, .call _, _, _, _, _⟩ :: _) _ _; refine wpList_val rfl (op_len slHash rfl rfl (v := vi) (xs := bys R) rfl (by exact hS.rd hi)) ?_; rw [HRN.out]; go_frame)
        | (show wpList _ _ _ (⟨some 19, .binOp _ _ _ _ _, _, _, _, _⟩ :: _) _ _; refine wpList_val rfl (op_igtr rfl rfl rfl HG.out) ?_; go_frame)
        | (go_at_call 24; refine Ret.calls (grown_s hS hv H32.out HGR.out) ?_; clear hS; rintro r w ⟨p, rfl, hS⟩; rw [HQ.out] at hS)
        | (go_at_call 20; (refine Ret.calls (qwaits_s (p := p) (q := q) (hS.bring (by repeat (first | exact t0 | apply tS))) HQO.out) ?_); clear hS; rintro wv w hS)
        | (go_at_call 18; (refine Ret.calls (qflush_s (p := p) (q := q) (l := R) (hS.bring (by repeat (first | exact t0 | apply tS))) HQO.out hi HR32.out) ?_); clear hS; rintro tv w hS; rw [HQ2.out, HT.out] at hS)
        )
      go_loopw [8, 9] (fun sv iv wr => ∃ (k : Nat) (t : List Id), iv = .int .i64 k ∧ k ≤ q.waits.length ∧ t.length ≤ 32 ∧ Hid (FlOk q R t k) ∧ SepL All W wr [.own 24 32 sv (bys t), .own 24 32 wv (bys q.waits), .own 24 32 tv (bys T), hQ p q2]) (fun _ iv _ => q.waits.length - (intOf iv).toNat)
      case atStart => exact ⟨0, [], rfl, by omega, by simp, FlOk.start q R, (hS.nilOwn 24 32).sel (by repeat (first | exact Sel.refl | refine Sel.take (by repeat (first | exact t0 | apply tS)) ?_ | apply Sel.drop))⟩
      case round =>
        clear hS
        obtain ⟨k, t, rfl, hk, ht, HFL, hS⟩ := hrel
        have HTN : Hid ((bys t).length = t.length) := bys_length _
        have HKLE : Hid (k ≤ (bys q.waits).length) := by unfold Hid; rw [HWL.out]; exact hk
        by_cases hlt : k < q.waits.length
        · have HC1 : Hid (decide ((k : Int) < (q.waits.length : Int)) = true) := decide_eq_true (by omega)
          by_cases ht32 : t.length < 32
          · have HC2 : Hid (decide ((t.length : Int) < 32) = true) := decide_eq_true (by omega)
            have HKL : Hid (k < (bys q.waits).length) := by unfold Hid; rw [HWL.out]; exact hlt
            obtain ⟨x, hx⟩ : ∃ x, q.waits[k] = x := ⟨_, rfl⟩
            have hx32 := HQO.out.w32 x (by rw [← hx]; exact List.getElem_mem hlt)
            have HX0 := hide hx32
            have HX32 : Hid ((x.map B8).length = 32) := by simp [Hid, hx32]
            have HX : Hid ((bys q.waits)[k]'HKL.out = x.map B8) := by
              unfold Hid
              rw [bys_get HKL.out hlt, hx]
            have HA1 : Hid (((bys t).length + (bys [x]).length) * 32 ≤ 140737488355328) := by
              unfold Hid
              rw [bys_length, bys_length, List.length_singleton]
              omega
            have HA2 : Hid ((bys t).length + (bys [x]).length ≤ maxLen) := by
              unfold Hid maxLen
              rw [bys_length, bys_length, List.length_singleton]
              omega
            by_cases hm : x ∈ R
            · have HMR : Hid (decide (x ∈ R) = true) := decide_eq_true hm
              have hf := HFL.out.take hlt ht32 (by rw [hx]; exact hm)
              rw [hx] at hf
              have HF2 := hide hf
              have HLN2 : Hid ((t ++ [x]).length ≤ 32) := by unfold Hid; rw [List.length_append, List.length_singleton]; omega
              clear hx hx32 hm hf
              go_wp2_with (first
                | (show wpList _ _ _ (⟨some 30, .call _, _, _, _, _⟩ :: _) _ _; refine wpList_val rfl (op_len slHash rfl rfl (v := wv) (xs := bys q.waits) rfl ((hS.bring (by repeat (first | exact t0 | apply tS))).getOwn.rd)) ?_; rw [HWL.out]; go_frame)
                | (show wpList _ _ _ (⟨some 31, .binOp _ _ _ _ _, _, _, _, _⟩ :: _) _ _; refine wpList_val rfl (op_ilss rfl rfl rfl HC1.out) ?_; go_frame)
                | (show wpList _ _ _ (⟨some 34, .call _, _, _, _, _⟩ :: _) _ _; refine wpList_val rfl (op_len slHash rfl rfl (v := u8) (xs := bys t) rfl ((hS.bring (by repeat (first | exact t0 | apply tS))).getOwn.rd)) ?_; rw [HTN.out]; go_frame)
                | (show wpList _ _ _ (⟨some 35, .binOp _ _ _ _ _, _, _, _, _⟩ :: _) _ _; refine wpList_val rfl (op_ilss rfl rfl rfl HC2.out) ?_; go_frame)
                | (show wpList _ _ _ (⟨some 40, .indexAddr _ _ _, _, _, _, _⟩ :: _) _ _; refine wpList_val rfl (op_indexAddr slHash rfl (v := wv) (xs := bys q.waits) rfl (k := k) rfl ((hS.bring (by repeat (first | exact t0 | apply tS))).getOwn.rd) HKL.out) ?_; go_frame)
                | (show wpList _ _ _ (⟨some 41, .load _ _, _, _, _, _⟩ :: _) _ _; refine wpList_val rfl (op_loadE aggHash rfl (v := wv) (xs := bys q.waits) (k := k) rfl ((hS.bring (by repeat (first | exact t0 | apply tS))).getOwn.rd) HKL.out) ?_; rw [HX.out]; go_frame)
                | (show wpList _ _ _ (⟨some 46, .indexAddr _ _ _, _, _, _, _⟩ :: _) _ _; refine wpList_val rfl (op_indexAddr slHash rfl (v := wv) (xs := bys q.waits) rfl (k := k) rfl ((hS.bring (by repeat (first | exact t0 | apply tS))).getOwn.rd) HKL.out) ?_; go_frame)
                | (show wpList _ _ _ (⟨some 47, .load _ _, _, _, _, _⟩ :: _) _ _; refine wpList_val rfl (op_loadE aggHash rfl (v := wv) (xs := bys q.waits) (k := k) rfl ((hS.bring (by repeat (first | exact t0 | apply tS))).getOwn.rd) HKL.out) ?_; rw [HX.out]; go_frame)
                | (go_at_call 25; refine Ret.calls (hS.callNo (has11_w (v := vi) (l := R) (x := x) (hS.rd hi) HR32.out HX0.out HMR)) ?_; clear hS; rintro r1 w ⟨rfl, hS⟩)
                | (show wpList _ _ _ (⟨some 48, .buildSlice _ _ _, _, _, _, _⟩ :: _) _ _; refine wpS_build1A slHash (by omega) hS rfl rfl (cs := x.map B8) rfl HX32.out ?_; clear hS; intro v48 w hS; go_frame)
                | (show wpList _ _ _ (⟨some 49, .call _, _, _, _, _⟩ :: _) _ _; (refine wpS_append slHash (hS.bring (by repeat (first | exact t0 | apply tS))) rfl rfl (sv := u8) (xs := bys t) (xv := v48) rfl rfl (ys := bys [x]) ((hS.bring (by repeat (first | exact t0 | apply tS))).getOwn.rd) (flat_bys _) HA1.out HA2.out ?_); clear hS; intro v49 w hS; rw [← bys_app] at hS; go_frame)
                | (show wpList _ _ _ (⟨some 51, .binOp _ _ _ _ _, _, _, _, _⟩ :: _) _ _; refine wpList_val rfl (op_iaddN rfl rfl rfl (k + 1) (by omega) (by omega)) ?_; go_frame)
                )
              go_roundw
              case rel => exact ⟨k + 1, t ++ [x], by go_num, by omega, HLN2.out, HF2, hS.sel (by repeat (first | exact Sel.refl | refine Sel.take (by repeat (first | exact t0 | apply tS)) ?_ | apply Sel.drop))⟩
              case measure => simp [intOf]; omega
            · have HMR : Hid (decide (x ∈ R) = false) := decide_eq_false hm
              have HF2 := hide (HFL.out.skip hlt ht32 (by rw [hx]; exact hm))
              clear hx hx32 hm
              go_wp2_with (first
                | (show wpList _ _ _ (⟨some 30, .call _, _, _, _, _⟩ :: _) _ _; refine wpList_val rfl (op_len slHash rfl rfl (v := wv) (xs := bys q.waits) rfl ((hS.bring (by repeat (first | exact t0 | apply tS))).getOwn.rd)) ?_; rw [HWL.out]; go_frame)
                | (show wpList _ _ _ (⟨some 31, .binOp _ _ _ _ _, _, _, _, _⟩ :: _) _ _; refine wpList_val rfl (op_ilss rfl rfl rfl HC1.out) ?_; go_frame)
                | (show wpList _ _ _ (⟨some 34, .call _, _, _, _, _⟩ :: _) _ _; refine wpList_val rfl (op_len slHash rfl rfl (v := u8) (xs := bys t) rfl ((hS.bring (by repeat (first | exact t0 | apply tS))).getOwn.rd)) ?_; rw [HTN.out]; go_frame)
                | (show wpList _ _ _ (⟨some 35, .binOp _ _ _ _ _, _, _, _, _⟩ :: _) _ _; refine wpList_val rfl (op_ilss rfl rfl rfl HC2.out) ?_; go_frame)
                | (show wpList _ _ _ (⟨some 40, .indexAddr _ _ _, _, _, _, _⟩ :: _) _ _; refine wpList_val rfl (op_indexAddr slHash rfl (v := wv) (xs := bys q.waits) rfl (k := k) rfl ((hS.bring (by repeat (first | exact t0 | apply tS))).getOwn.rd) HKL.out) ?_; go_frame)
                | (show wpList _ _ _ (⟨some 41, .load _ _, _, _, _, _⟩ :: _) _ _; refine wpList_val rfl (op_loadE aggHash rfl (v := wv) (xs := bys q.waits) (k := k) rfl ((hS.bring (by repeat (first | exact t0 | apply tS))).getOwn.rd) HKL.out) ?_; rw [HX.out]; go_frame)
                | (go_at_call 25; refine Ret.calls (hS.callNo (has11_w (v := vi) (l := R) (x := x) (hS.rd hi) HR32.out HX0.out HMR)) ?_; clear hS; rintro r1 w ⟨rfl, hS⟩)
                | (show wpList _ _ _ (⟨some 51, .binOp _ _ _ _ _, _, _, _, _⟩ :: _) _ _; refine wpList_val rfl (op_iaddN rfl rfl rfl (k + 1) (by omega) (by omega)) ?_; go_frame)
                )
              go_roundw
              case rel => exact ⟨k + 1, t, by go_num, by omega, ht, HF2, hS.sel (by repeat (first | exact Sel.refl | refine Sel.take (by repeat (first | exact t0 | apply tS)) ?_ | apply Sel.drop))⟩
              case measure => simp [intOf]; omega
          · have HC2 : Hid (decide ((t.length : Int) < 32) = false) := decide_eq_false (by omega)
            obtain ⟨e1, e2⟩ := HFL.out.stop (.inr (by omega))
            rw [HT.out] at e1
            rw [HQ2.out] at e2
            rw [e1] at hS
            clear HTN HFL
            have HCUT : Hid (∀ w : World, Rd 32 w wv (bys q.waits) → Rd 32 w (cutV 32 wv k (bys q.waits).length) (bys q2.waits)) := fun w h => by
              have h1 := h.cutV HKLE.out (Nat.le_refl _)
              rwa [List.take_of_length_le (by simp), ← bys_drop, e2] at h1
            clear e2
            rw [e1] at HC2
            clear e1
            obtain ⟨wt, hwt⟩ : ∃ wt, wt = u8 := ⟨_, rfl⟩
            subst hwt
            go_wp2_with (first
              | (show wpList _ _ _ (⟨some 30, .call _, _, _, _, _⟩ :: _) _ _; refine wpList_val rfl (op_len slHash rfl rfl (v := wv) (xs := bys q.waits) rfl ((hS.bring (by repeat (first | exact t0 | apply tS))).getOwn.rd)) ?_; rw [HWL.out]; go_frame)
              | (show wpList _ _ _ (⟨some 31, .binOp _ _ _ _ _, _, _, _, _⟩ :: _) _ _; refine wpList_val rfl (op_ilss rfl rfl rfl HC1.out) ?_; go_frame)
              | (show wpList _ _ _ (⟨some 34, .call _, _, _, _, _⟩ :: _) _ _; refine wpList_val rfl (op_len slHash rfl rfl (v := wt) (xs := bys T) rfl ((hS.bring (by repeat (first | exact t0 | apply tS))).getOwn.rd)) ?_; rw [HTL.out]; go_frame)
              | (show wpList _ _ _ (⟨some 35, .binOp _ _ _ _ _, _, _, _, _⟩ :: _) _ _; refine wpList_val rfl (op_ilss rfl rfl rfl HC2.out) ?_; go_frame)
              | (show wpList _ _ _ (⟨some 53, .call _, _, _, _, _⟩ :: _) _ _; refine wpList_val rfl (op_len slHash rfl rfl (v := tv) (xs := bys T) rfl ((hS.bring (by repeat (first | exact t0 | apply tS))).getOwn.rd)) ?_; rw [HTL.out]; go_frame)
              )
            go_loopw [54] (fun jv wr => ∃ j : Nat, jv = .int .i64 j ∧ j ≤ T.length ∧ SepL All W wr [.own 24 32 wt (bys T), .own 24 32 wv (bys q.waits), .own 24 32 tv (bys T), hQ p q2]) (fun jv _ => T.length - (intOf jv).toNat)
            case atStart => exact ⟨0, rfl, by omega, hS.sel (by repeat (first | exact Sel.refl | refine Sel.take (by repeat (first | exact t0 | apply tS)) ?_ | apply Sel.drop))⟩
            case round =>
              clear hS
              obtain ⟨j, rfl, hj, hS⟩ := hrel
              by_cases hjt : j < T.length
              · have HJL : Hid (j < (bys T).length) := by unfold Hid; rw [HTL.out]; exact hjt
                obtain ⟨x, hx⟩ : ∃ x, T[j] = x := ⟨_, rfl⟩
                have hxm : x ∈ T := by rw [← hx]; exact List.getElem_mem hjt
                have hx32 := HT32.out x hxm
                have HX0 := hide hx32
                have HX32 : Hid ((x.map B8).length = 32) := by simp [Hid, hx32]
                have HX : Hid ((bys T)[j]'HJL.out = x.map B8) := by
                  unfold Hid
                  rw [bys_get HJL.out hjt, hx]
                have HXK : Hid (decide (x ∈ q2.known) = true) := decide_eq_true (HTK.out x hxm)
                clear hx hxm hx32
                go_wp2_with (first
                  | (show wpList _ _ _ (⟨some 56, .indexAddr _ _ _, _, _, _, _⟩ :: _) _ _; refine wpList_val rfl (op_indexAddr slHash rfl (v := tv) (xs := bys T) rfl (k := j) rfl ((hS.bring (by repeat (first | exact t0 | apply tS))).getOwn.rd) HJL.out) ?_; go_frame)
                  | (show wpList _ _ _ (⟨some 57, .load _ _, _, _, _, _⟩ :: _) _ _; refine wpList_val rfl (op_loadE aggHash rfl (v := tv) (xs := bys T) (k := j) rfl ((hS.bring (by repeat (first | exact t0 | apply tS))).getOwn.rd) HJL.out) ?_; rw [HX.out]; go_frame)
                  | (show wpList _ _ _ (⟨_, .alloc _, _, _, _, _⟩ :: _) _ _; refine wpS_alloc hS rfl rfl Try.zeroValue24 (zs := List.replicate 32 (.int .u8 0)) rfl ?_; clear hS; intro nb w hS; go_frame)
                  | (show wpList _ _ _ (⟨_, .store 24 _ _, _, _, _, _⟩ :: _) _ _; (refine wpS_storeAll (b := nb) aggHash (hS.bring (by repeat (first | exact t0 | apply tS))) rfl rfl rfl (vs := x.map B8) rfl HX32.out (flat_B8 x) rfl ?_); clear hS; intro w hS; go_frame)
                  | (show wpList _ _ _ (⟨_, .load 24 _, _, _, _, _⟩ :: _) _ _; refine wpList_val rfl (op_load aggHash rfl rfl (SepL.getBlk (b := nb) (T := 24) ((hS.bring (by repeat (first | exact t0 | apply tS))))).cells HX32.out) ?_; go_frame)
                  | (go_at_call 22; (refine Ret.calls (qhas_s (p := p) (q := q2) (x := x) (hS.bring (by repeat (first | exact t0 | apply tS))) HX0.out (b := true) HXK) ?_); clear hS; rintro r1 w ⟨rfl, hS⟩)
                  )
                go_roundw
                case rel => exact ⟨j + 1, by go_num, by omega, hS.sel (by repeat (first | exact Sel.refl | refine Sel.take (by repeat (first | exact t0 | apply tS)) ?_ | apply Sel.drop))⟩
                case measure => simp [intOf]; omega
              · go_wp2_with fail
                refine wp_region_text (by kernel_rfl) (by kernel_rfl) (by repeat (first | exact Clean.body | refine Clean.then ?_ | refine Clean.inBlock ?_)) ?_
                replace hS := hS.drew
                go_wp2_with (first
                  | (have m1 := M1; clear m1; go_at_call 17; refine Ret.calls (hS.callNo (sameIds_w (v := tv) (u := wt) (l := T) (m := T) ((hS.bring (by repeat (first | exact t0 | apply tS))).getOwn.rd) ((hS.bring (by repeat (first | exact t0 | apply tS))).getOwn.rd) HT32.out HT32.out (b := true) (decide_eq_true (Eq.refl T)))) ?_; clear hS M1; rintro r1 w ⟨rfl, hS⟩)
                  | (go_at_call 20; (refine Ret.calls (qwaits_s (p := p) (q := q2) (hS.bring (by repeat (first | exact t0 | apply tS))) HQO2.out) ?_); clear hS; rintro wv2 w hS)
                  | (show wpList _ _ _ (⟨some 71, .slice _ _ _ _ _, _, _, _, _⟩ :: _) _ _; refine wpList_val rfl (op_cut slHash rfl (v := wv) (xs := bys q.waits) rfl ((hS.bring (by repeat (first | exact t0 | apply tS))).getOwn.rd) (l := k) (h := _) (Or.inr rfl) (Or.inl ⟨rfl, rfl⟩) HKLE.out (Nat.le_refl _)) ?_; go_frame)
                  | (go_at_call 17; refine Ret.calls (hS.callNo (sameIds_w (v := wv2) (u := cutV 32 wv k (bys q.waits).length) (l := q2.waits) (m := q2.waits) ((hS.bring (by repeat (first | exact t0 | apply tS))).getOwn.rd) (HCUT.out _ ((hS.bring (by repeat (first | exact t0 | apply tS))).getOwn.rd)) HQO2.out.w32 HQO2.out.w32 (b := true) (decide_eq_true (Eq.refl q2.waits)))) ?_; clear hS; rintro r1 w ⟨rfl, hS⟩)
                  | (show wpList _ _ _ (⟨some 76, .call _, _, _, _, _⟩ :: _) _ _; refine wpList_val rfl (op_len slHash rfl rfl (v := tv) (xs := bys T) rfl ((hS.bring (by repeat (first | exact t0 | apply tS))).getOwn.rd)) ?_; rw [HTL.out]; go_frame)
                  | (show wpList _ _ _ (⟨some 77, .binOp _ _ _ _ _, _, _, _, _⟩ :: _) _ _; refine wpList_val rfl (op_ileq rfl rfl rfl HT32L.out) ?_; go_frame)
                  | (refine fin_mk (by kernel_rfl) ?_)
                  )
                go_ret
                exact ⟨rfl, hS.chg⟩
        · have HC1 : Hid (decide ((k : Int) < (q.waits.length : Int)) = false) := decide_eq_false (by omega)
          obtain ⟨e1, e2⟩ := HFL.out.stop (.inl (by omega))
          rw [HT.out] at e1
          rw [HQ2.out] at e2
          rw [e1] at hS
          clear HTN HFL
          have HCUT : Hid (∀ w : World, Rd 32 w wv (bys q.waits) → Rd 32 w (cutV 32 wv k (bys q.waits).length) (bys q2.waits)) := fun w h => by
            have h1 := h.cutV HKLE.out (Nat.le_refl _)
            rwa [List.take_of_length_le (by simp), ← bys_drop, e2] at h1
          clear e2 e1
          obtain ⟨wt, hwt⟩ : ∃ wt, wt = u8 := ⟨_, rfl⟩
          subst hwt
          go_wp2_with (first
            | (show wpList _ _ _ (⟨some 30, .call _, _, _, _, _⟩ :: _) _ _; refine wpList_val rfl (op_len slHash rfl rfl (v := wv) (xs := bys q.waits) rfl ((hS.bring (by repeat (first | exact t0 | apply tS))).getOwn.rd)) ?_; rw [HWL.out]; go_frame)
            | (show wpList _ _ _ (⟨some 31, .binOp _ _ _ _ _, _, _, _, _⟩ :: _) _ _; refine wpList_val rfl (op_ilss rfl rfl rfl HC1.out) ?_; go_frame)
            | (show wpList _ _ _ (⟨some 53, .call _, _, _, _, _⟩ :: _) _ _; refine wpList_val rfl (op_len slHash rfl rfl (v := tv) (xs := bys T) rfl ((hS.bring (by repeat (first | exact t0 | apply tS))).getOwn.rd)) ?_; rw [HTL.out]; go_frame)
            )
          go_loopw [54] (fun jv wr => ∃ j : Nat, jv = .int .i64 j ∧ j ≤ T.length ∧ SepL All W wr [.own 24 32 wt (bys T), .own 24 32 wv (bys q.waits), .own 24 32 tv (bys T), hQ p q2]) (fun jv _ => T.length - (intOf jv).toNat)
          case atStart => exact ⟨0, rfl, by omega, hS.sel (by repeat (first | exact Sel.refl | refine Sel.take (by repeat (first | exact t0 | apply tS)) ?_ | apply Sel.drop))⟩
          case round =>
            clear hS
            obtain ⟨j, rfl, hj, hS⟩ := hrel
            by_cases hjt : j < T.length
            · have HJL : Hid (j < (bys T).length) := by unfold Hid; rw [HTL.out]; exact hjt
              obtain ⟨x, hx⟩ : ∃ x, T[j] = x := ⟨_, rfl⟩
              have hxm : x ∈ T := by rw [← hx]; exact List.getElem_mem hjt
              have hx32 := HT32.out x hxm
              have HX0 := hide hx32
              have HX32 : Hid ((x.map B8).length = 32) := by simp [Hid, hx32]
              have HX : Hid ((bys T)[j]'HJL.out = x.map B8) := by
                unfold Hid
                rw [bys_get HJL.out hjt, hx]
              have HXK : Hid (decide (x ∈ q2.known) = true) := decide_eq_true (HTK.out x hxm)
              clear hx hxm hx32
              go_wp2_with (first
                | (show wpList _ _ _ (⟨some 56, .indexAddr _ _ _, _, _, _, _⟩ :: _) _ _; refine wpList_val rfl (op_indexAddr slHash rfl (v := tv) (xs := bys T) rfl (k := j) rfl ((hS.bring (by repeat (first | exact t0 | apply tS))).getOwn.rd) HJL.out) ?_; go_frame)
                | (show wpList _ _ _ (⟨some 57, .load _ _, _, _, _, _⟩ :: _) _ _; refine wpList_val rfl (op_loadE aggHash rfl (v := tv) (xs := bys T) (k := j) rfl ((hS.bring (by repeat (first | exact t0 | apply tS))).getOwn.rd) HJL.out) ?_; rw [HX.out]; go_frame)
                | (show wpList _ _ _ (⟨_, .alloc _, _, _, _, _⟩ :: _) _ _; refine wpS_alloc hS rfl rfl Try.zeroValue24 (zs := List.replicate 32 (.int .u8 0)) rfl ?_; clear hS; intro nb w hS; go_frame)
                | (show wpList _ _ _ (⟨_, .store 24 _ _, _, _, _, _⟩ :: _) _ _; (refine wpS_storeAll (b := nb) aggHash (hS.bring (by repeat (first | exact t0 | apply tS))) rfl rfl rfl (vs := x.map B8) rfl HX32.out (flat_B8 x) rfl ?_); clear hS; intro w hS; go_frame)
                | (show wpList _ _ _ (⟨_, .load 24 _, _, _, _, _⟩ :: _) _ _; refine wpList_val rfl (op_load aggHash rfl rfl (SepL.getBlk (b := nb) (T := 24) ((hS.bring (by repeat (first | exact t0 | apply tS))))).cells HX32.out) ?_; go_frame)
                | (go_at_call 22; (refine Ret.calls (qhas_s (p := p) (q := q2) (x := x) (hS.bring (by repeat (first | exact t0 | apply tS))) HX0.out (b := true) HXK) ?_); clear hS; rintro r1 w ⟨rfl, hS⟩)
                )
              go_roundw
              case rel => exact ⟨j + 1, by go_num, by omega, hS.sel (by repeat (first | exact Sel.refl | refine Sel.take (by repeat (first | exact t0 | apply tS)) ?_ | apply Sel.drop))⟩
              case measure => simp [intOf]; omega
            · go_wp2_with fail
              refine wp_region_text (by kernel_rfl) (by kernel_rfl) (by repeat (first | exact Clean.body | refine Clean.then ?_ | refine Clean.inBlock ?_)) ?_
              replace hS := hS.drew
              go_wp2_with (first
                | (have m1 := M1; clear m1; go_at_call 17; refine Ret.calls (hS.callNo (sameIds_w (v := tv) (u := wt) (l := T) (m := T) ((hS.bring (by repeat (first | exact t0 | apply tS))).getOwn.rd) ((hS.bring (by repeat (first | exact t0 | apply tS))).getOwn.rd) HT32.out HT32.out (b := true) (decide_eq_true (Eq.refl T)))) ?_; clear hS M1; rintro r1 w ⟨rfl, hS⟩)
                | (go_at_call 20; (refine Ret.calls (qwaits_s (p := p) (q := q2) (hS.bring (by repeat (first | exact t0 | apply tS))) HQO2.out) ?_); clear hS; rintro wv2 w hS)
                | (show wpList _ _ _ (⟨some 71, .slice _ _ _ _ _, _, _, _, _⟩ :: _) _ _; refine wpList_val rfl (op_cut slHash rfl (v := wv) (xs := bys q.waits) rfl ((hS.bring (by repeat (first | exact t0 | apply tS))).getOwn.rd) (l := k) (h := _) (Or.inr rfl) (Or.inl ⟨rfl, rfl⟩) HKLE.out (Nat.le_refl _)) ?_; go_frame)
                | (go_at_call 17; refine Ret.calls (hS.callNo (sameIds_w (v := wv2) (u := cutV 32 wv k (bys q.waits).length) (l := q2.waits) (m := q2.waits) ((hS.bring (by repeat (first | exact t0 | apply tS))).getOwn.rd) (HCUT.out _ ((hS.bring (by repeat (first | exact t0 | apply tS))).getOwn.rd)) HQO2.out.w32 HQO2.out.w32 (b := true) (decide_eq_true (Eq.refl q2.waits)))) ?_; clear hS; rintro r1 w ⟨rfl, hS⟩)
                | (show wpList _ _ _ (⟨some 76, .call _, _, _, _, _⟩ :: _) _ _; refine wpList_val rfl (op_len slHash rfl rfl (v := tv) (xs := bys T) rfl ((hS.bring (by repeat (first | exact t0 | apply tS))).getOwn.rd)) ?_; rw [HTL.out]; go_frame)
                | (show wpList _ _ _ (⟨some 77, .binOp _ _ _ _ _, _, _, _, _⟩ :: _) _ _; refine wpList_val rfl (op_ileq rfl rfl rfl HT32L.out) ?_; go_frame)
                | (refine fin_mk (by kernel_rfl) ?_)
                )
              go_ret
              exact ⟨rfl, hS.chg⟩
end Go.Proofs.Ytffagjkjeojaaaa
