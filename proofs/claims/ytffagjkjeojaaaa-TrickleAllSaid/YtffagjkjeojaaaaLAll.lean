/- What is put and is there is all told in a few turns, in order, but what was known: the law returns true. Conditions: those that stand ahead of each theorem. -/
import Derived.Test.YtffagjkjeojaaaaLAl
namespace Go.Proofs.Ytffagjkjeojaaaa
open Go.RowKit Go.Px
theorem wantL_take {K P : List Id} {k : Nat} (hk : k < P.length) (h1 : P[k] ∉ K) (h2 : P[k] ∉ P.drop (k + 1)) : wantL K (P.drop k) = P[k] :: wantL K (P.drop (k + 1)) := by
  rw [List.drop_eq_getElem_cons hk]
  exact if_pos ⟨h1, h2⟩
theorem wantL_skip {K P : List Id} {k : Nat} (hk : k < P.length) (h : ¬ (P[k] ∉ K ∧ P[k] ∉ P.drop (k + 1))) : wantL K (P.drop k) = wantL K (P.drop (k + 1)) := by
  rw [List.drop_eq_getElem_cons hk]
  exact if_neg h
theorem learn_mem {K : List Id} (hK : K.length ≤ 64) (x : Id) : x ∈ (learnQ ⟨[], []⟩ K).known ↔ x ∈ K := by
  constructor
  · intro h
    rcases mem_adds (l := K) (L := []) h with h | h
    · cases h
    · exact h
  · intro h
    exact adds_keep hK (L := []) (l := K) (by simp) (by simp) (fun z hz => hz) x (.inr h)
structure AllOk (q2 q3 q4 : Qu) (P W A B : List Id) : Prop where
  t1 : told q2 P = A
  t2 : told q3 P = B
  ab : A ++ B = W
  w4 : q4.waits = []
  t3 : told q4 P = []
theorem all_ok {q2 : Qu} {P W : List Id} (hw : q2.waits = W) (h64 : W.length ≤ 64) (hP : ∀ x ∈ W, x ∈ P) : AllOk q2 (flushQ q2 P) (flushQ (flushQ q2 P) P) P W (W.take 32) ((W.drop 32).take 32) := by
  have e1 : tells P 0 W = (W.take 32, W.drop 32) := tells_all (by omega) hP
  have e2 : tells P 0 (W.drop 32) = ((W.drop 32).take 32, (W.drop 32).drop 32) := tells_all (by omega) fun x hx => hP x (List.mem_of_mem_drop hx)
  have w3 : (flushQ q2 P).waits = W.drop 32 := by
    show (tells P 0 q2.waits).2 = _
    rw [hw, e1]
  have w4 : (flushQ (flushQ q2 P) P).waits = [] := by
    show (tells P 0 (flushQ q2 P).waits).2 = _
    rw [w3, e2]
    exact List.drop_eq_nil_of_le (by rw [List.length_drop]; omega)
  refine ⟨?_, ?_, ?_, w4, ?_⟩
  · unfold told
    rw [hw, e1]
  · unfold told
    rw [w3, e2]
  · rw [List.take_of_length_le (l := W.drop 32) (by rw [List.length_drop]; omega), List.take_append_drop]
  · unfold told
    rw [w4]
    rfl
set_option maxRecDepth 100000 in
set_option maxHeartbeats 8000000 in
theorem trickleAll_w {W : World} {vk vp : Value} {K P : List Id} (hk1 : Rd 32 W vk (bys K)) (hK : Is32 K) (hp1 : Rd 32 W vp (bys P)) (hP : Is32 P) :
    Calls Try.prog 7 #[vk, vp] W (Ret fun r w' => r = .bool true ∧ Chg No W w') := by
  have hS := SepL.start W
  have hk0 := RdIn.of hk1
  have hp0 := RdIn.of hp1
  have HKN : Hid ((bys K).length = K.length) := bys_length _
  have HPN : Hid ((bys P).length = P.length) := bys_length _
  have HK32 := hide hK
  have HP32 := hide hP
  clear hk1 hp1
  by_cases hk64 : 64 < K.length
  · have HG : Hid (decide ((64 : Int) < (K.length : Int)) = true) := decide_eq_true (by omega)
    clear hk64 hK hP
    go_enter Try.func7, Try.ntmps7
    go_wp2_with (first
      | go_big_skip
      | (go_at_call 9; refine Ret.calls (alive_s hS) ?_; clear hS; rintro r w ⟨rfl, hS⟩)
      | (go_at_call 10; refine Ret.calls (great_s hS hv HGR.out) ?_; clear hS; rintro r w ⟨rfl, hS⟩)
      | (show wpList _ _ _ (⟨some 14, .call _, _, _, _, _⟩ :: _) _ _; refine wpList_val rfl (op_len slHash rfl rfl (v := vk) (xs := bys K) rfl (by exact hS.rd hk0)) ?_; rw [HKN.out]; go_frame)
      | (show wpList _ _ _ (⟨some 15, .binOp _ _ _ _ _, _, _, _, _⟩ :: _) _ _; refine wpList_val rfl (op_igtr rfl rfl rfl HG.out) ?_; go_frame)
      | (show wpList _ _ _ (⟨some 18, .call _, _, _, _, _⟩ :: _) _ _; refine wpList_val rfl (op_len slHash rfl rfl (v := vp) (xs := bys P) rfl (by exact hS.rd hp0)) ?_; rw [HPN.out]; go_frame)
      | (show wpList _ _ _ (⟨some 19, .binOp _ _ _ _ _, _, _, _, _⟩ :: _) _ _; refine wpList_val rfl (op_igtr rfl rfl rfl HG2.out) ?_; go_frame)
      )
    go_ret
    exact ⟨rfl, hS.chg⟩
  · have HG : Hid (decide ((64 : Int) < (K.length : Int)) = false) := decide_eq_false (by omega)
    by_cases hp300 : 300 < P.length
    · have HG2 : Hid (decide ((300 : Int) < (P.length : Int)) = true) := decide_eq_true (by omega)
      clear hk64 hp300 hK hP
      go_enter Try.func7, Try.ntmps7
      go_wp2_with (first
        | go_big_skip
        | (go_at_call 9; refine Ret.calls (alive_s hS) ?_; clear hS; rintro r w ⟨rfl, hS⟩)
        | (go_at_call 10; refine Ret.calls (great_s hS hv HGR.out) ?_; clear hS; rintro r w ⟨rfl, hS⟩)
        | (show wpList _ _ _ (⟨some 14, .call _, _, _, _, _⟩ :: _) _ _; refine wpList_val rfl (op_len slHash rfl rfl (v := vk) (xs := bys K) rfl (by exact hS.rd hk0)) ?_; rw [HKN.out]; go_frame)
        | (show wpList _ _ _ (⟨some 15, .binOp _ _ _ _ _, _, _, _, _⟩ :: _) _ _; refine wpList_val rfl (op_igtr rfl rfl rfl HG.out) ?_; go_frame)
        | (show wpList _ _ _ (⟨some 18, .call _, _, _, _, _⟩ :: _) _ _; refine wpList_val rfl (op_len slHash rfl rfl (v := vp) (xs := bys P) rfl (by exact hS.rd hp0)) ?_; rw [HPN.out]; go_frame)
        | (show wpList _ _ _ (⟨some 19, .binOp _ _ _ _ _, _, _, _, _⟩ :: _) _ _; refine wpList_val rfl (op_igtr rfl rfl rfl HG2.out) ?_; go_frame)
        )
      go_ret
      exact ⟨rfl, hS.chg⟩
    · have HG2 : Hid (decide ((300 : Int) < (P.length : Int)) = false) := decide_eq_false (by omega)
      have hpl : P.length ≤ 300 := by omega
      have HKF : Hid (K.length ≤ 100000) := by unfold Hid; omega
      obtain ⟨q1, hq1⟩ : ∃ q, learnQ ⟨[], []⟩ K = q := ⟨_, rfl⟩
      have HQ1 := hide hq1
      have hqo1 : QOk q1 := by rw [← hq1]; exact QOk.nil.learn hK
      have HQO1 := hide hqo1
      obtain ⟨q2, hq2⟩ : ∃ q, putQ q1 P = q := ⟨_, rfl⟩
      have HQ2 := hide hq2
      have hqo2 : QOk q2 := by rw [← hq2]; exact hqo1.put hP
      have HQO2 := hide hqo2
      obtain ⟨W0, hW0⟩ : ∃ W0, wantL K P = W0 := ⟨_, rfl⟩
      have HW0 := hide hW0
      have HWN : Hid ((bys W0).length = W0.length) := bys_length _
      have hwp : ∀ x ∈ W0, x ∈ P := fun x hx => by
        rw [← hW0] at hx
        exact (mem_wantL.1 hx).1
      have HW32 : Hid (Is32 W0) := fun x hx => hP x (hwp x hx)
      have hok : W0.length ≤ 64 → ∃ q3 q4 A B, flushQ q2 P = q3 ∧ flushQ q3 P = q4 ∧ AllOk q2 q3 q4 P W0 A B := by
        intro h64
        have hput := put_want (q := q1) (known := K) (put := P) (by rw [← hq1]; exact learn_mem (by omega)) (by rw [← hq1]; rfl) (by rw [hW0]; exact h64) P.length (Nat.le_refl _)
        rw [List.take_length, hq2, hW0] at hput
        exact ⟨_, _, _, _, rfl, rfl, all_ok (by rw [hput]) h64 hwp⟩
      have HOKA := hide hok
      obtain ⟨M2, hM2⟩ : ∃ m : Nat, m = 0 := ⟨0, rfl⟩
      obtain ⟨M3, hM3⟩ : ∃ m : Nat, m = 0 := ⟨0, rfl⟩
      clear hM2 hM3 hq1 hqo1 hq2 hqo2 hW0 hwp hok hK hP hk64 hp300
      go_enter Try.func7, Try.ntmps7
      go_wp2_with (first
        | go_big_skip
        | (go_at_call 9; refine Ret.calls (alive_s hS) ?_; clear hS; rintro r w ⟨rfl, hS⟩)
        | (go_at_call 10; refine Ret.calls (great_s hS hv HGR.out) ?_; clear hS; rintro r w ⟨rfl, hS⟩)
        | (show wpList _ _ _ (⟨some 14, .call _, _, _, _, _⟩ :: _) _ _; refine wpList_val rfl (op_len slHash rfl rfl (v := vk) (xs := bys K) rfl (by exact hS.rd hk0)) ?_; rw [HKN.out]; go_frame)
        | (show wpList _ _ _ (⟨some 15, .binOp _ _ _ _ _, _, _, _, _⟩ :: _) _ _; refine wpList_val rfl (op_igtr rfl rfl rfl HG.out) ?_; go_frame)
        | (show wpList _ _ _ (⟨some 18, .call _, _, _, _, _⟩ :: _) _ _; refine wpList_val rfl (op_len slHash rfl rfl (v := vp) (xs := bys P) rfl (by exact hS.rd hp0)) ?_; rw [HPN.out]; go_frame)
        | (show wpList _ _ _ (⟨some 19, .binOp _ _ _ _ _, _, _, _, _⟩ :: _) _ _; refine wpList_val rfl (op_igtr rfl rfl rfl HG2.out) ?_; go_frame)
        | (go_at_call 11; refine Ret.calls (qnew_s hS) ?_; clear hS; rintro r w ⟨p, rfl, hS⟩)
        | (go_at_call 15; refine Ret.calls (qlearn_s (p := p) (q := ⟨[], []⟩) (l := K) hS QOk.nil hk0 HK32.out HKF.out) ?_; clear hS; rintro r1 w hS; rw [HQ1.out] at hS)
        | (go_at_call 13; refine Ret.calls (qput_s (p := p) (q0 := q1) (l := P) hS HQO1.out hp0 HP32.out) ?_; clear hS; rintro r1 w hS; rw [HQ2.out] at hS)
        | (show wpList _ _ _ (⟨some 29, .call _, _, _, _, _⟩ :: _) _ _; refine wpList_val rfl (op_len slHash rfl rfl (v := vp) (xs := bys P) rfl (by exact hS.rd hp0)) ?_; rw [HPN.out]; go_frame)
        )
      go_loopw [6, 30] (fun sv iv wr => ∃ (k : Nat) (t : List Id), iv = .int .i64 k ∧ k ≤ P.length ∧ t.length ≤ k ∧ Hid (t ++ wantL K (P.drop k) = W0) ∧ SepL All W wr [.own 24 32 sv (bys t), hQ p q2]) (fun _ iv _ => P.length - (intOf iv).toNat)
      case atStart => exact ⟨0, [], rfl, by omega, by simp, HW0.out, (hS.nilOwn 24 32).sel (by repeat (first | exact Sel.refl | refine Sel.take (by repeat (first | exact t0 | apply tS)) ?_ | apply Sel.drop))⟩
      case round =>
        clear hS
        obtain ⟨k, t, rfl, hk, ht, HWK, hS⟩ := hrel
        by_cases hlt : k < P.length
        · have HKL : Hid (k < (bys P).length) := by unfold Hid; rw [HPN.out]; exact hlt
          have HKLE : Hid (k + 1 ≤ (bys P).length) := HKL.out
          obtain ⟨x, hx⟩ : ∃ x, P[k] = x := ⟨_, rfl⟩
          have hx32 := HP32.out x (by rw [← hx]; exact List.getElem_mem hlt)
          have HX0 := hide hx32
          have HX32 : Hid ((x.map B8).length = 32) := by simp [Hid, hx32]
          have HX : Hid ((bys P)[k]'HKL.out = x.map B8) := by
            unfold Hid
            rw [bys_get HKL.out hlt, hx]
          have HPD32 : Hid (Is32 (P.drop (k + 1))) := HP32.out.sub (List.drop_sublist (k + 1) P)
          have HCUT : Hid (∀ w : World, Rd 32 w vp (bys P) → Rd 32 w (cutV 32 vp (k + 1) (bys P).length) (bys (P.drop (k + 1)))) := fun w h => by
            have h1 := h.cutV HKLE.out (Nat.le_refl _)
            rwa [List.take_of_length_le (by simp), ← bys_drop] at h1
          have HA1 : Hid (((bys t).length + (bys [x]).length) * 32 ≤ 140737488355328) := by
            unfold Hid
            rw [bys_length, bys_length, List.length_singleton]
            omega
          have HA2 : Hid ((bys t).length + (bys [x]).length ≤ maxLen) := by
            unfold Hid maxLen
            rw [bys_length, bys_length, List.length_singleton]
            omega
          have HTL : Hid ((t ++ [x]).length ≤ k + 1) := by unfold Hid; rw [List.length_append, List.length_singleton]; omega
          obtain ⟨M1, hM1⟩ : ∃ m : Nat, m = 0 := ⟨0, rfl⟩
          clear hM1
          by_cases hm : x ∈ K
          · have HMK : Hid (decide (x ∈ K) = true) := decide_eq_true hm
            have HWN2 : Hid (t ++ wantL K (P.drop (k + 1)) = W0) := by
              unfold Hid
              rw [← wantL_skip hlt (by rw [hx]; exact fun c => c.1 hm)]
              exact HWK.out
            clear hx hx32 hm
            go_wp2_with (first
              | (show wpList _ _ _ (⟨some 33, .indexAddr _ _ _, _, _, _, _⟩ :: _) _ _; refine wpList_val rfl (op_indexAddr slHash rfl (v := vp) (xs := bys P) rfl (k := k) rfl (by exact hS.rd hp0) HKL.out) ?_; go_frame)
              | (show wpList _ _ _ (⟨some 34, .load _ _, _, _, _, _⟩ :: _) _ _; refine wpList_val rfl (op_loadE aggHash rfl (v := vp) (xs := bys P) (k := k) rfl (by exact hS.rd hp0) HKL.out) ?_; rw [HX.out]; go_frame)
              | (show wpList _ _ _ (⟨_, .alloc _, _, _, _, _⟩ :: _) _ _; refine wpS_alloc hS rfl rfl Try.zeroValue24 (zs := List.replicate 32 (.int .u8 0)) rfl ?_; clear hS; intro nb w hS; go_frame)
              | (show wpList _ _ _ (⟨_, .store 24 _ _, _, _, _, _⟩ :: _) _ _; (refine wpS_storeAll (b := nb) aggHash (hS.bring (by repeat (first | exact t0 | apply tS))) rfl rfl rfl (vs := x.map B8) rfl HX32.out (flat_B8 x) rfl ?_); clear hS; intro w hS; go_frame)
              )
            refine wp_region_text (by kernel_rfl) (by kernel_rfl) (by repeat (first | exact Clean.body | refine Clean.then ?_ | refine Clean.inBlock ?_)) ?_
            replace hS := hS.drew
            go_wp2_with (first
              | go_big_skip
              | (show wpList _ _ _ (⟨_, .load 24 _, _, _, _, _⟩ :: _) _ _; refine wpList_val rfl (op_load aggHash rfl rfl (SepL.getBlk (b := nb) (T := 24) ((hS.bring (by repeat (first | exact t0 | apply tS))))).cells HX32.out) ?_; go_frame)
              | (have m1 := M1; clear m1; go_at_call 25; refine Ret.calls (hS.callNo (has11_w (v := vk) (l := K) (x := x) (hS.rd hk0) HK32.out HX0.out HMK)) ?_; clear hS M1; rintro r1 w ⟨rfl, hS⟩)
              | (show wpList _ _ _ (⟨some 42, .binOp _ _ _ _ _, _, _, _, _⟩ :: _) _ _; refine wpList_val rfl (op_iaddN rfl rfl rfl (k + 1) (by omega) (by omega)) ?_; go_frame)
              | (show wpList _ _ _ (⟨some 43, .slice _ _ _ _ _, _, _, _, _⟩ :: _) _ _; refine wpList_val rfl (op_cut slHash rfl (v := vp) (xs := bys P) rfl (by exact hS.rd hp0) (l := k + 1) (h := _) (Or.inr rfl) (Or.inl ⟨rfl, rfl⟩) HKLE.out (Nat.le_refl _)) ?_; go_frame)
              | (go_at_call 25; refine Ret.calls (hS.callNo (has11_w (v := cutV 32 vp (k + 1) (bys P).length) (l := P.drop (k + 1)) (x := x) (HCUT.out _ (hS.rd hp0)) HPD32.out HX0.out HMP)) ?_; clear hS; rintro r1 w ⟨rfl, hS⟩)
              | (refine fin_mk (by kernel_rfl) ?_)
              | (show wpList _ _ _ (⟨some 50, .buildSlice _ _ _, _, _, _, _⟩ :: _) _ _; refine wpS_build1A slHash (by omega) hS rfl rfl (cs := x.map B8) rfl HX32.out ?_; clear hS; intro v50 w hS; go_frame)
              | (show wpList _ _ _ (⟨some 51, .call _, _, _, _, _⟩ :: _) _ _; (refine wpS_append slHash (hS.bring (by repeat (first | exact t0 | apply tS))) rfl rfl (sv := u6) (xs := bys t) (xv := v50) rfl rfl (ys := bys [x]) ((hS.bring (by repeat (first | exact t0 | apply tS))).getOwn.rd) (flat_bys _) HA1.out HA2.out ?_); clear hS; intro v51 w hS; rw [← bys_app] at hS; go_frame)
              )
            go_roundw
            case rel => exact ⟨k + 1, t, by go_num, by omega, by omega, HWN2, hS.sel (by repeat (first | exact Sel.refl | refine Sel.take (by repeat (first | exact t0 | apply tS)) ?_ | apply Sel.drop))⟩
            case measure => simp [intOf]; omega
          · have HMK : Hid (decide (x ∈ K) = false) := decide_eq_false hm
            by_cases hd : x ∈ P.drop (k + 1)
            · have HMP : Hid (decide (x ∈ P.drop (k + 1)) = true) := decide_eq_true hd
              have HWN2 : Hid (t ++ wantL K (P.drop (k + 1)) = W0) := by
                unfold Hid
                rw [← wantL_skip hlt (by rw [hx]; exact fun c => c.2 hd)]
                exact HWK.out
              clear hx hx32 hm hd
              go_wp2_with (first
                | (show wpList _ _ _ (⟨some 33, .indexAddr _ _ _, _, _, _, _⟩ :: _) _ _; refine wpList_val rfl (op_indexAddr slHash rfl (v := vp) (xs := bys P) rfl (k := k) rfl (by exact hS.rd hp0) HKL.out) ?_; go_frame)
                | (show wpList _ _ _ (⟨some 34, .load _ _, _, _, _, _⟩ :: _) _ _; refine wpList_val rfl (op_loadE aggHash rfl (v := vp) (xs := bys P) (k := k) rfl (by exact hS.rd hp0) HKL.out) ?_; rw [HX.out]; go_frame)
                | (show wpList _ _ _ (⟨_, .alloc _, _, _, _, _⟩ :: _) _ _; refine wpS_alloc hS rfl rfl Try.zeroValue24 (zs := List.replicate 32 (.int .u8 0)) rfl ?_; clear hS; intro nb w hS; go_frame)
                | (show wpList _ _ _ (⟨_, .store 24 _ _, _, _, _, _⟩ :: _) _ _; (refine wpS_storeAll (b := nb) aggHash (hS.bring (by repeat (first | exact t0 | apply tS))) rfl rfl rfl (vs := x.map B8) rfl HX32.out (flat_B8 x) rfl ?_); clear hS; intro w hS; go_frame)
                )
              refine wp_region_text (by kernel_rfl) (by kernel_rfl) (by repeat (first | exact Clean.body | refine Clean.then ?_ | refine Clean.inBlock ?_)) ?_
              replace hS := hS.drew
              go_wp2_with (first
                | go_big_skip
                | (show wpList _ _ _ (⟨_, .load 24 _, _, _, _, _⟩ :: _) _ _; refine wpList_val rfl (op_load aggHash rfl rfl (SepL.getBlk (b := nb) (T := 24) ((hS.bring (by repeat (first | exact t0 | apply tS))))).cells HX32.out) ?_; go_frame)
                | (have m1 := M1; clear m1; go_at_call 25; refine Ret.calls (hS.callNo (has11_w (v := vk) (l := K) (x := x) (hS.rd hk0) HK32.out HX0.out HMK)) ?_; clear hS M1; rintro r1 w ⟨rfl, hS⟩)
                | (show wpList _ _ _ (⟨some 42, .binOp _ _ _ _ _, _, _, _, _⟩ :: _) _ _; refine wpList_val rfl (op_iaddN rfl rfl rfl (k + 1) (by omega) (by omega)) ?_; go_frame)
                | (show wpList _ _ _ (⟨some 43, .slice _ _ _ _ _, _, _, _, _⟩ :: _) _ _; refine wpList_val rfl (op_cut slHash rfl (v := vp) (xs := bys P) rfl (by exact hS.rd hp0) (l := k + 1) (h := _) (Or.inr rfl) (Or.inl ⟨rfl, rfl⟩) HKLE.out (Nat.le_refl _)) ?_; go_frame)
                | (go_at_call 25; refine Ret.calls (hS.callNo (has11_w (v := cutV 32 vp (k + 1) (bys P).length) (l := P.drop (k + 1)) (x := x) (HCUT.out _ (hS.rd hp0)) HPD32.out HX0.out HMP)) ?_; clear hS; rintro r1 w ⟨rfl, hS⟩)
                | (refine fin_mk (by kernel_rfl) ?_)
                | (show wpList _ _ _ (⟨some 50, .buildSlice _ _ _, _, _, _, _⟩ :: _) _ _; refine wpS_build1A slHash (by omega) hS rfl rfl (cs := x.map B8) rfl HX32.out ?_; clear hS; intro v50 w hS; go_frame)
                | (show wpList _ _ _ (⟨some 51, .call _, _, _, _, _⟩ :: _) _ _; (refine wpS_append slHash (hS.bring (by repeat (first | exact t0 | apply tS))) rfl rfl (sv := u6) (xs := bys t) (xv := v50) rfl rfl (ys := bys [x]) ((hS.bring (by repeat (first | exact t0 | apply tS))).getOwn.rd) (flat_bys _) HA1.out HA2.out ?_); clear hS; intro v51 w hS; rw [← bys_app] at hS; go_frame)
                )
              go_roundw
              case rel => exact ⟨k + 1, t, by go_num, by omega, by omega, HWN2, hS.sel (by repeat (first | exact Sel.refl | refine Sel.take (by repeat (first | exact t0 | apply tS)) ?_ | apply Sel.drop))⟩
              case measure => simp [intOf]; omega
            · have HMP : Hid (decide (x ∈ P.drop (k + 1)) = false) := decide_eq_false hd
              have HWN2 : Hid ((t ++ [x]) ++ wantL K (P.drop (k + 1)) = W0) := by
                unfold Hid
                have h := HWK.out
                rw [wantL_take hlt (by rw [hx]; exact hm) (by rw [hx]; exact hd), hx] at h
                rw [List.append_assoc]
                exact h
              clear hx hx32 hm hd
              go_wp2_with (first
                | (show wpList _ _ _ (⟨some 33, .indexAddr _ _ _, _, _, _, _⟩ :: _) _ _; refine wpList_val rfl (op_indexAddr slHash rfl (v := vp) (xs := bys P) rfl (k := k) rfl (by exact hS.rd hp0) HKL.out) ?_; go_frame)
                | (show wpList _ _ _ (⟨some 34, .load _ _, _, _, _, _⟩ :: _) _ _; refine wpList_val rfl (op_loadE aggHash rfl (v := vp) (xs := bys P) (k := k) rfl (by exact hS.rd hp0) HKL.out) ?_; rw [HX.out]; go_frame)
                | (show wpList _ _ _ (⟨_, .alloc _, _, _, _, _⟩ :: _) _ _; refine wpS_alloc hS rfl rfl Try.zeroValue24 (zs := List.replicate 32 (.int .u8 0)) rfl ?_; clear hS; intro nb w hS; go_frame)
                | (show wpList _ _ _ (⟨_, .store 24 _ _, _, _, _, _⟩ :: _) _ _; (refine wpS_storeAll (b := nb) aggHash (hS.bring (by repeat (first | exact t0 | apply tS))) rfl rfl rfl (vs := x.map B8) rfl HX32.out (flat_B8 x) rfl ?_); clear hS; intro w hS; go_frame)
                )
              refine wp_region_text (by kernel_rfl) (by kernel_rfl) (by repeat (first | exact Clean.body | refine Clean.then ?_ | refine Clean.inBlock ?_)) ?_
              replace hS := hS.drew
              go_wp2_with (first
                | go_big_skip
                | (show wpList _ _ _ (⟨_, .load 24 _, _, _, _, _⟩ :: _) _ _; refine wpList_val rfl (op_load aggHash rfl rfl (SepL.getBlk (b := nb) (T := 24) ((hS.bring (by repeat (first | exact t0 | apply tS))))).cells HX32.out) ?_; go_frame)
                | (have m1 := M1; clear m1; go_at_call 25; refine Ret.calls (hS.callNo (has11_w (v := vk) (l := K) (x := x) (hS.rd hk0) HK32.out HX0.out HMK)) ?_; clear hS M1; rintro r1 w ⟨rfl, hS⟩)
                | (show wpList _ _ _ (⟨some 42, .binOp _ _ _ _ _, _, _, _, _⟩ :: _) _ _; refine wpList_val rfl (op_iaddN rfl rfl rfl (k + 1) (by omega) (by omega)) ?_; go_frame)
                | (show wpList _ _ _ (⟨some 43, .slice _ _ _ _ _, _, _, _, _⟩ :: _) _ _; refine wpList_val rfl (op_cut slHash rfl (v := vp) (xs := bys P) rfl (by exact hS.rd hp0) (l := k + 1) (h := _) (Or.inr rfl) (Or.inl ⟨rfl, rfl⟩) HKLE.out (Nat.le_refl _)) ?_; go_frame)
                | (go_at_call 25; refine Ret.calls (hS.callNo (has11_w (v := cutV 32 vp (k + 1) (bys P).length) (l := P.drop (k + 1)) (x := x) (HCUT.out _ (hS.rd hp0)) HPD32.out HX0.out HMP)) ?_; clear hS; rintro r1 w ⟨rfl, hS⟩)
                | (refine fin_mk (by kernel_rfl) ?_)
                | (show wpList _ _ _ (⟨some 50, .buildSlice _ _ _, _, _, _, _⟩ :: _) _ _; refine wpS_build1A slHash (by omega) hS rfl rfl (cs := x.map B8) rfl HX32.out ?_; clear hS; intro v50 w hS; go_frame)
                | (show wpList _ _ _ (⟨some 51, .call _, _, _, _, _⟩ :: _) _ _; (refine wpS_append slHash (hS.bring (by repeat (first | exact t0 | apply tS))) rfl rfl (sv := u6) (xs := bys t) (xv := v50) rfl rfl (ys := bys [x]) ((hS.bring (by repeat (first | exact t0 | apply tS))).getOwn.rd) (flat_bys _) HA1.out HA2.out ?_); clear hS; intro v51 w hS; rw [← bys_app] at hS; go_frame)
                )
              go_roundw
              case rel => exact ⟨k + 1, t ++ [x], by go_num, by omega, HTL.out, HWN2, hS.sel (by repeat (first | exact Sel.refl | refine Sel.take (by repeat (first | exact t0 | apply tS)) ?_ | apply Sel.drop))⟩
              case measure => simp [intOf]; omega
        · have hw := HWK.out
          rw [List.drop_eq_nil_of_le (by omega)] at hw
          replace hw : t = W0 := by rw [← hw]; exact (List.append_nil t).symm
          rw [hw] at hS
          clear hw HWK
          by_cases h64 : 64 < W0.length
          · have HGW : Hid (decide ((64 : Int) < (W0.length : Int)) = true) := decide_eq_true (by omega)
            clear h64
            go_wp2_with (first
              | (show wpList _ _ _ (⟨some 54, .call _, _, _, _, _⟩ :: _) _ _; refine wpList_val rfl (op_len slHash rfl rfl (v := u6) (xs := bys W0) rfl ((hS.bring (by repeat (first | exact t0 | apply tS))).getOwn.rd)) ?_; rw [HWN.out]; go_frame)
              | (show wpList _ _ _ (⟨some 55, .binOp _ _ _ _ _, _, _, _, _⟩ :: _) _ _; refine wpList_val rfl (op_igtr rfl rfl rfl HGW.out) ?_; go_frame)
              )
            go_ret
            exact ⟨rfl, hS.chg⟩
          · have HGW : Hid (decide ((64 : Int) < (W0.length : Int)) = false) := decide_eq_false (by omega)
            obtain ⟨q3, q4, A, B, hf1, hf2, hao⟩ := HOKA.out (by omega)
            have HF1 := hide hf1
            have HF2 := hide hf2
            have HT1 := hide hao.t1
            have HT2 := hide hao.t2
            have HT3 := hide hao.t3
            have HQO3 : Hid (QOk q3) := by unfold Hid; rw [← hf1]; exact HQO2.out.flush
            have HQO4 : Hid (QOk q4) := by unfold Hid; rw [← hf2]; exact HQO3.out.flush
            have HAB : Hid (bys A ++ bys B = bys W0) := by unfold Hid; rw [← bys_app, hao.ab]
            have hlab : A.length + B.length = W0.length := by rw [← hao.ab, List.length_append]
            have HB1 : Hid (((bys A).length + (bys B).length) * 32 ≤ 140737488355328) := by
              unfold Hid
              rw [bys_length, bys_length]
              omega
            have HB2 : Hid ((bys A).length + (bys B).length ≤ maxLen) := by
              unfold Hid maxLen
              rw [bys_length, bys_length]
              omega
            have HW4 : Hid ((bys q4.waits).length = 0) := by unfold Hid; rw [hao.w4]; rfl
            have HL0 : Hid ((bys ([] : List Id)).length = 0) := rfl
            clear hf1 hf2 hao hlab h64
            go_wp2_with (first
              | (show wpList _ _ _ (⟨some 54, .call _, _, _, _, _⟩ :: _) _ _; refine wpList_val rfl (op_len slHash rfl rfl (v := u6) (xs := bys W0) rfl ((hS.bring (by repeat (first | exact t0 | apply tS))).getOwn.rd)) ?_; rw [HWN.out]; go_frame)
              | (show wpList _ _ _ (⟨some 55, .binOp _ _ _ _ _, _, _, _, _⟩ :: _) _ _; refine wpList_val rfl (op_igtr rfl rfl rfl HGW.out) ?_; go_frame)
              | go_big_skip
              | (have m1 := M2; clear m1; go_at_call 18; (refine Ret.calls (qflush_s (p := p) (q := q2) (l := P) (hS.bring (by repeat (first | exact t0 | apply tS))) HQO2.out hp0 HP32.out) ?_); clear hS M2; rintro av w hS; rw [HT1.out, HF1.out] at hS)
              | (have m1 := M3; clear m1; go_at_call 18; (refine Ret.calls (qflush_s (p := p) (q := q3) (l := P) (hS.bring (by repeat (first | exact t0 | apply tS))) HQO3.out hp0 HP32.out) ?_); clear hS M3; rintro bv w hS; rw [HT2.out, HF2.out] at hS)
              | (show wpList _ _ _ (⟨some 64, .call _, _, _, _, _⟩ :: _) _ _; (refine wpS_append slHash (hS.bring (by repeat (first | exact t0 | apply tS))) rfl rfl (sv := av) (xs := bys A) (xv := bv) rfl rfl (ys := bys B) ((hS.bring (by repeat (first | exact t0 | apply tS))).getOwn.rd) (flat_bys _) HB1.out HB2.out ?_); clear hS; intro v64 w hS; rw [HAB.out] at hS; go_frame)
              | (go_at_call 17; refine Ret.calls (hS.callNo (sameIds_w (v := v64) (u := u6) (l := W0) (m := W0) ((hS.bring (by repeat (first | exact t0 | apply tS))).getOwn.rd) ((hS.bring (by repeat (first | exact t0 | apply tS))).getOwn.rd) HW32.out HW32.out (b := true) (decide_eq_true (Eq.refl W0)))) ?_; clear hS; rintro r1 w ⟨rfl, hS⟩)
              | (go_at_call 20; (refine Ret.calls (qwaits_s (p := p) (q := q4) (hS.bring (by repeat (first | exact t0 | apply tS))) HQO4.out) ?_); clear hS; rintro wv w hS)
              | (show wpList _ _ _ (⟨some 70, .call _, _, _, _, _⟩ :: _) _ _; refine wpList_val rfl (op_len slHash rfl rfl (v := wv) (xs := bys q4.waits) rfl ((hS.bring (by repeat (first | exact t0 | apply tS))).getOwn.rd)) ?_; rw [HW4.out]; go_frame)
              | (show wpList _ _ _ (⟨some 71, .binOp _ _ _ _ _, _, _, _, _⟩ :: _) _ _; refine wpList_val rfl (op_eqI' (r := true) rfl rfl rfl rfl) ?_; go_frame)
              | (go_at_call 18; (refine Ret.calls (qflush_s (p := p) (q := q4) (l := P) (hS.bring (by repeat (first | exact t0 | apply tS))) HQO4.out hp0 HP32.out) ?_); clear hS; rintro cv w hS; rw [HT3.out] at hS)
              | (show wpList _ _ _ (⟨some 77, .call _, _, _, _, _⟩ :: _) _ _; refine wpList_val rfl (op_len slHash rfl rfl (v := cv) (xs := bys []) rfl ((hS.bring (by repeat (first | exact t0 | apply tS))).getOwn.rd)) ?_; rw [HL0.out]; go_frame)
              | (show wpList _ _ _ (⟨some 78, .binOp _ _ _ _ _, _, _, _, _⟩ :: _) _ _; refine wpList_val rfl (op_eqI' (r := true) rfl rfl rfl rfl) ?_; go_frame)
              )
            go_ret
            exact ⟨rfl, hS.chg⟩
end Go.Proofs.Ytffagjkjeojaaaa
