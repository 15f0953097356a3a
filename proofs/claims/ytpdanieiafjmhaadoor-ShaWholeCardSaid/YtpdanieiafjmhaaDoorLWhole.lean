/- Padded bytes fill whole blocks, and these are the sum: the law returns true. Conditions: those that stand ahead of each theorem. -/
import Derived.Test.YtpdanieiafjmhaaDoorPad
namespace Go.Proofs.YtpdanieiafjmhaaDoor
open Go.RowKit Go.Px Go.Sha
def tailVs (x1 x2 x3 : Nat) : List Value := [Value.int .u8 0, Value.int .u8 0, Value.int .u8 0, Value.int .u8 0, Value.int .u8 0, B8 (BitVec.ofNat 8 x1), B8 (BitVec.ofNat 8 x2), B8 (BitVec.ofNat 8 x3)]
theorem tailBytes {n x1 x2 x3 : Nat} (h : n ≤ 4000) (h3 : 8 * n = x3) (h1 : x3 / 2 ^ 16 = x1) (h2 : x3 / 2 ^ 8 = x2) : (tailVs x1 x2 x3).map (fun v => v.cells.toList) = bytes (be8 (bitsOf n)) := by
  subst h3 h1 h2
  rw [be8_small h]
  rfl
theorem tailSize {x1 x2 x3 : Nat} : ∀ v ∈ tailVs x1 x2 x3, v.cells.size = 1 := by
  intro v hv
  simp only [tailVs, List.mem_cons, List.not_mem_nil, or_false] at hv
  rcases hv with rfl | rfl | rfl | rfl | rfl | rfl | rfl | rfl <;> rfl
set_option maxRecDepth 100000 in
set_option maxHeartbeats 4000000 in
theorem shaWhole_w {W : World} (hK : CIn All W 0 (kTab.map W32)) (hF : CIn All W 1 (first.map W32)) {vb : Value} {bs : List Byte} (hb : RdIn All W 1 vb (bytes bs)) :
    Calls Tryd.prog 6 #[vb] W (Ret fun r w' => r = .bool true ∧ Chg No W w') := by
  have hS := SepL.start W
  have hc := RdIn.cell1 hb
  obtain ⟨n, hn⟩ : ∃ n, bs.length = n := ⟨_, rfl⟩
  have HN := hide hn
  by_cases hbig : 4000 < n
  · have HD : Hid (decide ((4000 : Int) < (n : Int)) = true) := by
      unfold Hid
      rw [decide_eq_true_iff]
      omega
    clear hbig hn
    go_enter Tryd.func6, Tryd.ntmps6
    go_wp2_with (first
      | (go_at_call 17; refine Ret.calls (alive_s hS hK hF) ?_; clear hS; rintro r w ⟨rfl, hS⟩)
      | (show wpList _ _ _ (⟨_, .alloc 34, _, _, _, _⟩ :: _) _ _; refine wpS_alloc hS rfl rfl zero32b (zs := (List.replicate 32 (0 : Byte)).map B8) rfl ?_; clear hS; intro nb w hS; go_frame)
      | (show wpList _ _ _ (⟨_, .load 34 _, _, _, _, _⟩ :: _) _ _; refine wpList_val rfl (op_load agg32b rfl rfl ((hS.bring (by repeat (first | exact t0 | apply tS))).getBlk.cells) (by rw [List.length_map]; first | exact sum_len _ | exact twice_len _ | exact sumH_len _)) ?_; go_frame)
      | (show wpList _ _ _ (⟨_, .store 34 _ _, _, _, _, _⟩ :: _) _ _; (refine wpS_storeAll agg32b (hS.bring (by repeat (first | exact t0 | apply tS))) rfl rfl rfl (vs := List.map B8 _) rfl (by rw [List.length_map]; first | exact sum_len _ | exact twice_len _ | exact sumH_len _) (B8_one _) (by rw [List.length_map, List.length_replicate]) ?_); clear hS; intro w hS; go_frame)
      | (show wpList _ _ _ (⟨_, .slice 34 _ none none _, _, _, _, _⟩ :: _) _ _; refine wpList_val rfl (op_sliceArr arr32b rfl rfl (l := 0) (h := 32) (Or.inl ⟨rfl, rfl⟩) (Or.inl ⟨rfl, rfl⟩) (by omega) (by omega)) ?_; rw [if_neg (by omega)]; go_frame)
      | (show wpList _ _ _ (⟨some 14, .call _, _, _, _, _⟩ :: _) _ _; refine wpList_val rfl (op_lenB slBytes rfl rfl rfl (hS.rd hb) HN.out) ?_; go_frame)
      | (show wpList _ _ _ (⟨some 15, .binOp .gtr _ _ _ _, _, _, _, _⟩ :: _) _ _; refine wpList_val rfl (op_igtr rfl rfl rfl HD.out) ?_; go_frame)
      )
    go_ret
    exact ⟨rfl, hS.chg⟩
  · have HD : Hid (decide ((4000 : Int) < (n : Int)) = false) := by
      unfold Hid
      rw [decide_eq_false_iff_not]
      omega
    have hn4 : n ≤ 4000 := by omega
    have HB : Hid (bs.length < 4611686018427386000) := by
      unfold Hid
      omega
    have HFB : Hid (Flat (bytes bs)) := flat_bytes bs
    clear hbig
    go_enter Tryd.func6, Tryd.ntmps6
    go_wp2_with (first
      | (go_at_call 17; refine Ret.calls (alive_s hS hK hF) ?_; clear hS; rintro r w ⟨rfl, hS⟩)
      | (show wpList _ _ _ (⟨_, .alloc 34, _, _, _, _⟩ :: _) _ _; refine wpS_alloc hS rfl rfl zero32b (zs := (List.replicate 32 (0 : Byte)).map B8) rfl ?_; clear hS; intro nb w hS; go_frame)
      | (show wpList _ _ _ (⟨_, .load 34 _, _, _, _, _⟩ :: _) _ _; refine wpList_val rfl (op_load agg32b rfl rfl ((hS.bring (by repeat (first | exact t0 | apply tS))).getBlk.cells) (by rw [List.length_map]; first | exact sum_len _ | exact twice_len _ | exact sumH_len _)) ?_; go_frame)
      | (show wpList _ _ _ (⟨_, .store 34 _ _, _, _, _, _⟩ :: _) _ _; (refine wpS_storeAll agg32b (hS.bring (by repeat (first | exact t0 | apply tS))) rfl rfl rfl (vs := List.map B8 _) rfl (by rw [List.length_map]; first | exact sum_len _ | exact twice_len _ | exact sumH_len _) (B8_one _) (by rw [List.length_map, List.length_replicate]) ?_); clear hS; intro w hS; go_frame)
      | (show wpList _ _ _ (⟨_, .slice 34 _ none none _, _, _, _, _⟩ :: _) _ _; refine wpList_val rfl (op_sliceArr arr32b rfl rfl (l := 0) (h := 32) (Or.inl ⟨rfl, rfl⟩) (Or.inl ⟨rfl, rfl⟩) (by omega) (by omega)) ?_; rw [if_neg (by omega)]; go_frame)
      | (show wpList _ _ _ (⟨some 14, .call _, _, _, _, _⟩ :: _) _ _; refine wpList_val rfl (op_lenB slBytes rfl rfl rfl (hS.rd hb) HN.out) ?_; go_frame)
      | (show wpList _ _ _ (⟨some 15, .binOp .gtr _ _ _ _, _, _, _, _⟩ :: _) _ _; refine wpList_val rfl (op_igtr rfl rfl rfl HD.out) ?_; go_frame)
      | (show wpList _ _ _ (⟨some 16, .buildSlice _ 0 _, _, _, _, _⟩ :: _) _ _; refine wpS_build0 slBytes hS rfl rfl ?_; clear hS; intro v16 w hS; go_frame)
      | (show wpList _ _ _ (⟨some 18, .call _, _, _, _, _⟩ :: _) _ _; (refine wpS_append slBytes (hS.bring (by repeat (first | exact t0 | apply tS))) rfl rfl rfl rfl (hS.rd hb) HFB.out (by rw [bytes_len, HN.out, List.length_nil]; omega) (by rw [bytes_len, HN.out, List.length_nil]; simp only [maxLen]; omega) ?_); clear hS; intro v18 w hS; rw [List.nil_append] at hS; go_frame)
      | (show wpList _ _ _ (⟨some 19, .buildSlice _ 1 _, _, _, _, _⟩ :: _) _ _; refine wpS_build11 slBytes hS rfl rfl rfl rfl ?_; clear hS; intro v19 w hS; rw [b80] at hS; go_frame)
      | (show wpList _ _ _ (⟨some 20, .call _, _, _, _, _⟩ :: _) _ _; (refine wpS_append slBytes (hS.bring (by repeat (first | exact t0 | apply tS))) rfl rfl rfl rfl ((hS.bring (by repeat (first | exact t0 | apply tS))).getOwn.rd) (flat_bytes _) (by rw [bytes_len, bytes_len, HN.out]; simp only [List.length_cons, List.length_nil]; omega) (by rw [bytes_len, bytes_len, HN.out]; simp only [List.length_cons, List.length_nil, maxLen]; omega) ?_); clear hS; intro v20 w hS; rw [← bytes_app, padTo_zero] at hS; go_frame)
      )
    have hl64 : lack (n + 1) < 64 := by unfold lack; omega
    go_loopw [3] (fun u wr => ∃ j : Nat, j ≤ lack (n + 1) ∧ SepL All W wr [.own 5 1 u (bytes (padTo bs j))]) (fun u _ => lack (slLen u))
    case atStart => exact ⟨0, by omega, hS.sel (by repeat (first | exact Sel.refl | refine Sel.take (by repeat (first | exact t0 | apply tS)) ?_ | apply Sel.drop))⟩
    case round =>
      clear hS
      obtain ⟨j, hj, hS⟩ := hrel
      obtain ⟨L, hL⟩ : ∃ L, n + 1 + j = L := ⟨_, rfl⟩
      obtain ⟨r, hr⟩ : ∃ r, L % 64 = r := ⟨_, rfl⟩
      have HR := hide hr
      have HL : Hid ((padTo bs j).length = L) := by
        unfold Hid
        rw [padTo_len, hn, hL]
      have HPS := hide (padTo_succ bs j)
      have HSL : Hid (slLen u3 = L) := by
        unfold Hid
        obtain ⟨A, c, e, _⟩ := hS.getOwn.rd.form
        rw [e]
        show (bytes (padTo bs j)).length = _
        rw [bytes_len, HL.out]
      have hlk : lack (n + 1) = (120 - (n + 1) % 64) % 64 := rfl
      by_cases hc56 : r = 56
      · subst hc56
        have hjj : j = lack (n + 1) := by omega
        have HPA : Hid (padTo bs j ++ be8 (bitsOf n) = padded bs) := by
          unfold Hid
          rw [hjj, ← hn]
          exact padTo_all bs
        obtain ⟨q, hq⟩ : ∃ q, (padded bs).length = 64 * q := ⟨(padded bs).length / 64, by have := padded_length bs; omega⟩
        have hsum := sum_blocks bs
        rw [hq, Nat.mul_div_cancel_left q (by omega)] at hsum
        have hM : (padded bs).length = L + 8 := by rw [padded_len2, hn]; omega
        obtain ⟨x3, hx3⟩ : ∃ x, 8 * n = x := ⟨_, rfl⟩
        obtain ⟨x1, hx1⟩ : ∃ x, x3 / 2 ^ 16 = x := ⟨_, rfl⟩
        obtain ⟨x2, hx2⟩ : ∃ x, x3 / 2 ^ 8 = x := ⟨_, rfl⟩
        have HTB := hide (tailBytes hn4 hx3 hx1 hx2)
        have HTS : Hid (∀ v ∈ tailVs x1 x2 x3, v.cells.size = 1) := tailSize
        have HX1 := hide hx1
        have HX2 := hide hx2
        have HB8 := hide (be8_length (bitsOf n))
        clear hlk hx1 hx2 hr
        generalize padded bs = PD at *
        go_wp2_with (first
          | (show wpList _ _ _ (⟨some 22, .call _, _, _, _, _⟩ :: _) _ _; refine wpList_val rfl (op_lenB slBytes rfl rfl rfl ((hS.bring (by repeat (first | exact t0 | apply tS))).getOwn.rd) HL.out) ?_; go_frame)
          | (show wpList _ _ _ (⟨some 23, .binOp .rem _ _ _ _, _, _, _, _⟩ :: _) _ _; refine wpList_val rfl (op_iremN rfl rfl (b := 64) rfl (by omega)) ?_; rw [HR.out]; go_frame)
          | (show wpList _ _ _ (⟨some 29, .call _, _, _, _, _⟩ :: _) _ _; refine wpList_val rfl (op_lenB slBytes rfl rfl rfl (hS.rd hb) HN.out) ?_; go_frame)
          | (show wpList _ _ _ (⟨some 30, .binOp _ _ _ _ _, _, _, _, _⟩ :: _) _ _; refine wpList_val rfl (op_imulN rfl rfl rfl x3 (by omega) (by omega)) ?_; go_frame)
          | (show wpList _ _ _ (⟨some 33, .binOp _ _ _ _ _, _, _, _, _⟩ :: _) _ _; refine wpList_val rfl (op_ishrN rfl rfl (c := 16) rfl (by omega)) ?_; rw [HX1.out]; go_frame)
          | (show wpList _ _ _ (⟨some 36, .binOp _ _ _ _ _, _, _, _, _⟩ :: _) _ _; refine wpList_val rfl (op_ishrN rfl rfl (c := 8) rfl (by omega)) ?_; rw [HX2.out]; go_frame)
          | (show wpList _ _ _ (⟨_, .convert 3 5 _, _, _, _, _⟩ :: _) _ _; refine wpList_val rfl (op_natTo8 undInt undU8 rfl rfl) ?_; go_frame)
          | (show wpList _ _ _ (⟨some 40, .buildSlice _ _ _, _, _, _, _⟩ :: _) _ _; refine wpS_buildL slBytes hS rfl rfl (tailVs x1 x2 x3) rfl rfl (by omega) (by omega) HTS.out ?_; clear hS; intro v40 w hS; rw [HTB.out] at hS; go_frame)
          | (show wpList _ _ _ (⟨some 41, .call _, _, _, _, _⟩ :: _) _ _; (refine wpS_append slBytes (hS.bring (by repeat (first | exact t0 | apply tS))) rfl rfl rfl rfl ((hS.bring (by repeat (first | exact t0 | apply tS))).getOwn.rd) (flat_bytes _) (by rw [bytes_len, bytes_len, HL.out, HB8.out]; omega) (by rw [bytes_len, bytes_len, HL.out, HB8.out]; simp only [maxLen]; omega) ?_); clear hS; intro v41 w hS; rw [← bytes_app, HPA.out] at hS; go_frame)
          | (go_at_call 24; refine Ret.calls (rfirst_s hS) ?_; clear hS; rintro r w ⟨rfl, hS⟩)
          | (show wpList _ _ _ (⟨_, .alloc 23, _, _, _, _⟩ :: _) _ _; refine wpS_alloc hS rfl rfl zero8w (zs := (List.replicate 8 (0 : Word)).map W32) rfl ?_; clear hS; intro n5 w hS; go_frame)
          | (show wpList _ _ _ (⟨_, .store 23 _ _, _, _, _, _⟩ :: _) _ _; (refine wpS_storeAll agg8w (hS.bring (by repeat (first | exact t0 | apply tS))) rfl rfl rfl (vs := firstSt.list.map W32) rfl rfl (oneW _) rfl ?_); clear hS; intro w hS; go_frame)
          )
        obtain ⟨M, hMM⟩ : ∃ M, PD.length = M := ⟨_, rfl⟩
        have HPL := hide hMM
        have hMq : M = 64 * q := by omega
        have hMs : M ≤ 5000 := by omega
        clear HPA HL HSL HPS HTB HTS HX1 HX2 hM
        go_loopw [6] (fun i wr => ∃ k i0 : Nat, i = .int .i64 i0 ∧ i0 = 64 * k ∧ k ≤ q ∧ SepL All W wr [.blk n5 23 ((blocks firstSt PD k).list.map W32), .own 5 1 v41 (bytes PD)]) (fun i _ => M - (intOf i).toNat)
        case atStart => exact ⟨0, 0, rfl, rfl, by omega, hS.sel (by repeat (first | exact Sel.refl | refine Sel.take (by repeat (first | exact t0 | apply tS)) ?_ | apply Sel.drop))⟩
        case round =>
          clear hS
          obtain ⟨k, i0, rfl, hi0, hk, hS⟩ := hrel
          by_cases hlt : i0 < M
          · obtain ⟨ch, hch⟩ : ∃ c, (PD.drop i0).take 64 = c := ⟨_, rfl⟩
            have hcl : ch.length = 64 := by
              rw [← hch, List.length_take, List.length_drop]
              omega
            obtain ⟨e0, he0⟩ : ∃ e, i0 + 64 = e := ⟨_, rfl⟩
            have HCH : Hid ((PD.drop i0).take (e0 - i0) = ch) := by
              unfold Hid
              rw [← hch, ← he0, Nat.add_sub_cancel_left]
            have HBS : Hid (compress (blocks firstSt PD k) ch = blocks firstSt PD (k + 1)) := by
              unfold Hid
              rw [← hch, hi0]
              rfl
            generalize blocks firstSt PD k = st at *
            have HCL := hide hcl
            have HC64 : Hid ((ch.map B8).length = 64) := by
              unfold Hid
              rw [List.length_map, hcl]
            have HZ64 : Hid (((List.replicate 64 (0 : Byte)).map B8).length = 64) := rfl
            clear hch hcl
            go_wp2_with (first
              | (show wpList _ _ _ (⟨some 45, .call _, _, _, _, _⟩ :: _) _ _; refine wpList_val rfl (op_lenB slBytes rfl rfl rfl ((hS.bring (by repeat (first | exact t0 | apply tS))).getOwn.rd) HPL.out) ?_; go_frame)
              | (show wpList _ _ _ (⟨_, .alloc 24, _, _, _, _⟩ :: _) _ _; refine wpS_alloc hS rfl rfl zero64b (zs := (List.replicate 64 (0 : Byte)).map B8) rfl ?_; clear hS; intro n7 w hS; go_frame)
              )
            refine wp_region_text (by kernel_rfl) (by kernel_rfl) (by repeat (first | exact Clean.body | refine Clean.then ?_ | refine Clean.inBlock ?_)) ?_
            replace hS := hS.drew
            go_wp2_with (first
              | (show wpList _ _ _ (⟨some 49, .slice _ _ _ _ _, _, _, _, _⟩ :: _) _ _; refine wpList_val rfl (op_sliceArr arr64b rfl rfl (l := 0) (h := 64) (Or.inl ⟨rfl, rfl⟩) (Or.inl ⟨rfl, rfl⟩) (by omega) (by omega)) ?_; rw [if_neg (by omega)]; go_frame)
              | (show wpList _ _ _ (⟨some 53, .binOp _ _ _ _ _, _, _, _, _⟩ :: _) _ _; refine wpList_val rfl (op_iaddN rfl rfl rfl e0 (by omega) (by omega)) ?_; go_frame)
              | (show wpList _ _ _ (⟨some 54, .slice _ _ _ _ _, _, _, _, _⟩ :: _) _ _; refine wpList_val rfl (op_cut slBytes rfl rfl ((hS.bring (by repeat (first | exact t0 | apply tS))).getOwn.rd) (l := i0) (h := e0) (Or.inr rfl) (Or.inr rfl) (by omega) (by rw [bytes_len, HPL.out]; omega)) ?_; go_frame)
              | (show wpList _ _ _ (⟨some 55, .call _, _, _, _, _⟩ :: _) _ _; (refine wpS_copyArr undBytes sizeU8 (hS.bring (by repeat (first | exact t0 | apply tS))) rfl rfl rfl rfl (cut_rd ((hS.bring (by repeat (first | exact t0 | apply tS))).getOwn.rd) (by omega) (by rw [HPL.out]; omega) HCH.out) (oneB _) (by rw [HZ64.out]; omega) ?_); clear hS; intro w k' hk' hS; rw [copied64 HC64.out HZ64.out hk'] at hS; clear hk'; go_frame)
              )
            refine fin_mk (by kernel_rfl) ?_
            go_wp2_with (first
              | (show wpList _ _ _ (⟨some 48, .binOp _ _ _ _ _, _, _, _, _⟩ :: _) _ _; refine wpList_val rfl (op_iaddN rfl rfl rfl e0 (by omega) (by omega)) ?_; go_frame)
              | (show wpList _ _ _ (⟨_, .load 23 _, _, _, _, _⟩ :: _) _ _; refine wpList_val rfl (op_load agg8w rfl rfl ((hS.bring (by repeat (first | exact t0 | apply tS))).getBlk.cells) rfl) ?_; go_frame)
              | (show wpList _ _ _ (⟨_, .load 24 _, _, _, _, _⟩ :: _) _ _; refine wpList_val rfl (op_load agg64b rfl rfl ((hS.bring (by repeat (first | exact t0 | apply tS))).getBlk.cells) HC64.out) ?_; go_frame)
              | (go_at_call 18; refine Ret.calls (block_s hS hK st ch HCL.out) ?_; clear hS; rintro r w ⟨rfl, hS⟩; rw [HBS.out])
              | (show wpList _ _ _ (⟨_, .store 23 _ _, _, _, _, _⟩ :: _) _ _; (refine wpS_storeAll agg8w (hS.bring (by repeat (first | exact t0 | apply tS))) rfl rfl rfl (vs := (blocks firstSt PD (k + 1)).list.map W32) rfl rfl (oneW _) rfl ?_); clear hS; intro w hS; go_frame)
              )
            go_roundw
            case rel => exact ⟨k + 1, e0, rfl, by omega, by omega, hS.sel (by repeat (first | exact Sel.refl | refine Sel.take (by repeat (first | exact t0 | apply tS)) ?_ | apply Sel.drop))⟩
            case measure => simp [intOf]; omega
          · have hkq : k = q := by omega
            subst hkq
            obtain ⟨st, hst⟩ : ∃ s, blocks firstSt PD k = s := ⟨_, rfl⟩
            rw [hst] at hS hsum
            have HWD : ∀ (j : Nat) (h : j < st.list.length), ((sum bs).getD (4 * j) 0).setWidth 32 <<< 24 ||| ((sum bs).getD (4 * j + 1) 0).setWidth 32 <<< 16 ||| ((sum bs).getD (4 * j + 2) 0).setWidth 32 <<< 8 ||| ((sum bs).getD (4 * j + 3) 0).setWidth 32 = st.list[j] := fun j h => by
              rw [hsum]
              exact digest_word st h
            clear hst hsum
            go_wp2_with (first
              | (show wpList _ _ _ (⟨some 45, .call _, _, _, _, _⟩ :: _) _ _; refine wpList_val rfl (op_lenB slBytes rfl rfl rfl ((hS.bring (by repeat (first | exact t0 | apply tS))).getOwn.rd) HPL.out) ?_; go_frame)
              | (show wpList _ _ _ (⟨some 60, .buildSlice _ _ _, _, _, _, _⟩ :: _) _ _; refine wpS_build11 slPieces hS rfl rfl rfl hc ?_; clear hS; intro v2 w hS; go_frame)
              | (go_at_call 23; refine Ret.calls (sum_arg1 hS hK hF hb HB.out) ?_; clear hS; rintro r w ⟨rfl, hS⟩)
              | (show wpList _ _ _ (⟨_, .load 23 _, _, _, _, _⟩ :: _) _ _; refine wpList_val rfl (op_load agg8w rfl rfl ((hS.bring (by repeat (first | exact t0 | apply tS))).getBlk.cells) rfl) ?_; go_frame)
              | (go_at_call 17; refine Ret.calls (alive_s hS hK hF) ?_; clear hS; rintro r w ⟨rfl, hS⟩)
              | (show wpList _ _ _ (⟨_, .alloc 34, _, _, _, _⟩ :: _) _ _; refine wpS_alloc hS rfl rfl zero32b (zs := (List.replicate 32 (0 : Byte)).map B8) rfl ?_; clear hS; intro nb w hS; go_frame)
              | (show wpList _ _ _ (⟨_, .load 34 _, _, _, _, _⟩ :: _) _ _; refine wpList_val rfl (op_load agg32b rfl rfl ((hS.bring (by repeat (first | exact t0 | apply tS))).getBlk.cells) (by rw [List.length_map]; first | exact sum_len _ | exact twice_len _ | exact sumH_len _)) ?_; go_frame)
              | (show wpList _ _ _ (⟨_, .store 34 _ _, _, _, _, _⟩ :: _) _ _; (refine wpS_storeAll agg32b (hS.bring (by repeat (first | exact t0 | apply tS))) rfl rfl rfl (vs := List.map B8 _) rfl (by rw [List.length_map]; first | exact sum_len _ | exact twice_len _ | exact sumH_len _) (B8_one _) (by rw [List.length_map, List.length_replicate]) ?_); clear hS; intro w hS; go_frame)
              | (show wpList _ _ _ (⟨_, .slice 34 _ none none _, _, _, _, _⟩ :: _) _ _; refine wpList_val rfl (op_sliceArr arr32b rfl rfl (l := 0) (h := 32) (Or.inl ⟨rfl, rfl⟩) (Or.inl ⟨rfl, rfl⟩) (by omega) (by omega)) ?_; rw [if_neg (by omega)]; go_frame)
              )
            go_loopw [63] (fun i wr => ∃ k : Nat, i = .int .i64 k ∧ k ≤ 8 ∧ SepL All W wr [.blk nb 34 ((sum bs).map B8)]) (fun i _ => 8 - (intOf i).toNat)
            case atStart => exact ⟨0, rfl, by omega, hS.sel (by repeat (first | exact Sel.refl | refine Sel.take (by repeat (first | exact t0 | apply tS)) ?_ | apply Sel.drop))⟩
            case round =>
              clear hS
              obtain ⟨m, rfl, hm, hS⟩ := hrel
              by_cases hlm : m < 8
              · have hks : m < st.list.length := by rw [st_list_len]; exact hlm
                have hwd := HWD m hks
                obtain ⟨c0, hc0⟩ : ∃ c, 4 * m = c := ⟨_, rfl⟩
                obtain ⟨c1, hc1⟩ : ∃ c, c0 + 1 = c := ⟨_, rfl⟩
                obtain ⟨c2, hc2⟩ : ∃ c, c0 + 2 = c := ⟨_, rfl⟩
                obtain ⟨c3, hc3⟩ : ∃ c, c0 + 3 = c := ⟨_, rfl⟩
                rw [hc0, hc1, hc2, hc3] at hwd
                have HWK := hide hwd
                have hl32 := sum_len bs
                have HL32 := hide hl32
                clear hwd hl32
                go_wp2_with (first
                  | (show wpList _ _ _ (⟨some 66, .index _ _ _, _, _, _, _⟩ :: _) _ _; refine wpList_val rfl (op_indexV arr8w rfl (f := W32) (us := st.list) rfl (st_list_len _) rfl hks) ?_; go_frame)
                  )
                refine wp_region_text (by kernel_rfl) (by kernel_rfl) (by repeat (first | exact Clean.body | refine Clean.then ?_ | refine Clean.inBlock ?_)) ?_
                replace hS := hS.drew
                go_wp2_with (first
                  | (show wpList _ _ _ (⟨_, .binOp .mul _ _ _ _, _, _, _, _⟩ :: _) _ _; refine wpList_val rfl (op_imulN rfl rfl rfl c0 (by omega) (by omega)) ?_; go_frame)
                  | (show wpList _ _ _ (⟨some 75, .binOp _ _ _ _ _, _, _, _, _⟩ :: _) _ _; refine wpList_val rfl (op_iaddN rfl rfl rfl c1 (by omega) (by omega)) ?_; go_frame)
                  | (show wpList _ _ _ (⟨some 83, .binOp _ _ _ _ _, _, _, _, _⟩ :: _) _ _; refine wpList_val rfl (op_iaddN rfl rfl rfl c2 (by omega) (by omega)) ?_; go_frame)
                  | (show wpList _ _ _ (⟨some 91, .binOp _ _ _ _ _, _, _, _, _⟩ :: _) _ _; refine wpList_val rfl (op_iaddN rfl rfl rfl c3 (by omega) (by omega)) ?_; go_frame)
                  | (show wpList _ _ _ (⟨some 69, .indexAddr _ _ _, _, _, _, _⟩ :: _) _ _; refine wpList_val rfl (op_indexArr arr32b rfl rfl (k := c0) rfl (by omega)) ?_; rw [Nat.zero_add]; go_frame)
                  | (show wpList _ _ _ (⟨some 76, .indexAddr _ _ _, _, _, _, _⟩ :: _) _ _; refine wpList_val rfl (op_indexArr arr32b rfl rfl (k := c1) rfl (by omega)) ?_; rw [Nat.zero_add]; go_frame)
                  | (show wpList _ _ _ (⟨some 84, .indexAddr _ _ _, _, _, _, _⟩ :: _) _ _; refine wpList_val rfl (op_indexArr arr32b rfl rfl (k := c2) rfl (by omega)) ?_; rw [Nat.zero_add]; go_frame)
                  | (show wpList _ _ _ (⟨some 92, .indexAddr _ _ _, _, _, _, _⟩ :: _) _ _; refine wpList_val rfl (op_indexArr arr32b rfl rfl (k := c3) rfl (by omega)) ?_; rw [Nat.zero_add]; go_frame)
                  | (show wpList _ _ _ (⟨_, .load 5 _, _, _, _, _⟩ :: _) _ _; refine wpList_val rfl (op_loadB oneU8 ((hS.bring (by repeat (first | exact t0 | apply tS)))) rfl rfl (by rw [HL32.out]; omega)) ?_; go_frame)
                  | (show wpList _ _ _ (⟨_, .convert 5 22 _, _, _, _, _⟩ :: _) _ _; refine wpList_val rfl (op_8to32 undU8 undU32 rfl rfl) ?_; go_frame)
                  | (show wpList _ _ _ (⟨some 72, .binOp _ _ _ _ _, _, _, _, _⟩ :: _) _ _; refine wpList_val rfl (op_shl32 rfl rfl (c := 24) rfl) ?_; go_frame)
                  | (show wpList _ _ _ (⟨some 79, .binOp _ _ _ _ _, _, _, _, _⟩ :: _) _ _; refine wpList_val rfl (op_shl32 rfl rfl (c := 16) rfl) ?_; go_frame)
                  | (show wpList _ _ _ (⟨some 87, .binOp _ _ _ _ _, _, _, _, _⟩ :: _) _ _; refine wpList_val rfl (op_shl32 rfl rfl (c := 8) rfl) ?_; go_frame)
                  | (show wpList _ _ _ (⟨_, .binOp .or 22 _ _ _, _, _, _, _⟩ :: _) _ _; refine wpList_val rfl (op_bin32 rfl rfl rfl rfl) ?_; go_frame)
                  | (show wpList _ _ _ (⟨some 97, .binOp _ _ _ _ _, _, _, _, _⟩ :: _) _ _; refine wpList_val rfl (op_ne32 rfl rfl rfl HWK.out) ?_; go_frame)
                  )
                refine fin_mk (by kernel_rfl) ?_
                go_wp2_with fail
                go_roundw
                case rel => exact ⟨m + 1, by go_num, by omega, hS⟩
                case measure => simp [intOf]; omega
              · have hm2 : m = 8 := by omega
                subst hm2
                go_wp2_with fail
                go_ret
                exact ⟨rfl, hS.chg⟩
      · have HC : Hid (((r : Int) != 56) = true) := by
          unfold Hid
          rw [bne_iff_ne]
          omega
        have hjj : j < lack (n + 1) := by omega
        have hln : lack (slLen u3) = lack (n + 1) - j := by
          rw [HSL.out]
          unfold lack at *
          omega
        have HLN := hide hln
        clear hlk hr hln
        go_wp2_with (first
          | (show wpList _ _ _ (⟨some 22, .call _, _, _, _, _⟩ :: _) _ _; refine wpList_val rfl (op_lenB slBytes rfl rfl rfl ((hS.bring (by repeat (first | exact t0 | apply tS))).getOwn.rd) HL.out) ?_; go_frame)
          | (show wpList _ _ _ (⟨some 23, .binOp .rem _ _ _ _, _, _, _, _⟩ :: _) _ _; refine wpList_val rfl (op_iremN rfl rfl (b := 64) rfl (by omega)) ?_; rw [HR.out]; go_frame)
          | (show wpList _ _ _ (⟨some 24, .binOp _ _ _ _ _, _, _, _, _⟩ :: _) _ _; refine wpList_val rfl (op_ineI rfl rfl rfl HC.out) ?_; go_frame)
          | (show wpList _ _ _ (⟨some 26, .buildSlice _ _ _, _, _, _, _⟩ :: _) _ _; refine wpS_build11 slBytes hS rfl rfl rfl rfl ?_; clear hS; intro v26 w hS; rw [b00] at hS; go_frame)
          | (show wpList _ _ _ (⟨some 27, .call _, _, _, _, _⟩ :: _) _ _; (refine wpS_append slBytes (hS.bring (by repeat (first | exact t0 | apply tS))) rfl rfl rfl rfl ((hS.bring (by repeat (first | exact t0 | apply tS))).getOwn.rd) (flat_bytes _) (by rw [bytes_len, bytes_len, HL.out]; simp only [List.length_cons, List.length_nil]; omega) (by rw [bytes_len, bytes_len, HL.out]; simp only [List.length_cons, List.length_nil, maxLen]; omega) ?_); clear hS; intro v27 w hS; rw [← bytes_app, HPS.out] at hS; go_frame)
          )
        have HS2 : Hid (slLen v27 = L + 1) := by
          unfold Hid
          obtain ⟨A, c, e, _⟩ := hS.getOwn.rd.form
          rw [e]
          show (bytes (padTo bs (j + 1))).length = _
          rw [bytes_len, padTo_len, hn]
          omega
        go_roundw
        case rel => exact ⟨j + 1, by omega, hS.sel (by repeat (first | exact Sel.refl | refine Sel.take (by repeat (first | exact t0 | apply tS)) ?_ | apply Sel.drop))⟩
        case measure =>
          rw [HLN.out, HS2.out]
          unfold lack at *
          omega
end Go.Proofs.YtpdanieiafjmhaaDoor
