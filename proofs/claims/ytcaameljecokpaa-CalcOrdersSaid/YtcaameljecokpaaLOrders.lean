/- In whatever order numbers come, their sum is one; it is beyond just where a time stops at the greatest number: the law returns true. Conditions: those that stand ahead of each theorem. -/
import Derived.Test.YtcaameljecokpaaLAmong
namespace Go.Proofs.Ytcaameljecokpaa
open Go.RowKit Go.Px Go.Shelf Go.Calc
theorem later_zero (l : List Nat) : laterN 0 l = min l.sum 18446744073709551615 := by
  unfold laterN
  rw [Nat.zero_add]
theorem sum_same {l m : List Nat} (h : l.sum = m.sum) : sumN l = sumN m ∧ sumE l = sumE m := by
  unfold sumN sumE
  rw [h]
  exact ⟨rfl, rfl⟩
set_option maxRecDepth 100000 in
set_option maxHeartbeats 4000000 in
theorem calcOrders_w {W : World} (v : Value) (ls : List Nat) (hv : RdIn All W 1 v (ls.map fun n => [U n])) (hls : ∀ n ∈ ls, n < 18446744073709551616) :
    Calls Try.prog 9 #[v] W (Ret fun r w' => r = .bool true ∧ Chg No W w') := by
  have hS := SepL.start W
  have HL : Hid ((ls.map fun n => [U n]).length = ls.length) := by simp [Hid]
  have HLS := hide hls
  clear hls
  by_cases hn : (10000 : Int) < ls.length
  · have HG := decT hn
    clear hn
    go_enter Try.func9, Try.ntmps9
    go_wp2_with (first
      | go_big_skip
      | (show wpList _ _ _ (⟨_, .load 22 _, _, _, _, _⟩ :: _) _ _; refine wpList_val rfl (op_load1S oneU ((hS.bring (by repeat (first | exact t0 | apply tS)))) rfl rfl rfl) ?_; go_frame)
      | (go_at_call 11; refine Ret.calls (alive_s hS) ?_; clear hS; rintro r w ⟨rfl, hS⟩)
      | (show wpList _ _ _ (⟨_, .binOp .eql 25 _ _ _, _, _, _, _⟩ :: _) _ _; refine wpList_val rfl (op_eqI rfl rfl rfl rfl) ?_; go_frame)
      | (show wpList _ _ _ (⟨_, .call ⟨.builtin .len, _, _⟩, _, _, _, _⟩ :: _) _ _; refine wpList_val rfl (op_len slTyU rfl rfl rfl (by exact hS.rd hv)) ?_; rw [HL.out]; go_frame)
      | (show wpList _ _ _ (⟨some 14, .binOp _ _ _ _ _, _, _, _, _⟩ :: _) _ _; refine wpList_val rfl (op_igtr rfl rfl rfl HG.out) ?_; go_frame)
      )
    go_ret
    exact ⟨rfl, hS.chg⟩
  · have HG := decF hn
    replace hS := hS.nilOwn 22 1
    go_enter Try.func9, Try.ntmps9
    go_wp2_with (first
      | go_big_skip
      | (show wpList _ _ _ (⟨_, .load 22 _, _, _, _, _⟩ :: _) _ _; refine wpList_val rfl (op_load1S oneU ((hS.bring (by repeat (first | exact t0 | apply tS)))) rfl rfl rfl) ?_; go_frame)
      | (go_at_call 11; refine Ret.calls (alive_s hS) ?_; clear hS; rintro r w ⟨rfl, hS⟩)
      | (show wpList _ _ _ (⟨_, .binOp .eql 25 _ _ _, _, _, _, _⟩ :: _) _ _; refine wpList_val rfl (op_eqI rfl rfl rfl rfl) ?_; go_frame)
      | (show wpList _ _ _ (⟨_, .call ⟨.builtin .len, _, _⟩, _, _, _, _⟩ :: _) _ _; refine wpList_val rfl (op_len slTyU rfl rfl rfl (by exact hS.rd hv)) ?_; rw [HL.out]; go_frame)
      | (show wpList _ _ _ (⟨some 14, .binOp _ _ _ _ _, _, _, _, _⟩ :: _) _ _; refine wpList_val rfl (op_igtr rfl rfl rfl HG.out) ?_; go_frame)
      )
    go_loopw [3, 17] (fun bv i wr => ∃ k : Nat, i = .int .i64 k ∧ k ≤ ls.length ∧ SepL All W wr [.own 22 1 bv ((ls.reverse.take k).map fun n => [U n])]) (fun _ i _ => ls.length - (intOf i).toNat)
    case atStart => exact ⟨0, rfl, by omega, hS.sel (by repeat (first | exact Sel.refl | refine Sel.take (by repeat (first | exact t0 | apply tS)) ?_ | apply Sel.drop))⟩
    case round =>
      clear hS
      obtain ⟨k, rfl, hk, hS⟩ := hrel
      by_cases hlt : k < ls.length
      · have hi : ls.length - 1 - k < ls.length := by omega
        have hi' : ls.length - 1 - k < (ls.map fun n => [U n]).length := by simpa using hi
        have hnx : ls.reverse.take (k + 1) = ls.reverse.take k ++ [ls[ls.length - 1 - k]] := by
          rw [List.take_succ_eq_append_getElem (by simpa using hlt), List.getElem_reverse]
        obtain ⟨x, hx⟩ : ∃ x, ls[ls.length - 1 - k] = x := ⟨_, rfl⟩
        have HX := hide hx
        rw [hx] at hnx
        have hlen : (ls.reverse.take k).length ≤ 10000 := by
          simp
          omega
        obtain ⟨L, hL⟩ : ∃ L, ls.reverse.take k = L := ⟨_, rfl⟩
        obtain ⟨L', hL'⟩ : ∃ L, ls.reverse.take (k + 1) = L := ⟨_, rfl⟩
        rw [hL] at hS hlen hnx
        rw [hL'] at hnx
        have HN := hide hnx
        have HL' := hide hL'
        obtain ⟨j, hj⟩ : ∃ j, ls.length - 1 - k = j := ⟨_, rfl⟩
        obtain ⟨m, hm⟩ : ∃ j, ls.length - 1 = j := ⟨_, rfl⟩
        have HJ1 : Hid ((ls.length : Int) - 1 = (m : Nat)) := by
          unfold Hid
          omega
        have HJ2 : Hid ((m : Int) - (k : Int) = (j : Nat)) := by
          unfold Hid
          omega
        have hmb : m ≤ 9223372036854775807 := by omega
        have hjb : j ≤ 9223372036854775807 := by omega
        rw [hj] at hi hi'
        have HXJ : Hid (ls[j] = x) := by
          subst hj
          exact hx
        clear hL hL' hnx hx HX hj hm
        go_wp2_with (first
          | (show wpList _ _ _ (⟨_, .call ⟨.builtin .len, _, _⟩, _, _, _, _⟩ :: _) _ _; refine wpList_val rfl (op_len slTyU rfl rfl rfl (by exact hS.rd hv)) ?_; rw [HL.out]; go_frame)
          | (show wpList _ _ _ (⟨some 24, .binOp _ _ _ _ _, _, _, _, _⟩ :: _) _ _; refine wpList_val rfl (op_isubN rfl rfl rfl m HJ1.out hmb) ?_; go_frame)
          | (show wpList _ _ _ (⟨some 26, .binOp _ _ _ _ _, _, _, _, _⟩ :: _) _ _; refine wpList_val rfl (op_isubN rfl rfl rfl j HJ2.out hjb) ?_; go_frame)
          | (show wpList _ _ _ (⟨_, .indexAddr 23 _ _, _, _, _, _⟩ :: _) _ _; refine wpList_val rfl (op_indexAddr slTyU rfl rfl (k := j) rfl (by exact hS.rd hv) hi') ?_; go_frame)
          | (show wpList _ _ _ (⟨some 28, .load _ _, _, _, _, _⟩ :: _) _ _; refine wpList_val rfl (op_loadE1 oneU rfl rfl (f := U) (by exact hS.rd hv) hi) ?_; rw [HXJ.out]; go_frame)
          | (show wpList _ _ _ (⟨some 29, .buildSlice _ _ _, _, _, _, _⟩ :: _) _ _; refine wpS_build11 slTyU hS rfl rfl (u := U x) rfl rfl ?_; clear hS; intro v1 w hS; go_frame)
          | (show wpList _ _ _ (⟨_, .call ⟨.builtin .append, _, _⟩, _, _, _, _⟩ :: _) _ _; (refine wpS_append slTyU (hS.bring (by repeat (first | exact t0 | apply tS))) rfl rfl rfl rfl (ys := [[U x]]) ((hS.bring (by repeat (first | exact t0 | apply tS))).getOwn.rd) (by intro q hq u hu; simp at hq; subst hq; simp at hu; subst hu; rfl) (by simp; omega) (by simp [maxLen]; omega) ?_); clear hS; intro v2 w hS; go_frame)
          )
        go_roundw
        case rel => exact ⟨k + 1, by go_num, by omega, by rw [HL'.out, HN.out, List.map_append]; exact hS.sel (by repeat (first | exact Sel.refl | refine Sel.take (by repeat (first | exact t0 | apply tS)) ?_ | apply Sel.drop))⟩
        case measure => simp [intOf]; omega
      · have hk2 : k = ls.length := by omega
        subst hk2
        have hrt : ls.reverse.take ls.length = ls.reverse := List.take_of_length_le (by simp)
        rw [hrt] at hS
        clear hrt
        have hrs : ls.reverse.sum = ls.sum := List.sum_reverse ls
        have HLR : Hid (∀ n ∈ ls.reverse, n < 18446744073709551616) := fun n hn => HLS.out n (List.mem_reverse.1 hn)
        have hz := later_zero ls
        have hz2 := later_zero ls.reverse
        rw [hrs] at hz2
        obtain ⟨a, ha⟩ : ∃ a, Hid (sumN ls = a) := ⟨_, Eq.refl _⟩
        obtain ⟨e, he⟩ : ∃ a, Hid (sumE ls = a) := ⟨_, Eq.refl _⟩
        have hra : Hid (sumN ls.reverse = a) := (sum_same hrs).1.trans ha.out
        have hre : Hid (sumE ls.reverse = e) := (sum_same hrs).2.trans he.out
        obtain ⟨l, hl⟩ : ∃ a, Hid (laterN 0 ls = a) := ⟨_, Eq.refl _⟩
        have hl2 : Hid (laterN 0 ls.reverse = l) := hz2.trans (hz.symm.trans hl.out)
        rw [hl.out] at hz
        have y1 := @sum_yes ls
        have y2 := @sum_no ls
        rw [ha.out, he.out] at y1 y2
        have LV : ∀ {w : World} {F : List Hp}, SepL All W w F → Calls Try.prog 14 #[.int .u64 0, v] w (Ret fun r w' => r = U l ∧ SepL All W w' F) := fun hS => later_s (t := 0) ls hS (hS.rd hv) (by omega) HLS.out hl
        have LB : ∀ {w : World} {bv : Value} {F : List Hp}, SepL All W w (.own 22 1 bv (ls.reverse.map fun n => [U n]) :: F) → Calls Try.prog 14 #[.int .u64 0, bv] w (Ret fun r w' => r = U l ∧ SepL All W w' (.own 22 1 bv (ls.reverse.map fun n => [U n]) :: F)) := fun hS => later_s (t := 0) ls.reverse hS hS.getOwn.rd (by omega) HLR.out hl2
        by_cases hsum : ls.sum < 18446744073709551616
        · obtain ⟨z1, z2⟩ := y1 hsum
          have z3 : l = a := by omega
          subst z2 z3
          have HE : Hid ((((0 : Nat) : Int) != 0) = false) := rfl
          clear y1 y2 hsum hz hz2 hrs z1
          go_wp2_with (first
            | go_big_skip
            | (show wpList _ _ _ (⟨_, .load 22 _, _, _, _, _⟩ :: _) _ _; refine wpList_val rfl (op_load1S oneU ((hS.bring (by repeat (first | exact t0 | apply tS)))) rfl rfl rfl) ?_; go_frame)
            | (go_at_call 11; refine Ret.calls (alive_s hS) ?_; clear hS; rintro r w ⟨rfl, hS⟩)
            | (show wpList _ _ _ (⟨_, .binOp .eql 25 _ _ _, _, _, _, _⟩ :: _) _ _; refine wpList_val rfl (op_eqI rfl rfl rfl rfl) ?_; go_frame)
            | (go_at_call 12; (first | (with_reducible refine Ret.calls (sum_s ls hS (hS.rd hv) HLS.out ha he) ?_) | (with_reducible refine Ret.calls (sum_s ls.reverse hS hS.getOwn.rd HLR.out hra hre) ?_)); clear hS; rintro r w ⟨rfl, hS⟩)
            | (go_at_call 14; (first | (with_reducible refine Ret.calls (LV hS) ?_) | (with_reducible refine Ret.calls (LB hS) ?_)); clear hS; rintro r w ⟨rfl, hS⟩)
            | (show wpList _ _ _ (⟨some 46, .binOp _ _ _ _ _, _, _, _, _⟩ :: _) _ _; refine wpList_val rfl (opU_neq rfl rfl rfl (r := false) (by simp)) ?_; go_frame)
            | (show wpList _ _ _ (⟨some 50, .binOp _ _ _ _ _, _, _, _, _⟩ :: _) _ _; refine wpList_val rfl (op_ineI rfl rfl rfl (r := false) (by simp)) ?_; go_frame)
            | (show wpList _ _ _ (⟨some 56, .binOp _ _ _ _ _, _, _, _, _⟩ :: _) _ _; refine wpList_val rfl (opU_neq rfl rfl rfl (r := false) (by simp)) ?_; go_frame)
            | (show wpList _ _ _ (⟨some 59, .binOp _ _ _ _ _, _, _, _, _⟩ :: _) _ _; refine wpList_val rfl (op_ineI rfl rfl rfl HE.out) ?_; go_frame)
            | (show wpList _ _ _ (⟨some 64, .binOp _ _ _ _ _, _, _, _, _⟩ :: _) _ _; refine wpList_val rfl (opU_eql rfl rfl (b := 0) rfl (r := true) rfl) ?_; go_frame)
            | (show wpList _ _ _ (⟨some 68, .binOp _ _ _ _ _, _, _, _, _⟩ :: _) _ _; refine wpList_val rfl (opU_eql rfl rfl (b := 18446744073709551615) rfl (r := true) (by simp)) ?_; go_frame)
            | (show wpList _ _ _ (⟨some 72, .binOp _ _ _ _ _, _, _, _, _⟩ :: _) _ _; refine wpList_val rfl (opU_eql rfl rfl rfl (r := true) (by simp)) ?_; go_frame)
            )
          go_ret
          exact ⟨rfl, hS.chg⟩
        · obtain ⟨z1, z2⟩ := y2 hsum
          have z3 : l = 18446744073709551615 := by omega
          subst z1 z2 z3
          have HE : Hid ((((3 : Nat) : Int) != 0) = true) := rfl
          clear y1 y2 hsum hz hz2 hrs
          go_wp2_with (first
            | go_big_skip
            | (show wpList _ _ _ (⟨_, .load 22 _, _, _, _, _⟩ :: _) _ _; refine wpList_val rfl (op_load1S oneU ((hS.bring (by repeat (first | exact t0 | apply tS)))) rfl rfl rfl) ?_; go_frame)
            | (go_at_call 11; refine Ret.calls (alive_s hS) ?_; clear hS; rintro r w ⟨rfl, hS⟩)
            | (show wpList _ _ _ (⟨_, .binOp .eql 25 _ _ _, _, _, _, _⟩ :: _) _ _; refine wpList_val rfl (op_eqI rfl rfl rfl rfl) ?_; go_frame)
            | (go_at_call 12; (first | (with_reducible refine Ret.calls (sum_s ls hS (hS.rd hv) HLS.out ha he) ?_) | (with_reducible refine Ret.calls (sum_s ls.reverse hS hS.getOwn.rd HLR.out hra hre) ?_)); clear hS; rintro r w ⟨rfl, hS⟩)
            | (go_at_call 14; (first | (with_reducible refine Ret.calls (LV hS) ?_) | (with_reducible refine Ret.calls (LB hS) ?_)); clear hS; rintro r w ⟨rfl, hS⟩)
            | (show wpList _ _ _ (⟨some 46, .binOp _ _ _ _ _, _, _, _, _⟩ :: _) _ _; refine wpList_val rfl (opU_neq rfl rfl rfl (r := false) (by simp)) ?_; go_frame)
            | (show wpList _ _ _ (⟨some 50, .binOp _ _ _ _ _, _, _, _, _⟩ :: _) _ _; refine wpList_val rfl (op_ineI rfl rfl rfl (r := false) (by simp)) ?_; go_frame)
            | (show wpList _ _ _ (⟨some 56, .binOp _ _ _ _ _, _, _, _, _⟩ :: _) _ _; refine wpList_val rfl (opU_neq rfl rfl rfl (r := false) (by simp)) ?_; go_frame)
            | (show wpList _ _ _ (⟨some 59, .binOp _ _ _ _ _, _, _, _, _⟩ :: _) _ _; refine wpList_val rfl (op_ineI rfl rfl rfl HE.out) ?_; go_frame)
            | (show wpList _ _ _ (⟨some 64, .binOp _ _ _ _ _, _, _, _, _⟩ :: _) _ _; refine wpList_val rfl (opU_eql rfl rfl (b := 0) rfl (r := true) rfl) ?_; go_frame)
            | (show wpList _ _ _ (⟨some 68, .binOp _ _ _ _ _, _, _, _, _⟩ :: _) _ _; refine wpList_val rfl (opU_eql rfl rfl (b := 18446744073709551615) rfl (r := true) (by simp)) ?_; go_frame)
            | (show wpList _ _ _ (⟨some 72, .binOp _ _ _ _ _, _, _, _, _⟩ :: _) _ _; refine wpList_val rfl (opU_eql rfl rfl rfl (r := true) (by simp)) ?_; go_frame)
            )
          go_ret
          exact ⟨rfl, hS.chg⟩
end Go.Proofs.Ytcaameljecokpaa
