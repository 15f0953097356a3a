/- What bytes cost is enough, and one less isn't: the law returns true. Conditions: those that stand ahead of each theorem. -/
import Derived.Test.YtcaameljecokpaaLAmong
namespace Go.Proofs.Ytcaameljecokpaa
open Go.RowKit Go.Px Go.Shelf Go.Calc
theorem cmp_ge {p q : Nat} : 0 ≤ cmpN p q ↔ q ≤ p := by
  unfold cmpN
  split
  · omega
  · split <;> omega
theorem cmp_neg {p q : Nat} : cmpN p q < 0 ↔ p < q := by
  unfold cmpN
  split
  · omega
  · split <;> omega
theorem needC_eq (x n : Nat) : needC x n = (x * n + 999) / 1000 := by
  unfold needC
  rfl
set_option maxRecDepth 100000 in
set_option maxHeartbeats 4000000 in
theorem calcNeeds_w {W : World} (x : Nat) (hx : x < 18446744073709551616) (n : Nat) (hn : n < 18446744073709551616) :
    Calls Try.prog 8 #[U x, U n] W (Ret fun r w' => r = .bool true ∧ Chg No W w') := by
  have hS := SepL.start W
  have hc := needC_eq x n
  obtain ⟨q, hqc⟩ : ∃ q, needC x n = q := ⟨_, rfl⟩
  rw [hqc] at hc
  have f1 := @need_far x n
  have f2 := @need_near x n
  rw [hqc] at f1 f2
  by_cases hg : q < 18446744073709551616
  · have hq := hide (f2 hg).1
    have he := hide (f2 hg).2
    have HE : Hid ((((0 : Nat) : Int) != 0) = false) := rfl
    obtain ⟨y, hy⟩ : ∃ y, Hid (cmpN (q * 1000) (x * n) = y) := ⟨_, Eq.refl _⟩
    have hle : 0 ≤ y := by
      rw [← hy.out, cmp_ge]
      generalize x * n = N at *
      omega
    have H1 := decT hle
    have C1 : ∀ {w : World} {F : List Hp}, SepL All W w F → Calls Try.prog 20 #[U q, .int .u64 1000, U x, U n] w (Ret fun r w' => r = .int .i64 y ∧ SepL All W w' F) := fun hS => cmp_s (b := 1000) hS hg (by omega) hx hn hy
    by_cases hqm : q = 0
    · have H2 : Hid ((q == 0) = true) := by
        rw [hqm]
        rfl
      clear f1 f2 hqc hc hy hle hqm
      go_enter Try.func8, Try.ntmps8
      go_wp2_with (first
        | go_big_skip
        | (show wpList _ _ _ (⟨_, .load 22 _, _, _, _, _⟩ :: _) _ _; refine wpList_val rfl (op_load1S oneU ((hS.bring (by repeat (first | exact t0 | apply tS)))) rfl rfl rfl) ?_; go_frame)
        | (go_at_call 11; refine Ret.calls (alive_s hS) ?_; clear hS; rintro r w ⟨rfl, hS⟩)
        | (show wpList _ _ _ (⟨_, .binOp .eql 25 _ _ _, _, _, _, _⟩ :: _) _ _; refine wpList_val rfl (op_eqI rfl rfl rfl rfl) ?_; go_frame)
        | (go_at_call 20; (first | (with_reducible refine Ret.calls (C1 hS) ?_) | (with_reducible refine Ret.calls (C2 hS) ?_) | (with_reducible refine Ret.calls (C3 hS) ?_) | (with_reducible refine Ret.calls (C4 hS) ?_) | (with_reducible refine Ret.calls (C5 hS) ?_)); clear hS; rintro r w ⟨rfl, hS⟩)
        | (go_at_call 18; refine Ret.calls (need_t hS hx hn hq he) ?_; clear hS; rintro r w ⟨rfl, hS⟩)
        | (show wpList _ _ _ (⟨some 16, .binOp _ _ _ _ _, _, _, _, _⟩ :: _) _ _; refine wpList_val rfl (op_ineI rfl rfl rfl HE.out) ?_; go_frame)
        | (show wpList _ _ _ (⟨some 18, .binOp _ _ _ _ _, _, _, _, _⟩ :: _) _ _; refine wpList_val rfl (opU_eql rfl rfl (b := 0) rfl (r := true) rfl) ?_; go_frame)
        | (show wpList _ _ _ (⟨some 27, .binOp _ _ _ _ _, _, _, _, _⟩ :: _) _ _; refine wpList_val rfl (op_igtr rfl rfl rfl H1.out) ?_; go_frame)
        | (show wpList _ _ _ (⟨some 33, .binOp _ _ _ _ _, _, _, _, _⟩ :: _) _ _; refine wpList_val rfl (op_igeq rfl rfl rfl H1.out) ?_; go_frame)
        | (show wpList _ _ _ (⟨some 36, .binOp _ _ _ _ _, _, _, _, _⟩ :: _) _ _; refine wpList_val rfl (opU_eql rfl rfl (b := 0) rfl H2.out) ?_; go_frame)
        | (show wpList _ _ _ (⟨some 39, .binOp _ _ _ _ _, _, _, _, _⟩ :: _) _ _; refine wpList_val rfl (opU_subW rfl rfl (b := 1) rfl q' H3.out) ?_; go_frame)
        | (show wpList _ _ _ (⟨some 43, .binOp _ _ _ _ _, _, _, _, _⟩ :: _) _ _; refine wpList_val rfl (op_ilss rfl rfl rfl H4.out) ?_; go_frame)
        )
      go_ret
      exact ⟨rfl, hS.chg⟩
    · have H2 := beqF hqm
      obtain ⟨q', hq'⟩ : ∃ q', q = q' + 1 := ⟨q - 1, by omega⟩
      have H3 : Hid (((q : Int) - ((1 : Nat) : Int)) % 18446744073709551616 = q') := by
        unfold Hid
        omega
      obtain ⟨z, hz⟩ : ∃ y, Hid (cmpN (q' * 1000) (x * n) = y) := ⟨_, Eq.refl _⟩
      have hneg : z < 0 := by
        rw [← hz.out, cmp_neg]
        generalize x * n = N at *
        omega
      have H4 := decT hneg
      have C2 : ∀ {w : World} {F : List Hp}, SepL All W w F → Calls Try.prog 20 #[U q', .int .u64 1000, U x, U n] w (Ret fun r w' => r = .int .i64 z ∧ SepL All W w' F) := fun hS => cmp_s (b := 1000) hS (by omega) (by omega) hx hn hz
      clear f1 f2 hqc hc hy hle hqm hq' hz hneg
      go_enter Try.func8, Try.ntmps8
      go_wp2_with (first
        | go_big_skip
        | (show wpList _ _ _ (⟨_, .load 22 _, _, _, _, _⟩ :: _) _ _; refine wpList_val rfl (op_load1S oneU ((hS.bring (by repeat (first | exact t0 | apply tS)))) rfl rfl rfl) ?_; go_frame)
        | (go_at_call 11; refine Ret.calls (alive_s hS) ?_; clear hS; rintro r w ⟨rfl, hS⟩)
        | (show wpList _ _ _ (⟨_, .binOp .eql 25 _ _ _, _, _, _, _⟩ :: _) _ _; refine wpList_val rfl (op_eqI rfl rfl rfl rfl) ?_; go_frame)
        | (go_at_call 20; (first | (with_reducible refine Ret.calls (C1 hS) ?_) | (with_reducible refine Ret.calls (C2 hS) ?_) | (with_reducible refine Ret.calls (C3 hS) ?_) | (with_reducible refine Ret.calls (C4 hS) ?_) | (with_reducible refine Ret.calls (C5 hS) ?_)); clear hS; rintro r w ⟨rfl, hS⟩)
        | (go_at_call 18; refine Ret.calls (need_t hS hx hn hq he) ?_; clear hS; rintro r w ⟨rfl, hS⟩)
        | (show wpList _ _ _ (⟨some 16, .binOp _ _ _ _ _, _, _, _, _⟩ :: _) _ _; refine wpList_val rfl (op_ineI rfl rfl rfl HE.out) ?_; go_frame)
        | (show wpList _ _ _ (⟨some 18, .binOp _ _ _ _ _, _, _, _, _⟩ :: _) _ _; refine wpList_val rfl (opU_eql rfl rfl (b := 0) rfl (r := true) rfl) ?_; go_frame)
        | (show wpList _ _ _ (⟨some 27, .binOp _ _ _ _ _, _, _, _, _⟩ :: _) _ _; refine wpList_val rfl (op_igtr rfl rfl rfl H1.out) ?_; go_frame)
        | (show wpList _ _ _ (⟨some 33, .binOp _ _ _ _ _, _, _, _, _⟩ :: _) _ _; refine wpList_val rfl (op_igeq rfl rfl rfl H1.out) ?_; go_frame)
        | (show wpList _ _ _ (⟨some 36, .binOp _ _ _ _ _, _, _, _, _⟩ :: _) _ _; refine wpList_val rfl (opU_eql rfl rfl (b := 0) rfl H2.out) ?_; go_frame)
        | (show wpList _ _ _ (⟨some 39, .binOp _ _ _ _ _, _, _, _, _⟩ :: _) _ _; refine wpList_val rfl (opU_subW rfl rfl (b := 1) rfl q' H3.out) ?_; go_frame)
        | (show wpList _ _ _ (⟨some 43, .binOp _ _ _ _ _, _, _, _, _⟩ :: _) _ _; refine wpList_val rfl (op_ilss rfl rfl rfl H4.out) ?_; go_frame)
        )
      go_ret
      exact ⟨rfl, hS.chg⟩
  · have hq := hide (f1 hg).1
    have he := hide (f1 hg).2
    have HE : Hid ((((3 : Nat) : Int) != 0) = true) := rfl
    obtain ⟨y, hy⟩ : ∃ y, Hid (cmpN (x * n) (18446744073709551615 * 1000) = y) := ⟨_, Eq.refl _⟩
    have hpos : 0 < y := by
      rw [← hy.out, cmp_pos]
      generalize x * n = N at *
      omega
    have H1 := decT hpos
    have C1 : ∀ {w : World} {F : List Hp}, SepL All W w F → Calls Try.prog 20 #[U x, U n, .int .u64 18446744073709551615, .int .u64 1000] w (Ret fun r w' => r = .int .i64 y ∧ SepL All W w' F) := fun hS => cmp_s (c := 18446744073709551615) (d := 1000) hS hx hn (by omega) (by omega) hy
    clear f1 f2 hqc hc hy hpos hg
    go_enter Try.func8, Try.ntmps8
    go_wp2_with (first
      | go_big_skip
      | (show wpList _ _ _ (⟨_, .load 22 _, _, _, _, _⟩ :: _) _ _; refine wpList_val rfl (op_load1S oneU ((hS.bring (by repeat (first | exact t0 | apply tS)))) rfl rfl rfl) ?_; go_frame)
      | (go_at_call 11; refine Ret.calls (alive_s hS) ?_; clear hS; rintro r w ⟨rfl, hS⟩)
      | (show wpList _ _ _ (⟨_, .binOp .eql 25 _ _ _, _, _, _, _⟩ :: _) _ _; refine wpList_val rfl (op_eqI rfl rfl rfl rfl) ?_; go_frame)
      | (go_at_call 20; (first | (with_reducible refine Ret.calls (C1 hS) ?_) | (with_reducible refine Ret.calls (C2 hS) ?_) | (with_reducible refine Ret.calls (C3 hS) ?_) | (with_reducible refine Ret.calls (C4 hS) ?_) | (with_reducible refine Ret.calls (C5 hS) ?_)); clear hS; rintro r w ⟨rfl, hS⟩)
      | (go_at_call 18; refine Ret.calls (need_t hS hx hn hq he) ?_; clear hS; rintro r w ⟨rfl, hS⟩)
      | (show wpList _ _ _ (⟨some 16, .binOp _ _ _ _ _, _, _, _, _⟩ :: _) _ _; refine wpList_val rfl (op_ineI rfl rfl rfl HE.out) ?_; go_frame)
      | (show wpList _ _ _ (⟨some 18, .binOp _ _ _ _ _, _, _, _, _⟩ :: _) _ _; refine wpList_val rfl (opU_eql rfl rfl (b := 0) rfl (r := true) rfl) ?_; go_frame)
      | (show wpList _ _ _ (⟨some 27, .binOp _ _ _ _ _, _, _, _, _⟩ :: _) _ _; refine wpList_val rfl (op_igtr rfl rfl rfl H1.out) ?_; go_frame)
      | (show wpList _ _ _ (⟨some 33, .binOp _ _ _ _ _, _, _, _, _⟩ :: _) _ _; refine wpList_val rfl (op_igeq rfl rfl rfl H1.out) ?_; go_frame)
      | (show wpList _ _ _ (⟨some 36, .binOp _ _ _ _ _, _, _, _, _⟩ :: _) _ _; refine wpList_val rfl (opU_eql rfl rfl (b := 0) rfl H2.out) ?_; go_frame)
      | (show wpList _ _ _ (⟨some 39, .binOp _ _ _ _ _, _, _, _, _⟩ :: _) _ _; refine wpList_val rfl (opU_subW rfl rfl (b := 1) rfl q' H3.out) ?_; go_frame)
      | (show wpList _ _ _ (⟨some 43, .binOp _ _ _ _ _, _, _, _, _⟩ :: _) _ _; refine wpList_val rfl (op_ilss rfl rfl rfl H4.out) ?_; go_frame)
      )
    go_ret
    exact ⟨rfl, hS.chg⟩
end Go.Proofs.Ytcaameljecokpaa
