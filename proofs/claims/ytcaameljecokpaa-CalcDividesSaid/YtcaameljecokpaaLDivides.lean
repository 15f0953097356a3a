/- A part times what it was divided by isn't above the product, and one more is: the law returns true. Conditions: those that stand ahead of each theorem. -/
import Derived.Test.YtcaameljecokpaaLAmong
namespace Go.Proofs.Ytcaameljecokpaa
open Go.RowKit Go.Px Go.Shelf Go.Calc
theorem part_far_lt {N d : Nat} (hd : 0 < d) (h : d ≤ N / 18446744073709551616) : 18446744073709551615 * d < N := by
  have h2 := Nat.mul_le_of_le_div _ _ _ h
  omega
theorem part_bounds {N d q : Nat} (hd : 0 < d) (hq : N / d = q) : q * d ≤ N ∧ N < (q + 1) * d := by
  subst hq
  refine ⟨Nat.div_mul_le_self N d, ?_⟩
  have h1 := Nat.div_add_mod N d
  have h2 := Nat.mod_lt N hd
  rw [Nat.mul_comm] at h1
  rw [Nat.add_mul, Nat.one_mul]
  omega
set_option maxRecDepth 100000 in
set_option maxHeartbeats 4000000 in
theorem calcDivides_w {W : World} (x : Nat) (hx : x < 18446744073709551616) (n : Nat) (hn : n < 18446744073709551616) (d : Nat) (hd : d < 18446744073709551616) :
    Calls Try.prog 7 #[U x, U n, U d] W (Ret fun r w' => r = .bool true ∧ Chg No W w') := by
  have hS := SepL.start W
  by_cases h0 : d = 0
  · subst h0
    have hq := hide (@part_zero x n).1
    have he := hide (@part_zero x n).2
    have H0 : Hid (((0 : Nat) == 0) = true) := rfl
    go_enter Try.func7, Try.ntmps7
    go_wp2_with (first
      | go_big_skip
      | (show wpList _ _ _ (⟨_, .load 22 _, _, _, _, _⟩ :: _) _ _; refine wpList_val rfl (op_load1S oneU ((hS.bring (by repeat (first | exact t0 | apply tS)))) rfl rfl rfl) ?_; go_frame)
      | (go_at_call 11; refine Ret.calls (alive_s hS) ?_; clear hS; rintro r w ⟨rfl, hS⟩)
      | (show wpList _ _ _ (⟨_, .binOp .eql 25 _ _ _, _, _, _, _⟩ :: _) _ _; refine wpList_val rfl (op_eqI rfl rfl rfl rfl) ?_; go_frame)
      | (go_at_call 20; (first | (with_reducible refine Ret.calls (C1 hS) ?_) | (with_reducible refine Ret.calls (C2 hS) ?_) | (with_reducible refine Ret.calls (C3 hS) ?_) | (with_reducible refine Ret.calls (C4 hS) ?_) | (with_reducible refine Ret.calls (C5 hS) ?_)); clear hS; rintro r w ⟨rfl, hS⟩)
      | (go_at_call 16; refine Ret.calls (part_t hS hx hn hd hq he) ?_; clear hS; rintro r w ⟨rfl, hS⟩)
      | (show wpList _ _ _ (⟨some 19, .binOp _ _ _ _ _, _, _, _, _⟩ :: _) _ _; refine wpList_val rfl (opU_eql rfl rfl (b := 0) rfl H0.out) ?_; go_frame)
      | (show wpList _ _ _ (⟨some 21, .binOp _ _ _ _ _, _, _, _, _⟩ :: _) _ _; refine wpList_val rfl (opU_eql rfl rfl (b := 0) rfl (r := true) rfl) ?_; go_frame)
      | (show wpList _ _ _ (⟨some 29, .binOp _ _ _ _ _, _, _, _, _⟩ :: _) _ _; refine wpList_val rfl (opU_eql rfl rfl (b := 0) rfl (r := true) rfl) ?_; go_frame)
      | (show wpList _ _ _ (⟨some 27, .binOp _ _ _ _ _, _, _, _, _⟩ :: _) _ _; refine wpList_val rfl (op_ineI rfl rfl rfl HE.out) ?_; go_frame)
      | (show wpList _ _ _ (⟨some 39, .binOp _ _ _ _ _, _, _, _, _⟩ :: _) _ _; refine wpList_val rfl (op_igtr rfl rfl rfl H1.out) ?_; go_frame)
      | (show wpList _ _ _ (⟨some 46, .binOp _ _ _ _ _, _, _, _, _⟩ :: _) _ _; refine wpList_val rfl (op_ileq rfl rfl rfl H1.out) ?_; go_frame)
      | (show wpList _ _ _ (⟨some 49, .binOp _ _ _ _ _, _, _, _, _⟩ :: _) _ _; refine wpList_val rfl (opU_eql rfl rfl (b := 18446744073709551615) rfl H2.out) ?_; go_frame)
      | (show wpList _ _ _ (⟨some 52, .binOp _ _ _ _ _, _, _, _, _⟩ :: _) _ _; refine wpList_val rfl (opU_addW rfl rfl (b := 1) rfl q' H3.out) ?_; go_frame)
      | (show wpList _ _ _ (⟨some 57, .binOp _ _ _ _ _, _, _, _, _⟩ :: _) _ _; refine wpList_val rfl (op_igtr rfl rfl rfl H4.out) ?_; go_frame)
      )
    go_ret
    exact ⟨rfl, hS.chg⟩
  have H0 := beqF h0
  by_cases hg : d ≤ x * n / 18446744073709551616
  · have hq := hide (part_far h0 hg).1
    have he := hide (part_far h0 hg).2
    have HE : Hid ((((3 : Nat) : Int) != 0) = true) := rfl
    have hlt := part_far_lt (by omega) hg
    obtain ⟨y, hy⟩ : ∃ y, Hid (cmpN (x * n) (18446744073709551615 * d) = y) := ⟨_, Eq.refl _⟩
    have hpos : 0 < y := by
      rw [← hy.out]
      exact cmp_pos.2 hlt
    have H1 := decT hpos
    have C1 : ∀ {w : World} {F : List Hp}, SepL All W w F → Calls Try.prog 20 #[U x, U n, .int .u64 18446744073709551615, U d] w (Ret fun r w' => r = .int .i64 y ∧ SepL All W w' F) := fun hS => cmp_s (c := 18446744073709551615) hS hx hn (by omega) hd hy
    clear hlt hpos hg h0 hy
    go_enter Try.func7, Try.ntmps7
    go_wp2_with (first
      | go_big_skip
      | (show wpList _ _ _ (⟨_, .load 22 _, _, _, _, _⟩ :: _) _ _; refine wpList_val rfl (op_load1S oneU ((hS.bring (by repeat (first | exact t0 | apply tS)))) rfl rfl rfl) ?_; go_frame)
      | (go_at_call 11; refine Ret.calls (alive_s hS) ?_; clear hS; rintro r w ⟨rfl, hS⟩)
      | (show wpList _ _ _ (⟨_, .binOp .eql 25 _ _ _, _, _, _, _⟩ :: _) _ _; refine wpList_val rfl (op_eqI rfl rfl rfl rfl) ?_; go_frame)
      | (go_at_call 20; (first | (with_reducible refine Ret.calls (C1 hS) ?_) | (with_reducible refine Ret.calls (C2 hS) ?_) | (with_reducible refine Ret.calls (C3 hS) ?_) | (with_reducible refine Ret.calls (C4 hS) ?_) | (with_reducible refine Ret.calls (C5 hS) ?_)); clear hS; rintro r w ⟨rfl, hS⟩)
      | (go_at_call 16; refine Ret.calls (part_t hS hx hn hd hq he) ?_; clear hS; rintro r w ⟨rfl, hS⟩)
      | (show wpList _ _ _ (⟨some 19, .binOp _ _ _ _ _, _, _, _, _⟩ :: _) _ _; refine wpList_val rfl (opU_eql rfl rfl (b := 0) rfl H0.out) ?_; go_frame)
      | (show wpList _ _ _ (⟨some 21, .binOp _ _ _ _ _, _, _, _, _⟩ :: _) _ _; refine wpList_val rfl (opU_eql rfl rfl (b := 0) rfl (r := true) rfl) ?_; go_frame)
      | (show wpList _ _ _ (⟨some 29, .binOp _ _ _ _ _, _, _, _, _⟩ :: _) _ _; refine wpList_val rfl (opU_eql rfl rfl (b := 0) rfl (r := true) rfl) ?_; go_frame)
      | (show wpList _ _ _ (⟨some 27, .binOp _ _ _ _ _, _, _, _, _⟩ :: _) _ _; refine wpList_val rfl (op_ineI rfl rfl rfl HE.out) ?_; go_frame)
      | (show wpList _ _ _ (⟨some 39, .binOp _ _ _ _ _, _, _, _, _⟩ :: _) _ _; refine wpList_val rfl (op_igtr rfl rfl rfl H1.out) ?_; go_frame)
      | (show wpList _ _ _ (⟨some 46, .binOp _ _ _ _ _, _, _, _, _⟩ :: _) _ _; refine wpList_val rfl (op_ileq rfl rfl rfl H1.out) ?_; go_frame)
      | (show wpList _ _ _ (⟨some 49, .binOp _ _ _ _ _, _, _, _, _⟩ :: _) _ _; refine wpList_val rfl (opU_eql rfl rfl (b := 18446744073709551615) rfl H2.out) ?_; go_frame)
      | (show wpList _ _ _ (⟨some 52, .binOp _ _ _ _ _, _, _, _, _⟩ :: _) _ _; refine wpList_val rfl (opU_addW rfl rfl (b := 1) rfl q' H3.out) ?_; go_frame)
      | (show wpList _ _ _ (⟨some 57, .binOp _ _ _ _ _, _, _, _, _⟩ :: _) _ _; refine wpList_val rfl (op_igtr rfl rfl rfl H4.out) ?_; go_frame)
      )
    go_ret
    exact ⟨rfl, hS.chg⟩
  · have hp := part_near h0 (Nat.lt_of_not_le hg)
    obtain ⟨q, hqd⟩ : ∃ q, x * n / d = q := ⟨_, rfl⟩
    rw [hqd] at hp
    have hq := hide hp.1
    have he := hide hp.2
    have HE : Hid ((((0 : Nat) : Int) != 0) = false) := rfl
    obtain ⟨b1, b2⟩ := part_bounds (by omega) hqd
    have hqM : q < 18446744073709551616 := by
      rw [← hqd]
      apply Nat.div_lt_of_lt_mul
      exact (Nat.div_lt_iff_lt_mul (by omega)).1 (by omega)
    obtain ⟨y, hy⟩ : ∃ y, Hid (cmpN (q * d) (x * n) = y) := ⟨_, Eq.refl _⟩
    have hle : y ≤ 0 := by
      rw [← hy.out]
      exact cmp_le.2 b1
    have H1 := decT hle
    have C1 : CmpIs W q d x n y := cmpIs hqM hd hx hn hy
    by_cases hqm : q = 18446744073709551615
    · have H2 : Hid ((q == 18446744073709551615) = true) := by
        rw [hqm]
        rfl
      clear hp hqd hg h0 hy hle b1 b2 hqm
      go_enter Try.func7, Try.ntmps7
      go_wp2_with (first
        | go_big_skip
        | (show wpList _ _ _ (⟨_, .load 22 _, _, _, _, _⟩ :: _) _ _; refine wpList_val rfl (op_load1S oneU ((hS.bring (by repeat (first | exact t0 | apply tS)))) rfl rfl rfl) ?_; go_frame)
        | (go_at_call 11; refine Ret.calls (alive_s hS) ?_; clear hS; rintro r w ⟨rfl, hS⟩)
        | (show wpList _ _ _ (⟨_, .binOp .eql 25 _ _ _, _, _, _, _⟩ :: _) _ _; refine wpList_val rfl (op_eqI rfl rfl rfl rfl) ?_; go_frame)
        | (go_at_call 20; (first | (with_reducible refine Ret.calls (C1 hS) ?_) | (with_reducible refine Ret.calls (C2 hS) ?_) | (with_reducible refine Ret.calls (C3 hS) ?_) | (with_reducible refine Ret.calls (C4 hS) ?_) | (with_reducible refine Ret.calls (C5 hS) ?_)); clear hS; rintro r w ⟨rfl, hS⟩)
        | (go_at_call 16; refine Ret.calls (part_t hS hx hn hd hq he) ?_; clear hS; rintro r w ⟨rfl, hS⟩)
        | (show wpList _ _ _ (⟨some 19, .binOp _ _ _ _ _, _, _, _, _⟩ :: _) _ _; refine wpList_val rfl (opU_eql rfl rfl (b := 0) rfl H0.out) ?_; go_frame)
        | (show wpList _ _ _ (⟨some 21, .binOp _ _ _ _ _, _, _, _, _⟩ :: _) _ _; refine wpList_val rfl (opU_eql rfl rfl (b := 0) rfl (r := true) rfl) ?_; go_frame)
        | (show wpList _ _ _ (⟨some 29, .binOp _ _ _ _ _, _, _, _, _⟩ :: _) _ _; refine wpList_val rfl (opU_eql rfl rfl (b := 0) rfl (r := true) rfl) ?_; go_frame)
        | (show wpList _ _ _ (⟨some 27, .binOp _ _ _ _ _, _, _, _, _⟩ :: _) _ _; refine wpList_val rfl (op_ineI rfl rfl rfl HE.out) ?_; go_frame)
        | (show wpList _ _ _ (⟨some 39, .binOp _ _ _ _ _, _, _, _, _⟩ :: _) _ _; refine wpList_val rfl (op_igtr rfl rfl rfl H1.out) ?_; go_frame)
        | (show wpList _ _ _ (⟨some 46, .binOp _ _ _ _ _, _, _, _, _⟩ :: _) _ _; refine wpList_val rfl (op_ileq rfl rfl rfl H1.out) ?_; go_frame)
        | (show wpList _ _ _ (⟨some 49, .binOp _ _ _ _ _, _, _, _, _⟩ :: _) _ _; refine wpList_val rfl (opU_eql rfl rfl (b := 18446744073709551615) rfl H2.out) ?_; go_frame)
        | (show wpList _ _ _ (⟨some 52, .binOp _ _ _ _ _, _, _, _, _⟩ :: _) _ _; refine wpList_val rfl (opU_addW rfl rfl (b := 1) rfl q' H3.out) ?_; go_frame)
        | (show wpList _ _ _ (⟨some 57, .binOp _ _ _ _ _, _, _, _, _⟩ :: _) _ _; refine wpList_val rfl (op_igtr rfl rfl rfl H4.out) ?_; go_frame)
        )
      go_ret
      exact ⟨rfl, hS.chg⟩
    · have H2 := beqF hqm
      obtain ⟨q', hq'⟩ : ∃ q', q + 1 = q' := ⟨_, rfl⟩
      rw [hq'] at b2
      have H3 : Hid ((q + 1) % 18446744073709551616 = q') := by
        rw [hq']
        exact Nat.mod_eq_of_lt (by omega)
      obtain ⟨z, hz⟩ : ∃ y, Hid (cmpN (q' * d) (x * n) = y) := ⟨_, Eq.refl _⟩
      have hpos : 0 < z := by
        rw [← hz.out]
        exact cmp_pos.2 b2
      have H4 := decT hpos
      have C2 : CmpIs W q' d x n z := cmpIs (by omega) hd hx hn hz
      clear hp hqd hg h0 hy hle b1 b2 hqm hq' hz hpos
      go_enter Try.func7, Try.ntmps7
      go_wp2_with (first
        | go_big_skip
        | (show wpList _ _ _ (⟨_, .load 22 _, _, _, _, _⟩ :: _) _ _; refine wpList_val rfl (op_load1S oneU ((hS.bring (by repeat (first | exact t0 | apply tS)))) rfl rfl rfl) ?_; go_frame)
        | (go_at_call 11; refine Ret.calls (alive_s hS) ?_; clear hS; rintro r w ⟨rfl, hS⟩)
        | (show wpList _ _ _ (⟨_, .binOp .eql 25 _ _ _, _, _, _, _⟩ :: _) _ _; refine wpList_val rfl (op_eqI rfl rfl rfl rfl) ?_; go_frame)
        | (go_at_call 20; (first | (with_reducible refine Ret.calls (C1 hS) ?_) | (with_reducible refine Ret.calls (C2 hS) ?_) | (with_reducible refine Ret.calls (C3 hS) ?_) | (with_reducible refine Ret.calls (C4 hS) ?_) | (with_reducible refine Ret.calls (C5 hS) ?_)); clear hS; rintro r w ⟨rfl, hS⟩)
        | (go_at_call 16; refine Ret.calls (part_t hS hx hn hd hq he) ?_; clear hS; rintro r w ⟨rfl, hS⟩)
        | (show wpList _ _ _ (⟨some 19, .binOp _ _ _ _ _, _, _, _, _⟩ :: _) _ _; refine wpList_val rfl (opU_eql rfl rfl (b := 0) rfl H0.out) ?_; go_frame)
        | (show wpList _ _ _ (⟨some 21, .binOp _ _ _ _ _, _, _, _, _⟩ :: _) _ _; refine wpList_val rfl (opU_eql rfl rfl (b := 0) rfl (r := true) rfl) ?_; go_frame)
        | (show wpList _ _ _ (⟨some 29, .binOp _ _ _ _ _, _, _, _, _⟩ :: _) _ _; refine wpList_val rfl (opU_eql rfl rfl (b := 0) rfl (r := true) rfl) ?_; go_frame)
        | (show wpList _ _ _ (⟨some 27, .binOp _ _ _ _ _, _, _, _, _⟩ :: _) _ _; refine wpList_val rfl (op_ineI rfl rfl rfl HE.out) ?_; go_frame)
        | (show wpList _ _ _ (⟨some 39, .binOp _ _ _ _ _, _, _, _, _⟩ :: _) _ _; refine wpList_val rfl (op_igtr rfl rfl rfl H1.out) ?_; go_frame)
        | (show wpList _ _ _ (⟨some 46, .binOp _ _ _ _ _, _, _, _, _⟩ :: _) _ _; refine wpList_val rfl (op_ileq rfl rfl rfl H1.out) ?_; go_frame)
        | (show wpList _ _ _ (⟨some 49, .binOp _ _ _ _ _, _, _, _, _⟩ :: _) _ _; refine wpList_val rfl (opU_eql rfl rfl (b := 18446744073709551615) rfl H2.out) ?_; go_frame)
        | (show wpList _ _ _ (⟨some 52, .binOp _ _ _ _ _, _, _, _, _⟩ :: _) _ _; refine wpList_val rfl (opU_addW rfl rfl (b := 1) rfl q' H3.out) ?_; go_frame)
        | (show wpList _ _ _ (⟨some 57, .binOp _ _ _ _ _, _, _, _, _⟩ :: _) _ _; refine wpList_val rfl (op_igtr rfl rfl rfl H4.out) ?_; go_frame)
        )
      go_ret
      exact ⟨rfl, hS.chg⟩
end Go.Proofs.Ytcaameljecokpaa
