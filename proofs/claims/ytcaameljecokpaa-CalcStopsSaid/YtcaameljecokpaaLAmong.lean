/- Of three products the order goes through: the law returns true. Conditions: those that stand ahead of each theorem. -/
import Derived.Test.YtcaameljecokpaaAlive
namespace Go.Proofs.Ytcaameljecokpaa
open Go.RowKit Go.Px Go.Shelf Go.Calc
abbrev CmpIs (W : World) (a b c d : Nat) (n : Int) : Prop := ∀ {w : World} {F : List Hp}, SepL All W w F → Calls Try.prog 20 #[U a, U b, U c, U d] w (Ret fun r w' => r = .int .i64 n ∧ SepL All W w' F)
theorem cmpIs {W : World} {a b c d : Nat} {n : Int} (ha : a < 18446744073709551616) (hb : b < 18446744073709551616) (hc : c < 18446744073709551616) (hd : d < 18446744073709551616) (hn : Hid (cmpN (a * b) (c * d) = n)) : CmpIs W a b c d n := fun hS => cmp_s hS ha hb hc hd hn
theorem cmp_le {p q : Nat} : cmpN p q ≤ 0 ↔ p ≤ q := by
  unfold cmpN
  split
  · omega
  · split <;> omega
theorem cmp_pos {p q : Nat} : 0 < cmpN p q ↔ q < p := by
  unfold cmpN
  split
  · omega
  · split <;> omega
set_option maxRecDepth 100000 in
set_option maxHeartbeats 2000000 in
theorem calcAmong_w {W : World} (a b c d : Nat) (ha : a < 18446744073709551616) (hb : b < 18446744073709551616) (hc : c < 18446744073709551616) (hd : d < 18446744073709551616) (e : Nat) (he : e < 18446744073709551616) (f : Nat) (hf : f < 18446744073709551616) :
    Calls Try.prog 6 #[.agg #[U a, U b, U c, U d], U e, U f] W (Ret fun r w' => r = .bool true ∧ Chg No W w') := by
  have hS := SepL.start W
  obtain ⟨x, hx⟩ : ∃ x, Hid (cmpN (a * b) (c * d) = x) := ⟨_, Eq.refl _⟩
  obtain ⟨y, hy⟩ : ∃ x, Hid (cmpN (c * d) (e * f) = x) := ⟨_, Eq.refl _⟩
  obtain ⟨z, hz⟩ : ∃ x, Hid (cmpN (a * b) (e * f) = x) := ⟨_, Eq.refl _⟩
  have C1 : CmpIs W a b c d x := cmpIs ha hb hc hd hx
  have C2 : CmpIs W c d e f y := cmpIs hc hd he hf hy
  have C3 : CmpIs W a b e f z := cmpIs ha hb he hf hz
  have k1 := @cmp_le (a * b) (c * d)
  have k2 := @cmp_le (c * d) (e * f)
  have k3 := @cmp_le (a * b) (e * f)
  rw [hx.out] at k1
  rw [hy.out] at k2
  rw [hz.out] at k3
  by_cases h1 : 0 < x
  · have H1 := decT h1
    clear k1 k2 k3 h1
    go_enter Try.func6, Try.ntmps6
    go_wp2_with (first
      | go_big_skip
      | (show wpList _ _ _ (⟨_, .load 22 _, _, _, _, _⟩ :: _) _ _; refine wpList_val rfl (op_load1S oneU ((hS.bring (by repeat (first | exact t0 | apply tS)))) rfl rfl rfl) ?_; go_frame)
      | (go_at_call 11; refine Ret.calls (alive_s hS) ?_; clear hS; rintro r w ⟨rfl, hS⟩)
      | (show wpList _ _ _ (⟨_, .binOp .eql 25 _ _ _, _, _, _, _⟩ :: _) _ _; refine wpList_val rfl (op_eqI rfl rfl rfl rfl) ?_; go_frame)
      | (show wpList _ _ _ (⟨_, .box 33 _, _, _, _, _⟩ :: _) _ _; refine wpS_boxA (cs := [U a, U b, U c, U d]) hS rfl rfl rfl ?_; clear hS; intro nb w hS; go_frame)
      | (go_at_call 20; (first | (with_reducible refine Ret.calls (C1 hS) ?_) | (with_reducible refine Ret.calls (C2 hS) ?_) | (with_reducible refine Ret.calls (C3 hS) ?_) | (with_reducible refine Ret.calls (C4 hS) ?_) | (with_reducible refine Ret.calls (C5 hS) ?_)); clear hS; rintro r w ⟨rfl, hS⟩)
      | (show wpList _ _ _ (⟨some 18, .binOp _ _ _ _ _, _, _, _, _⟩ :: _) _ _; refine wpList_val rfl (op_igtr rfl rfl rfl H1.out) ?_; go_frame)
      | (show wpList _ _ _ (⟨some 27, .binOp _ _ _ _ _, _, _, _, _⟩ :: _) _ _; refine wpList_val rfl (op_igtr rfl rfl rfl H2.out) ?_; go_frame)
      | (show wpList _ _ _ (⟨some 36, .binOp _ _ _ _ _, _, _, _, _⟩ :: _) _ _; refine wpList_val rfl (op_ileq rfl rfl rfl H3.out) ?_; go_frame)
      )
    go_ret
    exact ⟨rfl, hS.chg⟩
  · have H1 := decF h1
    by_cases h2 : 0 < y
    · have H2 := decT h2
      clear k1 k2 k3 h1 h2
      go_enter Try.func6, Try.ntmps6
      go_wp2_with (first
        | go_big_skip
        | (show wpList _ _ _ (⟨_, .load 22 _, _, _, _, _⟩ :: _) _ _; refine wpList_val rfl (op_load1S oneU ((hS.bring (by repeat (first | exact t0 | apply tS)))) rfl rfl rfl) ?_; go_frame)
        | (go_at_call 11; refine Ret.calls (alive_s hS) ?_; clear hS; rintro r w ⟨rfl, hS⟩)
        | (show wpList _ _ _ (⟨_, .binOp .eql 25 _ _ _, _, _, _, _⟩ :: _) _ _; refine wpList_val rfl (op_eqI rfl rfl rfl rfl) ?_; go_frame)
        | (show wpList _ _ _ (⟨_, .box 33 _, _, _, _, _⟩ :: _) _ _; refine wpS_boxA (cs := [U a, U b, U c, U d]) hS rfl rfl rfl ?_; clear hS; intro nb w hS; go_frame)
        | (go_at_call 20; (first | (with_reducible refine Ret.calls (C1 hS) ?_) | (with_reducible refine Ret.calls (C2 hS) ?_) | (with_reducible refine Ret.calls (C3 hS) ?_) | (with_reducible refine Ret.calls (C4 hS) ?_) | (with_reducible refine Ret.calls (C5 hS) ?_)); clear hS; rintro r w ⟨rfl, hS⟩)
        | (show wpList _ _ _ (⟨some 18, .binOp _ _ _ _ _, _, _, _, _⟩ :: _) _ _; refine wpList_val rfl (op_igtr rfl rfl rfl H1.out) ?_; go_frame)
        | (show wpList _ _ _ (⟨some 27, .binOp _ _ _ _ _, _, _, _, _⟩ :: _) _ _; refine wpList_val rfl (op_igtr rfl rfl rfl H2.out) ?_; go_frame)
        | (show wpList _ _ _ (⟨some 36, .binOp _ _ _ _ _, _, _, _, _⟩ :: _) _ _; refine wpList_val rfl (op_ileq rfl rfl rfl H3.out) ?_; go_frame)
        )
      go_ret
      exact ⟨rfl, hS.chg⟩
    · have H2 := decF h2
      have H3 := decT (show z ≤ 0 by omega)
      clear k1 k2 k3 h1 h2
      go_enter Try.func6, Try.ntmps6
      go_wp2_with (first
        | go_big_skip
        | (show wpList _ _ _ (⟨_, .load 22 _, _, _, _, _⟩ :: _) _ _; refine wpList_val rfl (op_load1S oneU ((hS.bring (by repeat (first | exact t0 | apply tS)))) rfl rfl rfl) ?_; go_frame)
        | (go_at_call 11; refine Ret.calls (alive_s hS) ?_; clear hS; rintro r w ⟨rfl, hS⟩)
        | (show wpList _ _ _ (⟨_, .binOp .eql 25 _ _ _, _, _, _, _⟩ :: _) _ _; refine wpList_val rfl (op_eqI rfl rfl rfl rfl) ?_; go_frame)
        | (show wpList _ _ _ (⟨_, .box 33 _, _, _, _, _⟩ :: _) _ _; refine wpS_boxA (cs := [U a, U b, U c, U d]) hS rfl rfl rfl ?_; clear hS; intro nb w hS; go_frame)
        | (go_at_call 20; (first | (with_reducible refine Ret.calls (C1 hS) ?_) | (with_reducible refine Ret.calls (C2 hS) ?_) | (with_reducible refine Ret.calls (C3 hS) ?_) | (with_reducible refine Ret.calls (C4 hS) ?_) | (with_reducible refine Ret.calls (C5 hS) ?_)); clear hS; rintro r w ⟨rfl, hS⟩)
        | (show wpList _ _ _ (⟨some 18, .binOp _ _ _ _ _, _, _, _, _⟩ :: _) _ _; refine wpList_val rfl (op_igtr rfl rfl rfl H1.out) ?_; go_frame)
        | (show wpList _ _ _ (⟨some 27, .binOp _ _ _ _ _, _, _, _, _⟩ :: _) _ _; refine wpList_val rfl (op_igtr rfl rfl rfl H2.out) ?_; go_frame)
        | (show wpList _ _ _ (⟨some 36, .binOp _ _ _ _ _, _, _, _, _⟩ :: _) _ _; refine wpList_val rfl (op_ileq rfl rfl rfl H3.out) ?_; go_frame)
        )
      go_ret
      exact ⟨rfl, hS.chg⟩
end Go.Proofs.Ytcaameljecokpaa
