/- Held the other way round, products compare the other way round; in either order of its numbers a product is one: the law returns true. Conditions: those that stand ahead of each theorem. -/
import Derived.Test.YtcaameljecokpaaLAmong
namespace Go.Proofs.Ytcaameljecokpaa
open Go.RowKit Go.Px Go.Shelf Go.Calc
theorem cmp_swap (p q : Nat) : cmpN q p = -cmpN p q := by
  unfold cmpN
  rcases Nat.lt_trichotomy p q with h | h | h
  · rw [if_neg (by omega), if_neg (by omega), if_pos h]
    rfl
  · subst h
    rw [if_neg (by omega), if_pos rfl]
    rfl
  · rw [if_pos h, if_neg (by omega), if_neg (by omega)]
theorem cmp_self (p : Nat) : cmpN p p = 0 := cmp_eq rfl
theorem cmp_range (p q : Nat) : -1 ≤ cmpN p q ∧ cmpN p q ≤ 1 := by
  unfold cmpN
  split
  · omega
  · split <;> omega
theorem op_ineg {P : Program} {o : Oper} {w : World} {ρ : Operand → Value} {t : TypeId} {x : Operand} (ho : o.op = .unOp .neg t x) {a : Int} (hx : ρ x = .int .i64 a) (h1 : -1 ≤ a) (h2 : a ≤ 1) : (execOp ρ o).run P w = .ok (.value (.int .i64 (-a))) w := by
  have e : IntKind.i64.wrap (0 - a) = -a := by rw [Int.zero_sub]; exact IntWalk.i64_in _ (by omega)
  unfold execOp
  simp only [ho, hx, Sem.run_bind, Op.unary, Op.intArith, Sem.run_pure, e, Result.andThen_ok]
set_option maxRecDepth 100000 in
set_option maxHeartbeats 4000000 in
theorem calcCross_w {W : World} (a b c d : Nat) (ha : a < 18446744073709551616) (hb : b < 18446744073709551616) (hc : c < 18446744073709551616) (hd : d < 18446744073709551616) :
    Calls Try.prog 5 #[.agg #[U a, U b, U c, U d]] W (Ret fun r w' => r = .bool true ∧ Chg No W w') := by
  have hS := SepL.start W
  obtain ⟨x, hx⟩ : ∃ x, Hid (cmpN (a * b) (c * d) = x) := ⟨_, Eq.refl _⟩
  have hr := cmp_range (a * b) (c * d)
  rw [hx.out] at hr
  obtain ⟨r1, r2⟩ := hr
  have C1 : CmpIs W a b c d x := cmpIs ha hb hc hd hx
  have C2 : CmpIs W c d a b (-x) := cmpIs hc hd ha hb (by
    show _ = _
    rw [cmp_swap, hx.out])
  have C3 : CmpIs W b a c d x := cmpIs hb ha hc hd (by
    rw [Nat.mul_comm b a]
    exact hx)
  have C4 : CmpIs W a b d c x := cmpIs ha hb hd hc (by
    rw [Nat.mul_comm d c]
    exact hx)
  have C5 : CmpIs W a b b a 0 := cmpIs ha hb hb ha (by
    rw [Nat.mul_comm b a]
    exact cmp_self _)
  have H1 := decT r1
  have H2 := decT r2
  go_enter Try.func5, Try.ntmps5
  go_wp2_with (first
    | go_big_skip
    | (show wpList _ _ _ (⟨_, .load 22 _, _, _, _, _⟩ :: _) _ _; refine wpList_val rfl (op_load1S oneU ((hS.bring (by repeat (first | exact t0 | apply tS)))) rfl rfl rfl) ?_; go_frame)
    | (go_at_call 11; refine Ret.calls (alive_s hS) ?_; clear hS; rintro r w ⟨rfl, hS⟩)
    | (show wpList _ _ _ (⟨_, .binOp .eql 25 _ _ _, _, _, _, _⟩ :: _) _ _; refine wpList_val rfl (op_eqI rfl rfl rfl rfl) ?_; go_frame)
    | (show wpList _ _ _ (⟨_, .box 33 _, _, _, _, _⟩ :: _) _ _; refine wpS_boxA (cs := [U a, U b, U c, U d]) hS rfl rfl rfl ?_; clear hS; intro nb w hS; go_frame)
    | (go_at_call 20; (first | (with_reducible refine Ret.calls (C1 hS) ?_) | (with_reducible refine Ret.calls (C2 hS) ?_) | (with_reducible refine Ret.calls (C3 hS) ?_) | (with_reducible refine Ret.calls (C4 hS) ?_) | (with_reducible refine Ret.calls (C5 hS) ?_)); clear hS; rintro r w ⟨rfl, hS⟩)
    | (show wpList _ _ _ (⟨some 16, .binOp _ _ _ _ _, _, _, _, _⟩ :: _) _ _; refine wpList_val rfl (op_igeq rfl rfl rfl H1.out) ?_; go_frame)
    | (show wpList _ _ _ (⟨some 19, .binOp _ _ _ _ _, _, _, _, _⟩ :: _) _ _; refine wpList_val rfl (op_ileq rfl rfl rfl H2.out) ?_; go_frame)
    | (show wpList _ _ _ (⟨some 32, .unOp _ _ _, _, _, _, _⟩ :: _) _ _; refine wpList_val rfl (op_ineg rfl rfl r1 r2) ?_; go_frame)
    | (show wpList _ _ _ (⟨_, .binOp .eql 3 _ _ _, _, _, _, _⟩ :: _) _ _; refine wpList_val rfl (op_eqI rfl rfl rfl rfl) ?_; go_frame)
    )
  go_ret
  exact ⟨rfl, hS.chg⟩
end Go.Proofs.Ytcaameljecokpaa
