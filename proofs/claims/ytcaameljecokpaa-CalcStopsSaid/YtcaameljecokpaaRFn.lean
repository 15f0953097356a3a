/- What the document's functions return: the order of two products, a part, what bytes cost. Conditions: those that stand ahead of each theorem. -/
import Derived.Test.YtcaameljecokpaaOver
namespace Go.Proofs.Ytcaameljecokpaa
open Go.RowKit Go.Px Go.Shelf Go.Calc
theorem part0 (a b : Nat) (w : World) : (part 22 #[U a, U b] 0).run Try.prog w = .ok (U a) w := by kernel_rfl
theorem part1 (a b : Nat) (w : World) : (part 22 #[U a, U b] 1).run Try.prog w = .ok (U b) w := by kernel_rfl
theorem equalU (a b d : Nat) (w : World) : (Op.equalIn (d + 1) 22 (U a) (U b)).run Try.prog w = .ok (a == b) w := by
  have e : ((a : Int) == (b : Int)) = (a == b) := by
    rw [Bool.eq_iff_iff, beq_iff_eq, beq_iff_eq]
    omega
  unfold U
  rw [run_equalIn_int w d _ _ _ _ _ Try.underlying22, e]
theorem equalW (x y z t : Nat) (w : World) : (Op.equal 48 (.agg #[U x, U y]) (.agg #[U z, U t])).run Try.prog w = .ok (x == z && y == t) w := by
  unfold Op.equal
  show (Op.equalIn (9999 + 1) _ _ _).run _ _ = _
  unfold Op.equalIn
  simp [Sem.run_bind, run_underlying Try.underlying48, part0, part1, equalU _ _ 9998]
  by_cases h : x = z <;> by_cases h' : y = t <;> simp [h, h']
theorem op_eqW {o : Oper} {ρ : Operand → Value} {w : World} {x y : Operand} {t : TypeId} (ho : o.op = .binOp .eql 48 x y t) {a b c d : Nat} (hx : ρ x = .agg #[U a, U b]) (hy : ρ y = .agg #[U c, U d]) {r : Bool} (hr : (a == c && b == d) = r) :
    (execOp ρ o).run Try.prog w = .ok (.value (.bool r)) w := by
  unfold execOp
  have hb : (binOp .eql 48 (.agg #[U a, U b]) (.agg #[U c, U d])).run Try.prog w = .ok (.bool r) w := by
    simp [binOp, equalW, hr]
  simp [ho, hx, hy, Sem.run_bind, Go.Px.run_eqGuard_agg (P := Try.prog) (k := 48) (by kernel_rfl), hb]
theorem words_eq (x y : Nat) : x = y ↔ x / 18446744073709551616 = y / 18446744073709551616 ∧ x % 18446744073709551616 = y % 18446744073709551616 := by
  constructor
  · rintro rfl
    exact ⟨rfl, rfl⟩
  · rintro ⟨h1, h2⟩
    have e1 := Nat.div_add_mod x 18446744073709551616
    have e2 := Nat.div_add_mod y 18446744073709551616
    rw [h1, h2] at e1
    exact e1.symm.trans e2
theorem words_lt (x y : Nat) : x < y ↔ x / 18446744073709551616 < y / 18446744073709551616 ∨ (x / 18446744073709551616 = y / 18446744073709551616 ∧ x % 18446744073709551616 < y % 18446744073709551616) := by
  omega
section
variable {R : Nat → Prop} {base w : World} {F : List Hp}
set_option maxRecDepth 100000 in
set_option maxHeartbeats 1000000 in
theorem rcmp_s (a b c d : Nat) (ha : a < 18446744073709551616) (hb : b < 18446744073709551616) (hc : c < 18446744073709551616) (hd : d < 18446744073709551616) (hS : SepL R base w F) :
    Calls Try.prog 21 #[U a, U b, U c, U d] w (Ret fun r w' => r = .int .i64 (cmpN (a * b) (c * d)) ∧ SepL R base w' F) := by
  have hE := words_eq (a * b) (c * d)
  have hL := words_lt (a * b) (c * d)
  have hG := words_lt (c * d) (a * b)
  obtain ⟨p1, H1⟩ : ∃ p, Hid (a * b / 18446744073709551616 = p) := ⟨_, Eq.refl _⟩
  obtain ⟨p2, H2⟩ : ∃ p, Hid (a * b % 18446744073709551616 = p) := ⟨_, Eq.refl _⟩
  obtain ⟨q1, H3⟩ : ∃ p, Hid (c * d / 18446744073709551616 = p) := ⟨_, Eq.refl _⟩
  obtain ⟨q2, H4⟩ : ∃ p, Hid (c * d % 18446744073709551616 = p) := ⟨_, Eq.refl _⟩
  rw [H1.out, H2.out, H3.out, H4.out] at hE hL hG
  have T1 : ∀ {w : World} {F : List Hp}, SepL R base w F → Calls Try.prog 26 #[U a, U b] w (Ret fun r w' => r = .agg #[U p1, U p2] ∧ SepL R base w' F) := fun hS => times_s a b ha hb H1 H2 hS
  have T2 : ∀ {w : World} {F : List Hp}, SepL R base w F → Calls Try.prog 26 #[U c, U d] w (Ret fun r w' => r = .agg #[U q1, U q2] ∧ SepL R base w' F) := fun hS => times_s c d hc hd H3 H4 hS
  clear H1 H2 H3 H4
  have c1 := @cmp_lt (a * b) (c * d)
  have c2 := @cmp_eq (a * b) (c * d)
  have c3 := @cmp_gt (a * b) (c * d)
  generalize cmpN (a * b) (c * d) = r at *
  generalize a * b = p at *
  generalize c * d = q at *
  by_cases h1 : p1 < q1
  · have HR := hide (c1 (hL.2 (.inl h1)))
    have HQ : Hid ((p1 == q1 && p2 == q2) = false) := by
      unfold Hid
      rw [Bool.and_eq_false_iff, beq_eq_false_iff_ne]
      left
      omega
    have HL1 := decT h1
    clear hE hL hG c1 c2 c3 h1
    go_enter Try.func21, Try.ntmps21
    go_wp2_with (first
      | go_big_skip
      | (go_at_call 26; (first | (with_reducible refine Ret.calls (T1 hS) ?_) | (with_reducible refine Ret.calls (T2 hS) ?_)); clear hS; rintro r w ⟨rfl, hS⟩)
      | (show wpList _ _ _ (⟨_, .alloc 48, _, _, _, _⟩ :: _) _ _; refine wpS_alloc hS rfl rfl Try.zeroValue48 (zs := [U 0, U 0]) rfl ?_; clear hS; intro nb w hS; go_frame)
      | (show wpList _ _ _ (⟨_, .store 48 _ (.tmp 13), _, _, _, _⟩ :: _) _ _; (refine wpS_storeAll aggW (hS.bring (by repeat (first | exact t0 | apply tS))) rfl rfl rfl (vs := [U p1, U p2]) rfl rfl (by simp [U, Value.oneCell']) rfl ?_); clear hS; intro w hS; go_frame)
      | (show wpList _ _ _ (⟨_, .store 48 _ (.tmp 16), _, _, _, _⟩ :: _) _ _; (refine wpS_storeAll aggW (hS.bring (by repeat (first | exact t0 | apply tS))) rfl rfl rfl (vs := [U q1, U q2]) rfl rfl (by simp [U, Value.oneCell']) rfl ?_); clear hS; intro w hS; go_frame)
      | (show wpList _ _ _ (⟨_, .load 48 _, _, _, _, _⟩ :: _) _ _; refine wpList_val rfl (op_load aggW rfl rfl ((hS.bring (by repeat (first | exact t0 | apply tS))).getBlk.cells) rfl) ?_; go_frame)
      | (show wpList _ _ _ (⟨_, .load 22 _, _, _, _, _⟩ :: _) _ _; refine wpList_val rfl (op_load1S oneU ((hS.bring (by repeat (first | exact t0 | apply tS)))) rfl rfl rfl) ?_; go_frame)
      | (show wpList _ _ _ (⟨some 19, .binOp _ _ _ _ _, _, _, _, _⟩ :: _) _ _; refine wpList_val rfl (op_eqW rfl rfl rfl HQ.out) ?_; go_frame)
      | (show wpList _ _ _ (⟨some 24, .binOp _ _ _ _ _, _, _, _, _⟩ :: _) _ _; refine wpList_val rfl (opU_lss rfl rfl rfl HL1.out) ?_; go_frame)
      | (show wpList _ _ _ (⟨some 30, .binOp _ _ _ _ _, _, _, _, _⟩ :: _) _ _; refine wpList_val rfl (opU_eql rfl rfl rfl HE1.out) ?_; go_frame)
      | (show wpList _ _ _ (⟨some 36, .binOp _ _ _ _ _, _, _, _, _⟩ :: _) _ _; refine wpList_val rfl (opU_lss rfl rfl rfl HL2.out) ?_; go_frame)
      )
    go_ret
    exact ⟨congrArg (Value.int .i64) HR.out.symm, hS.tail.tail⟩
  · have HL1 := decF h1
    by_cases h2 : p1 = q1
    · have HE1 : Hid ((p1 == q1) = true) := by
        unfold Hid
        rw [beq_iff_eq]
        exact h2
      by_cases h3 : p2 < q2
      · have HR := hide (c1 (hL.2 (.inr ⟨h2, h3⟩)))
        have HQ : Hid ((p1 == q1 && p2 == q2) = false) := by
          unfold Hid
          rw [Bool.and_eq_false_iff, beq_eq_false_iff_ne, beq_eq_false_iff_ne]
          right
          omega
        have HL2 := decT h3
        clear hE hL hG c1 c2 c3 h1 h2 h3
        go_enter Try.func21, Try.ntmps21
        go_wp2_with (first
          | go_big_skip
          | (go_at_call 26; (first | (with_reducible refine Ret.calls (T1 hS) ?_) | (with_reducible refine Ret.calls (T2 hS) ?_)); clear hS; rintro r w ⟨rfl, hS⟩)
          | (show wpList _ _ _ (⟨_, .alloc 48, _, _, _, _⟩ :: _) _ _; refine wpS_alloc hS rfl rfl Try.zeroValue48 (zs := [U 0, U 0]) rfl ?_; clear hS; intro nb w hS; go_frame)
          | (show wpList _ _ _ (⟨_, .store 48 _ (.tmp 13), _, _, _, _⟩ :: _) _ _; (refine wpS_storeAll aggW (hS.bring (by repeat (first | exact t0 | apply tS))) rfl rfl rfl (vs := [U p1, U p2]) rfl rfl (by simp [U, Value.oneCell']) rfl ?_); clear hS; intro w hS; go_frame)
          | (show wpList _ _ _ (⟨_, .store 48 _ (.tmp 16), _, _, _, _⟩ :: _) _ _; (refine wpS_storeAll aggW (hS.bring (by repeat (first | exact t0 | apply tS))) rfl rfl rfl (vs := [U q1, U q2]) rfl rfl (by simp [U, Value.oneCell']) rfl ?_); clear hS; intro w hS; go_frame)
          | (show wpList _ _ _ (⟨_, .load 48 _, _, _, _, _⟩ :: _) _ _; refine wpList_val rfl (op_load aggW rfl rfl ((hS.bring (by repeat (first | exact t0 | apply tS))).getBlk.cells) rfl) ?_; go_frame)
          | (show wpList _ _ _ (⟨_, .load 22 _, _, _, _, _⟩ :: _) _ _; refine wpList_val rfl (op_load1S oneU ((hS.bring (by repeat (first | exact t0 | apply tS)))) rfl rfl rfl) ?_; go_frame)
          | (show wpList _ _ _ (⟨some 19, .binOp _ _ _ _ _, _, _, _, _⟩ :: _) _ _; refine wpList_val rfl (op_eqW rfl rfl rfl HQ.out) ?_; go_frame)
          | (show wpList _ _ _ (⟨some 24, .binOp _ _ _ _ _, _, _, _, _⟩ :: _) _ _; refine wpList_val rfl (opU_lss rfl rfl rfl HL1.out) ?_; go_frame)
          | (show wpList _ _ _ (⟨some 30, .binOp _ _ _ _ _, _, _, _, _⟩ :: _) _ _; refine wpList_val rfl (opU_eql rfl rfl rfl HE1.out) ?_; go_frame)
          | (show wpList _ _ _ (⟨some 36, .binOp _ _ _ _ _, _, _, _, _⟩ :: _) _ _; refine wpList_val rfl (opU_lss rfl rfl rfl HL2.out) ?_; go_frame)
          )
        go_ret
        exact ⟨congrArg (Value.int .i64) HR.out.symm, hS.tail.tail⟩
      · have HL2 := decF h3
        by_cases h4 : p2 = q2
        · have HR := hide (c2 (hE.2 ⟨h2, h4⟩))
          have HQ : Hid ((p1 == q1 && p2 == q2) = true) := by
            unfold Hid
            rw [Bool.and_eq_true_iff, beq_iff_eq, beq_iff_eq]
            exact ⟨h2, h4⟩
          clear hE hL hG c1 c2 c3 h1 h2 h3 h4
          go_enter Try.func21, Try.ntmps21
          go_wp2_with (first
            | go_big_skip
            | (go_at_call 26; (first | (with_reducible refine Ret.calls (T1 hS) ?_) | (with_reducible refine Ret.calls (T2 hS) ?_)); clear hS; rintro r w ⟨rfl, hS⟩)
            | (show wpList _ _ _ (⟨_, .alloc 48, _, _, _, _⟩ :: _) _ _; refine wpS_alloc hS rfl rfl Try.zeroValue48 (zs := [U 0, U 0]) rfl ?_; clear hS; intro nb w hS; go_frame)
            | (show wpList _ _ _ (⟨_, .store 48 _ (.tmp 13), _, _, _, _⟩ :: _) _ _; (refine wpS_storeAll aggW (hS.bring (by repeat (first | exact t0 | apply tS))) rfl rfl rfl (vs := [U p1, U p2]) rfl rfl (by simp [U, Value.oneCell']) rfl ?_); clear hS; intro w hS; go_frame)
            | (show wpList _ _ _ (⟨_, .store 48 _ (.tmp 16), _, _, _, _⟩ :: _) _ _; (refine wpS_storeAll aggW (hS.bring (by repeat (first | exact t0 | apply tS))) rfl rfl rfl (vs := [U q1, U q2]) rfl rfl (by simp [U, Value.oneCell']) rfl ?_); clear hS; intro w hS; go_frame)
            | (show wpList _ _ _ (⟨_, .load 48 _, _, _, _, _⟩ :: _) _ _; refine wpList_val rfl (op_load aggW rfl rfl ((hS.bring (by repeat (first | exact t0 | apply tS))).getBlk.cells) rfl) ?_; go_frame)
            | (show wpList _ _ _ (⟨_, .load 22 _, _, _, _, _⟩ :: _) _ _; refine wpList_val rfl (op_load1S oneU ((hS.bring (by repeat (first | exact t0 | apply tS)))) rfl rfl rfl) ?_; go_frame)
            | (show wpList _ _ _ (⟨some 19, .binOp _ _ _ _ _, _, _, _, _⟩ :: _) _ _; refine wpList_val rfl (op_eqW rfl rfl rfl HQ.out) ?_; go_frame)
            | (show wpList _ _ _ (⟨some 24, .binOp _ _ _ _ _, _, _, _, _⟩ :: _) _ _; refine wpList_val rfl (opU_lss rfl rfl rfl HL1.out) ?_; go_frame)
            | (show wpList _ _ _ (⟨some 30, .binOp _ _ _ _ _, _, _, _, _⟩ :: _) _ _; refine wpList_val rfl (opU_eql rfl rfl rfl HE1.out) ?_; go_frame)
            | (show wpList _ _ _ (⟨some 36, .binOp _ _ _ _ _, _, _, _, _⟩ :: _) _ _; refine wpList_val rfl (opU_lss rfl rfl rfl HL2.out) ?_; go_frame)
            )
          go_ret
          exact ⟨congrArg (Value.int .i64) HR.out.symm, hS.tail.tail⟩
        · have HR := hide (c3 (hG.2 (.inr ⟨h2.symm, by omega⟩)))
          have HQ : Hid ((p1 == q1 && p2 == q2) = false) := by
            unfold Hid
            rw [Bool.and_eq_false_iff, beq_eq_false_iff_ne, beq_eq_false_iff_ne]
            right
            omega
          clear hE hL hG c1 c2 c3 h1 h2 h3 h4
          go_enter Try.func21, Try.ntmps21
          go_wp2_with (first
            | go_big_skip
            | (go_at_call 26; (first | (with_reducible refine Ret.calls (T1 hS) ?_) | (with_reducible refine Ret.calls (T2 hS) ?_)); clear hS; rintro r w ⟨rfl, hS⟩)
            | (show wpList _ _ _ (⟨_, .alloc 48, _, _, _, _⟩ :: _) _ _; refine wpS_alloc hS rfl rfl Try.zeroValue48 (zs := [U 0, U 0]) rfl ?_; clear hS; intro nb w hS; go_frame)
            | (show wpList _ _ _ (⟨_, .store 48 _ (.tmp 13), _, _, _, _⟩ :: _) _ _; (refine wpS_storeAll aggW (hS.bring (by repeat (first | exact t0 | apply tS))) rfl rfl rfl (vs := [U p1, U p2]) rfl rfl (by simp [U, Value.oneCell']) rfl ?_); clear hS; intro w hS; go_frame)
            | (show wpList _ _ _ (⟨_, .store 48 _ (.tmp 16), _, _, _, _⟩ :: _) _ _; (refine wpS_storeAll aggW (hS.bring (by repeat (first | exact t0 | apply tS))) rfl rfl rfl (vs := [U q1, U q2]) rfl rfl (by simp [U, Value.oneCell']) rfl ?_); clear hS; intro w hS; go_frame)
            | (show wpList _ _ _ (⟨_, .load 48 _, _, _, _, _⟩ :: _) _ _; refine wpList_val rfl (op_load aggW rfl rfl ((hS.bring (by repeat (first | exact t0 | apply tS))).getBlk.cells) rfl) ?_; go_frame)
            | (show wpList _ _ _ (⟨_, .load 22 _, _, _, _, _⟩ :: _) _ _; refine wpList_val rfl (op_load1S oneU ((hS.bring (by repeat (first | exact t0 | apply tS)))) rfl rfl rfl) ?_; go_frame)
            | (show wpList _ _ _ (⟨some 19, .binOp _ _ _ _ _, _, _, _, _⟩ :: _) _ _; refine wpList_val rfl (op_eqW rfl rfl rfl HQ.out) ?_; go_frame)
            | (show wpList _ _ _ (⟨some 24, .binOp _ _ _ _ _, _, _, _, _⟩ :: _) _ _; refine wpList_val rfl (opU_lss rfl rfl rfl HL1.out) ?_; go_frame)
            | (show wpList _ _ _ (⟨some 30, .binOp _ _ _ _ _, _, _, _, _⟩ :: _) _ _; refine wpList_val rfl (opU_eql rfl rfl rfl HE1.out) ?_; go_frame)
            | (show wpList _ _ _ (⟨some 36, .binOp _ _ _ _ _, _, _, _, _⟩ :: _) _ _; refine wpList_val rfl (opU_lss rfl rfl rfl HL2.out) ?_; go_frame)
            )
          go_ret
          exact ⟨congrArg (Value.int .i64) HR.out.symm, hS.tail.tail⟩
    · have HR := hide (c3 (hG.2 (.inl (by omega))))
      have HE1 := beqF h2
      have HQ : Hid ((p1 == q1 && p2 == q2) = false) := by
        unfold Hid
        rw [Bool.and_eq_false_iff, beq_eq_false_iff_ne]
        left
        omega
      clear hE hL hG c1 c2 c3 h1 h2
      go_enter Try.func21, Try.ntmps21
      go_wp2_with (first
        | go_big_skip
        | (go_at_call 26; (first | (with_reducible refine Ret.calls (T1 hS) ?_) | (with_reducible refine Ret.calls (T2 hS) ?_)); clear hS; rintro r w ⟨rfl, hS⟩)
        | (show wpList _ _ _ (⟨_, .alloc 48, _, _, _, _⟩ :: _) _ _; refine wpS_alloc hS rfl rfl Try.zeroValue48 (zs := [U 0, U 0]) rfl ?_; clear hS; intro nb w hS; go_frame)
        | (show wpList _ _ _ (⟨_, .store 48 _ (.tmp 13), _, _, _, _⟩ :: _) _ _; (refine wpS_storeAll aggW (hS.bring (by repeat (first | exact t0 | apply tS))) rfl rfl rfl (vs := [U p1, U p2]) rfl rfl (by simp [U, Value.oneCell']) rfl ?_); clear hS; intro w hS; go_frame)
        | (show wpList _ _ _ (⟨_, .store 48 _ (.tmp 16), _, _, _, _⟩ :: _) _ _; (refine wpS_storeAll aggW (hS.bring (by repeat (first | exact t0 | apply tS))) rfl rfl rfl (vs := [U q1, U q2]) rfl rfl (by simp [U, Value.oneCell']) rfl ?_); clear hS; intro w hS; go_frame)
        | (show wpList _ _ _ (⟨_, .load 48 _, _, _, _, _⟩ :: _) _ _; refine wpList_val rfl (op_load aggW rfl rfl ((hS.bring (by repeat (first | exact t0 | apply tS))).getBlk.cells) rfl) ?_; go_frame)
        | (show wpList _ _ _ (⟨_, .load 22 _, _, _, _, _⟩ :: _) _ _; refine wpList_val rfl (op_load1S oneU ((hS.bring (by repeat (first | exact t0 | apply tS)))) rfl rfl rfl) ?_; go_frame)
        | (show wpList _ _ _ (⟨some 19, .binOp _ _ _ _ _, _, _, _, _⟩ :: _) _ _; refine wpList_val rfl (op_eqW rfl rfl rfl HQ.out) ?_; go_frame)
        | (show wpList _ _ _ (⟨some 24, .binOp _ _ _ _ _, _, _, _, _⟩ :: _) _ _; refine wpList_val rfl (opU_lss rfl rfl rfl HL1.out) ?_; go_frame)
        | (show wpList _ _ _ (⟨some 30, .binOp _ _ _ _ _, _, _, _, _⟩ :: _) _ _; refine wpList_val rfl (opU_eql rfl rfl rfl HE1.out) ?_; go_frame)
        | (show wpList _ _ _ (⟨some 36, .binOp _ _ _ _ _, _, _, _, _⟩ :: _) _ _; refine wpList_val rfl (opU_lss rfl rfl rfl HL2.out) ?_; go_frame)
        )
      go_ret
      exact ⟨congrArg (Value.int .i64) HR.out.symm, hS.tail.tail⟩
set_option maxRecDepth 100000 in
set_option maxHeartbeats 4000000 in
theorem rpart_s (x n d : Nat) (hx : x < 18446744073709551616) (hn : n < 18446744073709551616) (hd : d < 18446744073709551616) (hS : SepL R base w F) :
    Calls Try.prog 17 #[U x, U n, U d] w (Ret fun r w' => r = .tuple #[U (partN x n d), .int .i64 (partE x n d)] ∧ SepL R base w' F) := by
  by_cases h0 : d = 0
  · subst h0
    have HP := hide (@part_zero x n)
    have HZ : Hid (((0 : Nat) == 0) = true) := rfl
    go_enter Try.func17, Try.ntmps17
    go_wp2_with (first
      | (show wpList _ _ _ (⟨some 12, .binOp _ _ _ _ _, _, _, _, _⟩ :: _) _ _; refine wpList_val rfl (opU_eql rfl rfl (b := 0) rfl HZ.out) ?_; go_frame)
      )
    go_ret2
    exact ⟨tupE HP.out.1.symm HP.out.2.symm, hS⟩
  have HZ := beqF h0
  obtain ⟨h, H1⟩ : ∃ h, Hid (x * n / 18446744073709551616 = h) := ⟨_, Eq.refl _⟩
  obtain ⟨l, H2⟩ : ∃ h, Hid (x * n % 18446744073709551616 = h) := ⟨_, Eq.refl _⟩
  have hl : l < 18446744073709551616 := by rw [← H2.out]; exact Nat.mod_lt _ (by omega)
  have hN : h * 18446744073709551616 + l = x * n := by rw [← H1.out, ← H2.out]; exact two_words _
  have T1 : ∀ {w : World} {F : List Hp}, SepL R base w F → Calls Try.prog 26 #[U x, U n] w (Ret fun r w' => r = .agg #[U h, U l] ∧ SepL R base w' F) := fun hS => times_s x n hx hn H1 H2 hS
  by_cases hg : d ≤ h
  · have HP := hide (part_far h0 (by rw [H1.out]; exact hg))
    have T2 : ∀ {w : World} {F : List Hp}, SepL R base w F → Calls Try.prog 25 #[.agg #[U h, U l], U d] w (Ret fun r w' => r = .tuple #[U 0, U 0, .bool false] ∧ SepL R base w' F) := fun hS => over_far h l d hg hS
    clear hg h0 hN
    go_enter Try.func17, Try.ntmps17
    go_wp2_with (first
      | (show wpList _ _ _ (⟨some 12, .binOp _ _ _ _ _, _, _, _, _⟩ :: _) _ _; refine wpList_val rfl (opU_eql rfl rfl (b := 0) rfl HZ.out) ?_; go_frame)
      | (go_at_call 26; refine Ret.calls (T1 hS) ?_; clear hS; rintro r w ⟨rfl, hS⟩)
      | (go_at_call 25; refine Ret.calls (T2 hS) ?_; clear hS; rintro r w ⟨rfl, hS⟩)
      )
    go_ret2
    exact ⟨tupE HP.out.1.symm HP.out.2.symm, hS⟩
  · have HP := hide (part_near h0 (by rw [H1.out]; omega))
    obtain ⟨q, hq⟩ : ∃ q, Hid (x * n / d = q) := ⟨_, Eq.refl _⟩
    obtain ⟨r, hr⟩ : ∃ q, Hid (x * n % d = q) := ⟨_, Eq.refl _⟩
    have T2 : ∀ {w : World} {F : List Hp}, SepL R base w F → Calls Try.prog 25 #[.agg #[U h, U l], U d] w (Ret fun r' w' => r' = .tuple #[U q, U r, .bool true] ∧ SepL R base w' F) := fun hS => over_s h l d (by omega) hd hl (by rw [hN]; exact hq) (by rw [hN]; exact hr) hS
    clear hg h0 hN
    go_enter Try.func17, Try.ntmps17
    go_wp2_with (first
      | (show wpList _ _ _ (⟨some 12, .binOp _ _ _ _ _, _, _, _, _⟩ :: _) _ _; refine wpList_val rfl (opU_eql rfl rfl (b := 0) rfl HZ.out) ?_; go_frame)
      | (go_at_call 26; refine Ret.calls (T1 hS) ?_; clear hS; rintro r w ⟨rfl, hS⟩)
      | (go_at_call 25; refine Ret.calls (T2 hS) ?_; clear hS; rintro r w ⟨rfl, hS⟩)
      )
    go_ret2
    exact ⟨tupE (hq.out.symm.trans HP.out.1.symm) HP.out.2.symm, hS⟩
set_option maxRecDepth 100000 in
set_option maxHeartbeats 4000000 in
theorem rneed_s (x n : Nat) (hx : x < 18446744073709551616) (hn : n < 18446744073709551616) (hS : SepL R base w F) :
    Calls Try.prog 19 #[U x, U n] w (Ret fun r w' => r = .tuple #[U (needN x n), .int .i64 (needE x n)] ∧ SepL R base w' F) := by
  obtain ⟨h, H1⟩ : ∃ h, Hid (x * n / 18446744073709551616 = h) := ⟨_, Eq.refl _⟩
  obtain ⟨l, H2⟩ : ∃ h, Hid (x * n % 18446744073709551616 = h) := ⟨_, Eq.refl _⟩
  have hl : l < 18446744073709551616 := by rw [← H2.out]; exact Nat.mod_lt _ (by omega)
  have hN : h * 18446744073709551616 + l = x * n := by rw [← H1.out, ← H2.out]; exact two_words _
  have T1 : ∀ {w : World} {F : List Hp}, SepL R base w F → Calls Try.prog 26 #[U x, U n] w (Ret fun r w' => r = .agg #[U h, U l] ∧ SepL R base w' F) := fun hS => times_s x n hx hn H1 H2 hS
  have f1 := @need_far x n
  have f2 := @need_near x n
  have hc : needC x n = (x * n + 999) / 1000 := by unfold needC; rfl
  have hh := H1.out
  obtain ⟨q, hq⟩ : ∃ q, Hid (x * n / 1000 = q) := ⟨_, Eq.refl _⟩
  obtain ⟨r, hr⟩ : ∃ q, Hid (x * n % 1000 = q) := ⟨_, Eq.refl _⟩
  have hq' := hq.out
  have hr' := hr.out
  by_cases hg : 1000 ≤ h
  · have HP := hide (f1 (by
      rw [hc]
      generalize x * n = N at *
      omega))
    have T2 : ∀ {w : World} {F : List Hp}, SepL R base w F → Calls Try.prog 25 #[.agg #[U h, U l], U 1000] w (Ret fun r w' => r = .tuple #[U 0, U 0, .bool false] ∧ SepL R base w' F) := fun hS => over_far h l 1000 hg hS
    clear hg f1 f2 hc hq' hr' hh hN
    go_enter Try.func19, Try.ntmps19
    go_wp2_with (first
      | (go_at_call 26; refine Ret.calls (T1 hS) ?_; clear hS; rintro r w ⟨rfl, hS⟩)
      | (go_at_call 25; refine Ret.calls (T2 hS) ?_; clear hS; rintro r w ⟨rfl, hS⟩)
      | (show wpList _ _ _ (⟨some 21, .binOp _ _ _ _ _, _, _, _, _⟩ :: _) _ _; refine wpList_val rfl (opU_gtr rfl rfl (b := 0) rfl HR0.out) ?_; go_frame)
      | (show wpList _ _ _ (⟨some 24, .binOp _ _ _ _ _, _, _, _, _⟩ :: _) _ _; refine wpList_val rfl (opU_eql rfl rfl (b := 18446744073709551615) rfl HQ.out) ?_; go_frame)
      | (show wpList _ _ _ (⟨some 28, .binOp _ _ _ _ _, _, _, _, _⟩ :: _) _ _; refine wpList_val rfl (opU_gtr rfl rfl (b := 0) rfl HR0.out) ?_; go_frame)
      | (show wpList _ _ _ (⟨some 30, .binOp _ _ _ _ _, _, _, _, _⟩ :: _) _ _; refine wpList_val rfl (opU_add rfl rfl (b := 1) rfl HQ1) ?_; go_frame)
      )
    go_ret2
    exact ⟨tupE HP.out.1.symm HP.out.2.symm, hS⟩
  have T2 : ∀ {w : World} {F : List Hp}, SepL R base w F → Calls Try.prog 25 #[.agg #[U h, U l], U 1000] w (Ret fun r' w' => r' = .tuple #[U q, U r, .bool true] ∧ SepL R base w' F) := fun hS => over_s h l 1000 (by omega) (by omega) hl (by rw [hN]; exact hq) (by rw [hN]; exact hr) hS
  by_cases hr0 : r = 0
  · subst hr0
    have HP := hide (f2 (by
      rw [hc]
      generalize x * n = N at *
      omega))
    have HE : Hid (q = needC x n) := by
      unfold Hid
      rw [hc]
      generalize x * n = N at *
      omega
    have HR0 : Hid (decide (0 < (0 : Nat)) = false) := rfl
    clear hg f1 f2 hc hq' hr' hh hN
    go_enter Try.func19, Try.ntmps19
    go_wp2_with (first
      | (go_at_call 26; refine Ret.calls (T1 hS) ?_; clear hS; rintro r w ⟨rfl, hS⟩)
      | (go_at_call 25; refine Ret.calls (T2 hS) ?_; clear hS; rintro r w ⟨rfl, hS⟩)
      | (show wpList _ _ _ (⟨some 21, .binOp _ _ _ _ _, _, _, _, _⟩ :: _) _ _; refine wpList_val rfl (opU_gtr rfl rfl (b := 0) rfl HR0.out) ?_; go_frame)
      | (show wpList _ _ _ (⟨some 24, .binOp _ _ _ _ _, _, _, _, _⟩ :: _) _ _; refine wpList_val rfl (opU_eql rfl rfl (b := 18446744073709551615) rfl HQ.out) ?_; go_frame)
      | (show wpList _ _ _ (⟨some 28, .binOp _ _ _ _ _, _, _, _, _⟩ :: _) _ _; refine wpList_val rfl (opU_gtr rfl rfl (b := 0) rfl HR0.out) ?_; go_frame)
      | (show wpList _ _ _ (⟨some 30, .binOp _ _ _ _ _, _, _, _, _⟩ :: _) _ _; refine wpList_val rfl (opU_add rfl rfl (b := 1) rfl HQ1) ?_; go_frame)
      )
    go_ret2
    exact ⟨tupE (HE.out.trans HP.out.1.symm) HP.out.2.symm, hS⟩
  have HR0 := decT (show 0 < r by omega)
  by_cases hqm : q = 18446744073709551615
  · have HQ : Hid ((q == 18446744073709551615) = true) := by
      rw [hqm]
      rfl
    have HP := hide (f1 (by
      rw [hc]
      generalize x * n = N at *
      omega))
    clear hg f1 f2 hc hq' hr' hh hqm hr0 hN
    go_enter Try.func19, Try.ntmps19
    go_wp2_with (first
      | (go_at_call 26; refine Ret.calls (T1 hS) ?_; clear hS; rintro r w ⟨rfl, hS⟩)
      | (go_at_call 25; refine Ret.calls (T2 hS) ?_; clear hS; rintro r w ⟨rfl, hS⟩)
      | (show wpList _ _ _ (⟨some 21, .binOp _ _ _ _ _, _, _, _, _⟩ :: _) _ _; refine wpList_val rfl (opU_gtr rfl rfl (b := 0) rfl HR0.out) ?_; go_frame)
      | (show wpList _ _ _ (⟨some 24, .binOp _ _ _ _ _, _, _, _, _⟩ :: _) _ _; refine wpList_val rfl (opU_eql rfl rfl (b := 18446744073709551615) rfl HQ.out) ?_; go_frame)
      | (show wpList _ _ _ (⟨some 28, .binOp _ _ _ _ _, _, _, _, _⟩ :: _) _ _; refine wpList_val rfl (opU_gtr rfl rfl (b := 0) rfl HR0.out) ?_; go_frame)
      | (show wpList _ _ _ (⟨some 30, .binOp _ _ _ _ _, _, _, _, _⟩ :: _) _ _; refine wpList_val rfl (opU_add rfl rfl (b := 1) rfl HQ1) ?_; go_frame)
      )
    go_ret2
    exact ⟨tupE HP.out.1.symm HP.out.2.symm, hS⟩
  · have HQ := beqF hqm
    have hqM : q < 18446744073709551616 := by
      generalize x * n = N at *
      omega
    have HP := hide (f2 (by
      rw [hc]
      generalize x * n = N at *
      omega))
    have HE : Hid (q + 1 = needC x n) := by
      unfold Hid
      rw [hc]
      generalize x * n = N at *
      omega
    have HQ1 : q + 1 < 18446744073709551616 := by omega
    clear hg f1 f2 hc hq' hr' hh hqm hr0 hN
    go_enter Try.func19, Try.ntmps19
    go_wp2_with (first
      | (go_at_call 26; refine Ret.calls (T1 hS) ?_; clear hS; rintro r w ⟨rfl, hS⟩)
      | (go_at_call 25; refine Ret.calls (T2 hS) ?_; clear hS; rintro r w ⟨rfl, hS⟩)
      | (show wpList _ _ _ (⟨some 21, .binOp _ _ _ _ _, _, _, _, _⟩ :: _) _ _; refine wpList_val rfl (opU_gtr rfl rfl (b := 0) rfl HR0.out) ?_; go_frame)
      | (show wpList _ _ _ (⟨some 24, .binOp _ _ _ _ _, _, _, _, _⟩ :: _) _ _; refine wpList_val rfl (opU_eql rfl rfl (b := 18446744073709551615) rfl HQ.out) ?_; go_frame)
      | (show wpList _ _ _ (⟨some 28, .binOp _ _ _ _ _, _, _, _, _⟩ :: _) _ _; refine wpList_val rfl (opU_gtr rfl rfl (b := 0) rfl HR0.out) ?_; go_frame)
      | (show wpList _ _ _ (⟨some 30, .binOp _ _ _ _ _, _, _, _, _⟩ :: _) _ _; refine wpList_val rfl (opU_add rfl rfl (b := 1) rfl HQ1) ?_; go_frame)
      )
    go_ret2
    exact ⟨tupE (HE.out.trans HP.out.1.symm) HP.out.2.symm, hS⟩
end
end Go.Proofs.Ytcaameljecokpaa
