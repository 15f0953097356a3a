/- What the other functions of calc return: the order of two products, a part, what bytes cost. Conditions: those that stand ahead of each theorem. -/
import Derived.Test.YtcaameljecokpaaFn
namespace Go.Proofs.Ytcaameljecokpaa
open Go.RowKit Go.Px Go.Shelf Go.Calc
def cmpN (p q : Nat) : Int := if p < q then -1 else if p = q then 0 else 1
theorem cmp_lt {p q : Nat} (h : p < q) : cmpN p q = -1 := if_pos h
theorem cmp_eq {p q : Nat} (h : p = q) : cmpN p q = 0 := by
  unfold cmpN
  rw [if_neg (by omega), if_pos h]
theorem cmp_gt {p q : Nat} (h : q < p) : cmpN p q = 1 := by
  unfold cmpN
  rw [if_neg (by omega), if_neg (by omega)]
theorem cmp_facts (p q : Nat) (hp : p < 18446744073709551616 * 18446744073709551616) (hq : q < 18446744073709551616 * 18446744073709551616) : ∃ h l i m s1 u s2 v z : Nat,
    Hid (p / 18446744073709551616 = h) ∧ Hid (p % 18446744073709551616 = l) ∧ Hid (q / 18446744073709551616 = i) ∧ Hid (q % 18446744073709551616 = m) ∧
    Hid (((l : Int) - m - (0 : Nat)) % 18446744073709551616 = s1) ∧ Hid ((if l < m + 0 then 1 else 0) = u) ∧ Hid (((h : Int) - i - u) % 18446744073709551616 = s2) ∧ Hid ((if h < i + u then 1 else 0) = v) ∧ Hid (s2 ||| s1 = z) ∧
    u ≤ 1 ∧ m < 18446744073709551616 ∧ i < 18446744073709551616 ∧ s1 < 18446744073709551616 ∧ s2 < 18446744073709551616 ∧ (p < q → v = 1) ∧ (¬ p < q → v = 0) ∧ (p = q → z = 0) ∧ (q < p → z ≠ 0) := by
  obtain ⟨h, h1⟩ : ∃ x, p / 18446744073709551616 = x := ⟨_, Eq.refl _⟩
  obtain ⟨l, h2⟩ : ∃ x, p % 18446744073709551616 = x := ⟨_, Eq.refl _⟩
  obtain ⟨i, h3⟩ : ∃ x, q / 18446744073709551616 = x := ⟨_, Eq.refl _⟩
  obtain ⟨m, h4⟩ : ∃ x, q % 18446744073709551616 = x := ⟨_, Eq.refl _⟩
  obtain ⟨s1, h5⟩ : ∃ x : Nat, ((l : Int) - m - (0 : Nat)) % 18446744073709551616 = x := ⟨(((l : Int) - m - (0 : Nat)) % 18446744073709551616).toNat, by omega⟩
  obtain ⟨u, h6⟩ : ∃ x : Nat, (if l < m + 0 then 1 else 0) = x := ⟨_, Eq.refl _⟩
  obtain ⟨s2, h7⟩ : ∃ x : Nat, ((h : Int) - i - u) % 18446744073709551616 = x := ⟨(((h : Int) - i - u) % 18446744073709551616).toNat, by omega⟩
  obtain ⟨v, h8⟩ : ∃ x : Nat, (if h < i + u then 1 else 0) = x := ⟨_, Eq.refl _⟩
  have hu : u ≤ 1 := by
    rw [← h6]
    split <;> omega
  have hu2 : (l < m ∧ u = 1) ∨ (m ≤ l ∧ u = 0) := by
    rw [← h6]
    split <;> omega
  have hv2 : (h < i + u ∧ v = 1) ∨ (i + u ≤ h ∧ v = 0) := by
    rw [← h8]
    split <;> omega
  have hh : h < 18446744073709551616 := by omega
  have hi : i < 18446744073709551616 := by omega
  have key : s2 ||| s1 = 0 ↔ s2 = 0 ∧ s1 = 0 := Nat.or_eq_zero_iff
  refine ⟨h, l, i, m, s1, u, s2, v, s2 ||| s1, h1, h2, h3, h4, h5, h6, h7, h8, Eq.refl _, hu, by omega, hi, by omega, by omega, ?_, ?_, ?_, ?_⟩
  · omega
  · omega
  · intro hpq
    rw [key]
    omega
  · intro hpq
    rw [Ne, key]
    omega
theorem mul_lt {a b : Nat} (ha : a < 18446744073709551616) (hb : b < 18446744073709551616) : a * b < 18446744073709551616 * 18446744073709551616 := Nat.mul_lt_mul'' ha hb
section
variable {R : Nat → Prop} {base w : World} {F : List Hp}
theorem mul_s {a b h l : Nat} (ha : a < 18446744073709551616) (hb : b < 18446744073709551616) (H1 : Hid (a * b / 18446744073709551616 = h)) (H2 : Hid (a * b % 18446744073709551616 = l)) (w : World) : Calls Try.prog 23 #[U a, U b] w (Ret fun r w' => r = .tuple #[U h, U l] ∧ w' = w) := by
  have := mul64_any a b ha hb w
  rwa [H1.out, H2.out] at this
set_option maxRecDepth 100000 in
set_option maxHeartbeats 2000000 in
theorem cmp_any (a b c d : Nat) (ha : a < 18446744073709551616) (hb : b < 18446744073709551616) (hc : c < 18446744073709551616) (hd : d < 18446744073709551616) (w : World) :
    Calls Try.prog 20 #[U a, U b, U c, U d] w (Ret fun r w' => r = .int .i64 (cmpN (a * b) (c * d)) ∧ w' = w) := by
  obtain ⟨h, l, i, m, s1, u, s2, v, z, H1, H2, H3, H4, H5, H6, H7, H8, H9, hu, hm, hi, hs1, hs2, g1, g2, g3, g4⟩ := cmp_facts (a * b) (c * d) (mul_lt ha hb) (mul_lt hc hd)
  have HM1 := mul_s ha hb H1 H2
  have HM2 := mul_s hc hd H3 H4
  clear H1 H2 H3 H4
  have c1 := @cmp_lt (a * b) (c * d)
  have c2 := @cmp_eq (a * b) (c * d)
  have c3 := @cmp_gt (a * b) (c * d)
  generalize cmpN (a * b) (c * d) = r at *
  generalize a * b = p at *
  generalize c * d = q at *
  rcases Nat.lt_trichotomy p q with hlt | heq | hgt
  · have HR := hide (c1 hlt)
    have HNE : Hid ((v != 0) = true) := by rw [g1 hlt]; rfl
    clear g1 g2 g3 g4 hlt c1 c2 c3
    go_enter Try.func20, Try.ntmps20
    go_wp2_with (first
      | (go_at_call 23; (first | (with_reducible refine Ret.calls (HM1 _) ?_) | (with_reducible refine Ret.calls (HM2 _) ?_)); rintro r w' ⟨rfl, rfl⟩)
      | (show wpList _ _ _ (⟨some 32, .call _, _, _, _, _⟩ :: _) _ _; refine wpList_val rfl (op_sub64 rfl rfl rfl (c := 0) rfl rfl (by omega) s1 H5.out hm u H6.out) ?_; go_frame)
      | (show wpList _ _ _ (⟨some 39, .call _, _, _, _, _⟩ :: _) _ _; refine wpList_val rfl (op_sub64 rfl rfl rfl (c := u) rfl rfl hu s2 H7.out hi v H8.out) ?_; go_frame)
      | (show wpList _ _ _ (⟨some 43, .binOp _ _ _ _ _, _, _, _, _⟩ :: _) _ _; refine wpList_val rfl (opU_neq rfl rfl (b := 0) rfl HNE.out) ?_; go_frame)
      | (show wpList _ _ _ (⟨some 46, .binOp _ _ _ _ _, _, _, _, _⟩ :: _) _ _; refine wpList_val rfl (opU_or rfl rfl rfl hs2 hs1 z H9.out) ?_; go_frame)
      | (show wpList _ _ _ (⟨some 47, .binOp _ _ _ _ _, _, _, _, _⟩ :: _) _ _; refine wpList_val rfl (opU_eql rfl rfl (b := 0) rfl HZ.out) ?_; go_frame)
      )
    go_ret
    exact ⟨congrArg (Value.int .i64) HR.out.symm, rfl⟩
  · have HR := hide (c2 heq)
    have HNE : Hid ((v != 0) = false) := by rw [g2 (by omega)]; rfl
    have HZ : Hid ((z == 0) = true) := by rw [g3 heq]; rfl
    clear g1 g2 g3 g4 heq c1 c2 c3
    go_enter Try.func20, Try.ntmps20
    go_wp2_with (first
      | (go_at_call 23; (first | (with_reducible refine Ret.calls (HM1 _) ?_) | (with_reducible refine Ret.calls (HM2 _) ?_)); rintro r w' ⟨rfl, rfl⟩)
      | (show wpList _ _ _ (⟨some 32, .call _, _, _, _, _⟩ :: _) _ _; refine wpList_val rfl (op_sub64 rfl rfl rfl (c := 0) rfl rfl (by omega) s1 H5.out hm u H6.out) ?_; go_frame)
      | (show wpList _ _ _ (⟨some 39, .call _, _, _, _, _⟩ :: _) _ _; refine wpList_val rfl (op_sub64 rfl rfl rfl (c := u) rfl rfl hu s2 H7.out hi v H8.out) ?_; go_frame)
      | (show wpList _ _ _ (⟨some 43, .binOp _ _ _ _ _, _, _, _, _⟩ :: _) _ _; refine wpList_val rfl (opU_neq rfl rfl (b := 0) rfl HNE.out) ?_; go_frame)
      | (show wpList _ _ _ (⟨some 46, .binOp _ _ _ _ _, _, _, _, _⟩ :: _) _ _; refine wpList_val rfl (opU_or rfl rfl rfl hs2 hs1 z H9.out) ?_; go_frame)
      | (show wpList _ _ _ (⟨some 47, .binOp _ _ _ _ _, _, _, _, _⟩ :: _) _ _; refine wpList_val rfl (opU_eql rfl rfl (b := 0) rfl HZ.out) ?_; go_frame)
      )
    go_ret
    exact ⟨congrArg (Value.int .i64) HR.out.symm, rfl⟩
  · have HR := hide (c3 hgt)
    have HNE : Hid ((v != 0) = false) := by rw [g2 (by omega)]; rfl
    have HZ := beqF (g4 hgt)
    clear g1 g2 g3 g4 hgt c1 c2 c3
    go_enter Try.func20, Try.ntmps20
    go_wp2_with (first
      | (go_at_call 23; (first | (with_reducible refine Ret.calls (HM1 _) ?_) | (with_reducible refine Ret.calls (HM2 _) ?_)); rintro r w' ⟨rfl, rfl⟩)
      | (show wpList _ _ _ (⟨some 32, .call _, _, _, _, _⟩ :: _) _ _; refine wpList_val rfl (op_sub64 rfl rfl rfl (c := 0) rfl rfl (by omega) s1 H5.out hm u H6.out) ?_; go_frame)
      | (show wpList _ _ _ (⟨some 39, .call _, _, _, _, _⟩ :: _) _ _; refine wpList_val rfl (op_sub64 rfl rfl rfl (c := u) rfl rfl hu s2 H7.out hi v H8.out) ?_; go_frame)
      | (show wpList _ _ _ (⟨some 43, .binOp _ _ _ _ _, _, _, _, _⟩ :: _) _ _; refine wpList_val rfl (opU_neq rfl rfl (b := 0) rfl HNE.out) ?_; go_frame)
      | (show wpList _ _ _ (⟨some 46, .binOp _ _ _ _ _, _, _, _, _⟩ :: _) _ _; refine wpList_val rfl (opU_or rfl rfl rfl hs2 hs1 z H9.out) ?_; go_frame)
      | (show wpList _ _ _ (⟨some 47, .binOp _ _ _ _ _, _, _, _, _⟩ :: _) _ _; refine wpList_val rfl (opU_eql rfl rfl (b := 0) rfl HZ.out) ?_; go_frame)
      )
    go_ret
    exact ⟨congrArg (Value.int .i64) HR.out.symm, rfl⟩
def partN (x n d : Nat) : Nat := if d = 0 then 0 else if x * n / d < 18446744073709551616 then x * n / d else 0
def partE (x n d : Nat) : Nat := if d = 0 then 2 else if x * n / d < 18446744073709551616 then 0 else 3
theorem part_zero {x n : Nat} : partN x n 0 = 0 ∧ partE x n 0 = 2 := ⟨rfl, rfl⟩
theorem part_far {x n d : Nat} (hd : d ≠ 0) (h : d ≤ x * n / 18446744073709551616) : partN x n d = 0 ∧ partE x n d = 3 := by
  have : ¬ x * n / d < 18446744073709551616 := by
    have h2 := Nat.mul_le_of_le_div _ _ _ h
    have : 18446744073709551616 ≤ x * n / d := by
      rw [Nat.le_div_iff_mul_le (by omega), Nat.mul_comm]
      exact h2
    omega
  unfold partN partE
  rw [if_neg hd, if_neg hd, if_neg this, if_neg this]
  exact ⟨rfl, rfl⟩
theorem part_near {x n d : Nat} (hd : d ≠ 0) (h : x * n / 18446744073709551616 < d) : partN x n d = x * n / d ∧ partE x n d = 0 := by
  have : x * n / d < 18446744073709551616 := by
    apply Nat.div_lt_of_lt_mul
    exact (Nat.div_lt_iff_lt_mul (by omega)).1 h
  unfold partN partE
  rw [if_neg hd, if_neg hd, if_pos this, if_pos this]
  exact ⟨rfl, rfl⟩
theorem two_words (N : Nat) : N / 18446744073709551616 * 18446744073709551616 + N % 18446744073709551616 = N := by
  rw [Nat.mul_comm]
  exact Nat.div_add_mod N _
theorem div_s {N hi lo y q r : Nat} (H1 : Hid (N / 18446744073709551616 = hi)) (H2 : Hid (N % 18446744073709551616 = lo)) (h : hi < y) (hy : y < 18446744073709551616) (hq : Hid (N / y = q)) (hr : Hid (N % y = r)) (hS : SepL R base w F) :
    Calls Try.prog 24 #[U hi, U lo, U y] w (Ret fun r' w' => r' = .tuple #[U q, U r] ∧ SepL R base w' F) := by
  have hlo : lo < 18446744073709551616 := by rw [← H2.out]; exact Nat.mod_lt _ (by omega)
  have h := div64_s hS hi lo y h hy hlo
  have e : hi * 18446744073709551616 + lo = N := by rw [← H1.out, ← H2.out]; exact two_words N
  rwa [e, hq.out, hr.out] at h
set_option maxRecDepth 100000 in
set_option maxHeartbeats 2000000 in
theorem part_s (x n d : Nat) (hx : x < 18446744073709551616) (hn : n < 18446744073709551616) (hd : d < 18446744073709551616) (hS : SepL R base w F) :
    Calls Try.prog 16 #[U x, U n, U d] w (Ret fun r w' => r = .tuple #[U (partN x n d), .int .i64 (partE x n d)] ∧ SepL R base w' F) := by
  by_cases h0 : d = 0
  · subst h0
    have HP := hide (@part_zero x n)
    have HZ : Hid (((0 : Nat) == 0) = true) := rfl
    go_enter Try.func16, Try.ntmps16
    go_wp2_with (first
      | (show wpList _ _ _ (⟨some 13, .binOp _ _ _ _ _, _, _, _, _⟩ :: _) _ _; refine wpList_val rfl (opU_eql rfl rfl (b := 0) rfl HZ.out) ?_; go_frame)
      )
    go_ret2
    exact ⟨tupE HP.out.1.symm HP.out.2.symm, hS⟩
  have HZ := beqF h0
  obtain ⟨h, H1⟩ : ∃ h, Hid (x * n / 18446744073709551616 = h) := ⟨_, Eq.refl _⟩
  obtain ⟨l, H2⟩ : ∃ h, Hid (x * n % 18446744073709551616 = h) := ⟨_, Eq.refl _⟩
  have HM := mul_s hx hn H1 H2
  by_cases hg : d ≤ h
  · have HP := hide (part_far h0 (by rw [H1.out]; exact hg))
    have HG := decT hg
    clear hg h0
    go_enter Try.func16, Try.ntmps16
    go_wp2_with (first
      | (show wpList _ _ _ (⟨some 13, .binOp _ _ _ _ _, _, _, _, _⟩ :: _) _ _; refine wpList_val rfl (opU_eql rfl rfl (b := 0) rfl HZ.out) ?_; go_frame)
      | (go_at_call 23; refine Ret.calls (HM _) ?_; rintro r w' ⟨rfl, rfl⟩)
      | (show wpList _ _ _ (⟨some 22, .binOp _ _ _ _ _, _, _, _, _⟩ :: _) _ _; refine wpList_val rfl (opU_geq rfl rfl rfl HG.out) ?_; go_frame)
      )
    go_ret2
    exact ⟨tupE HP.out.1.symm HP.out.2.symm, hS⟩
  · have HP := hide (part_near h0 (by rw [H1.out]; omega))
    have HG := decF hg
    obtain ⟨q, hq⟩ : ∃ q, Hid (x * n / d = q) := ⟨_, Eq.refl _⟩
    obtain ⟨r, hr⟩ : ∃ q, Hid (x * n % d = q) := ⟨_, Eq.refl _⟩
    have hlt : h < d := by omega
    clear hg h0
    go_enter Try.func16, Try.ntmps16
    go_wp2_with (first
      | (show wpList _ _ _ (⟨some 13, .binOp _ _ _ _ _, _, _, _, _⟩ :: _) _ _; refine wpList_val rfl (opU_eql rfl rfl (b := 0) rfl HZ.out) ?_; go_frame)
      | (go_at_call 23; refine Ret.calls (HM _) ?_; rintro r w' ⟨rfl, rfl⟩)
      | (show wpList _ _ _ (⟨some 22, .binOp _ _ _ _ _, _, _, _, _⟩ :: _) _ _; refine wpList_val rfl (opU_geq rfl rfl rfl HG.out) ?_; go_frame)
      | (go_at_call 24; refine Ret.calls (div_s H1 H2 hlt hd hq hr hS) ?_; clear hS; rintro r w' ⟨rfl, hS⟩)
      )
    go_ret2
    exact ⟨tupE (hq.out.symm.trans HP.out.1.symm) HP.out.2.symm, hS⟩
def needC (s r : Nat) : Nat := (s * r + 999) / 1000
def needN (s r : Nat) : Nat := if needC s r < 18446744073709551616 then needC s r else 0
def needE (s r : Nat) : Nat := if needC s r < 18446744073709551616 then 0 else 3
theorem need_far {s r : Nat} (h : ¬ needC s r < 18446744073709551616) : needN s r = 0 ∧ needE s r = 3 := by
  unfold needN needE
  exact ⟨if_neg h, if_neg h⟩
theorem need_near {s r : Nat} (h : needC s r < 18446744073709551616) : needN s r = needC s r ∧ needE s r = 0 := by
  unfold needN needE
  exact ⟨if_pos h, if_pos h⟩
set_option maxRecDepth 100000 in
set_option maxHeartbeats 2000000 in
theorem need_s (x n : Nat) (hx : x < 18446744073709551616) (hn : n < 18446744073709551616) (hS : SepL R base w F) :
    Calls Try.prog 18 #[U x, U n] w (Ret fun r w' => r = .tuple #[U (needN x n), .int .i64 (needE x n)] ∧ SepL R base w' F) := by
  obtain ⟨h, H1⟩ : ∃ h, Hid (x * n / 18446744073709551616 = h) := ⟨_, Eq.refl _⟩
  obtain ⟨l, H2⟩ : ∃ h, Hid (x * n % 18446744073709551616 = h) := ⟨_, Eq.refl _⟩
  have HM := mul_s hx hn H1 H2
  have f1 := @need_far x n
  have f2 := @need_near x n
  have hc : needC x n = (x * n + 999) / 1000 := rfl
  have hh := H1.out
  obtain ⟨q, hq⟩ : ∃ q, Hid (x * n / 1000 = q) := ⟨_, Eq.refl _⟩
  obtain ⟨r, hr⟩ : ∃ q, Hid (x * n % 1000 = q) := ⟨_, Eq.refl _⟩
  have hq' := hq.out
  have hr' := hr.out
  by_cases hg : 1000 ≤ h
  · have HP := hide (f1 (by
      rw [hc]
      generalize x * n = N at *
      omega))
    have HG := decT hg
    clear hg f1 f2 hc hq' hr' hh
    go_enter Try.func18, Try.ntmps18
    go_wp2_with (first
      | (go_at_call 23; refine Ret.calls (HM _) ?_; rintro r w' ⟨rfl, rfl⟩)
      | (show wpList _ _ _ (⟨some 17, .binOp _ _ _ _ _, _, _, _, _⟩ :: _) _ _; refine wpList_val rfl (opU_geq rfl rfl (b := 1000) rfl HG.out) ?_; go_frame)
      )
    go_ret2
    exact ⟨tupE HP.out.1.symm HP.out.2.symm, hS⟩
  have HG := decF hg
  have hlt : h < 1000 := by omega
  have HD : ∀ {w : World}, SepL R base w F → Calls Try.prog 24 #[U h, U l, U 1000] w (Ret fun r' w' => r' = .tuple #[U q, U r] ∧ SepL R base w' F) := fun hS => div_s H1 H2 hlt (by omega) hq hr hS
  by_cases hr0 : r = 0
  · subst hr0
    have HP := hide (f2 (by
      rw [hc]
      generalize x * n = N at *
      omega))
    have HE : Hid (q = needC x n) := by
      unfold Hid
      rw [hc]
      generalize x * n = N at *
      omega
    have HR0 : Hid (((0 : Nat) == 0) = true) := rfl
    clear hg f1 f2 hc hq' hr' hh
    go_enter Try.func18, Try.ntmps18
    go_wp2_with (first
      | (go_at_call 23; refine Ret.calls (HM _) ?_; rintro r w' ⟨rfl, rfl⟩)
      | (show wpList _ _ _ (⟨some 17, .binOp _ _ _ _ _, _, _, _, _⟩ :: _) _ _; refine wpList_val rfl (opU_geq rfl rfl (b := 1000) rfl HG.out) ?_; go_frame)
      | (go_at_call 24; refine Ret.calls (HD hS) ?_; clear hS; rintro r w' ⟨rfl, hS⟩)
      | (show wpList _ _ _ (⟨some 25, .binOp _ _ _ _ _, _, _, _, _⟩ :: _) _ _; refine wpList_val rfl (opU_eql rfl rfl (b := 0) rfl HR0.out) ?_; go_frame)
      )
    go_ret2
    exact ⟨tupE (HE.out.trans HP.out.1.symm) HP.out.2.symm, hS⟩
  have HR0 := beqF hr0
  by_cases hqm : q = 18446744073709551615
  · have HQ : Hid ((q == 18446744073709551615) = true) := by
      rw [hqm]
      rfl
    have HP := hide (f1 (by
      rw [hc]
      generalize x * n = N at *
      omega))
    clear hg f1 f2 hc hq' hr' hh hqm hr0
    go_enter Try.func18, Try.ntmps18
    go_wp2_with (first
      | (go_at_call 23; refine Ret.calls (HM _) ?_; rintro r w' ⟨rfl, rfl⟩)
      | (show wpList _ _ _ (⟨some 17, .binOp _ _ _ _ _, _, _, _, _⟩ :: _) _ _; refine wpList_val rfl (opU_geq rfl rfl (b := 1000) rfl HG.out) ?_; go_frame)
      | (go_at_call 24; refine Ret.calls (HD hS) ?_; clear hS; rintro r w' ⟨rfl, hS⟩)
      | (show wpList _ _ _ (⟨some 25, .binOp _ _ _ _ _, _, _, _, _⟩ :: _) _ _; refine wpList_val rfl (opU_eql rfl rfl (b := 0) rfl HR0.out) ?_; go_frame)
      | (show wpList _ _ _ (⟨some 28, .binOp _ _ _ _ _, _, _, _, _⟩ :: _) _ _; refine wpList_val rfl (opU_eql rfl rfl (b := 18446744073709551615) rfl HQ.out) ?_; go_frame)
      )
    go_ret2
    exact ⟨tupE HP.out.1.symm HP.out.2.symm, hS⟩
  · have HQ := beqF hqm
    have hqM : q < 18446744073709551616 := by
      generalize x * n = N at *
      omega
    have HP := hide (f2 (by
      rw [hc]
      generalize x * n = N at *
      omega))
    have HE : Hid (q + 1 = needC x n) := by
      unfold Hid
      rw [hc]
      generalize x * n = N at *
      omega
    have HQ1 : q + 1 < 18446744073709551616 := by omega
    clear hg f1 f2 hc hq' hr' hh hqm hr0
    go_enter Try.func18, Try.ntmps18
    go_wp2_with (first
      | (go_at_call 23; refine Ret.calls (HM _) ?_; rintro r w' ⟨rfl, rfl⟩)
      | (show wpList _ _ _ (⟨some 17, .binOp _ _ _ _ _, _, _, _, _⟩ :: _) _ _; refine wpList_val rfl (opU_geq rfl rfl (b := 1000) rfl HG.out) ?_; go_frame)
      | (go_at_call 24; refine Ret.calls (HD hS) ?_; clear hS; rintro r w' ⟨rfl, hS⟩)
      | (show wpList _ _ _ (⟨some 25, .binOp _ _ _ _ _, _, _, _, _⟩ :: _) _ _; refine wpList_val rfl (opU_eql rfl rfl (b := 0) rfl HR0.out) ?_; go_frame)
      | (show wpList _ _ _ (⟨some 28, .binOp _ _ _ _ _, _, _, _, _⟩ :: _) _ _; refine wpList_val rfl (opU_eql rfl rfl (b := 18446744073709551615) rfl HQ.out) ?_; go_frame)
      | (show wpList _ _ _ (⟨some 30, .binOp _ _ _ _ _, _, _, _, _⟩ :: _) _ _; refine wpList_val rfl (opU_add rfl rfl (b := 1) rfl HQ1) ?_; go_frame)
      )
    go_ret2
    exact ⟨tupE (HE.out.trans HP.out.1.symm) HP.out.2.symm, hS⟩
end
attribute [irreducible] cmpN partN partE needC needN needE
end Go.Proofs.Ytcaameljecokpaa
