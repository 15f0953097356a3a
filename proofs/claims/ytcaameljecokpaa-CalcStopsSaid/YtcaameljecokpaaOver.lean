/- The document's quotient, bit by bit, is that of the numbers. Conditions: those that stand ahead of each theorem. -/
import Derived.Test.YtcaameljecokpaaRef
namespace Go.Proofs.Ytcaameljecokpaa
open Go.RowKit Go.Px Go.Shelf Go.Calc
theorem ret_tmp3 {P : Program} {fn : Func} {R : Value → World → Prop} {a : Act} {w : World} {s t r : Nat} {u v x : Value} (hr : fn.results = #[.tmp s, .tmp t, .tmp r]) (hd : a.defers = []) (hu : a.tmps.getD s undef = u) (hv : a.tmps.getD t undef = v) (hx : a.tmps.getD r undef = x) (h : R (.tuple #[u, v, x]) w) : bodyPost P fn (Ret R) .ret a w := by
  refine bodyPost_ret (v := .tuple #[u, v, x]) ?_ hd h
  have hu' : a.tmps[s]?.getD undef = u := by simpa using hu
  have hv' : a.tmps[t]?.getD undef = v := by simpa using hv
  have hx' : a.tmps[r]?.getD undef = x := by simpa using hx
  simp [results, hr, hu', hv', hx']
theorem div_of {x d a b : Nat} (h : x = a * d + b) (hb : b < d) : x / d = a ∧ x % d = b := by
  subst h
  constructor
  · rw [Nat.mul_comm, Nat.mul_add_div (by omega), Nat.div_eq_of_lt hb, Nat.add_zero]
  · rw [Nat.mul_comm, Nat.mul_add_mod, Nat.mod_eq_of_lt hb]
theorem over_step {d r q bit N : Nat} (hd : r < d) (hN : N = q * d + r) (hb : bit < 2) :
    (2 * r + bit < d → (2 * N + bit) / d = 2 * q ∧ (2 * N + bit) % d = 2 * r + bit) ∧ (d ≤ 2 * r + bit → (2 * N + bit) / d = 2 * q + 1 ∧ (2 * N + bit) % d = 2 * r + bit - d) := by
  constructor
  · intro h
    refine div_of ?_ h
    rw [hN, Nat.mul_assoc]
    omega
  · intro h
    refine div_of ?_ (by omega)
    rw [hN, Nat.add_mul, Nat.mul_assoc, Nat.one_mul]
    omega
theorem high_bit {hi lo k : Nat} (hk : k < 64) : (hi * 18446744073709551616 + lo) / 2 ^ k % 2 = lo / 2 ^ k % 2 := by
  have e : hi * 18446744073709551616 = 2 ^ k * (2 * (hi * 2 ^ (63 - k))) := by
    rw [show (18446744073709551616 : Nat) = 2 ^ k * (2 * 2 ^ (63 - k)) by
      rw [← Nat.pow_succ', ← Nat.pow_add, show k + (63 - k + 1) = 64 by omega]]
    generalize 2 ^ (63 - k) = p
    generalize 2 ^ k = q
    rw [Nat.mul_left_comm hi q, Nat.mul_left_comm hi 2]
  rw [e, Nat.mul_add_div (Nat.two_pow_pos k), Nat.mul_add_mod]
theorem half_step (W k : Nat) : W / 2 ^ k = 2 * (W / 2 ^ (k + 1)) + W / 2 ^ k % 2 := by
  rw [Nat.pow_succ, ← Nat.div_div_eq_div_mul]
  omega
theorem over_core {d r bit t r1 r2 : Nat} (hd : r < d) (hdM : d < 18446744073709551616) (hb : bit < 2) (h1 : r / 2 ^ 63 = t) (h2 : r * 2 ^ 1 % 18446744073709551616 = r1) (h3 : r1 + bit = r2) :
    (t = 1 ∨ t = 0) ∧ r1 < 18446744073709551616 ∧ r2 < 18446744073709551616 ∧ 2 * r + bit = t * 18446744073709551616 + r2 := by
  refine ⟨?_, ?_, ?_, ?_⟩ <;> omega
theorem over_facts {d r q hi lo k : Nat} (hr : r < d) (hdM : d < 18446744073709551616) (hk : k < 64) (hlo : lo < 18446744073709551616) (hhi : hi < d)
    (hN : (hi * 18446744073709551616 + lo) / 2 ^ (k + 1) = q * d + r) :
    ∃ t r1 bit r2 q1 r3 q2 : Nat, Hid (r / 2 ^ 63 = t) ∧ Hid (r * 2 ^ 1 % 18446744073709551616 = r1) ∧ Hid (lo / 2 ^ k % 2 = bit) ∧ Hid (r1 ||| bit = r2) ∧ Hid (q * 2 ^ 1 % 18446744073709551616 = q1) ∧ Hid (((r2 : Int) - d) % 18446744073709551616 = r3) ∧ Hid (q1 ||| 1 = q2) ∧
      r1 < 18446744073709551616 ∧ bit < 18446744073709551616 ∧ q1 < 18446744073709551616 ∧ (t = 1 ∨ t = 0) ∧
      ((t ≠ 1 ∧ ¬ d ≤ r2) → r2 < d ∧ (hi * 18446744073709551616 + lo) / 2 ^ k = q1 * d + r2) ∧ ((t = 1 ∨ d ≤ r2) → r3 < d ∧ (hi * 18446744073709551616 + lo) / 2 ^ k = q2 * d + r3) := by
  have hs := half_step (hi * 18446744073709551616 + lo) k
  rw [high_bit hk, hN] at hs
  obtain ⟨bit, hbit⟩ : ∃ x, lo / 2 ^ k % 2 = x := ⟨_, Eq.refl _⟩
  have hb2 : bit < 2 := by omega
  obtain ⟨s1, s2⟩ := over_step (q := q) (N := q * d + r) hr (Eq.refl _) hb2
  have hle : (hi * 18446744073709551616 + lo) / 2 ^ k / d ≤ (hi * 18446744073709551616 + lo) / d := Nat.div_le_div_right (Nat.div_le_self _ _)
  have hlt : (hi * 18446744073709551616 + lo) / d < 18446744073709551616 := by
    apply Nat.div_lt_of_lt_mul
    have h2 := Nat.mul_le_mul_right 18446744073709551616 (show hi + 1 ≤ d by omega)
    omega
  rw [hbit] at hs
  rw [← hs] at s1 s2
  obtain ⟨X, hX⟩ : ∃ X, (hi * 18446744073709551616 + lo) / 2 ^ k = X := ⟨_, Eq.refl _⟩
  rw [hX] at hs hle s1 s2 ⊢
  have hq2 : 2 * q < 18446744073709551616 := by
    by_cases h : 2 * r + bit < d
    · have := (s1 h).1
      omega
    · have := (s2 (by omega)).1
      omega
  obtain ⟨t, ht⟩ : ∃ x, r / 2 ^ 63 = x := ⟨_, Eq.refl _⟩
  obtain ⟨r1, hr1⟩ : ∃ x, r * 2 ^ 1 % 18446744073709551616 = x := ⟨_, Eq.refl _⟩
  obtain ⟨r2, hr2⟩ : ∃ x, r1 + bit = x := ⟨_, Eq.refl _⟩
  obtain ⟨c1, c2, c3, c4⟩ := over_core hr hdM hb2 ht hr1 hr2
  obtain ⟨r3, hr3⟩ : ∃ x : Nat, ((r2 : Int) - d) % 18446744073709551616 = x := ⟨(((r2 : Int) - d) % 18446744073709551616).toNat, by omega⟩
  have ho : r1 ||| bit = r2 := by
    have : r1 = r1 / 2 * 2 ^ 1 := by omega
    rw [this, or_add (by omega), ← this, hr2]
  have hq1 : q * 2 ^ 1 % 18446744073709551616 = 2 * q := by omega
  have hq3 : 2 * q ||| 1 = 2 * q + 1 := by
    have := or_add (a := q) (b := 1) (s := 1) (by omega)
    rw [show q * 2 ^ 1 = 2 * q by omega] at this
    exact this
  refine ⟨t, r1, bit, r2, 2 * q, r3, 2 * q + 1, ht, hr1, hbit, ho, hq1, hr3, hq3, c2, by omega, hq2, c1, ?_, ?_⟩
  · rintro ⟨h1, h2⟩
    have e := s1 (by omega)
    have := Nat.div_add_mod X d
    rw [e.1, e.2, Nat.mul_comm] at this
    refine ⟨by omega, ?_⟩
    rw [← this]
    omega
  · intro h1
    have e := s2 (by omega)
    have := Nat.div_add_mod X d
    rw [e.1, e.2, Nat.mul_comm] at this
    refine ⟨by omega, ?_⟩
    rw [← this]
    omega
section
variable {R : Nat → Prop} {base w : World} {F : List Hp}
set_option maxRecDepth 100000 in
set_option maxHeartbeats 4000000 in
theorem over_far (hi lo d : Nat) (h : d ≤ hi) (hS : SepL R base w F) :
    Calls Try.prog 25 #[.agg #[U hi, U lo], U d] w (Ret fun r w' => r = .tuple #[U 0, U 0, .bool false] ∧ SepL R base w' F) := by
  have HG := decT h
  go_enter Try.func25, Try.ntmps25
  go_wp2_with (first
    | (show wpList _ _ _ (⟨_, .box _ _, _, _, _, _⟩ :: _) _ _; refine wpS_boxA (cs := [U hi, U lo]) hS rfl rfl rfl ?_; clear hS; intro nb w hS; go_frame)
    | (show wpList _ _ _ (⟨_, .load 22 _, _, _, _, _⟩ :: _) _ _; refine wpList_val rfl (op_load1S oneU ((hS.bring (by repeat (first | exact t0 | apply tS)))) rfl rfl rfl) ?_; go_frame)
    | (show wpList _ _ _ (⟨some 14, .binOp _ _ _ _ _, _, _, _, _⟩ :: _) _ _; refine wpList_val rfl (opU_geq rfl rfl rfl HG.out) ?_; go_frame)
    )
  exact ret_tmp3 rfl rfl rfl rfl rfl ⟨rfl, hS.tail⟩
set_option maxRecDepth 100000 in
set_option maxHeartbeats 4000000 in
theorem over_s (hi lo d : Nat) (h : hi < d) (hdM : d < 18446744073709551616) (hlo : lo < 18446744073709551616) {x y : Nat} (hx : Hid ((hi * 18446744073709551616 + lo) / d = x)) (hy : Hid ((hi * 18446744073709551616 + lo) % d = y)) (hS : SepL R base w F) :
    Calls Try.prog 25 #[.agg #[U hi, U lo], U d] w (Ret fun r w' => r = .tuple #[U x, U y, .bool true] ∧ SepL R base w' F) := by
  have HGD := decF (show ¬ d ≤ hi by omega)
  have h64 : (hi * 18446744073709551616 + lo) / 2 ^ 64 = 0 * d + hi := by
    rw [show (2 : Nat) ^ 64 = 18446744073709551616 from rfl, Nat.mul_comm, Nat.mul_add_div (by omega), Nat.div_eq_of_lt hlo]
    omega
  have H64 := hide h64
  clear h64
  have hl := hlo
  go_enter Try.func25, Try.ntmps25
  go_wp2_with (first
    | (show wpList _ _ _ (⟨_, .box _ _, _, _, _, _⟩ :: _) _ _; refine wpS_boxA (cs := [U hi, U lo]) hS rfl rfl rfl ?_; clear hS; intro nb w hS; go_frame)
    | (show wpList _ _ _ (⟨_, .load 22 _, _, _, _, _⟩ :: _) _ _; refine wpList_val rfl (op_load1S oneU ((hS.bring (by repeat (first | exact t0 | apply tS)))) rfl rfl rfl) ?_; go_frame)
    | (show wpList _ _ _ (⟨some 14, .binOp _ _ _ _ _, _, _, _, _⟩ :: _) _ _; refine wpList_val rfl (opU_geq rfl rfl rfl HGD.out) ?_; go_frame)
    )
  go_loopw [7, 8, 9] (fun rv qv i wr => ∃ (z : Int) (k r q : Nat), i = .int .i64 z ∧ rv = U r ∧ qv = U q ∧ Hid (z = (k : Int) - 1) ∧ k ≤ 64 ∧ r < d ∧ Hid ((hi * 18446744073709551616 + lo) / 2 ^ k = q * d + r) ∧ SepL R base wr (.blk nb 48 [U hi, U lo] :: F)) (fun _ _ i _ => (intOf i + 1).toNat)
  case atStart => exact ⟨63, 64, hi, 0, rfl, rfl, rfl, by simp [Hid], by omega, h, H64, hS⟩
  case round =>
    clear hS H64
    obtain ⟨z, k, r, q, rfl, rfl, rfl, HZ, hk, hrd, HW, hS⟩ := hrel
    rcases k with _ | k
    · have hz : z = -1 := by have := HZ.out; omega
      subst hz
      rw [Nat.pow_zero, Nat.div_one] at HW
      have e1 := div_of HW.out hrd
      rw [hx.out, hy.out] at e1
      have E1 := hide e1
      clear e1 HW HZ
      go_wp2_with fail
      refine ret_tmp3 rfl rfl rfl rfl rfl ⟨?_, hS.tail⟩
      rw [E1.out.1, E1.out.2]
      rfl
    · have hz : z = k := by have := HZ.out; omega
      subst hz
      obtain ⟨t, r1, bit, r2, q1, r3, q2, K1, K2, HBIT, K3, K4, K5, K6, m1, m2, m3, ht, f1, f2⟩ := over_facts hrd hdM (by omega) hlo h HW.out
      have hrM : r < 18446744073709551616 := by omega
      obtain ⟨z2, hz2, hz3, hz4⟩ := dec1 k (by omega)
      have HG := decT (show (0 : Int) ≤ (k : Int) by omega)
      have HC : Hid ((k : Int) % 18446744073709551616 = (k : Nat)) := by
        unfold Hid
        omega
      obtain ⟨b1, hb1⟩ : ∃ x, Hid (lo / 2 ^ k = x) := ⟨_, Eq.refl _⟩
      have hb1M : b1 < 18446744073709551616 := by rw [← hb1.out]; exact Nat.lt_of_le_of_lt (Nat.div_le_self _ _) hlo
      rw [hb1.out] at HBIT
      clear HW
      have HZ2 := hide hz2
      have HZ3 : Hid (z2 = (k : Int) - 1) := hz2.symm
      clear hz2 HZ
      by_cases hL : d ≤ r2
      · obtain ⟨g1, g2⟩ := f2 (.inr hL)
        have G2 := hide g2
        have HL := decT hL
        clear f1 f2 g2 hL
        rcases ht with ht | ht
        · have HT : Hid ((t == 1) = true) := by rw [ht]; rfl
          clear ht
          go_wp2_with (first
            | (show wpList _ _ _ (⟨some 18, .binOp _ _ _ _ _, _, _, _, _⟩ :: _) _ _; refine wpList_val rfl (op_igeq rfl rfl rfl HG.out) ?_; go_frame)
            | (show wpList _ _ _ (⟨some 20, .binOp _ _ _ _ _, _, _, _, _⟩ :: _) _ _; refine wpList_val rfl (opI_sub rfl rfl rfl z2 HZ2.out hz3 hz4) ?_; go_frame)
            | (show wpList _ _ _ (⟨some 22, .binOp _ _ _ _ _, _, _, _, _⟩ :: _) _ _; refine wpList_val rfl (opU_shrN rfl rfl (c := 63) rfl hrM _ K1.out) ?_; go_frame)
            | (show wpList _ _ _ (⟨some 24, .binOp _ _ _ _ _, _, _, _, _⟩ :: _) _ _; refine wpList_val rfl (opU_shlW rfl rfl (c := 1) rfl _ K2.out) ?_; go_frame)
            | (show wpList _ _ _ (⟨_, .load 22 _, _, _, _, _⟩ :: _) _ _; refine wpList_val rfl (op_load1S oneU ((hS.bring (by repeat (first | exact t0 | apply tS)))) rfl rfl rfl) ?_; go_frame)
            | (show wpList _ _ _ (⟨some 28, .convert _ _ _, _, _, _, _⟩ :: _) _ _; refine wpList_val rfl (opU_ofInt Try.underlying3 Try.underlying50 rfl rfl k HC.out) ?_; go_frame)
            | (show wpList _ _ _ (⟨some 29, .binOp _ _ _ _ _, _, _, _, _⟩ :: _) _ _; refine wpList_val rfl (opU_shrN rfl rfl rfl hl b1 hb1.out) ?_; go_frame)
            | (show wpList _ _ _ (⟨some 30, .binOp _ _ _ _ _, _, _, _, _⟩ :: _) _ _; refine wpList_val rfl (opU_bit0 rfl rfl rfl hb1M) ?_; rw [HBIT.out]; go_frame)
            | (show wpList _ _ _ (⟨some 31, .binOp _ _ _ _ _, _, _, _, _⟩ :: _) _ _; refine wpList_val rfl (opU_or rfl rfl rfl m1 m2 _ K3.out) ?_; go_frame)
            | (show wpList _ _ _ (⟨some 33, .binOp _ _ _ _ _, _, _, _, _⟩ :: _) _ _; refine wpList_val rfl (opU_shlW rfl rfl (c := 1) rfl _ K4.out) ?_; go_frame)
            | (show wpList _ _ _ (⟨some 35, .binOp _ _ _ _ _, _, _, _, _⟩ :: _) _ _; refine wpList_val rfl (opU_eql rfl rfl (b := 1) rfl HT.out) ?_; go_frame)
            | (show wpList _ _ _ (⟨some 39, .binOp _ _ _ _ _, _, _, _, _⟩ :: _) _ _; refine wpList_val rfl (opU_geq rfl rfl rfl HL.out) ?_; go_frame)
            | (show wpList _ _ _ (⟨some 43, .binOp _ _ _ _ _, _, _, _, _⟩ :: _) _ _; refine wpList_val rfl (opU_subW rfl rfl rfl _ K5.out) ?_; go_frame)
            | (show wpList _ _ _ (⟨some 45, .binOp _ _ _ _ _, _, _, _, _⟩ :: _) _ _; refine wpList_val rfl (opU_or rfl rfl (b := 1) rfl m3 (by omega) _ K6.out) ?_; go_frame)
            )
          go_roundw
          case rel => exact ⟨z2, k, r3, q2, rfl, rfl, rfl, HZ3, by omega, g1, G2, hS.sel (by repeat (first | exact Sel.refl | refine Sel.take (by repeat (first | exact t0 | apply tS)) ?_ | apply Sel.drop))⟩
          case measure => simp [intOf]; have := HZ3.out; omega
        · have HT : Hid ((t == 1) = false) := by rw [ht]; rfl
          clear ht
          go_wp2_with (first
            | (show wpList _ _ _ (⟨some 18, .binOp _ _ _ _ _, _, _, _, _⟩ :: _) _ _; refine wpList_val rfl (op_igeq rfl rfl rfl HG.out) ?_; go_frame)
            | (show wpList _ _ _ (⟨some 20, .binOp _ _ _ _ _, _, _, _, _⟩ :: _) _ _; refine wpList_val rfl (opI_sub rfl rfl rfl z2 HZ2.out hz3 hz4) ?_; go_frame)
            | (show wpList _ _ _ (⟨some 22, .binOp _ _ _ _ _, _, _, _, _⟩ :: _) _ _; refine wpList_val rfl (opU_shrN rfl rfl (c := 63) rfl hrM _ K1.out) ?_; go_frame)
            | (show wpList _ _ _ (⟨some 24, .binOp _ _ _ _ _, _, _, _, _⟩ :: _) _ _; refine wpList_val rfl (opU_shlW rfl rfl (c := 1) rfl _ K2.out) ?_; go_frame)
            | (show wpList _ _ _ (⟨_, .load 22 _, _, _, _, _⟩ :: _) _ _; refine wpList_val rfl (op_load1S oneU ((hS.bring (by repeat (first | exact t0 | apply tS)))) rfl rfl rfl) ?_; go_frame)
            | (show wpList _ _ _ (⟨some 28, .convert _ _ _, _, _, _, _⟩ :: _) _ _; refine wpList_val rfl (opU_ofInt Try.underlying3 Try.underlying50 rfl rfl k HC.out) ?_; go_frame)
            | (show wpList _ _ _ (⟨some 29, .binOp _ _ _ _ _, _, _, _, _⟩ :: _) _ _; refine wpList_val rfl (opU_shrN rfl rfl rfl hl b1 hb1.out) ?_; go_frame)
            | (show wpList _ _ _ (⟨some 30, .binOp _ _ _ _ _, _, _, _, _⟩ :: _) _ _; refine wpList_val rfl (opU_bit0 rfl rfl rfl hb1M) ?_; rw [HBIT.out]; go_frame)
            | (show wpList _ _ _ (⟨some 31, .binOp _ _ _ _ _, _, _, _, _⟩ :: _) _ _; refine wpList_val rfl (opU_or rfl rfl rfl m1 m2 _ K3.out) ?_; go_frame)
            | (show wpList _ _ _ (⟨some 33, .binOp _ _ _ _ _, _, _, _, _⟩ :: _) _ _; refine wpList_val rfl (opU_shlW rfl rfl (c := 1) rfl _ K4.out) ?_; go_frame)
            | (show wpList _ _ _ (⟨some 35, .binOp _ _ _ _ _, _, _, _, _⟩ :: _) _ _; refine wpList_val rfl (opU_eql rfl rfl (b := 1) rfl HT.out) ?_; go_frame)
            | (show wpList _ _ _ (⟨some 39, .binOp _ _ _ _ _, _, _, _, _⟩ :: _) _ _; refine wpList_val rfl (opU_geq rfl rfl rfl HL.out) ?_; go_frame)
            | (show wpList _ _ _ (⟨some 43, .binOp _ _ _ _ _, _, _, _, _⟩ :: _) _ _; refine wpList_val rfl (opU_subW rfl rfl rfl _ K5.out) ?_; go_frame)
            | (show wpList _ _ _ (⟨some 45, .binOp _ _ _ _ _, _, _, _, _⟩ :: _) _ _; refine wpList_val rfl (opU_or rfl rfl (b := 1) rfl m3 (by omega) _ K6.out) ?_; go_frame)
            )
          go_roundw
          case rel => exact ⟨z2, k, r3, q2, rfl, rfl, rfl, HZ3, by omega, g1, G2, hS.sel (by repeat (first | exact Sel.refl | refine Sel.take (by repeat (first | exact t0 | apply tS)) ?_ | apply Sel.drop))⟩
          case measure => simp [intOf]; have := HZ3.out; omega
      · rcases ht with ht | ht
        · obtain ⟨g1, g2⟩ := f2 (.inl ht)
          have G2 := hide g2
          have HL := decF hL
          have HT : Hid ((t == 1) = true) := by rw [ht]; rfl
          clear f1 f2 g2 hL ht
          go_wp2_with (first
            | (show wpList _ _ _ (⟨some 18, .binOp _ _ _ _ _, _, _, _, _⟩ :: _) _ _; refine wpList_val rfl (op_igeq rfl rfl rfl HG.out) ?_; go_frame)
            | (show wpList _ _ _ (⟨some 20, .binOp _ _ _ _ _, _, _, _, _⟩ :: _) _ _; refine wpList_val rfl (opI_sub rfl rfl rfl z2 HZ2.out hz3 hz4) ?_; go_frame)
            | (show wpList _ _ _ (⟨some 22, .binOp _ _ _ _ _, _, _, _, _⟩ :: _) _ _; refine wpList_val rfl (opU_shrN rfl rfl (c := 63) rfl hrM _ K1.out) ?_; go_frame)
            | (show wpList _ _ _ (⟨some 24, .binOp _ _ _ _ _, _, _, _, _⟩ :: _) _ _; refine wpList_val rfl (opU_shlW rfl rfl (c := 1) rfl _ K2.out) ?_; go_frame)
            | (show wpList _ _ _ (⟨_, .load 22 _, _, _, _, _⟩ :: _) _ _; refine wpList_val rfl (op_load1S oneU ((hS.bring (by repeat (first | exact t0 | apply tS)))) rfl rfl rfl) ?_; go_frame)
            | (show wpList _ _ _ (⟨some 28, .convert _ _ _, _, _, _, _⟩ :: _) _ _; refine wpList_val rfl (opU_ofInt Try.underlying3 Try.underlying50 rfl rfl k HC.out) ?_; go_frame)
            | (show wpList _ _ _ (⟨some 29, .binOp _ _ _ _ _, _, _, _, _⟩ :: _) _ _; refine wpList_val rfl (opU_shrN rfl rfl rfl hl b1 hb1.out) ?_; go_frame)
            | (show wpList _ _ _ (⟨some 30, .binOp _ _ _ _ _, _, _, _, _⟩ :: _) _ _; refine wpList_val rfl (opU_bit0 rfl rfl rfl hb1M) ?_; rw [HBIT.out]; go_frame)
            | (show wpList _ _ _ (⟨some 31, .binOp _ _ _ _ _, _, _, _, _⟩ :: _) _ _; refine wpList_val rfl (opU_or rfl rfl rfl m1 m2 _ K3.out) ?_; go_frame)
            | (show wpList _ _ _ (⟨some 33, .binOp _ _ _ _ _, _, _, _, _⟩ :: _) _ _; refine wpList_val rfl (opU_shlW rfl rfl (c := 1) rfl _ K4.out) ?_; go_frame)
            | (show wpList _ _ _ (⟨some 35, .binOp _ _ _ _ _, _, _, _, _⟩ :: _) _ _; refine wpList_val rfl (opU_eql rfl rfl (b := 1) rfl HT.out) ?_; go_frame)
            | (show wpList _ _ _ (⟨some 39, .binOp _ _ _ _ _, _, _, _, _⟩ :: _) _ _; refine wpList_val rfl (opU_geq rfl rfl rfl HL.out) ?_; go_frame)
            | (show wpList _ _ _ (⟨some 43, .binOp _ _ _ _ _, _, _, _, _⟩ :: _) _ _; refine wpList_val rfl (opU_subW rfl rfl rfl _ K5.out) ?_; go_frame)
            | (show wpList _ _ _ (⟨some 45, .binOp _ _ _ _ _, _, _, _, _⟩ :: _) _ _; refine wpList_val rfl (opU_or rfl rfl (b := 1) rfl m3 (by omega) _ K6.out) ?_; go_frame)
            )
          go_roundw
          case rel => exact ⟨z2, k, r3, q2, rfl, rfl, rfl, HZ3, by omega, g1, G2, hS.sel (by repeat (first | exact Sel.refl | refine Sel.take (by repeat (first | exact t0 | apply tS)) ?_ | apply Sel.drop))⟩
          case measure => simp [intOf]; have := HZ3.out; omega
        · obtain ⟨g1, g2⟩ := f1 ⟨by omega, hL⟩
          have G2 := hide g2
          have HL := decF hL
          have HT : Hid ((t == 1) = false) := by rw [ht]; rfl
          clear f1 f2 g2 hL ht
          go_wp2_with (first
            | (show wpList _ _ _ (⟨some 18, .binOp _ _ _ _ _, _, _, _, _⟩ :: _) _ _; refine wpList_val rfl (op_igeq rfl rfl rfl HG.out) ?_; go_frame)
            | (show wpList _ _ _ (⟨some 20, .binOp _ _ _ _ _, _, _, _, _⟩ :: _) _ _; refine wpList_val rfl (opI_sub rfl rfl rfl z2 HZ2.out hz3 hz4) ?_; go_frame)
            | (show wpList _ _ _ (⟨some 22, .binOp _ _ _ _ _, _, _, _, _⟩ :: _) _ _; refine wpList_val rfl (opU_shrN rfl rfl (c := 63) rfl hrM _ K1.out) ?_; go_frame)
            | (show wpList _ _ _ (⟨some 24, .binOp _ _ _ _ _, _, _, _, _⟩ :: _) _ _; refine wpList_val rfl (opU_shlW rfl rfl (c := 1) rfl _ K2.out) ?_; go_frame)
            | (show wpList _ _ _ (⟨_, .load 22 _, _, _, _, _⟩ :: _) _ _; refine wpList_val rfl (op_load1S oneU ((hS.bring (by repeat (first | exact t0 | apply tS)))) rfl rfl rfl) ?_; go_frame)
            | (show wpList _ _ _ (⟨some 28, .convert _ _ _, _, _, _, _⟩ :: _) _ _; refine wpList_val rfl (opU_ofInt Try.underlying3 Try.underlying50 rfl rfl k HC.out) ?_; go_frame)
            | (show wpList _ _ _ (⟨some 29, .binOp _ _ _ _ _, _, _, _, _⟩ :: _) _ _; refine wpList_val rfl (opU_shrN rfl rfl rfl hl b1 hb1.out) ?_; go_frame)
            | (show wpList _ _ _ (⟨some 30, .binOp _ _ _ _ _, _, _, _, _⟩ :: _) _ _; refine wpList_val rfl (opU_bit0 rfl rfl rfl hb1M) ?_; rw [HBIT.out]; go_frame)
            | (show wpList _ _ _ (⟨some 31, .binOp _ _ _ _ _, _, _, _, _⟩ :: _) _ _; refine wpList_val rfl (opU_or rfl rfl rfl m1 m2 _ K3.out) ?_; go_frame)
            | (show wpList _ _ _ (⟨some 33, .binOp _ _ _ _ _, _, _, _, _⟩ :: _) _ _; refine wpList_val rfl (opU_shlW rfl rfl (c := 1) rfl _ K4.out) ?_; go_frame)
            | (show wpList _ _ _ (⟨some 35, .binOp _ _ _ _ _, _, _, _, _⟩ :: _) _ _; refine wpList_val rfl (opU_eql rfl rfl (b := 1) rfl HT.out) ?_; go_frame)
            | (show wpList _ _ _ (⟨some 39, .binOp _ _ _ _ _, _, _, _, _⟩ :: _) _ _; refine wpList_val rfl (opU_geq rfl rfl rfl HL.out) ?_; go_frame)
            | (show wpList _ _ _ (⟨some 43, .binOp _ _ _ _ _, _, _, _, _⟩ :: _) _ _; refine wpList_val rfl (opU_subW rfl rfl rfl _ K5.out) ?_; go_frame)
            | (show wpList _ _ _ (⟨some 45, .binOp _ _ _ _ _, _, _, _, _⟩ :: _) _ _; refine wpList_val rfl (opU_or rfl rfl (b := 1) rfl m3 (by omega) _ K6.out) ?_; go_frame)
            )
          go_roundw
          case rel => exact ⟨z2, k, r2, q1, rfl, rfl, rfl, HZ3, by omega, g1, G2, hS.sel (by repeat (first | exact Sel.refl | refine Sel.take (by repeat (first | exact t0 | apply tS)) ?_ | apply Sel.drop))⟩
          case measure => simp [intOf]; have := HZ3.out; omega
end
end Go.Proofs.Ytcaameljecokpaa
