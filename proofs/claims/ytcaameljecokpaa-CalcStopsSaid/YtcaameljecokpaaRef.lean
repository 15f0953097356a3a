/- The document's products and quotients, bit by bit, are those of the numbers. Conditions: those that stand ahead of each theorem. -/
import Derived.Test.YtcaameljecokpaaFn2
namespace Go.Proofs.Ytcaameljecokpaa
open Go.RowKit Go.Px Go.Shelf Go.Calc
theorem infoU1 : (Try.prog.info? 22).map (·.size) = some 1 := by kernel_rfl
theorem aggW : Agg Try.prog 48 2 := Agg.of Try.underlying48 rfl (by kernel_rfl)
theorem ret_cell {P : Program} {fn : Func} {R : Value → World → Prop} {a : Act} {w : World} {t T T' : Nat} {n b : Nat} {cs : List Value} (A : Agg P T n) (hr : fn.results = #[.cell t T]) (hd : a.defers = []) (ha : a.tmps.getD t undef = .pointer (some ⟨b, 0, none⟩)) (hB : Blk w b T' cs) (hn : cs.length = n) (h : R (.agg cs.toArray) w) : bodyPost P fn (Ret R) .ret a w := by
  refine bodyPost_ret (v := .agg cs.toArray) ?_ hd h
  have hl := run_loadVar_cells A hB.cells hn
  have ha' : a.tmps[t]?.getD undef = .pointer (some ⟨b, 0, none⟩) := by simpa using ha
  simp [results, hr, asAddr, ha', hl]
theorem opI_sub {P : Program} {o : Oper} {w : World} {ρ : Operand → Value} {t t' : TypeId} {x y : Operand} (ho : o.op = .binOp .sub t x y t') {a b : Int} (hx : ρ x = .int .i64 a) (hy : ρ y = .int .i64 b) (z : Int) (hz : a - b = z) (h1 : -9223372036854775808 ≤ z) (h2 : z ≤ 9223372036854775807) : (execOp ρ o).run P w = .ok (.value (.int .i64 z)) w := by
  have e : IntKind.i64.wrap (a - b) = z := by rw [hz]; exact IntWalk.i64_in _ (by omega)
  unfold execOp
  simp only [ho, hx, hy, Sem.run_bind, run_eqGuard_int, Result.andThen_ok, binOp, ne_eq, not_true_eq_false, if_false, Op.intArith, Sem.run_pure, e]
theorem one_more {h l2 l3 a : Nat} (k : l3 + 18446744073709551616 = l2 + a) : (h + 1) * 18446744073709551616 + l3 = h * 18446744073709551616 + l2 + a := by
  rw [Nat.add_mul, Nat.one_mul]
  generalize h * 18446744073709551616 = p
  omega
theorem buildW (x y : Nat) (w : World) : (Instr.build 48 #[(0, U x), (1, U y)]).run Try.prog w = .ok (.agg #[U x, U y]) w := by kernel_rfl
theorem times_core {a hi lo l2 g h2 l3 c : Nat} (hl : lo < 18446744073709551616) (hl2 : lo * 2 ^ 1 % 18446744073709551616 = l2) (hg : lo / 2 ^ 63 = g) (hh2 : hi * 2 + g = h2) (hl3 : (l2 + a) % 18446744073709551616 = l3) (hc : (h2 + 1) % 18446744073709551616 = c) (ha : a < 18446744073709551616) (h1 : hi * 2 < 18446744073709551616) :
    h2 < 18446744073709551616 ∧ h2 * 18446744073709551616 + l2 = 2 * (hi * 18446744073709551616 + lo) ∧
    (l3 < l2 → 2 * (hi * 18446744073709551616 + lo) + a < 18446744073709551616 * 18446744073709551616 → c * 18446744073709551616 + l3 = 2 * (hi * 18446744073709551616 + lo) + a) ∧ (¬ l3 < l2 → h2 * 18446744073709551616 + l3 = 2 * (hi * 18446744073709551616 + lo) + a) ∧ True := by
  have k2 : l2 + g * 18446744073709551616 = 2 * lo := by omega
  have k0 : h2 < 18446744073709551616 := by omega
  have k3 : h2 * 18446744073709551616 + l2 = 2 * (hi * 18446744073709551616 + lo) := by omega
  refine ⟨k0, k3, ?_, ?_, trivial⟩
  · intro hlt hM
    rw [← k3] at hM ⊢
    have k4 : l3 + 18446744073709551616 = l2 + a := by omega
    have k5 : c = h2 + 1 := by omega
    rw [k5]
    exact one_more k4
  · intro hlt
    rw [← k3]
    omega
/-- one bit more of a product -/
theorem times_facts {a b k hi lo : Nat} (ha : a < 18446744073709551616) (hb : b < 18446744073709551616) (hw : hi * 18446744073709551616 + lo = a * (b / 2 ^ (k + 1))) (hl : lo < 18446744073709551616) :
    ∃ h1 g h2 l2 bit l3 c : Nat, Hid (hi * 2 ^ 1 % 18446744073709551616 = h1) ∧ Hid (lo / 2 ^ 63 = g) ∧ Hid (h1 ||| g = h2) ∧ Hid (lo * 2 ^ 1 % 18446744073709551616 = l2) ∧ Hid (b / 2 ^ k % 2 = bit) ∧ Hid ((l2 + a) % 18446744073709551616 = l3) ∧
      h1 < 18446744073709551616 ∧ g < 18446744073709551616 ∧ l2 < 18446744073709551616 ∧ l3 < 18446744073709551616 ∧ h2 < 18446744073709551616 ∧ bit < 2 ∧ c < 18446744073709551616 ∧
      (bit ≠ 1 → h2 * 18446744073709551616 + l2 = a * (b / 2 ^ k)) ∧ (bit = 1 → l3 < l2 → Hid ((h2 + 1) % 18446744073709551616 = c) ∧ c * 18446744073709551616 + l3 = a * (b / 2 ^ k)) ∧ (bit = 1 → ¬ l3 < l2 → h2 * 18446744073709551616 + l3 = a * (b / 2 ^ k)) := by
  have hB : b / 2 ^ k < 18446744073709551616 := Nat.lt_of_le_of_lt (Nat.div_le_self _ _) hb
  have hbits : b / 2 ^ k = 2 * (b / 2 ^ (k + 1)) + b / 2 ^ k % 2 := by
    rw [Nat.pow_succ, ← Nat.div_div_eq_div_mul]
    omega
  have hmax := mul_lt ha hB
  obtain ⟨e, he⟩ : ∃ e, b / 2 ^ k = e := ⟨_, Eq.refl _⟩
  obtain ⟨f, hf⟩ : ∃ e, b / 2 ^ (k + 1) = e := ⟨_, Eq.refl _⟩
  rw [he] at hbits hmax ⊢
  rw [hf] at hbits hw
  obtain ⟨p, hp⟩ : ∃ p, a * f = p := ⟨_, Eq.refl _⟩
  rw [hp] at hw
  have hg : lo / 2 ^ 63 < 2 ^ 1 := by omega
  have hor : hi * 2 ^ 1 ||| lo / 2 ^ 63 = hi * 2 ^ 1 + lo / 2 ^ 63 := or_add hg
  obtain ⟨bit, hbit⟩ : ∃ bit, e % 2 = bit := ⟨_, Eq.refl _⟩
  rw [hbit] at hbits
  have hmul : a * e = 2 * p + a * bit := by
    rw [hbits, Nat.mul_add, Nat.mul_left_comm, hp]
  have hb2 : bit < 2 := by omega
  have hab : a * bit = if bit = 1 then a else 0 := by
    rcases (show bit = 0 ∨ bit = 1 by omega) with h | h
    · subst h
      simp
    · subst h
      simp
  rw [hab] at hmul
  have hle : 2 * p ≤ a * e := by omega
  have h1 : hi * 2 < 18446744073709551616 := by omega
  have e1 : hi * 2 ^ 1 % 18446744073709551616 = hi * 2 := by omega
  rw [show (2 : Nat) ^ 1 = 2 from rfl] at hor
  obtain ⟨l2, hl2⟩ : ∃ x, lo * 2 ^ 1 % 18446744073709551616 = x := ⟨_, Eq.refl _⟩
  obtain ⟨g, hgg⟩ : ∃ x, lo / 2 ^ 63 = x := ⟨_, Eq.refl _⟩
  rw [hgg] at hor
  obtain ⟨h2, hh2⟩ : ∃ x, hi * 2 + g = x := ⟨_, Eq.refl _⟩
  rw [hh2] at hor
  obtain ⟨l3, hl3⟩ : ∃ x, (l2 + a) % 18446744073709551616 = x := ⟨_, Eq.refl _⟩
  obtain ⟨c, hc⟩ : ∃ x, (h2 + 1) % 18446744073709551616 = x := ⟨_, Eq.refl _⟩
  obtain ⟨k1, k2, k3, k4, k5⟩ := times_core hl hl2 hgg hh2 hl3 hc ha h1
  refine ⟨hi * 2, g, h2, l2, bit, l3, c, e1, hgg, hor, hl2, hbit, hl3, h1, by omega, by omega, by omega, k1, hb2, by omega, ?_, ?_, ?_⟩
  · intro h
    rw [if_neg h, Nat.add_zero] at hmul
    rw [hmul, ← hw]
    exact k2
  · intro h hlt
    rw [if_pos h] at hmul
    rw [hmul] at hmax ⊢
    rw [← hw] at hmax ⊢
    exact ⟨hc, k3 hlt hmax⟩
  · intro h hlt
    rw [if_pos h] at hmul
    rw [hmul, ← hw]
    exact k4 hlt
section
variable {R : Nat → Prop} {base w : World} {F : List Hp}
theorem dec1 (k : Nat) (hk : k ≤ 64) : ∃ z : Int, ((k : Nat) : Int) - 1 = z ∧ -9223372036854775808 ≤ z ∧ z ≤ 9223372036854775807 := ⟨_, rfl, by omega, by omega⟩
set_option maxRecDepth 100000 in
set_option maxHeartbeats 4000000 in
theorem times_s (a b : Nat) (ha : a < 18446744073709551616) (hb : b < 18446744073709551616) {p q : Nat} (hp : Hid (a * b / 18446744073709551616 = p)) (hq : Hid (a * b % 18446744073709551616 = q)) (hS : SepL R base w F) :
    Calls Try.prog 26 #[U a, U b] w (Ret fun r w' => r = .agg #[U p, U q] ∧ SepL R base w' F) := by
  go_enter Try.func26, Try.ntmps26
  go_wp2_with (first
    | (show wpList _ _ _ (⟨some 4, .alloc _, _, _, _, _⟩ :: _) _ _; refine wpS_alloc hS rfl rfl Try.zeroValue48 (zs := [U 0, U 0]) rfl ?_; clear hS; intro nr w hS; go_frame)
    | (show wpList _ _ _ (⟨some 5, .alloc _, _, _, _, _⟩ :: _) _ _; refine wpS_alloc hS rfl rfl Try.zeroValue48 (zs := [U 0, U 0]) rfl ?_; clear hS; intro nb w hS; go_frame)
    )
  go_loopw [6] (fun i wr => ∃ (z : Int) (k hi lo : Nat), i = .int .i64 z ∧ Hid (z = (k : Int) - 1) ∧ k ≤ 64 ∧ lo < 18446744073709551616 ∧ hi < 18446744073709551616 ∧ Hid (hi * 18446744073709551616 + lo = a * (b / 2 ^ k)) ∧ SepL R base wr (.blk nb 48 [U hi, U lo] :: .blk nr 48 [U 0, U 0] :: F)) (fun i _ => (intOf i + 1).toNat)
  case atStart => exact ⟨63, 64, 0, 0, rfl, by simp [Hid], by omega, by omega, by omega, by rw [Nat.div_eq_of_lt hb]; simp [Hid], hS⟩
  case round =>
    clear hS
    obtain ⟨z, k, hi, lo, rfl, HZ, hk, hl, hh, HW, hS⟩ := hrel
    rcases k with _ | k
    · have hz : z = -1 := by have := HZ.out; omega
      subst hz
      rw [Nat.pow_zero, Nat.div_one] at HW
      have e1 : hi = p := by rw [← hp.out, ← HW.out, Nat.mul_comm, Nat.mul_add_div (by omega), Nat.div_eq_of_lt hl, Nat.add_zero]
      have e2 : lo = q := by rw [← hq.out, ← HW.out, Nat.mul_comm, Nat.mul_add_mod, Nat.mod_eq_of_lt hl]
      subst e1 e2
      clear HW HZ
      go_wp2_with (first
        | (show wpList _ _ _ (⟨_, .load 48 _, _, _, _, _⟩ :: _) _ _; refine wpList_val rfl (op_load aggW rfl rfl ((hS.bring (by repeat (first | exact t0 | apply tS))).getBlk.cells) rfl) ?_; go_frame)
        | (show wpList _ _ _ (⟨_, .store 48 _ _, _, _, _, _⟩ :: _) _ _; (refine wpS_storeAll aggW (hS.bring (by repeat (first | exact t0 | apply tS))) rfl rfl rfl (vs := [U hi, U lo]) rfl rfl (by simp [U, Value.oneCell']) rfl ?_); clear hS; intro w hS; go_frame)
        )
      exact ret_cell aggW rfl rfl rfl ((hS.bring (by repeat (first | exact t0 | apply tS))).getBlk) rfl ⟨rfl, hS.tail.tail⟩
    · have hz : z = k := by have := HZ.out; omega
      subst hz
      obtain ⟨h1, g, h2, l2, bit, l3, c, K1, K2, K3, K4, K5, K6, m1, m2, m3, m4, m5, m6, m7, f1, f2, f3⟩ := times_facts ha hb HW.out hl
      obtain ⟨z2, hz2, hz3, hz4⟩ := dec1 k (by omega)
      have HG := decT (show (0 : Int) ≤ (k : Int) by omega)
      have HC : Hid ((k : Int) % 18446744073709551616 = (k : Nat)) := by
        unfold Hid
        omega
      obtain ⟨b1, hb1⟩ : ∃ x, Hid (b / 2 ^ k = x) := ⟨_, Eq.refl _⟩
      have hb1M : b1 < 18446744073709551616 := by rw [← hb1.out]; exact Nat.lt_of_le_of_lt (Nat.div_le_self _ _) hb
      have K5' : Hid (b1 % 2 = bit) := by rw [← hb1.out]; exact K5
      clear HW K5
      have HZ2 := hide hz2
      have HZ3 : Hid (z2 = (k : Int) - 1) := hz2.symm
      clear hz2 HZ
      by_cases hbit : bit = 1
      · have HB : Hid ((bit == 1) = true) := by rw [hbit]; rfl
        by_cases hlt : l3 < l2
        · have HL := decT hlt
          obtain ⟨K7, HW⟩ := f2 hbit hlt
          have HW' := hide HW
          clear f1 f2 f3 HW hlt hbit
          go_wp2_with (first
            | (show wpList _ _ _ (⟨some 9, .binOp _ _ _ _ _, _, _, _, _⟩ :: _) _ _; refine wpList_val rfl (op_igeq rfl rfl rfl HG.out) ?_; go_frame)
            | (show wpList _ _ _ (⟨some 11, .binOp _ _ _ _ _, _, _, _, _⟩ :: _) _ _; refine wpList_val rfl (opI_sub rfl rfl rfl z2 HZ2.out hz3 hz4) ?_; go_frame)
            | (show wpList _ _ _ (⟨some 14, .binOp _ _ _ _ _, _, _, _, _⟩ :: _) _ _; refine wpList_val rfl (opU_shlW rfl rfl (c := 1) rfl _ K1.out) ?_; go_frame)
            | (show wpList _ _ _ (⟨some 17, .binOp _ _ _ _ _, _, _, _, _⟩ :: _) _ _; refine wpList_val rfl (opU_shrN rfl rfl (c := 63) rfl hl _ K2.out) ?_; go_frame)
            | (show wpList _ _ _ (⟨some 18, .binOp _ _ _ _ _, _, _, _, _⟩ :: _) _ _; refine wpList_val rfl (opU_or rfl rfl rfl m1 m2 _ K3.out) ?_; go_frame)
            | (show wpList _ _ _ (⟨some 21, .binOp _ _ _ _ _, _, _, _, _⟩ :: _) _ _; refine wpList_val rfl (opU_shlW rfl rfl (c := 1) rfl _ K4.out) ?_; go_frame)
            | (show wpList _ _ _ (⟨some 22, .build _ _, _, _, _, _⟩ :: _) _ _; refine wpList_val rfl (op_build (ps := #[(0, U h2), (1, U l2)]) rfl rfl (buildW h2 l2) _) ?_; go_frame)
            | (show wpList _ _ _ (⟨some 25, .convert _ _ _, _, _, _, _⟩ :: _) _ _; refine wpList_val rfl (opU_ofInt Try.underlying3 Try.underlying50 rfl rfl k HC.out) ?_; go_frame)
            | (show wpList _ _ _ (⟨some 26, .binOp _ _ _ _ _, _, _, _, _⟩ :: _) _ _; refine wpList_val rfl (opU_shrN rfl rfl rfl hb b1 hb1.out) ?_; go_frame)
            | (show wpList _ _ _ (⟨some 27, .binOp _ _ _ _ _, _, _, _, _⟩ :: _) _ _; refine wpList_val rfl (opU_bit0 rfl rfl rfl hb1M) ?_; rw [K5'.out]; go_frame)
            | (show wpList _ _ _ (⟨some 28, .binOp _ _ _ _ _, _, _, _, _⟩ :: _) _ _; refine wpList_val rfl (opU_eql rfl rfl (b := 1) rfl HB.out) ?_; go_frame)
            | (show wpList _ _ _ (⟨some 32, .binOp _ _ _ _ _, _, _, _, _⟩ :: _) _ _; refine wpList_val rfl (opU_addW rfl rfl rfl _ K6.out) ?_; go_frame)
            | (show wpList _ _ _ (⟨some 36, .binOp _ _ _ _ _, _, _, _, _⟩ :: _) _ _; refine wpList_val rfl (opU_lss rfl rfl rfl HL.out) ?_; go_frame)
            | (show wpList _ _ _ (⟨some 39, .binOp _ _ _ _ _, _, _, _, _⟩ :: _) _ _; refine wpList_val rfl (opU_addW rfl rfl (b := 1) rfl _ K7.out) ?_; go_frame)
            | (show wpList _ _ _ (⟨_, .load 22 _, _, _, _, _⟩ :: _) _ _; refine wpList_val rfl (op_load1S oneU ((hS.bring (by repeat (first | exact t0 | apply tS)))) rfl rfl rfl) ?_; go_frame)
            | (show wpList _ _ _ (⟨_, .store 48 _ _, _, _, _, _⟩ :: _) _ _; (refine wpS_storeAll aggW (hS.bring (by repeat (first | exact t0 | apply tS))) rfl rfl rfl (vs := [U h2, U l2]) rfl rfl (by simp [U, Value.oneCell']) rfl ?_); clear hS; intro w hS; go_frame)
            | (show wpList _ _ _ (⟨_, .store 22 _ _, _, _, _, _⟩ :: _) _ _; (refine wpS_store1 infoU1 (hS.bring (by repeat (first | exact t0 | apply tS))) rfl rfl rfl rfl rfl rfl (by simp) ?_); clear hS; intro w hS; go_frame)
            )
          go_roundw
          case rel => exact ⟨z2, k, c, l3, rfl, HZ3, by omega, m4, m7, HW', hS.sel (by repeat (first | exact Sel.refl | refine Sel.take (by repeat (first | exact t0 | apply tS)) ?_ | apply Sel.drop))⟩
          case measure => simp [intOf]; have := HZ3.out; omega
        · have HL := decF hlt
          have HW' := hide (f3 hbit hlt)
          clear f1 f2 f3 hlt hbit
          go_wp2_with (first
            | (show wpList _ _ _ (⟨some 9, .binOp _ _ _ _ _, _, _, _, _⟩ :: _) _ _; refine wpList_val rfl (op_igeq rfl rfl rfl HG.out) ?_; go_frame)
            | (show wpList _ _ _ (⟨some 11, .binOp _ _ _ _ _, _, _, _, _⟩ :: _) _ _; refine wpList_val rfl (opI_sub rfl rfl rfl z2 HZ2.out hz3 hz4) ?_; go_frame)
            | (show wpList _ _ _ (⟨some 14, .binOp _ _ _ _ _, _, _, _, _⟩ :: _) _ _; refine wpList_val rfl (opU_shlW rfl rfl (c := 1) rfl _ K1.out) ?_; go_frame)
            | (show wpList _ _ _ (⟨some 17, .binOp _ _ _ _ _, _, _, _, _⟩ :: _) _ _; refine wpList_val rfl (opU_shrN rfl rfl (c := 63) rfl hl _ K2.out) ?_; go_frame)
            | (show wpList _ _ _ (⟨some 18, .binOp _ _ _ _ _, _, _, _, _⟩ :: _) _ _; refine wpList_val rfl (opU_or rfl rfl rfl m1 m2 _ K3.out) ?_; go_frame)
            | (show wpList _ _ _ (⟨some 21, .binOp _ _ _ _ _, _, _, _, _⟩ :: _) _ _; refine wpList_val rfl (opU_shlW rfl rfl (c := 1) rfl _ K4.out) ?_; go_frame)
            | (show wpList _ _ _ (⟨some 22, .build _ _, _, _, _, _⟩ :: _) _ _; refine wpList_val rfl (op_build (ps := #[(0, U h2), (1, U l2)]) rfl rfl (buildW h2 l2) _) ?_; go_frame)
            | (show wpList _ _ _ (⟨some 25, .convert _ _ _, _, _, _, _⟩ :: _) _ _; refine wpList_val rfl (opU_ofInt Try.underlying3 Try.underlying50 rfl rfl k HC.out) ?_; go_frame)
            | (show wpList _ _ _ (⟨some 26, .binOp _ _ _ _ _, _, _, _, _⟩ :: _) _ _; refine wpList_val rfl (opU_shrN rfl rfl rfl hb b1 hb1.out) ?_; go_frame)
            | (show wpList _ _ _ (⟨some 27, .binOp _ _ _ _ _, _, _, _, _⟩ :: _) _ _; refine wpList_val rfl (opU_bit0 rfl rfl rfl hb1M) ?_; rw [K5'.out]; go_frame)
            | (show wpList _ _ _ (⟨some 28, .binOp _ _ _ _ _, _, _, _, _⟩ :: _) _ _; refine wpList_val rfl (opU_eql rfl rfl (b := 1) rfl HB.out) ?_; go_frame)
            | (show wpList _ _ _ (⟨some 32, .binOp _ _ _ _ _, _, _, _, _⟩ :: _) _ _; refine wpList_val rfl (opU_addW rfl rfl rfl _ K6.out) ?_; go_frame)
            | (show wpList _ _ _ (⟨some 36, .binOp _ _ _ _ _, _, _, _, _⟩ :: _) _ _; refine wpList_val rfl (opU_lss rfl rfl rfl HL.out) ?_; go_frame)
            | (show wpList _ _ _ (⟨some 39, .binOp _ _ _ _ _, _, _, _, _⟩ :: _) _ _; refine wpList_val rfl (opU_addW rfl rfl (b := 1) rfl _ K7.out) ?_; go_frame)
            | (show wpList _ _ _ (⟨_, .load 22 _, _, _, _, _⟩ :: _) _ _; refine wpList_val rfl (op_load1S oneU ((hS.bring (by repeat (first | exact t0 | apply tS)))) rfl rfl rfl) ?_; go_frame)
            | (show wpList _ _ _ (⟨_, .store 48 _ _, _, _, _, _⟩ :: _) _ _; (refine wpS_storeAll aggW (hS.bring (by repeat (first | exact t0 | apply tS))) rfl rfl rfl (vs := [U h2, U l2]) rfl rfl (by simp [U, Value.oneCell']) rfl ?_); clear hS; intro w hS; go_frame)
            | (show wpList _ _ _ (⟨_, .store 22 _ _, _, _, _, _⟩ :: _) _ _; (refine wpS_store1 infoU1 (hS.bring (by repeat (first | exact t0 | apply tS))) rfl rfl rfl rfl rfl rfl (by simp) ?_); clear hS; intro w hS; go_frame)
            )
          go_roundw
          case rel => exact ⟨z2, k, h2, l3, rfl, HZ3, by omega, m4, m5, HW', hS.sel (by repeat (first | exact Sel.refl | refine Sel.take (by repeat (first | exact t0 | apply tS)) ?_ | apply Sel.drop))⟩
          case measure => simp [intOf]; have := HZ3.out; omega
      · have HB := beqF hbit
        have HW' := hide (f1 hbit)
        clear f1 f2 f3 hbit
        go_wp2_with (first
          | (show wpList _ _ _ (⟨some 9, .binOp _ _ _ _ _, _, _, _, _⟩ :: _) _ _; refine wpList_val rfl (op_igeq rfl rfl rfl HG.out) ?_; go_frame)
          | (show wpList _ _ _ (⟨some 11, .binOp _ _ _ _ _, _, _, _, _⟩ :: _) _ _; refine wpList_val rfl (opI_sub rfl rfl rfl z2 HZ2.out hz3 hz4) ?_; go_frame)
          | (show wpList _ _ _ (⟨some 14, .binOp _ _ _ _ _, _, _, _, _⟩ :: _) _ _; refine wpList_val rfl (opU_shlW rfl rfl (c := 1) rfl _ K1.out) ?_; go_frame)
          | (show wpList _ _ _ (⟨some 17, .binOp _ _ _ _ _, _, _, _, _⟩ :: _) _ _; refine wpList_val rfl (opU_shrN rfl rfl (c := 63) rfl hl _ K2.out) ?_; go_frame)
          | (show wpList _ _ _ (⟨some 18, .binOp _ _ _ _ _, _, _, _, _⟩ :: _) _ _; refine wpList_val rfl (opU_or rfl rfl rfl m1 m2 _ K3.out) ?_; go_frame)
          | (show wpList _ _ _ (⟨some 21, .binOp _ _ _ _ _, _, _, _, _⟩ :: _) _ _; refine wpList_val rfl (opU_shlW rfl rfl (c := 1) rfl _ K4.out) ?_; go_frame)
          | (show wpList _ _ _ (⟨some 22, .build _ _, _, _, _, _⟩ :: _) _ _; refine wpList_val rfl (op_build (ps := #[(0, U h2), (1, U l2)]) rfl rfl (buildW h2 l2) _) ?_; go_frame)
          | (show wpList _ _ _ (⟨some 25, .convert _ _ _, _, _, _, _⟩ :: _) _ _; refine wpList_val rfl (opU_ofInt Try.underlying3 Try.underlying50 rfl rfl k HC.out) ?_; go_frame)
          | (show wpList _ _ _ (⟨some 26, .binOp _ _ _ _ _, _, _, _, _⟩ :: _) _ _; refine wpList_val rfl (opU_shrN rfl rfl rfl hb b1 hb1.out) ?_; go_frame)
          | (show wpList _ _ _ (⟨some 27, .binOp _ _ _ _ _, _, _, _, _⟩ :: _) _ _; refine wpList_val rfl (opU_bit0 rfl rfl rfl hb1M) ?_; rw [K5'.out]; go_frame)
          | (show wpList _ _ _ (⟨some 28, .binOp _ _ _ _ _, _, _, _, _⟩ :: _) _ _; refine wpList_val rfl (opU_eql rfl rfl (b := 1) rfl HB.out) ?_; go_frame)
          | (show wpList _ _ _ (⟨some 32, .binOp _ _ _ _ _, _, _, _, _⟩ :: _) _ _; refine wpList_val rfl (opU_addW rfl rfl rfl _ K6.out) ?_; go_frame)
          | (show wpList _ _ _ (⟨some 36, .binOp _ _ _ _ _, _, _, _, _⟩ :: _) _ _; refine wpList_val rfl (opU_lss rfl rfl rfl HL.out) ?_; go_frame)
          | (show wpList _ _ _ (⟨some 39, .binOp _ _ _ _ _, _, _, _, _⟩ :: _) _ _; refine wpList_val rfl (opU_addW rfl rfl (b := 1) rfl _ K7.out) ?_; go_frame)
          | (show wpList _ _ _ (⟨_, .load 22 _, _, _, _, _⟩ :: _) _ _; refine wpList_val rfl (op_load1S oneU ((hS.bring (by repeat (first | exact t0 | apply tS)))) rfl rfl rfl) ?_; go_frame)
          | (show wpList _ _ _ (⟨_, .store 48 _ _, _, _, _, _⟩ :: _) _ _; (refine wpS_storeAll aggW (hS.bring (by repeat (first | exact t0 | apply tS))) rfl rfl rfl (vs := [U h2, U l2]) rfl rfl (by simp [U, Value.oneCell']) rfl ?_); clear hS; intro w hS; go_frame)
          | (show wpList _ _ _ (⟨_, .store 22 _ _, _, _, _, _⟩ :: _) _ _; (refine wpS_store1 infoU1 (hS.bring (by repeat (first | exact t0 | apply tS))) rfl rfl rfl rfl rfl rfl (by simp) ?_); clear hS; intro w hS; go_frame)
          )
        go_roundw
        case rel => exact ⟨z2, k, h2, l2, rfl, HZ3, by omega, m3, m5, HW', hS.sel (by repeat (first | exact Sel.refl | refine Sel.take (by repeat (first | exact t0 | apply tS)) ?_ | apply Sel.drop))⟩
        case measure => simp [intOf]; have := HZ3.out; omega
end
end Go.Proofs.Ytcaameljecokpaa
