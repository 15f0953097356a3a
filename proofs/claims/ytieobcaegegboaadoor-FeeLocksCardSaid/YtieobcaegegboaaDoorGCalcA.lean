/- Products and quotients of two words. Conditions: those that stand ahead of each theorem. -/
import Derived.Lib.Mul64
import Derived.Test.YtieobcaegegboaaDoorU
import Derived.Test.YtieobcaegegboaaDoorRet
import Derived.Test.YtieobcaegegboaaDoorGShaA
import Derived.Shelf.Bits.Mul64
import Derived.Shelf.Spec.BitsCarry
import Derived.Shelf.Small.Bits
import Derived.Lib.ItoaNum
namespace Go.Calc

/-! ### one step of long division by half words -/
section
variable {u v n1 n0 y q : Nat}
/-- what the loop keeps: Q is no less than the true digit, R is what is left -/
structure Dig (u v n1 n0 Q R : Nat) : Prop where
  sum : Q * n1 + R = u
  ge : (u * 4294967296 + v) / (n1 * 4294967296 + n0) ≤ Q
theorem mul_y (Q n1 n0 : Nat) : Q * (n1 * 4294967296 + n0) = Q * n1 * 4294967296 + Q * n0 := by rw [Nat.mul_add, Nat.mul_assoc]
theorem Dig.start (h1 : 0 < n1) (hv : v < 4294967296) : Dig u v n1 n0 (u / n1) (u - u / n1 * n1) := by
  have hle : u / n1 * n1 ≤ u := Nat.div_mul_le_self u n1
  refine ⟨by omega, ?_⟩
  rw [Nat.le_div_iff_mul_le h1]
  have h2 := Nat.div_mul_le_self (u * 4294967296 + v) (n1 * 4294967296 + n0)
  rw [mul_y] at h2
  generalize (u * 4294967296 + v) / (n1 * 4294967296 + n0) = q at *
  generalize q * n1 = p at *
  generalize q * n0 = p0 at *
  omega
theorem div_lt {N Y Q : Nat} (hQ : N < Q * Y) : N / Y < Q := Nat.div_lt_of_lt_mul (by rw [Nat.mul_comm]; exact hQ)
/-- the digit is less than 2^32 -/
theorem Dig.small (hu : u < n1 * 4294967296 + n0) (hv : v < 4294967296) : (u * 4294967296 + v) / (n1 * 4294967296 + n0) < 4294967296 := by
  apply Nat.div_lt_of_lt_mul
  omega
theorem Dig.down {Q R : Nat} (h : Dig u v n1 n0 Q R) (hu : u < n1 * 4294967296 + n0) (hv : v < 4294967296) (ht : 4294967296 ≤ Q ∨ 4294967296 * R + v < Q * n0) : 1 ≤ Q ∧ Dig u v n1 n0 (Q - 1) (R + n1) := by
  suffices hs : 1 ≤ Q ∧ (Q - 1) * n1 + (R + n1) = u ∧ (u * 4294967296 + v) / (n1 * 4294967296 + n0) ≤ Q - 1 from ⟨hs.1, hs.2.1, hs.2.2⟩
  have hlt : (u * 4294967296 + v) / (n1 * 4294967296 + n0) < Q := by
    rcases ht with ht | ht
    · exact Nat.lt_of_lt_of_le (Dig.small hu hv) ht
    · apply div_lt
      rw [mul_y]
      have := h.sum
      generalize Q * n1 = p at *
      generalize Q * n0 = p0 at *
      omega
  generalize (u * 4294967296 + v) / (n1 * 4294967296 + n0) = q at *
  refine ⟨by omega, ?_, by omega⟩
  obtain ⟨Q', rfl⟩ : ∃ Q', Q = Q' + 1 := ⟨Q - 1, by omega⟩
  have := h.sum
  rw [Nat.add_mul, Nat.one_mul] at this
  simp only [Nat.add_sub_cancel]
  omega
theorem Dig.done {Q R : Nat} (h : Dig u v n1 n0 Q R) (hy : 0 < n1) (h0 : Q * n0 ≤ 4294967296 * R + v) : (u * 4294967296 + v) / (n1 * 4294967296 + n0) = Q := by
  refine Nat.le_antisymm h.ge ?_
  rw [Nat.le_div_iff_mul_le (by omega), mul_y]
  have := h.sum
  generalize Q * n1 = p at *
  generalize Q * n0 = p0 at *
  omega
theorem Dig.brk {Q R : Nat} (h : Dig u v n1 n0 Q R) (hy : 0 < n1) (h0 : n0 < 4294967296) (hu : u < n1 * 4294967296 + n0) (hR : 4294967296 ≤ R) : (u * 4294967296 + v) / (n1 * 4294967296 + n0) = Q := by
  refine h.done hy ?_
  have hQ : Q < 4294967296 := by
    rcases Nat.lt_or_ge Q 4294967296 with hh | hh
    · exact hh
    · have := h.sum
      have h2 := Nat.mul_le_mul_right n1 hh
      omega
  have h3 : Q * n0 ≤ 4294967295 * 4294967295 := Nat.mul_le_mul (by omega) (by omega)
  omega
end
theorem rem_word {u v y q : Nat} (hq : (u * 4294967296 + v) / y = q) : q * y ≤ u * 4294967296 + v ∧ u * 4294967296 + v - q * y = (u * 4294967296 + v) % y := by
  subst hq
  have h1 := Nat.div_add_mod (u * 4294967296 + v) y
  rw [Nat.mul_comm] at h1
  constructor <;> omega

/-! ### the whole division -/
/-- hi * 2^s + lo / 2^(64-s), and lo * 2^s, are the shifted number's two words -/
theorem shift_words {hi lo s : Nat} (hs : s ≤ 63) (hlo : lo < 18446744073709551616) :
    (hi * 18446744073709551616 + lo) * 2 ^ s = (hi * 2 ^ s + lo / 2 ^ (64 - s)) * 18446744073709551616 + lo * 2 ^ s % 18446744073709551616 := by
  have e : (18446744073709551616 : Nat) = 2 ^ (64 - s) * 2 ^ s := by
    rw [← Nat.pow_add, show 64 - s + s = 64 by omega]
  have h1 : lo * 2 ^ s % 18446744073709551616 = lo % 2 ^ (64 - s) * 2 ^ s := by
    rw [e, Nat.mul_mod_mul_right]
  have h2 := Nat.div_add_mod lo (2 ^ (64 - s))
  rw [h1]
  generalize 2 ^ s = p at *
  generalize 2 ^ (64 - s) = r at *
  rw [e]
  generalize lo / r = d at *
  generalize lo % r = m at *
  subst h2
  simp only [Nat.add_mul]
  have e1 : hi * (r * p) * p = hi * p * (r * p) := Nat.mul_right_comm _ _ _
  have e2 : r * d * p = d * (r * p) := by rw [Nat.mul_comm r d, Nat.mul_assoc]
  rw [e1, e2]
  omega
/-- dividing the shifted number by the shifted divisor, half a word at a time -/
theorem div_steps {N y s U v1 v0 q1 r1 q0 : Nat} (hy : 0 < y) (hN : N * 2 ^ s = U * 18446744073709551616 + v1 * 4294967296 + v0)
    (h1 : (U * 4294967296 + v1) / (y * 2 ^ s) = q1) (hr1 : (U * 4294967296 + v1) % (y * 2 ^ s) = r1) (h0 : (r1 * 4294967296 + v0) / (y * 2 ^ s) = q0) :
    q1 * 4294967296 + q0 = N / y ∧ (r1 * 4294967296 + v0) % (y * 2 ^ s) / 2 ^ s = N % y := by
  have hp : 0 < 2 ^ s := Nat.two_pow_pos s
  have hY : 0 < y * 2 ^ s := Nat.mul_pos hy hp
  have e : N * 2 ^ s = (r1 * 4294967296 + v0) + y * 2 ^ s * (q1 * 4294967296) := by
    have := Nat.div_add_mod (U * 4294967296 + v1) (y * 2 ^ s)
    rw [h1, hr1] at this
    rw [hN, ← Nat.mul_assoc]
    generalize y * 2 ^ s * q1 = p at *
    omega
  have hdiv : N * 2 ^ s / (y * 2 ^ s) = N / y := Nat.mul_div_mul_right _ _ hp
  have hmod : N * 2 ^ s % (y * 2 ^ s) = N % y * 2 ^ s := Nat.mul_mod_mul_right _ _ _
  constructor
  · rw [← hdiv, e, Nat.add_mul_div_left _ _ hY, h0]
    omega
  · rw [e, Nat.add_mul_mod_self_left] at hmod
    rw [hmod, Nat.mul_div_cancel _ hp]
end Go.Calc
namespace Go.Proofs.YtieobcaegegboaaDoor
open Go.RowKit Go.Px Go.Shelf
def ren7 : Ren := ⟨fun n => if n = 25 then 42 else if n = 26 then 63 else n, fun n => if n = 22 then 29 else n, fun n => n⟩
def ren : Ren := ⟨fun n => if n = 264 then 50 else if n = 134 then 60 else if n = 129 then 67 else n, fun n => if n = 46 then 73 else if n = 53 then 29 else n, fun n => n⟩
theorem lays25 : Lays7.n25 Tryd.prog ren7 where
  mixed := by kernel_rfl
  f25 := Tryd.func42.trans (congrArg some (by kernel_rfl))
  t22 := Tryd.underlying29
  a22 := Tryd.isAgg29
  z22 := Tryd.sizeOf29
  v22 := Tryd.zeroValue29
  i22 := by kernel_rfl
theorem lays26 : Lays7.n26 Tryd.prog ren7 where
  mixed := by kernel_rfl
  f26 := Tryd.func63.trans (congrArg some (by kernel_rfl))
  t22 := Tryd.underlying29
  a22 := Tryd.isAgg29
  z22 := Tryd.sizeOf29
  v22 := Tryd.zeroValue29
  i22 := by kernel_rfl
theorem lays264 : Lays.n264 Tryd.prog ren where
  mixed := by kernel_rfl
  f264 := Tryd.func50.trans (congrArg some (by kernel_rfl))
  t46 := Tryd.underlying73
  a46 := Tryd.isAgg73
  z46 := Tryd.sizeOf73
  v46 := Tryd.zeroValue73
  t53 := Tryd.underlying29
  a53 := Tryd.isAgg29
  z53 := Tryd.sizeOf29
  v53 := Tryd.zeroValue29
theorem lays134 : Lays.n134 Tryd.prog ren where
  mixed := by kernel_rfl
  f129 := Tryd.func67.trans (congrArg some (by kernel_rfl))
  f134 := Tryd.func60.trans (congrArg some (by kernel_rfl))
  t3 := Tryd.underlying3
  a3 := Tryd.isAgg3
  z3 := Tryd.sizeOf3
  v3 := Tryd.zeroValue3
  t4 := Tryd.underlying4
  a4 := Tryd.isAgg4
  z4 := Tryd.sizeOf4
  v4 := Tryd.zeroValue4
  t5 := Tryd.underlying5
  a5 := Tryd.isAgg5
  z5 := Tryd.sizeOf5
  v5 := Tryd.zeroValue5
  t9 := Tryd.underlying9
  a9 := Tryd.isAgg9
  z9 := Tryd.sizeOf9
  v9 := Tryd.zeroValue9
  t46 := Tryd.underlying73
  a46 := Tryd.isAgg73
  z46 := Tryd.sizeOf73
  v46 := Tryd.zeroValue73
  t53 := Tryd.underlying29
  a53 := Tryd.isAgg29
  z53 := Tryd.sizeOf29
  v53 := Tryd.zeroValue29
theorem add64_any (x y c : Nat) (hc : c ≤ 1) (w : World) : (callFunc 42 #[U x, U y, U c]).run Tryd.prog w =
    .ok (.value (.tuple #[U ((x + y + c) % 18446744073709551616), U ((x + y + c) / 18446744073709551616)])) w := Any7.bits_Add64 lays25 x y c hc w
theorem sub64_any (x y b : Nat) (hb : b ≤ 1) (w : World) : (callFunc 63 #[U x, U y, U b]).run Tryd.prog w =
    .ok (.value (.tuple #[U ((x + 18446744073709551616 - y - b) % 18446744073709551616), U (if x < y + b then 1 else 0)])) w := Any7.bits_Sub64 lays26 x y b hb w
theorem mul64_any (x y : Nat) (hx : x < 18446744073709551616) (hy : y < 18446744073709551616) (w : World) : Calls Tryd.prog 50 #[U x, U y] w (Ret fun r w' => r = .tuple #[U (x * y / 18446744073709551616), U (x * y % 18446744073709551616)] ∧ w' = w) :=
  (Any.bits_Mul64 lays264 x y hx hy w).mono fun e w' h => by
    obtain ⟨rfl, rfl⟩ := h
    exact ⟨rfl, rfl⟩
theorem lead_any (x : Nat) (hx : x < 18446744073709551616) (w : World) : Calls Tryd.prog 60 #[U x] w (Ret fun r w' => r = .int .i64 (64 - (Lib.bitLen x : Int)) ∧ w' = w) :=
  (Any.bits_LeadingZeros64 lays134 x w (by omega) (by omega)).mono fun e w' h => by
    obtain ⟨rfl, rfl⟩ := h
    exact ⟨rfl, rfl⟩
end Go.Proofs.YtieobcaegegboaaDoor
namespace Go.Proofs.YtieobcaegegboaaDoor
open Go.RowKit Go.Px Go.Shelf Go.Calc
theorem norm {y : Nat} (h0 : 0 < y) (hy : y < 18446744073709551616) : ∃ s : Nat, s ≤ 63 ∧ (64 : Int) - (Lib.bitLen y : Int) = s ∧ 9223372036854775808 ≤ y * 2 ^ s ∧ y * 2 ^ s < 18446744073709551616 := by
  have h1 := Lib.bitLenAux_bounds 64 y hy (by omega)
  have h2 := Lib.bitLen_le y 64 (by omega) hy
  unfold Lib.bitLen at h2 ⊢
  generalize Lib.bitLenAux 64 y = L at *
  obtain ⟨g1, g2, g3⟩ := h1
  refine ⟨64 - L, by omega, by omega, ?_, ?_⟩
  · have := Nat.mul_le_mul_right (2 ^ (64 - L)) g2
    rw [← Nat.pow_add, show L - 1 + (64 - L) = 63 by omega] at this
    exact this
  · have := Nat.mul_lt_mul_of_pos_right g3 (Nat.two_pow_pos (64 - L))
    rw [← Nat.pow_add, show L + (64 - L) = 64 by omega] at this
    exact this
/-- what each slot holds behind the straight part -/
structure Parts (hi lo y : Nat) (s Y n1 n0 A s2 B u t v1 v0 : Nat) : Prop where
  es : s ≤ 63
  eY : y * 2 ^ s % 18446744073709551616 = Y
  eYM : Y < 18446744073709551616
  e1 : Y / 2 ^ 32 = n1
  e0 : Y % 4294967296 = n0
  pos : 2147483648 ≤ n1
  sum : Y = n1 * 4294967296 + n0
  eA : hi * 2 ^ s % 18446744073709551616 = A
  eAM : A < 18446744073709551616
  es2 : ((64 : Nat) : Int) - s = s2
  es2' : (((64 : Nat) : Int) - s) % 18446744073709551616 = s2
  eB : lo / 2 ^ s2 = B
  eBM : B < 18446744073709551616
  eu : A ||| B = u
  euY : u < Y
  et : lo * 2 ^ s % 18446744073709551616 = t
  etM : t < 18446744073709551616
  ev1 : t / 2 ^ 32 = v1
  ev0 : t % 4294967296 = v0
  ev1M : v1 < 4294967296
  ev0M : v0 < 4294967296
  eN : (hi * 18446744073709551616 + lo) * 2 ^ s = u * 18446744073709551616 + v1 * 4294967296 + v0
  eY' : y * 2 ^ s = Y
set_option maxRecDepth 100000 in
theorem parts {hi lo y : Nat} (h : hi < y) (hy : y < 18446744073709551616) (hlo : lo < 18446744073709551616) :
    ∃ s Y n1 n0 A s2 B u t v1 v0, (64 : Int) - (Lib.bitLen y : Int) = (s : Nat) ∧ Parts hi lo y s Y n1 n0 A s2 B u t v1 v0 := by
  obtain ⟨s, h1, h2, h3, h4⟩ := norm (by omega) hy
  have hA : hi * 2 ^ s < 18446744073709551616 := by
    have := Nat.mul_le_mul_right (2 ^ s) (Nat.le_of_lt h)
    omega
  have hB : lo / 2 ^ (64 - s) < 2 ^ s := by
    apply Nat.div_lt_of_lt_mul
    rw [← Nat.pow_add, show 64 - s + s = 64 by omega]
    exact hlo
  have hor : hi * 2 ^ s ||| lo / 2 ^ (64 - s) = hi * 2 ^ s + lo / 2 ^ (64 - s) := or_add hB
  have hw := shift_words (hi := hi) h1 hlo
  have hu : hi * 2 ^ s + lo / 2 ^ (64 - s) < y * 2 ^ s := by
    have := Nat.mul_le_mul_right (2 ^ s) (show hi + 1 ≤ y by omega)
    rw [Nat.add_mul, Nat.one_mul] at this
    omega
  have hBM : lo / 2 ^ (64 - s) < 18446744073709551616 := Nat.lt_of_le_of_lt (Nat.div_le_self _ _) hlo
  refine ⟨s, y * 2 ^ s, y * 2 ^ s / 2 ^ 32, y * 2 ^ s % 4294967296, hi * 2 ^ s, 64 - s, lo / 2 ^ (64 - s), hi * 2 ^ s + lo / 2 ^ (64 - s), lo * 2 ^ s % 18446744073709551616, lo * 2 ^ s % 18446744073709551616 / 2 ^ 32, lo * 2 ^ s % 18446744073709551616 % 4294967296, h2,
    h1, Nat.mod_eq_of_lt h4, h4, rfl, rfl, ?_, ?_, Nat.mod_eq_of_lt hA, hA, by omega, by omega, rfl, hBM, hor, hu, rfl, Nat.mod_lt _ (by omega), rfl, rfl, ?_, ?_, ?_, rfl⟩
  · generalize y * 2 ^ s = Y at *
    omega
  · generalize y * 2 ^ s = Y at *
    omega
  · generalize lo * 2 ^ s = T at *
    omega
  · generalize lo * 2 ^ s = T at *
    omega
  · rw [hw]
    have key : ∀ p T : Nat, p + T = p + T / 2 ^ 32 * 4294967296 + T % 4294967296 := by
      intro p T
      omega
    exact key _ _
set_option maxRecDepth 100000 in
set_option maxHeartbeats 2000000 in
theorem div64_zero {R : Nat → Prop} {base w : World} {F : List Hp} (hS : SepL R base w F) (lo y : Nat) (h : 0 < y) (hlo : lo < 18446744073709551616) :
    Calls Tryd.prog 51 #[U 0, U lo, U y] w (Ret fun r w' => r = .tuple #[U (lo / y), U (lo % y)] ∧ SepL R base w' F) := by
  have HY0 : Hid ((y == 0) = false) := by
    unfold Hid
    rw [beq_eq_false_iff_ne]
    omega
  have HYH : Hid (decide (y ≤ 0) = false) := by
    unfold Hid
    rw [decide_eq_false_iff_not]
    omega
  have HH0 : Hid (((0 : Nat) == 0) = true) := rfl
  go_enter Tryd.func51, Tryd.ntmps51
  go_wp2_with (first
    | (show wpList _ _ _ (⟨some 20, .binOp _ _ _ _ _, _, _, _, _⟩ :: _) _ _; refine wpList_val rfl (opU_eql rfl rfl rfl HY0.out) ?_; go_frame)
    | (show wpList _ _ _ (⟨some 24, .binOp _ _ _ _ _, _, _, _, _⟩ :: _) _ _; refine wpList_val rfl (opU_leq rfl rfl rfl HYH.out) ?_; go_frame)
    | (show wpList _ _ _ (⟨some 27, .binOp _ _ _ _ _, _, _, _, _⟩ :: _) _ _; refine wpList_val rfl (opU_eql rfl rfl rfl HH0.out) ?_; go_frame)
    )
  refine wp_region_text (by kernel_rfl) (by kernel_rfl) (by repeat (first | exact Clean.body | refine Clean.then ?_ | refine Clean.inBlock ?_)) ?_
  replace hS := hS.drew
  go_wp2_with (first
    | (show wpList _ _ _ (⟨some 30, .binOp _ _ _ _ _, _, _, _, _⟩ :: _) _ _; refine wpList_val rfl (opU_quo rfl rfl rfl h hlo) ?_; go_frame)
    | (show wpList _ _ _ (⟨some 33, .binOp _ _ _ _ _, _, _, _, _⟩ :: _) _ _; refine wpList_val rfl (opU_rem rfl rfl rfl h) ?_; go_frame)
    | (refine fin_mk (by kernel_rfl) ?_))
  go_ret2
  exact ⟨rfl, hS⟩
theorem beqF {a b : Nat} (h : a ≠ b) : Hid ((a == b) = false) := by
  unfold Hid
  rw [beq_eq_false_iff_ne]
  exact h
theorem decF {p : Prop} [Decidable p] (h : ¬ p) : Hid (decide p = false) := decide_eq_false h
theorem decT {p : Prop} [Decidable p] (h : p) : Hid (decide p = true) := decide_eq_true h
theorem rem_core {v Y p r a : Nat} (h1 : p ≤ a + v) (h2 : a + v - p = r) (h3 : r < Y) (hY : Y < 18446744073709551616) : ∃ x1 x2 x3 : Nat, a % 18446744073709551616 = x1 ∧ (x1 + v) % 18446744073709551616 = x2 ∧ p % 18446744073709551616 = x3 ∧ ((x2 : Int) - x3) % 18446744073709551616 = r := by
  obtain ⟨x1, e1⟩ : ∃ x, a % 18446744073709551616 = x := ⟨_, Eq.refl _⟩
  obtain ⟨x2, e2⟩ : ∃ x, (x1 + v) % 18446744073709551616 = x := ⟨_, Eq.refl _⟩
  obtain ⟨x3, e3⟩ : ∃ x, p % 18446744073709551616 = x := ⟨_, Eq.refl _⟩
  exact ⟨x1, x2, x3, e1, e2, e3, by omega⟩
theorem rem_facts {u v Y q : Nat} (hu : u < Y) (hY : Y < 18446744073709551616) (hq : (u * 4294967296 + v) / Y = q) : ∃ x1 x2 x3 r : Nat, Hid (u * 4294967296 % 18446744073709551616 = x1) ∧ Hid ((x1 + v) % 18446744073709551616 = x2) ∧
    Hid (q * Y % 18446744073709551616 = x3) ∧ Hid (((x2 : Int) - x3) % 18446744073709551616 = r) ∧ Hid (r < 18446744073709551616) ∧ r < Y ∧ Hid ((u * 4294967296 + v) % Y = r) := by
  have hY0 : 0 < Y := Nat.lt_of_le_of_lt (Nat.zero_le _) hu
  obtain ⟨h1, h2⟩ := rem_word hq
  have h3 : (u * 4294967296 + v) % Y < Y := Nat.mod_lt _ hY0
  obtain ⟨x1, x2, x3, e1, e2, e3, e4⟩ := rem_core h1 h2 h3 hY
  exact ⟨x1, x2, x3, _, e1, e2, e3, e4, Nat.lt_trans h3 hY, h3, Eq.refl _⟩
set_option maxRecDepth 100000 in
theorem quo_facts {u v n1 n0 : Nat} (hn1 : 0 < n1) (hu : u < 18446744073709551616) (hv : v < 4294967296) : ∃ q p r : Nat, Hid (u / n1 = q) ∧ Hid (q * n1 % 18446744073709551616 = p) ∧ Hid (((u : Int) - p) % 18446744073709551616 = r) ∧ Dig u v n1 n0 q r ∧ r < n1 ∧ q < 18446744073709551616 := by
  have h1 := Nat.div_mul_le_self u n1
  have h2 := Nat.div_add_mod u n1
  have h3 := Nat.mod_lt u hn1
  have h4 := Dig.start (u := u) (v := v) (n0 := n0) hn1 hv
  have h5 := Nat.div_le_self u n1
  rw [Nat.mul_comm] at h2
  unfold Hid
  refine ⟨u / n1, u / n1 * n1, u - u / n1 * n1, rfl, ?_, ?_, h4, ?_, ?_⟩
  · generalize u / n1 * n1 = p at *
    omega
  · generalize u / n1 * n1 = p at *
    omega
  · generalize u / n1 * n1 = p at *
    omega
  · generalize u / n1 = p at *
    omega
set_option maxRecDepth 100000 in
theorem round_facts {Q R v n0 : Nat} (hR : R < 4294967296) (hv : v < 4294967296) (hQ : Q < 4294967296) (hn0 : n0 < 4294967296) : ∃ p0 xr xv : Nat, Hid (Q * n0 % 18446744073709551616 = p0) ∧ Hid (4294967296 * R % 18446744073709551616 = xr) ∧ Hid ((xr + v) % 18446744073709551616 = xv) ∧
    Hid (p0 = Q * n0) ∧ Hid (xv = 4294967296 * R + v) := by
  have h3 : Q * n0 ≤ 4294967295 * 4294967295 := Nat.mul_le_mul (by omega) (by omega)
  unfold Hid
  refine ⟨Q * n0, 4294967296 * R, 4294967296 * R + v, ?_, ?_, ?_, rfl, rfl⟩
  · generalize Q * n0 = p at *
    omega
  · omega
  · omega
set_option maxRecDepth 100000 in
theorem down_facts {Q R u v n1 n0 : Nat} (hd : Dig u v n1 n0 Q R) (hu : u < n1 * 4294967296 + n0) (hv : v < 4294967296) (hQ : Q < 18446744073709551616) (hR : R < 4294967296) (hn1 : n1 < 4294967296) (ht : 4294967296 ≤ Q ∨ 4294967296 * R + v < Q * n0) :
    ∃ Q' R' : Nat, Hid (((Q : Int) - ((1 : Nat) : Int)) % 18446744073709551616 = Q') ∧ Hid ((R + n1) % 18446744073709551616 = R') ∧ Dig u v n1 n0 Q' R' ∧ Q' < 18446744073709551616 ∧ Q' < Q := by
  obtain ⟨h1, h2⟩ := hd.down hu hv ht
  unfold Hid
  refine ⟨Q - 1, R + n1, ?_, ?_, h2, ?_, ?_⟩ <;> omega
theorem tup2 {a b c d : Nat} (h : a = c) (k : b = d) : Value.tuple #[U a, U b] = .tuple #[U c, U d] := by rw [h, k]
set_option maxRecDepth 100000 in
theorem fin_facts {hi lo y s Y n1 n0 A s2 B u t v1 v0 q1 r1 q0 r0 : Nat} (hp : Parts hi lo y s Y n1 n0 A s2 B u t v1 v0) (hy : 0 < y) (hq1 : (u * 4294967296 + v1) / Y = q1) (hr1 : (u * 4294967296 + v1) % Y = r1) (hq0 : (r1 * 4294967296 + v0) / Y = q0) (hr0 : (r1 * 4294967296 + v0) % Y = r0) (hlt : r1 < Y) :
    ∃ y1 qq rr : Nat, Hid (q1 * 4294967296 % 18446744073709551616 = y1) ∧ Hid ((y1 + q0) % 18446744073709551616 = qq) ∧ Hid (r0 / 2 ^ s = rr) ∧ Hid (Value.tuple #[U qq, U rr] = .tuple #[U ((hi * 18446744073709551616 + lo) / y), U ((hi * 18446744073709551616 + lo) % y)]) := by
  have h1 : q1 < 4294967296 := by
    rw [← hq1, hp.sum]
    exact Dig.small (by rw [← hp.sum]; exact hp.euY) hp.ev1M
  have h0 : q0 < 4294967296 := by
    rw [← hq0, hp.sum]
    exact Dig.small (by rw [← hp.sum]; exact hlt) hp.ev0M
  obtain ⟨g1, g2⟩ := div_steps (s := s) (q1 := q1) (r1 := r1) (q0 := q0) hy hp.eN (by rw [hp.eY']; exact hq1) (by rw [hp.eY']; exact hr1) (by rw [hp.eY']; exact hq0)
  rw [hp.eY', hr0] at g2
  unfold Hid
  have h2 : q1 * 4294967296 + q0 < 18446744073709551616 := by omega
  exact ⟨q1 * 4294967296, q1 * 4294967296 + q0, r0 / 2 ^ s, Nat.mod_eq_of_lt (Nat.lt_of_le_of_lt (Nat.le_add_right _ _) h2), Nat.mod_eq_of_lt h2, Eq.refl _, tup2 g1 g2⟩
set_option maxRecDepth 100000 in
set_option maxHeartbeats 8000000 in
theorem div64_pos {R : Nat → Prop} {base w : World} {F : List Hp} (hS : SepL R base w F) (hi lo y : Nat) (h0 : 0 < hi) (h : hi < y) (hy : y < 18446744073709551616) (hlo : lo < 18446744073709551616) :
    Calls Tryd.prog 51 #[U hi, U lo, U y] w (Ret fun r w' => r = .tuple #[U ((hi * 18446744073709551616 + lo) / y), U ((hi * 18446744073709551616 + lo) % y)] ∧ SepL R base w' F) := by
  have HY0 := beqF (show y ≠ 0 by omega)
  have HYH := decF (show ¬ y ≤ hi by omega)
  have HH0 := beqF (show hi ≠ 0 by omega)
  obtain ⟨s, Y, n1, n0, A, s2, B, u, t, v1, v0, hs0, hp⟩ := parts h hy hlo
  have HLZ : ∀ w, Calls Tryd.prog 60 #[U y] w (Ret fun r w' => r = .int .i64 (s : Nat) ∧ w' = w) := fun w => by
    have := lead_any y hy w
    rw [hs0] at this
    exact this
  have HS : Hid ((s : Int) % 18446744073709551616 = s) := by
    have := hp.es
    unfold Hid
    omega
  have HY := hide hp.eY
  have HYM := hide hp.eYM
  have HN1 := hide hp.e1
  have HN0 := hide hp.e0
  have HA := hide hp.eA
  have HS2 := hide hp.es2'
  have HB := hide hp.eB
  have HAM := hide hp.eAM
  have HBM := hide hp.eBM
  have HU := hide hp.eu
  have HT := hide hp.et
  have HTM := hide hp.etM
  have HV1 := hide hp.ev1
  have HV0 := hide hp.ev0
  have HLO := hide hlo
  have hn1 : 0 < n1 := by have := hp.pos; omega
  have hn1B : n1 < 4294967296 := by have := hp.sum; have := hp.eYM; omega
  have hn0B : n0 < 4294967296 := by rw [← hp.e0]; exact Nat.mod_lt _ (by omega)
  have hu := hp.euY
  have hv1 := hp.ev1M
  have hv0 := hp.ev0M
  have HYS := hide hp.sum
  have HUM : Hid (u < 18446744073709551616) := Nat.lt_trans hp.euY hp.eYM
  obtain ⟨q, pq, rq, HQ, HPQ, HRQ, hst, hrq, hqM⟩ := quo_facts (v := v1) (n0 := n0) hn1 HUM.out hv1
  have hy0 : 0 < y := by omega
  have hu' : u < n1 * 4294967296 + n0 := by rw [← hp.sum]; exact hu
  have HP := hide hp
  clear hp hs0
  go_enter Tryd.func51, Tryd.ntmps51
  go_wp2_with (first
    | (show wpList _ _ _ (⟨some 20, .binOp _ _ _ _ _, _, _, _, _⟩ :: _) _ _; refine wpList_val rfl (opU_eql rfl rfl rfl HY0.out) ?_; go_frame)
    | (show wpList _ _ _ (⟨some 24, .binOp _ _ _ _ _, _, _, _, _⟩ :: _) _ _; refine wpList_val rfl (opU_leq rfl rfl rfl HYH.out) ?_; go_frame)
    | (show wpList _ _ _ (⟨some 27, .binOp _ _ _ _ _, _, _, _, _⟩ :: _) _ _; refine wpList_val rfl (opU_eql rfl rfl rfl HH0.out) ?_; go_frame)
    | (go_at_call 60; refine Ret.calls (HLZ _) ?_; rintro r w' ⟨rfl, rfl⟩)
    | (show wpList _ _ _ (⟨some 36, .convert _ _ _, _, _, _, _⟩ :: _) _ _; refine wpList_val rfl (opU_ofInt Tryd.underlying3 Tryd.underlying73 rfl rfl s HS.out) ?_; go_frame)
    | (show wpList _ _ _ (⟨some 39, .binOp _ _ _ _ _, _, _, _, _⟩ :: _) _ _; refine wpList_val rfl (opU_shlW rfl rfl rfl Y HY.out) ?_; go_frame)
    | (show wpList _ _ _ (⟨some 41, .binOp _ _ _ _ _, _, _, _, _⟩ :: _) _ _; refine wpList_val rfl (opU_shrN rfl rfl (c := 32) rfl HYM.out n1 HN1.out) ?_; go_frame)
    | (show wpList _ _ _ (⟨some 43, .binOp _ _ _ _ _, _, _, _, _⟩ :: _) _ _; refine wpList_val rfl (opU_mask32 rfl rfl rfl HYM.out) ?_; rw [HN0.out]; go_frame)
    | (show wpList _ _ _ (⟨some 46, .binOp _ _ _ _ _, _, _, _, _⟩ :: _) _ _; refine wpList_val rfl (opU_shlW rfl rfl rfl A HA.out) ?_; go_frame)
    | (show wpList _ _ _ (⟨some 49, .binOp _ _ _ _ _, _, _, _, _⟩ :: _) _ _; refine wpList_val rfl (opU_subW rfl (a := 64) rfl rfl s2 HS2.out) ?_; go_frame)
    | (show wpList _ _ _ (⟨some 50, .binOp _ _ _ _ _, _, _, _, _⟩ :: _) _ _; refine wpList_val rfl (opU_shrN rfl rfl rfl HLO.out B HB.out) ?_; go_frame)
    | (show wpList _ _ _ (⟨some 51, .binOp _ _ _ _ _, _, _, _, _⟩ :: _) _ _; refine wpList_val rfl (opU_or rfl rfl rfl HAM.out HBM.out u HU.out) ?_; go_frame)
    | (show wpList _ _ _ (⟨some 54, .binOp _ _ _ _ _, _, _, _, _⟩ :: _) _ _; refine wpList_val rfl (opU_shlW rfl rfl rfl t HT.out) ?_; go_frame)
    | (show wpList _ _ _ (⟨some 56, .binOp _ _ _ _ _, _, _, _, _⟩ :: _) _ _; refine wpList_val rfl (opU_shrN rfl rfl (c := 32) rfl HTM.out v1 HV1.out) ?_; go_frame)
    | (show wpList _ _ _ (⟨some 58, .binOp _ _ _ _ _, _, _, _, _⟩ :: _) _ _; refine wpList_val rfl (opU_mask32 rfl rfl rfl HTM.out) ?_; rw [HV0.out]; go_frame)
    | (show wpList _ _ _ (⟨some 61, .binOp _ _ _ _ _, _, _, _, _⟩ :: _) _ _; refine wpList_val rfl (opU_quo rfl rfl rfl hn1 HUM.out) ?_; rw [HQ.out]; go_frame)
    | (show wpList _ _ _ (⟨some 65, .binOp _ _ _ _ _, _, _, _, _⟩ :: _) _ _; refine wpList_val rfl (opU_mulW rfl rfl rfl pq HPQ.out) ?_; go_frame)
    | (show wpList _ _ _ (⟨some 66, .binOp _ _ _ _ _, _, _, _, _⟩ :: _) _ _; refine wpList_val rfl (opU_subW rfl rfl rfl rq HRQ.out) ?_; go_frame)
    )
  go_loop [15, 16] (fun a b => ∃ Q R : Nat, a = U Q ∧ b = U R ∧ Dig u v1 n1 n0 Q R ∧ R < 4294967296 ∧ Q < 18446744073709551616) (fun a _ => (intOf a).toNat)
  case atStart => exact ⟨q, rq, rfl, rfl, hst, by omega, hqM⟩
  case round =>
    clear hst hrq hqM
    obtain ⟨Q, R, rfl, rfl, hd, hR, hQ⟩ := hrel
    by_cases g1 : 4294967296 ≤ Q
    · have HG := decT g1
      obtain ⟨Q', R', HQ1, HRN, hd', hQ', hlt⟩ := down_facts hd hu' hv1 hQ hR hn1B (.inl g1)
      by_cases g3 : 4294967296 ≤ R'
      · have HBK := decT g3
        have hq1 := hd'.brk hn1 hn0B hu' g3
        obtain ⟨q1, rfl⟩ : ∃ q1, q1 = Q' := ⟨Q', rfl⟩
        rw [← HYS.out] at hq1
        obtain ⟨x1, x2, x3, r1, HX1, HX2, HX3, HR1, HR1M, hr1, HM1⟩ := rem_facts (u := u) (v := v1) (Y := Y) (q := q1) hu HYM.out hq1
        obtain ⟨qz, pz, rz, HQZ, HPZ, HRZ, hdz, hrz, hqz⟩ := quo_facts (v := v0) (n0 := n0) hn1 HR1M.out hv0
        have HQ1E := hide hq1
        have HR1Y := hide hr1
        have hr1' : r1 < n1 * 4294967296 + n0 := by rw [← HYS.out]; exact hr1
        clear hq1
        go_wp2_with (first
          | (show wpList _ _ _ (⟨some 68, .binOp _ _ _ _ _, _, _, _, _⟩ :: _) _ _; refine wpList_val rfl (opU_geq rfl rfl (b := 4294967296) rfl HG.out) ?_; go_frame)
          | (show wpList _ _ _ (⟨some 72, .binOp _ _ _ _ _, _, _, _, _⟩ :: _) _ _; refine wpList_val rfl (opU_mulW rfl rfl rfl _ HP0.out) ?_; go_frame)
          | (show wpList _ _ _ (⟨some 74, .binOp _ _ _ _ _, _, _, _, _⟩ :: _) _ _; refine wpList_val rfl (opU_mulW rfl (a := 4294967296) rfl rfl _ HXR.out) ?_; go_frame)
          | (show wpList _ _ _ (⟨some 76, .binOp _ _ _ _ _, _, _, _, _⟩ :: _) _ _; refine wpList_val rfl (opU_addW rfl rfl rfl _ HXV.out) ?_; go_frame)
          | (show wpList _ _ _ (⟨some 77, .binOp _ _ _ _ _, _, _, _, _⟩ :: _) _ _; refine wpList_val rfl (opU_gtr rfl rfl rfl HGT.out) ?_; go_frame)
          | (show wpList _ _ _ (⟨some 80, .binOp _ _ _ _ _, _, _, _, _⟩ :: _) _ _; refine wpList_val rfl (opU_subW rfl rfl (b := 1) rfl _ HQ1.out) ?_; go_frame)
          | (show wpList _ _ _ (⟨some 83, .binOp _ _ _ _ _, _, _, _, _⟩ :: _) _ _; refine wpList_val rfl (opU_addW rfl rfl rfl _ HRN.out) ?_; go_frame)
          | (show wpList _ _ _ (⟨some 85, .binOp _ _ _ _ _, _, _, _, _⟩ :: _) _ _; refine wpList_val rfl (opU_geq rfl rfl (b := 4294967296) rfl HBK.out) ?_; go_frame)
          | (show wpList _ _ _ (⟨some 87, .binOp _ _ _ _ _, _, _, _, _⟩ :: _) _ _; refine wpList_val rfl (opU_mulW rfl rfl (b := 4294967296) rfl x1 HX1.out) ?_; go_frame)
          | (show wpList _ _ _ (⟨some 89, .binOp _ _ _ _ _, _, _, _, _⟩ :: _) _ _; refine wpList_val rfl (opU_addW rfl rfl rfl x2 HX2.out) ?_; go_frame)
          | (show wpList _ _ _ (⟨some 92, .binOp _ _ _ _ _, _, _, _, _⟩ :: _) _ _; refine wpList_val rfl (opU_mulW rfl rfl rfl x3 HX3.out) ?_; go_frame)
          | (show wpList _ _ _ (⟨some 93, .binOp _ _ _ _ _, _, _, _, _⟩ :: _) _ _; refine wpList_val rfl (opU_subW rfl rfl rfl r1 HR1.out) ?_; go_frame)
          | (show wpList _ _ _ (⟨some 96, .binOp _ _ _ _ _, _, _, _, _⟩ :: _) _ _; refine wpList_val rfl (opU_quo rfl rfl rfl hn1 HR1M.out) ?_; rw [HQZ.out]; go_frame)
          | (show wpList _ _ _ (⟨some 100, .binOp _ _ _ _ _, _, _, _, _⟩ :: _) _ _; refine wpList_val rfl (opU_mulW rfl rfl rfl pz HPZ.out) ?_; go_frame)
          | (show wpList _ _ _ (⟨some 101, .binOp _ _ _ _ _, _, _, _, _⟩ :: _) _ _; refine wpList_val rfl (opU_subW rfl rfl rfl rz HRZ.out) ?_; go_frame)
          )
        go_loop [18, 16] (fun a b => ∃ Q R : Nat, a = U Q ∧ b = U R ∧ Dig r1 v0 n1 n0 Q R ∧ R < 4294967296 ∧ Q < 18446744073709551616) (fun a _ => (intOf a).toNat)
        case atStart => exact ⟨qz, rz, rfl, rfl, hdz, by omega, hqz⟩
        case round =>
          clear hdz hrz hqz
          obtain ⟨Q, R, rfl, rfl, hd, hR, hQ⟩ := hrel
          by_cases g1 : 4294967296 ≤ Q
          · have HG := decT g1
            obtain ⟨Q', R', HQ1, HRN, hd', hQ', hlt⟩ := down_facts hd hr1' hv0 hQ hR hn1B (.inl g1)
            by_cases g3 : 4294967296 ≤ R'
            · have HBK := decT g3
              have hq0 := hd'.brk hn1 hn0B hr1' g3
              obtain ⟨q0, rfl⟩ : ∃ q0, q0 = Q' := ⟨Q', rfl⟩
              rw [← HYS.out] at hq0
              obtain ⟨z1, z2, z3, r0, HZ1, HZ2, HZ3, HR0, HR0M, hr0, hm0⟩ := rem_facts (u := r1) (v := v0) (Y := Y) (q := q0) HR1Y.out HYM.out hq0
              obtain ⟨y1, qq, rr, HY1, HY2, HRR, hfin⟩ := fin_facts HP.out hy0 HQ1E.out HM1.out hq0 hm0.out HR1Y.out
              clear hq0 hr0
              go_wp2_with (first
                | (show wpList _ _ _ (⟨some 103, .binOp _ _ _ _ _, _, _, _, _⟩ :: _) _ _; refine wpList_val rfl (opU_geq rfl rfl (b := 4294967296) rfl HG.out) ?_; go_frame)
                | (show wpList _ _ _ (⟨some 107, .binOp _ _ _ _ _, _, _, _, _⟩ :: _) _ _; refine wpList_val rfl (opU_mulW rfl rfl rfl _ HP0.out) ?_; go_frame)
                | (show wpList _ _ _ (⟨some 109, .binOp _ _ _ _ _, _, _, _, _⟩ :: _) _ _; refine wpList_val rfl (opU_mulW rfl (a := 4294967296) rfl rfl _ HXR.out) ?_; go_frame)
                | (show wpList _ _ _ (⟨some 111, .binOp _ _ _ _ _, _, _, _, _⟩ :: _) _ _; refine wpList_val rfl (opU_addW rfl rfl rfl _ HXV.out) ?_; go_frame)
                | (show wpList _ _ _ (⟨some 112, .binOp _ _ _ _ _, _, _, _, _⟩ :: _) _ _; refine wpList_val rfl (opU_gtr rfl rfl rfl HGT.out) ?_; go_frame)
                | (show wpList _ _ _ (⟨some 115, .binOp _ _ _ _ _, _, _, _, _⟩ :: _) _ _; refine wpList_val rfl (opU_subW rfl rfl (b := 1) rfl _ HQ1.out) ?_; go_frame)
                | (show wpList _ _ _ (⟨some 118, .binOp _ _ _ _ _, _, _, _, _⟩ :: _) _ _; refine wpList_val rfl (opU_addW rfl rfl rfl _ HRN.out) ?_; go_frame)
                | (show wpList _ _ _ (⟨some 120, .binOp _ _ _ _ _, _, _, _, _⟩ :: _) _ _; refine wpList_val rfl (opU_geq rfl rfl (b := 4294967296) rfl HBK.out) ?_; go_frame)
                | (show wpList _ _ _ (⟨some 122, .binOp _ _ _ _ _, _, _, _, _⟩ :: _) _ _; refine wpList_val rfl (opU_mulW rfl rfl (b := 4294967296) rfl y1 HY1.out) ?_; go_frame)
                | (show wpList _ _ _ (⟨some 124, .binOp _ _ _ _ _, _, _, _, _⟩ :: _) _ _; refine wpList_val rfl (opU_addW rfl rfl rfl qq HY2.out) ?_; go_frame)
                | (show wpList _ _ _ (⟨some 126, .binOp _ _ _ _ _, _, _, _, _⟩ :: _) _ _; refine wpList_val rfl (opU_mulW rfl rfl (b := 4294967296) rfl z1 HZ1.out) ?_; go_frame)
                | (show wpList _ _ _ (⟨some 128, .binOp _ _ _ _ _, _, _, _, _⟩ :: _) _ _; refine wpList_val rfl (opU_addW rfl rfl rfl z2 HZ2.out) ?_; go_frame)
                | (show wpList _ _ _ (⟨some 131, .binOp _ _ _ _ _, _, _, _, _⟩ :: _) _ _; refine wpList_val rfl (opU_mulW rfl rfl rfl z3 HZ3.out) ?_; go_frame)
                | (show wpList _ _ _ (⟨some 132, .binOp _ _ _ _ _, _, _, _, _⟩ :: _) _ _; refine wpList_val rfl (opU_subW rfl rfl rfl r0 HR0.out) ?_; go_frame)
                | (show wpList _ _ _ (⟨some 134, .binOp _ _ _ _ _, _, _, _, _⟩ :: _) _ _; refine wpList_val rfl (opU_shrN rfl rfl rfl HR0M.out rr HRR.out) ?_; go_frame)
                )
              go_ret2
              exact ⟨hfin.out, hS⟩
            · have HBK := decF g3
              go_wp2_with (first
                | (show wpList _ _ _ (⟨some 103, .binOp _ _ _ _ _, _, _, _, _⟩ :: _) _ _; refine wpList_val rfl (opU_geq rfl rfl (b := 4294967296) rfl HG.out) ?_; go_frame)
                | (show wpList _ _ _ (⟨some 107, .binOp _ _ _ _ _, _, _, _, _⟩ :: _) _ _; refine wpList_val rfl (opU_mulW rfl rfl rfl _ HP0.out) ?_; go_frame)
                | (show wpList _ _ _ (⟨some 109, .binOp _ _ _ _ _, _, _, _, _⟩ :: _) _ _; refine wpList_val rfl (opU_mulW rfl (a := 4294967296) rfl rfl _ HXR.out) ?_; go_frame)
                | (show wpList _ _ _ (⟨some 111, .binOp _ _ _ _ _, _, _, _, _⟩ :: _) _ _; refine wpList_val rfl (opU_addW rfl rfl rfl _ HXV.out) ?_; go_frame)
                | (show wpList _ _ _ (⟨some 112, .binOp _ _ _ _ _, _, _, _, _⟩ :: _) _ _; refine wpList_val rfl (opU_gtr rfl rfl rfl HGT.out) ?_; go_frame)
                | (show wpList _ _ _ (⟨some 115, .binOp _ _ _ _ _, _, _, _, _⟩ :: _) _ _; refine wpList_val rfl (opU_subW rfl rfl (b := 1) rfl _ HQ1.out) ?_; go_frame)
                | (show wpList _ _ _ (⟨some 118, .binOp _ _ _ _ _, _, _, _, _⟩ :: _) _ _; refine wpList_val rfl (opU_addW rfl rfl rfl _ HRN.out) ?_; go_frame)
                | (show wpList _ _ _ (⟨some 120, .binOp _ _ _ _ _, _, _, _, _⟩ :: _) _ _; refine wpList_val rfl (opU_geq rfl rfl (b := 4294967296) rfl HBK.out) ?_; go_frame)
                )
              go_round
              case rel => exact ⟨Q', R', rfl, rfl, hd', by omega, hQ'⟩
              case measure => simp [U, intOf]; omega
          · have HG := decF g1
            obtain ⟨p0, xr, xv, HP0, HXR, HXV, HPE, HVE⟩ := round_facts hR hv0 (by omega : Q < 4294967296) hn0B
            by_cases g2 : xv < p0
            · have HGT := decT g2
              obtain ⟨Q', R', HQ1, HRN, hd', hQ', hlt⟩ := down_facts hd hr1' hv0 hQ hR hn1B (.inr (by rw [← HPE.out, ← HVE.out]; exact g2))
              by_cases g3 : 4294967296 ≤ R'
              · have HBK := decT g3
                have hq0 := hd'.brk hn1 hn0B hr1' g3
                obtain ⟨q0, rfl⟩ : ∃ q0, q0 = Q' := ⟨Q', rfl⟩
                rw [← HYS.out] at hq0
                obtain ⟨z1, z2, z3, r0, HZ1, HZ2, HZ3, HR0, HR0M, hr0, hm0⟩ := rem_facts (u := r1) (v := v0) (Y := Y) (q := q0) HR1Y.out HYM.out hq0
                obtain ⟨y1, qq, rr, HY1, HY2, HRR, hfin⟩ := fin_facts HP.out hy0 HQ1E.out HM1.out hq0 hm0.out HR1Y.out
                clear hq0 hr0
                go_wp2_with (first
                  | (show wpList _ _ _ (⟨some 103, .binOp _ _ _ _ _, _, _, _, _⟩ :: _) _ _; refine wpList_val rfl (opU_geq rfl rfl (b := 4294967296) rfl HG.out) ?_; go_frame)
                  | (show wpList _ _ _ (⟨some 107, .binOp _ _ _ _ _, _, _, _, _⟩ :: _) _ _; refine wpList_val rfl (opU_mulW rfl rfl rfl _ HP0.out) ?_; go_frame)
                  | (show wpList _ _ _ (⟨some 109, .binOp _ _ _ _ _, _, _, _, _⟩ :: _) _ _; refine wpList_val rfl (opU_mulW rfl (a := 4294967296) rfl rfl _ HXR.out) ?_; go_frame)
                  | (show wpList _ _ _ (⟨some 111, .binOp _ _ _ _ _, _, _, _, _⟩ :: _) _ _; refine wpList_val rfl (opU_addW rfl rfl rfl _ HXV.out) ?_; go_frame)
                  | (show wpList _ _ _ (⟨some 112, .binOp _ _ _ _ _, _, _, _, _⟩ :: _) _ _; refine wpList_val rfl (opU_gtr rfl rfl rfl HGT.out) ?_; go_frame)
                  | (show wpList _ _ _ (⟨some 115, .binOp _ _ _ _ _, _, _, _, _⟩ :: _) _ _; refine wpList_val rfl (opU_subW rfl rfl (b := 1) rfl _ HQ1.out) ?_; go_frame)
                  | (show wpList _ _ _ (⟨some 118, .binOp _ _ _ _ _, _, _, _, _⟩ :: _) _ _; refine wpList_val rfl (opU_addW rfl rfl rfl _ HRN.out) ?_; go_frame)
                  | (show wpList _ _ _ (⟨some 120, .binOp _ _ _ _ _, _, _, _, _⟩ :: _) _ _; refine wpList_val rfl (opU_geq rfl rfl (b := 4294967296) rfl HBK.out) ?_; go_frame)
                  | (show wpList _ _ _ (⟨some 122, .binOp _ _ _ _ _, _, _, _, _⟩ :: _) _ _; refine wpList_val rfl (opU_mulW rfl rfl (b := 4294967296) rfl y1 HY1.out) ?_; go_frame)
                  | (show wpList _ _ _ (⟨some 124, .binOp _ _ _ _ _, _, _, _, _⟩ :: _) _ _; refine wpList_val rfl (opU_addW rfl rfl rfl qq HY2.out) ?_; go_frame)
                  | (show wpList _ _ _ (⟨some 126, .binOp _ _ _ _ _, _, _, _, _⟩ :: _) _ _; refine wpList_val rfl (opU_mulW rfl rfl (b := 4294967296) rfl z1 HZ1.out) ?_; go_frame)
                  | (show wpList _ _ _ (⟨some 128, .binOp _ _ _ _ _, _, _, _, _⟩ :: _) _ _; refine wpList_val rfl (opU_addW rfl rfl rfl z2 HZ2.out) ?_; go_frame)
                  | (show wpList _ _ _ (⟨some 131, .binOp _ _ _ _ _, _, _, _, _⟩ :: _) _ _; refine wpList_val rfl (opU_mulW rfl rfl rfl z3 HZ3.out) ?_; go_frame)
                  | (show wpList _ _ _ (⟨some 132, .binOp _ _ _ _ _, _, _, _, _⟩ :: _) _ _; refine wpList_val rfl (opU_subW rfl rfl rfl r0 HR0.out) ?_; go_frame)
                  | (show wpList _ _ _ (⟨some 134, .binOp _ _ _ _ _, _, _, _, _⟩ :: _) _ _; refine wpList_val rfl (opU_shrN rfl rfl rfl HR0M.out rr HRR.out) ?_; go_frame)
                  )
                go_ret2
                exact ⟨hfin.out, hS⟩
              · have HBK := decF g3
                go_wp2_with (first
                  | (show wpList _ _ _ (⟨some 103, .binOp _ _ _ _ _, _, _, _, _⟩ :: _) _ _; refine wpList_val rfl (opU_geq rfl rfl (b := 4294967296) rfl HG.out) ?_; go_frame)
                  | (show wpList _ _ _ (⟨some 107, .binOp _ _ _ _ _, _, _, _, _⟩ :: _) _ _; refine wpList_val rfl (opU_mulW rfl rfl rfl _ HP0.out) ?_; go_frame)
                  | (show wpList _ _ _ (⟨some 109, .binOp _ _ _ _ _, _, _, _, _⟩ :: _) _ _; refine wpList_val rfl (opU_mulW rfl (a := 4294967296) rfl rfl _ HXR.out) ?_; go_frame)
                  | (show wpList _ _ _ (⟨some 111, .binOp _ _ _ _ _, _, _, _, _⟩ :: _) _ _; refine wpList_val rfl (opU_addW rfl rfl rfl _ HXV.out) ?_; go_frame)
                  | (show wpList _ _ _ (⟨some 112, .binOp _ _ _ _ _, _, _, _, _⟩ :: _) _ _; refine wpList_val rfl (opU_gtr rfl rfl rfl HGT.out) ?_; go_frame)
                  | (show wpList _ _ _ (⟨some 115, .binOp _ _ _ _ _, _, _, _, _⟩ :: _) _ _; refine wpList_val rfl (opU_subW rfl rfl (b := 1) rfl _ HQ1.out) ?_; go_frame)
                  | (show wpList _ _ _ (⟨some 118, .binOp _ _ _ _ _, _, _, _, _⟩ :: _) _ _; refine wpList_val rfl (opU_addW rfl rfl rfl _ HRN.out) ?_; go_frame)
                  | (show wpList _ _ _ (⟨some 120, .binOp _ _ _ _ _, _, _, _, _⟩ :: _) _ _; refine wpList_val rfl (opU_geq rfl rfl (b := 4294967296) rfl HBK.out) ?_; go_frame)
                  )
                go_round
                case rel => exact ⟨Q', R', rfl, rfl, hd', by omega, hQ'⟩
                case measure => simp [U, intOf]; omega
            · have HGT := decF g2
              have hq0 := hd.done hn1 (by rw [← HPE.out, ← HVE.out]; omega)
              obtain ⟨q0, rfl⟩ : ∃ q0, q0 = Q := ⟨Q, rfl⟩
              rw [← HYS.out] at hq0
              obtain ⟨z1, z2, z3, r0, HZ1, HZ2, HZ3, HR0, HR0M, hr0, hm0⟩ := rem_facts (u := r1) (v := v0) (Y := Y) (q := q0) HR1Y.out HYM.out hq0
              obtain ⟨y1, qq, rr, HY1, HY2, HRR, hfin⟩ := fin_facts HP.out hy0 HQ1E.out HM1.out hq0 hm0.out HR1Y.out
              clear hq0 hr0
              go_wp2_with (first
                | (show wpList _ _ _ (⟨some 103, .binOp _ _ _ _ _, _, _, _, _⟩ :: _) _ _; refine wpList_val rfl (opU_geq rfl rfl (b := 4294967296) rfl HG.out) ?_; go_frame)
                | (show wpList _ _ _ (⟨some 107, .binOp _ _ _ _ _, _, _, _, _⟩ :: _) _ _; refine wpList_val rfl (opU_mulW rfl rfl rfl _ HP0.out) ?_; go_frame)
                | (show wpList _ _ _ (⟨some 109, .binOp _ _ _ _ _, _, _, _, _⟩ :: _) _ _; refine wpList_val rfl (opU_mulW rfl (a := 4294967296) rfl rfl _ HXR.out) ?_; go_frame)
                | (show wpList _ _ _ (⟨some 111, .binOp _ _ _ _ _, _, _, _, _⟩ :: _) _ _; refine wpList_val rfl (opU_addW rfl rfl rfl _ HXV.out) ?_; go_frame)
                | (show wpList _ _ _ (⟨some 112, .binOp _ _ _ _ _, _, _, _, _⟩ :: _) _ _; refine wpList_val rfl (opU_gtr rfl rfl rfl HGT.out) ?_; go_frame)
                | (show wpList _ _ _ (⟨some 115, .binOp _ _ _ _ _, _, _, _, _⟩ :: _) _ _; refine wpList_val rfl (opU_subW rfl rfl (b := 1) rfl _ HQ1.out) ?_; go_frame)
                | (show wpList _ _ _ (⟨some 118, .binOp _ _ _ _ _, _, _, _, _⟩ :: _) _ _; refine wpList_val rfl (opU_addW rfl rfl rfl _ HRN.out) ?_; go_frame)
                | (show wpList _ _ _ (⟨some 120, .binOp _ _ _ _ _, _, _, _, _⟩ :: _) _ _; refine wpList_val rfl (opU_geq rfl rfl (b := 4294967296) rfl HBK.out) ?_; go_frame)
                | (show wpList _ _ _ (⟨some 122, .binOp _ _ _ _ _, _, _, _, _⟩ :: _) _ _; refine wpList_val rfl (opU_mulW rfl rfl (b := 4294967296) rfl y1 HY1.out) ?_; go_frame)
                | (show wpList _ _ _ (⟨some 124, .binOp _ _ _ _ _, _, _, _, _⟩ :: _) _ _; refine wpList_val rfl (opU_addW rfl rfl rfl qq HY2.out) ?_; go_frame)
                | (show wpList _ _ _ (⟨some 126, .binOp _ _ _ _ _, _, _, _, _⟩ :: _) _ _; refine wpList_val rfl (opU_mulW rfl rfl (b := 4294967296) rfl z1 HZ1.out) ?_; go_frame)
                | (show wpList _ _ _ (⟨some 128, .binOp _ _ _ _ _, _, _, _, _⟩ :: _) _ _; refine wpList_val rfl (opU_addW rfl rfl rfl z2 HZ2.out) ?_; go_frame)
                | (show wpList _ _ _ (⟨some 131, .binOp _ _ _ _ _, _, _, _, _⟩ :: _) _ _; refine wpList_val rfl (opU_mulW rfl rfl rfl z3 HZ3.out) ?_; go_frame)
                | (show wpList _ _ _ (⟨some 132, .binOp _ _ _ _ _, _, _, _, _⟩ :: _) _ _; refine wpList_val rfl (opU_subW rfl rfl rfl r0 HR0.out) ?_; go_frame)
                | (show wpList _ _ _ (⟨some 134, .binOp _ _ _ _ _, _, _, _, _⟩ :: _) _ _; refine wpList_val rfl (opU_shrN rfl rfl rfl HR0M.out rr HRR.out) ?_; go_frame)
                )
              go_ret2
              exact ⟨hfin.out, hS⟩
      · have HBK := decF g3
        go_wp2_with (first
          | (show wpList _ _ _ (⟨some 68, .binOp _ _ _ _ _, _, _, _, _⟩ :: _) _ _; refine wpList_val rfl (opU_geq rfl rfl (b := 4294967296) rfl HG.out) ?_; go_frame)
          | (show wpList _ _ _ (⟨some 72, .binOp _ _ _ _ _, _, _, _, _⟩ :: _) _ _; refine wpList_val rfl (opU_mulW rfl rfl rfl _ HP0.out) ?_; go_frame)
          | (show wpList _ _ _ (⟨some 74, .binOp _ _ _ _ _, _, _, _, _⟩ :: _) _ _; refine wpList_val rfl (opU_mulW rfl (a := 4294967296) rfl rfl _ HXR.out) ?_; go_frame)
          | (show wpList _ _ _ (⟨some 76, .binOp _ _ _ _ _, _, _, _, _⟩ :: _) _ _; refine wpList_val rfl (opU_addW rfl rfl rfl _ HXV.out) ?_; go_frame)
          | (show wpList _ _ _ (⟨some 77, .binOp _ _ _ _ _, _, _, _, _⟩ :: _) _ _; refine wpList_val rfl (opU_gtr rfl rfl rfl HGT.out) ?_; go_frame)
          | (show wpList _ _ _ (⟨some 80, .binOp _ _ _ _ _, _, _, _, _⟩ :: _) _ _; refine wpList_val rfl (opU_subW rfl rfl (b := 1) rfl _ HQ1.out) ?_; go_frame)
          | (show wpList _ _ _ (⟨some 83, .binOp _ _ _ _ _, _, _, _, _⟩ :: _) _ _; refine wpList_val rfl (opU_addW rfl rfl rfl _ HRN.out) ?_; go_frame)
          | (show wpList _ _ _ (⟨some 85, .binOp _ _ _ _ _, _, _, _, _⟩ :: _) _ _; refine wpList_val rfl (opU_geq rfl rfl (b := 4294967296) rfl HBK.out) ?_; go_frame)
          )
        go_round
        case rel => exact ⟨Q', R', rfl, rfl, hd', by omega, hQ'⟩
        case measure => simp [U, intOf]; omega
    · have HG := decF g1
      obtain ⟨p0, xr, xv, HP0, HXR, HXV, HPE, HVE⟩ := round_facts hR hv1 (by omega : Q < 4294967296) hn0B
      by_cases g2 : xv < p0
      · have HGT := decT g2
        obtain ⟨Q', R', HQ1, HRN, hd', hQ', hlt⟩ := down_facts hd hu' hv1 hQ hR hn1B (.inr (by rw [← HPE.out, ← HVE.out]; exact g2))
        by_cases g3 : 4294967296 ≤ R'
        · have HBK := decT g3
          have hq1 := hd'.brk hn1 hn0B hu' g3
          obtain ⟨q1, rfl⟩ : ∃ q1, q1 = Q' := ⟨Q', rfl⟩
          rw [← HYS.out] at hq1
          obtain ⟨x1, x2, x3, r1, HX1, HX2, HX3, HR1, HR1M, hr1, HM1⟩ := rem_facts (u := u) (v := v1) (Y := Y) (q := q1) hu HYM.out hq1
          obtain ⟨qz, pz, rz, HQZ, HPZ, HRZ, hdz, hrz, hqz⟩ := quo_facts (v := v0) (n0 := n0) hn1 HR1M.out hv0
          have HQ1E := hide hq1
          have HR1Y := hide hr1
          have hr1' : r1 < n1 * 4294967296 + n0 := by rw [← HYS.out]; exact hr1
          clear hq1
          go_wp2_with (first
            | (show wpList _ _ _ (⟨some 68, .binOp _ _ _ _ _, _, _, _, _⟩ :: _) _ _; refine wpList_val rfl (opU_geq rfl rfl (b := 4294967296) rfl HG.out) ?_; go_frame)
            | (show wpList _ _ _ (⟨some 72, .binOp _ _ _ _ _, _, _, _, _⟩ :: _) _ _; refine wpList_val rfl (opU_mulW rfl rfl rfl _ HP0.out) ?_; go_frame)
            | (show wpList _ _ _ (⟨some 74, .binOp _ _ _ _ _, _, _, _, _⟩ :: _) _ _; refine wpList_val rfl (opU_mulW rfl (a := 4294967296) rfl rfl _ HXR.out) ?_; go_frame)
            | (show wpList _ _ _ (⟨some 76, .binOp _ _ _ _ _, _, _, _, _⟩ :: _) _ _; refine wpList_val rfl (opU_addW rfl rfl rfl _ HXV.out) ?_; go_frame)
            | (show wpList _ _ _ (⟨some 77, .binOp _ _ _ _ _, _, _, _, _⟩ :: _) _ _; refine wpList_val rfl (opU_gtr rfl rfl rfl HGT.out) ?_; go_frame)
            | (show wpList _ _ _ (⟨some 80, .binOp _ _ _ _ _, _, _, _, _⟩ :: _) _ _; refine wpList_val rfl (opU_subW rfl rfl (b := 1) rfl _ HQ1.out) ?_; go_frame)
            | (show wpList _ _ _ (⟨some 83, .binOp _ _ _ _ _, _, _, _, _⟩ :: _) _ _; refine wpList_val rfl (opU_addW rfl rfl rfl _ HRN.out) ?_; go_frame)
            | (show wpList _ _ _ (⟨some 85, .binOp _ _ _ _ _, _, _, _, _⟩ :: _) _ _; refine wpList_val rfl (opU_geq rfl rfl (b := 4294967296) rfl HBK.out) ?_; go_frame)
            | (show wpList _ _ _ (⟨some 87, .binOp _ _ _ _ _, _, _, _, _⟩ :: _) _ _; refine wpList_val rfl (opU_mulW rfl rfl (b := 4294967296) rfl x1 HX1.out) ?_; go_frame)
            | (show wpList _ _ _ (⟨some 89, .binOp _ _ _ _ _, _, _, _, _⟩ :: _) _ _; refine wpList_val rfl (opU_addW rfl rfl rfl x2 HX2.out) ?_; go_frame)
            | (show wpList _ _ _ (⟨some 92, .binOp _ _ _ _ _, _, _, _, _⟩ :: _) _ _; refine wpList_val rfl (opU_mulW rfl rfl rfl x3 HX3.out) ?_; go_frame)
            | (show wpList _ _ _ (⟨some 93, .binOp _ _ _ _ _, _, _, _, _⟩ :: _) _ _; refine wpList_val rfl (opU_subW rfl rfl rfl r1 HR1.out) ?_; go_frame)
            | (show wpList _ _ _ (⟨some 96, .binOp _ _ _ _ _, _, _, _, _⟩ :: _) _ _; refine wpList_val rfl (opU_quo rfl rfl rfl hn1 HR1M.out) ?_; rw [HQZ.out]; go_frame)
            | (show wpList _ _ _ (⟨some 100, .binOp _ _ _ _ _, _, _, _, _⟩ :: _) _ _; refine wpList_val rfl (opU_mulW rfl rfl rfl pz HPZ.out) ?_; go_frame)
            | (show wpList _ _ _ (⟨some 101, .binOp _ _ _ _ _, _, _, _, _⟩ :: _) _ _; refine wpList_val rfl (opU_subW rfl rfl rfl rz HRZ.out) ?_; go_frame)
            )
          go_loop [18, 16] (fun a b => ∃ Q R : Nat, a = U Q ∧ b = U R ∧ Dig r1 v0 n1 n0 Q R ∧ R < 4294967296 ∧ Q < 18446744073709551616) (fun a _ => (intOf a).toNat)
          case atStart => exact ⟨qz, rz, rfl, rfl, hdz, by omega, hqz⟩
          case round =>
            clear hdz hrz hqz
            obtain ⟨Q, R, rfl, rfl, hd, hR, hQ⟩ := hrel
            by_cases g1 : 4294967296 ≤ Q
            · have HG := decT g1
              obtain ⟨Q', R', HQ1, HRN, hd', hQ', hlt⟩ := down_facts hd hr1' hv0 hQ hR hn1B (.inl g1)
              by_cases g3 : 4294967296 ≤ R'
              · have HBK := decT g3
                have hq0 := hd'.brk hn1 hn0B hr1' g3
                obtain ⟨q0, rfl⟩ : ∃ q0, q0 = Q' := ⟨Q', rfl⟩
                rw [← HYS.out] at hq0
                obtain ⟨z1, z2, z3, r0, HZ1, HZ2, HZ3, HR0, HR0M, hr0, hm0⟩ := rem_facts (u := r1) (v := v0) (Y := Y) (q := q0) HR1Y.out HYM.out hq0
                obtain ⟨y1, qq, rr, HY1, HY2, HRR, hfin⟩ := fin_facts HP.out hy0 HQ1E.out HM1.out hq0 hm0.out HR1Y.out
                clear hq0 hr0
                go_wp2_with (first
                  | (show wpList _ _ _ (⟨some 103, .binOp _ _ _ _ _, _, _, _, _⟩ :: _) _ _; refine wpList_val rfl (opU_geq rfl rfl (b := 4294967296) rfl HG.out) ?_; go_frame)
                  | (show wpList _ _ _ (⟨some 107, .binOp _ _ _ _ _, _, _, _, _⟩ :: _) _ _; refine wpList_val rfl (opU_mulW rfl rfl rfl _ HP0.out) ?_; go_frame)
                  | (show wpList _ _ _ (⟨some 109, .binOp _ _ _ _ _, _, _, _, _⟩ :: _) _ _; refine wpList_val rfl (opU_mulW rfl (a := 4294967296) rfl rfl _ HXR.out) ?_; go_frame)
                  | (show wpList _ _ _ (⟨some 111, .binOp _ _ _ _ _, _, _, _, _⟩ :: _) _ _; refine wpList_val rfl (opU_addW rfl rfl rfl _ HXV.out) ?_; go_frame)
                  | (show wpList _ _ _ (⟨some 112, .binOp _ _ _ _ _, _, _, _, _⟩ :: _) _ _; refine wpList_val rfl (opU_gtr rfl rfl rfl HGT.out) ?_; go_frame)
                  | (show wpList _ _ _ (⟨some 115, .binOp _ _ _ _ _, _, _, _, _⟩ :: _) _ _; refine wpList_val rfl (opU_subW rfl rfl (b := 1) rfl _ HQ1.out) ?_; go_frame)
                  | (show wpList _ _ _ (⟨some 118, .binOp _ _ _ _ _, _, _, _, _⟩ :: _) _ _; refine wpList_val rfl (opU_addW rfl rfl rfl _ HRN.out) ?_; go_frame)
                  | (show wpList _ _ _ (⟨some 120, .binOp _ _ _ _ _, _, _, _, _⟩ :: _) _ _; refine wpList_val rfl (opU_geq rfl rfl (b := 4294967296) rfl HBK.out) ?_; go_frame)
                  | (show wpList _ _ _ (⟨some 122, .binOp _ _ _ _ _, _, _, _, _⟩ :: _) _ _; refine wpList_val rfl (opU_mulW rfl rfl (b := 4294967296) rfl y1 HY1.out) ?_; go_frame)
                  | (show wpList _ _ _ (⟨some 124, .binOp _ _ _ _ _, _, _, _, _⟩ :: _) _ _; refine wpList_val rfl (opU_addW rfl rfl rfl qq HY2.out) ?_; go_frame)
                  | (show wpList _ _ _ (⟨some 126, .binOp _ _ _ _ _, _, _, _, _⟩ :: _) _ _; refine wpList_val rfl (opU_mulW rfl rfl (b := 4294967296) rfl z1 HZ1.out) ?_; go_frame)
                  | (show wpList _ _ _ (⟨some 128, .binOp _ _ _ _ _, _, _, _, _⟩ :: _) _ _; refine wpList_val rfl (opU_addW rfl rfl rfl z2 HZ2.out) ?_; go_frame)
                  | (show wpList _ _ _ (⟨some 131, .binOp _ _ _ _ _, _, _, _, _⟩ :: _) _ _; refine wpList_val rfl (opU_mulW rfl rfl rfl z3 HZ3.out) ?_; go_frame)
                  | (show wpList _ _ _ (⟨some 132, .binOp _ _ _ _ _, _, _, _, _⟩ :: _) _ _; refine wpList_val rfl (opU_subW rfl rfl rfl r0 HR0.out) ?_; go_frame)
                  | (show wpList _ _ _ (⟨some 134, .binOp _ _ _ _ _, _, _, _, _⟩ :: _) _ _; refine wpList_val rfl (opU_shrN rfl rfl rfl HR0M.out rr HRR.out) ?_; go_frame)
                  )
                go_ret2
                exact ⟨hfin.out, hS⟩
              · have HBK := decF g3
                go_wp2_with (first
                  | (show wpList _ _ _ (⟨some 103, .binOp _ _ _ _ _, _, _, _, _⟩ :: _) _ _; refine wpList_val rfl (opU_geq rfl rfl (b := 4294967296) rfl HG.out) ?_; go_frame)
                  | (show wpList _ _ _ (⟨some 107, .binOp _ _ _ _ _, _, _, _, _⟩ :: _) _ _; refine wpList_val rfl (opU_mulW rfl rfl rfl _ HP0.out) ?_; go_frame)
                  | (show wpList _ _ _ (⟨some 109, .binOp _ _ _ _ _, _, _, _, _⟩ :: _) _ _; refine wpList_val rfl (opU_mulW rfl (a := 4294967296) rfl rfl _ HXR.out) ?_; go_frame)
                  | (show wpList _ _ _ (⟨some 111, .binOp _ _ _ _ _, _, _, _, _⟩ :: _) _ _; refine wpList_val rfl (opU_addW rfl rfl rfl _ HXV.out) ?_; go_frame)
                  | (show wpList _ _ _ (⟨some 112, .binOp _ _ _ _ _, _, _, _, _⟩ :: _) _ _; refine wpList_val rfl (opU_gtr rfl rfl rfl HGT.out) ?_; go_frame)
                  | (show wpList _ _ _ (⟨some 115, .binOp _ _ _ _ _, _, _, _, _⟩ :: _) _ _; refine wpList_val rfl (opU_subW rfl rfl (b := 1) rfl _ HQ1.out) ?_; go_frame)
                  | (show wpList _ _ _ (⟨some 118, .binOp _ _ _ _ _, _, _, _, _⟩ :: _) _ _; refine wpList_val rfl (opU_addW rfl rfl rfl _ HRN.out) ?_; go_frame)
                  | (show wpList _ _ _ (⟨some 120, .binOp _ _ _ _ _, _, _, _, _⟩ :: _) _ _; refine wpList_val rfl (opU_geq rfl rfl (b := 4294967296) rfl HBK.out) ?_; go_frame)
                  )
                go_round
                case rel => exact ⟨Q', R', rfl, rfl, hd', by omega, hQ'⟩
                case measure => simp [U, intOf]; omega
            · have HG := decF g1
              obtain ⟨p0, xr, xv, HP0, HXR, HXV, HPE, HVE⟩ := round_facts hR hv0 (by omega : Q < 4294967296) hn0B
              by_cases g2 : xv < p0
              · have HGT := decT g2
                obtain ⟨Q', R', HQ1, HRN, hd', hQ', hlt⟩ := down_facts hd hr1' hv0 hQ hR hn1B (.inr (by rw [← HPE.out, ← HVE.out]; exact g2))
                by_cases g3 : 4294967296 ≤ R'
                · have HBK := decT g3
                  have hq0 := hd'.brk hn1 hn0B hr1' g3
                  obtain ⟨q0, rfl⟩ : ∃ q0, q0 = Q' := ⟨Q', rfl⟩
                  rw [← HYS.out] at hq0
                  obtain ⟨z1, z2, z3, r0, HZ1, HZ2, HZ3, HR0, HR0M, hr0, hm0⟩ := rem_facts (u := r1) (v := v0) (Y := Y) (q := q0) HR1Y.out HYM.out hq0
                  obtain ⟨y1, qq, rr, HY1, HY2, HRR, hfin⟩ := fin_facts HP.out hy0 HQ1E.out HM1.out hq0 hm0.out HR1Y.out
                  clear hq0 hr0
                  go_wp2_with (first
                    | (show wpList _ _ _ (⟨some 103, .binOp _ _ _ _ _, _, _, _, _⟩ :: _) _ _; refine wpList_val rfl (opU_geq rfl rfl (b := 4294967296) rfl HG.out) ?_; go_frame)
                    | (show wpList _ _ _ (⟨some 107, .binOp _ _ _ _ _, _, _, _, _⟩ :: _) _ _; refine wpList_val rfl (opU_mulW rfl rfl rfl _ HP0.out) ?_; go_frame)
                    | (show wpList _ _ _ (⟨some 109, .binOp _ _ _ _ _, _, _, _, _⟩ :: _) _ _; refine wpList_val rfl (opU_mulW rfl (a := 4294967296) rfl rfl _ HXR.out) ?_; go_frame)
                    | (show wpList _ _ _ (⟨some 111, .binOp _ _ _ _ _, _, _, _, _⟩ :: _) _ _; refine wpList_val rfl (opU_addW rfl rfl rfl _ HXV.out) ?_; go_frame)
                    | (show wpList _ _ _ (⟨some 112, .binOp _ _ _ _ _, _, _, _, _⟩ :: _) _ _; refine wpList_val rfl (opU_gtr rfl rfl rfl HGT.out) ?_; go_frame)
                    | (show wpList _ _ _ (⟨some 115, .binOp _ _ _ _ _, _, _, _, _⟩ :: _) _ _; refine wpList_val rfl (opU_subW rfl rfl (b := 1) rfl _ HQ1.out) ?_; go_frame)
                    | (show wpList _ _ _ (⟨some 118, .binOp _ _ _ _ _, _, _, _, _⟩ :: _) _ _; refine wpList_val rfl (opU_addW rfl rfl rfl _ HRN.out) ?_; go_frame)
                    | (show wpList _ _ _ (⟨some 120, .binOp _ _ _ _ _, _, _, _, _⟩ :: _) _ _; refine wpList_val rfl (opU_geq rfl rfl (b := 4294967296) rfl HBK.out) ?_; go_frame)
                    | (show wpList _ _ _ (⟨some 122, .binOp _ _ _ _ _, _, _, _, _⟩ :: _) _ _; refine wpList_val rfl (opU_mulW rfl rfl (b := 4294967296) rfl y1 HY1.out) ?_; go_frame)
                    | (show wpList _ _ _ (⟨some 124, .binOp _ _ _ _ _, _, _, _, _⟩ :: _) _ _; refine wpList_val rfl (opU_addW rfl rfl rfl qq HY2.out) ?_; go_frame)
                    | (show wpList _ _ _ (⟨some 126, .binOp _ _ _ _ _, _, _, _, _⟩ :: _) _ _; refine wpList_val rfl (opU_mulW rfl rfl (b := 4294967296) rfl z1 HZ1.out) ?_; go_frame)
                    | (show wpList _ _ _ (⟨some 128, .binOp _ _ _ _ _, _, _, _, _⟩ :: _) _ _; refine wpList_val rfl (opU_addW rfl rfl rfl z2 HZ2.out) ?_; go_frame)
                    | (show wpList _ _ _ (⟨some 131, .binOp _ _ _ _ _, _, _, _, _⟩ :: _) _ _; refine wpList_val rfl (opU_mulW rfl rfl rfl z3 HZ3.out) ?_; go_frame)
                    | (show wpList _ _ _ (⟨some 132, .binOp _ _ _ _ _, _, _, _, _⟩ :: _) _ _; refine wpList_val rfl (opU_subW rfl rfl rfl r0 HR0.out) ?_; go_frame)
                    | (show wpList _ _ _ (⟨some 134, .binOp _ _ _ _ _, _, _, _, _⟩ :: _) _ _; refine wpList_val rfl (opU_shrN rfl rfl rfl HR0M.out rr HRR.out) ?_; go_frame)
                    )
                  go_ret2
                  exact ⟨hfin.out, hS⟩
                · have HBK := decF g3
                  go_wp2_with (first
                    | (show wpList _ _ _ (⟨some 103, .binOp _ _ _ _ _, _, _, _, _⟩ :: _) _ _; refine wpList_val rfl (opU_geq rfl rfl (b := 4294967296) rfl HG.out) ?_; go_frame)
                    | (show wpList _ _ _ (⟨some 107, .binOp _ _ _ _ _, _, _, _, _⟩ :: _) _ _; refine wpList_val rfl (opU_mulW rfl rfl rfl _ HP0.out) ?_; go_frame)
                    | (show wpList _ _ _ (⟨some 109, .binOp _ _ _ _ _, _, _, _, _⟩ :: _) _ _; refine wpList_val rfl (opU_mulW rfl (a := 4294967296) rfl rfl _ HXR.out) ?_; go_frame)
                    | (show wpList _ _ _ (⟨some 111, .binOp _ _ _ _ _, _, _, _, _⟩ :: _) _ _; refine wpList_val rfl (opU_addW rfl rfl rfl _ HXV.out) ?_; go_frame)
                    | (show wpList _ _ _ (⟨some 112, .binOp _ _ _ _ _, _, _, _, _⟩ :: _) _ _; refine wpList_val rfl (opU_gtr rfl rfl rfl HGT.out) ?_; go_frame)
                    | (show wpList _ _ _ (⟨some 115, .binOp _ _ _ _ _, _, _, _, _⟩ :: _) _ _; refine wpList_val rfl (opU_subW rfl rfl (b := 1) rfl _ HQ1.out) ?_; go_frame)
                    | (show wpList _ _ _ (⟨some 118, .binOp _ _ _ _ _, _, _, _, _⟩ :: _) _ _; refine wpList_val rfl (opU_addW rfl rfl rfl _ HRN.out) ?_; go_frame)
                    | (show wpList _ _ _ (⟨some 120, .binOp _ _ _ _ _, _, _, _, _⟩ :: _) _ _; refine wpList_val rfl (opU_geq rfl rfl (b := 4294967296) rfl HBK.out) ?_; go_frame)
                    )
                  go_round
                  case rel => exact ⟨Q', R', rfl, rfl, hd', by omega, hQ'⟩
                  case measure => simp [U, intOf]; omega
              · have HGT := decF g2
                have hq0 := hd.done hn1 (by rw [← HPE.out, ← HVE.out]; omega)
                obtain ⟨q0, rfl⟩ : ∃ q0, q0 = Q := ⟨Q, rfl⟩
                rw [← HYS.out] at hq0
                obtain ⟨z1, z2, z3, r0, HZ1, HZ2, HZ3, HR0, HR0M, hr0, hm0⟩ := rem_facts (u := r1) (v := v0) (Y := Y) (q := q0) HR1Y.out HYM.out hq0
                obtain ⟨y1, qq, rr, HY1, HY2, HRR, hfin⟩ := fin_facts HP.out hy0 HQ1E.out HM1.out hq0 hm0.out HR1Y.out
                clear hq0 hr0
                go_wp2_with (first
                  | (show wpList _ _ _ (⟨some 103, .binOp _ _ _ _ _, _, _, _, _⟩ :: _) _ _; refine wpList_val rfl (opU_geq rfl rfl (b := 4294967296) rfl HG.out) ?_; go_frame)
                  | (show wpList _ _ _ (⟨some 107, .binOp _ _ _ _ _, _, _, _, _⟩ :: _) _ _; refine wpList_val rfl (opU_mulW rfl rfl rfl _ HP0.out) ?_; go_frame)
                  | (show wpList _ _ _ (⟨some 109, .binOp _ _ _ _ _, _, _, _, _⟩ :: _) _ _; refine wpList_val rfl (opU_mulW rfl (a := 4294967296) rfl rfl _ HXR.out) ?_; go_frame)
                  | (show wpList _ _ _ (⟨some 111, .binOp _ _ _ _ _, _, _, _, _⟩ :: _) _ _; refine wpList_val rfl (opU_addW rfl rfl rfl _ HXV.out) ?_; go_frame)
                  | (show wpList _ _ _ (⟨some 112, .binOp _ _ _ _ _, _, _, _, _⟩ :: _) _ _; refine wpList_val rfl (opU_gtr rfl rfl rfl HGT.out) ?_; go_frame)
                  | (show wpList _ _ _ (⟨some 115, .binOp _ _ _ _ _, _, _, _, _⟩ :: _) _ _; refine wpList_val rfl (opU_subW rfl rfl (b := 1) rfl _ HQ1.out) ?_; go_frame)
                  | (show wpList _ _ _ (⟨some 118, .binOp _ _ _ _ _, _, _, _, _⟩ :: _) _ _; refine wpList_val rfl (opU_addW rfl rfl rfl _ HRN.out) ?_; go_frame)
                  | (show wpList _ _ _ (⟨some 120, .binOp _ _ _ _ _, _, _, _, _⟩ :: _) _ _; refine wpList_val rfl (opU_geq rfl rfl (b := 4294967296) rfl HBK.out) ?_; go_frame)
                  | (show wpList _ _ _ (⟨some 122, .binOp _ _ _ _ _, _, _, _, _⟩ :: _) _ _; refine wpList_val rfl (opU_mulW rfl rfl (b := 4294967296) rfl y1 HY1.out) ?_; go_frame)
                  | (show wpList _ _ _ (⟨some 124, .binOp _ _ _ _ _, _, _, _, _⟩ :: _) _ _; refine wpList_val rfl (opU_addW rfl rfl rfl qq HY2.out) ?_; go_frame)
                  | (show wpList _ _ _ (⟨some 126, .binOp _ _ _ _ _, _, _, _, _⟩ :: _) _ _; refine wpList_val rfl (opU_mulW rfl rfl (b := 4294967296) rfl z1 HZ1.out) ?_; go_frame)
                  | (show wpList _ _ _ (⟨some 128, .binOp _ _ _ _ _, _, _, _, _⟩ :: _) _ _; refine wpList_val rfl (opU_addW rfl rfl rfl z2 HZ2.out) ?_; go_frame)
                  | (show wpList _ _ _ (⟨some 131, .binOp _ _ _ _ _, _, _, _, _⟩ :: _) _ _; refine wpList_val rfl (opU_mulW rfl rfl rfl z3 HZ3.out) ?_; go_frame)
                  | (show wpList _ _ _ (⟨some 132, .binOp _ _ _ _ _, _, _, _, _⟩ :: _) _ _; refine wpList_val rfl (opU_subW rfl rfl rfl r0 HR0.out) ?_; go_frame)
                  | (show wpList _ _ _ (⟨some 134, .binOp _ _ _ _ _, _, _, _, _⟩ :: _) _ _; refine wpList_val rfl (opU_shrN rfl rfl rfl HR0M.out rr HRR.out) ?_; go_frame)
                  )
                go_ret2
                exact ⟨hfin.out, hS⟩
        · have HBK := decF g3
          go_wp2_with (first
            | (show wpList _ _ _ (⟨some 68, .binOp _ _ _ _ _, _, _, _, _⟩ :: _) _ _; refine wpList_val rfl (opU_geq rfl rfl (b := 4294967296) rfl HG.out) ?_; go_frame)
            | (show wpList _ _ _ (⟨some 72, .binOp _ _ _ _ _, _, _, _, _⟩ :: _) _ _; refine wpList_val rfl (opU_mulW rfl rfl rfl _ HP0.out) ?_; go_frame)
            | (show wpList _ _ _ (⟨some 74, .binOp _ _ _ _ _, _, _, _, _⟩ :: _) _ _; refine wpList_val rfl (opU_mulW rfl (a := 4294967296) rfl rfl _ HXR.out) ?_; go_frame)
            | (show wpList _ _ _ (⟨some 76, .binOp _ _ _ _ _, _, _, _, _⟩ :: _) _ _; refine wpList_val rfl (opU_addW rfl rfl rfl _ HXV.out) ?_; go_frame)
            | (show wpList _ _ _ (⟨some 77, .binOp _ _ _ _ _, _, _, _, _⟩ :: _) _ _; refine wpList_val rfl (opU_gtr rfl rfl rfl HGT.out) ?_; go_frame)
            | (show wpList _ _ _ (⟨some 80, .binOp _ _ _ _ _, _, _, _, _⟩ :: _) _ _; refine wpList_val rfl (opU_subW rfl rfl (b := 1) rfl _ HQ1.out) ?_; go_frame)
            | (show wpList _ _ _ (⟨some 83, .binOp _ _ _ _ _, _, _, _, _⟩ :: _) _ _; refine wpList_val rfl (opU_addW rfl rfl rfl _ HRN.out) ?_; go_frame)
            | (show wpList _ _ _ (⟨some 85, .binOp _ _ _ _ _, _, _, _, _⟩ :: _) _ _; refine wpList_val rfl (opU_geq rfl rfl (b := 4294967296) rfl HBK.out) ?_; go_frame)
            )
          go_round
          case rel => exact ⟨Q', R', rfl, rfl, hd', by omega, hQ'⟩
          case measure => simp [U, intOf]; omega
      · have HGT := decF g2
        have hq1 := hd.done hn1 (by rw [← HPE.out, ← HVE.out]; omega)
        obtain ⟨q1, rfl⟩ : ∃ q1, q1 = Q := ⟨Q, rfl⟩
        rw [← HYS.out] at hq1
        obtain ⟨x1, x2, x3, r1, HX1, HX2, HX3, HR1, HR1M, hr1, HM1⟩ := rem_facts (u := u) (v := v1) (Y := Y) (q := q1) hu HYM.out hq1
        obtain ⟨qz, pz, rz, HQZ, HPZ, HRZ, hdz, hrz, hqz⟩ := quo_facts (v := v0) (n0 := n0) hn1 HR1M.out hv0
        have HQ1E := hide hq1
        have HR1Y := hide hr1
        have hr1' : r1 < n1 * 4294967296 + n0 := by rw [← HYS.out]; exact hr1
        clear hq1
        go_wp2_with (first
          | (show wpList _ _ _ (⟨some 68, .binOp _ _ _ _ _, _, _, _, _⟩ :: _) _ _; refine wpList_val rfl (opU_geq rfl rfl (b := 4294967296) rfl HG.out) ?_; go_frame)
          | (show wpList _ _ _ (⟨some 72, .binOp _ _ _ _ _, _, _, _, _⟩ :: _) _ _; refine wpList_val rfl (opU_mulW rfl rfl rfl _ HP0.out) ?_; go_frame)
          | (show wpList _ _ _ (⟨some 74, .binOp _ _ _ _ _, _, _, _, _⟩ :: _) _ _; refine wpList_val rfl (opU_mulW rfl (a := 4294967296) rfl rfl _ HXR.out) ?_; go_frame)
          | (show wpList _ _ _ (⟨some 76, .binOp _ _ _ _ _, _, _, _, _⟩ :: _) _ _; refine wpList_val rfl (opU_addW rfl rfl rfl _ HXV.out) ?_; go_frame)
          | (show wpList _ _ _ (⟨some 77, .binOp _ _ _ _ _, _, _, _, _⟩ :: _) _ _; refine wpList_val rfl (opU_gtr rfl rfl rfl HGT.out) ?_; go_frame)
          | (show wpList _ _ _ (⟨some 80, .binOp _ _ _ _ _, _, _, _, _⟩ :: _) _ _; refine wpList_val rfl (opU_subW rfl rfl (b := 1) rfl _ HQ1.out) ?_; go_frame)
          | (show wpList _ _ _ (⟨some 83, .binOp _ _ _ _ _, _, _, _, _⟩ :: _) _ _; refine wpList_val rfl (opU_addW rfl rfl rfl _ HRN.out) ?_; go_frame)
          | (show wpList _ _ _ (⟨some 85, .binOp _ _ _ _ _, _, _, _, _⟩ :: _) _ _; refine wpList_val rfl (opU_geq rfl rfl (b := 4294967296) rfl HBK.out) ?_; go_frame)
          | (show wpList _ _ _ (⟨some 87, .binOp _ _ _ _ _, _, _, _, _⟩ :: _) _ _; refine wpList_val rfl (opU_mulW rfl rfl (b := 4294967296) rfl x1 HX1.out) ?_; go_frame)
          | (show wpList _ _ _ (⟨some 89, .binOp _ _ _ _ _, _, _, _, _⟩ :: _) _ _; refine wpList_val rfl (opU_addW rfl rfl rfl x2 HX2.out) ?_; go_frame)
          | (show wpList _ _ _ (⟨some 92, .binOp _ _ _ _ _, _, _, _, _⟩ :: _) _ _; refine wpList_val rfl (opU_mulW rfl rfl rfl x3 HX3.out) ?_; go_frame)
          | (show wpList _ _ _ (⟨some 93, .binOp _ _ _ _ _, _, _, _, _⟩ :: _) _ _; refine wpList_val rfl (opU_subW rfl rfl rfl r1 HR1.out) ?_; go_frame)
          | (show wpList _ _ _ (⟨some 96, .binOp _ _ _ _ _, _, _, _, _⟩ :: _) _ _; refine wpList_val rfl (opU_quo rfl rfl rfl hn1 HR1M.out) ?_; rw [HQZ.out]; go_frame)
          | (show wpList _ _ _ (⟨some 100, .binOp _ _ _ _ _, _, _, _, _⟩ :: _) _ _; refine wpList_val rfl (opU_mulW rfl rfl rfl pz HPZ.out) ?_; go_frame)
          | (show wpList _ _ _ (⟨some 101, .binOp _ _ _ _ _, _, _, _, _⟩ :: _) _ _; refine wpList_val rfl (opU_subW rfl rfl rfl rz HRZ.out) ?_; go_frame)
          )
        go_loop [18, 16] (fun a b => ∃ Q R : Nat, a = U Q ∧ b = U R ∧ Dig r1 v0 n1 n0 Q R ∧ R < 4294967296 ∧ Q < 18446744073709551616) (fun a _ => (intOf a).toNat)
        case atStart => exact ⟨qz, rz, rfl, rfl, hdz, by omega, hqz⟩
        case round =>
          clear hdz hrz hqz
          obtain ⟨Q, R, rfl, rfl, hd, hR, hQ⟩ := hrel
          by_cases g1 : 4294967296 ≤ Q
          · have HG := decT g1
            obtain ⟨Q', R', HQ1, HRN, hd', hQ', hlt⟩ := down_facts hd hr1' hv0 hQ hR hn1B (.inl g1)
            by_cases g3 : 4294967296 ≤ R'
            · have HBK := decT g3
              have hq0 := hd'.brk hn1 hn0B hr1' g3
              obtain ⟨q0, rfl⟩ : ∃ q0, q0 = Q' := ⟨Q', rfl⟩
              rw [← HYS.out] at hq0
              obtain ⟨z1, z2, z3, r0, HZ1, HZ2, HZ3, HR0, HR0M, hr0, hm0⟩ := rem_facts (u := r1) (v := v0) (Y := Y) (q := q0) HR1Y.out HYM.out hq0
              obtain ⟨y1, qq, rr, HY1, HY2, HRR, hfin⟩ := fin_facts HP.out hy0 HQ1E.out HM1.out hq0 hm0.out HR1Y.out
              clear hq0 hr0
              go_wp2_with (first
                | (show wpList _ _ _ (⟨some 103, .binOp _ _ _ _ _, _, _, _, _⟩ :: _) _ _; refine wpList_val rfl (opU_geq rfl rfl (b := 4294967296) rfl HG.out) ?_; go_frame)
                | (show wpList _ _ _ (⟨some 107, .binOp _ _ _ _ _, _, _, _, _⟩ :: _) _ _; refine wpList_val rfl (opU_mulW rfl rfl rfl _ HP0.out) ?_; go_frame)
                | (show wpList _ _ _ (⟨some 109, .binOp _ _ _ _ _, _, _, _, _⟩ :: _) _ _; refine wpList_val rfl (opU_mulW rfl (a := 4294967296) rfl rfl _ HXR.out) ?_; go_frame)
                | (show wpList _ _ _ (⟨some 111, .binOp _ _ _ _ _, _, _, _, _⟩ :: _) _ _; refine wpList_val rfl (opU_addW rfl rfl rfl _ HXV.out) ?_; go_frame)
                | (show wpList _ _ _ (⟨some 112, .binOp _ _ _ _ _, _, _, _, _⟩ :: _) _ _; refine wpList_val rfl (opU_gtr rfl rfl rfl HGT.out) ?_; go_frame)
                | (show wpList _ _ _ (⟨some 115, .binOp _ _ _ _ _, _, _, _, _⟩ :: _) _ _; refine wpList_val rfl (opU_subW rfl rfl (b := 1) rfl _ HQ1.out) ?_; go_frame)
                | (show wpList _ _ _ (⟨some 118, .binOp _ _ _ _ _, _, _, _, _⟩ :: _) _ _; refine wpList_val rfl (opU_addW rfl rfl rfl _ HRN.out) ?_; go_frame)
                | (show wpList _ _ _ (⟨some 120, .binOp _ _ _ _ _, _, _, _, _⟩ :: _) _ _; refine wpList_val rfl (opU_geq rfl rfl (b := 4294967296) rfl HBK.out) ?_; go_frame)
                | (show wpList _ _ _ (⟨some 122, .binOp _ _ _ _ _, _, _, _, _⟩ :: _) _ _; refine wpList_val rfl (opU_mulW rfl rfl (b := 4294967296) rfl y1 HY1.out) ?_; go_frame)
                | (show wpList _ _ _ (⟨some 124, .binOp _ _ _ _ _, _, _, _, _⟩ :: _) _ _; refine wpList_val rfl (opU_addW rfl rfl rfl qq HY2.out) ?_; go_frame)
                | (show wpList _ _ _ (⟨some 126, .binOp _ _ _ _ _, _, _, _, _⟩ :: _) _ _; refine wpList_val rfl (opU_mulW rfl rfl (b := 4294967296) rfl z1 HZ1.out) ?_; go_frame)
                | (show wpList _ _ _ (⟨some 128, .binOp _ _ _ _ _, _, _, _, _⟩ :: _) _ _; refine wpList_val rfl (opU_addW rfl rfl rfl z2 HZ2.out) ?_; go_frame)
                | (show wpList _ _ _ (⟨some 131, .binOp _ _ _ _ _, _, _, _, _⟩ :: _) _ _; refine wpList_val rfl (opU_mulW rfl rfl rfl z3 HZ3.out) ?_; go_frame)
                | (show wpList _ _ _ (⟨some 132, .binOp _ _ _ _ _, _, _, _, _⟩ :: _) _ _; refine wpList_val rfl (opU_subW rfl rfl rfl r0 HR0.out) ?_; go_frame)
                | (show wpList _ _ _ (⟨some 134, .binOp _ _ _ _ _, _, _, _, _⟩ :: _) _ _; refine wpList_val rfl (opU_shrN rfl rfl rfl HR0M.out rr HRR.out) ?_; go_frame)
                )
              go_ret2
              exact ⟨hfin.out, hS⟩
            · have HBK := decF g3
              go_wp2_with (first
                | (show wpList _ _ _ (⟨some 103, .binOp _ _ _ _ _, _, _, _, _⟩ :: _) _ _; refine wpList_val rfl (opU_geq rfl rfl (b := 4294967296) rfl HG.out) ?_; go_frame)
                | (show wpList _ _ _ (⟨some 107, .binOp _ _ _ _ _, _, _, _, _⟩ :: _) _ _; refine wpList_val rfl (opU_mulW rfl rfl rfl _ HP0.out) ?_; go_frame)
                | (show wpList _ _ _ (⟨some 109, .binOp _ _ _ _ _, _, _, _, _⟩ :: _) _ _; refine wpList_val rfl (opU_mulW rfl (a := 4294967296) rfl rfl _ HXR.out) ?_; go_frame)
                | (show wpList _ _ _ (⟨some 111, .binOp _ _ _ _ _, _, _, _, _⟩ :: _) _ _; refine wpList_val rfl (opU_addW rfl rfl rfl _ HXV.out) ?_; go_frame)
                | (show wpList _ _ _ (⟨some 112, .binOp _ _ _ _ _, _, _, _, _⟩ :: _) _ _; refine wpList_val rfl (opU_gtr rfl rfl rfl HGT.out) ?_; go_frame)
                | (show wpList _ _ _ (⟨some 115, .binOp _ _ _ _ _, _, _, _, _⟩ :: _) _ _; refine wpList_val rfl (opU_subW rfl rfl (b := 1) rfl _ HQ1.out) ?_; go_frame)
                | (show wpList _ _ _ (⟨some 118, .binOp _ _ _ _ _, _, _, _, _⟩ :: _) _ _; refine wpList_val rfl (opU_addW rfl rfl rfl _ HRN.out) ?_; go_frame)
                | (show wpList _ _ _ (⟨some 120, .binOp _ _ _ _ _, _, _, _, _⟩ :: _) _ _; refine wpList_val rfl (opU_geq rfl rfl (b := 4294967296) rfl HBK.out) ?_; go_frame)
                )
              go_round
              case rel => exact ⟨Q', R', rfl, rfl, hd', by omega, hQ'⟩
              case measure => simp [U, intOf]; omega
          · have HG := decF g1
            obtain ⟨p0, xr, xv, HP0, HXR, HXV, HPE, HVE⟩ := round_facts hR hv0 (by omega : Q < 4294967296) hn0B
            by_cases g2 : xv < p0
            · have HGT := decT g2
              obtain ⟨Q', R', HQ1, HRN, hd', hQ', hlt⟩ := down_facts hd hr1' hv0 hQ hR hn1B (.inr (by rw [← HPE.out, ← HVE.out]; exact g2))
              by_cases g3 : 4294967296 ≤ R'
              · have HBK := decT g3
                have hq0 := hd'.brk hn1 hn0B hr1' g3
                obtain ⟨q0, rfl⟩ : ∃ q0, q0 = Q' := ⟨Q', rfl⟩
                rw [← HYS.out] at hq0
                obtain ⟨z1, z2, z3, r0, HZ1, HZ2, HZ3, HR0, HR0M, hr0, hm0⟩ := rem_facts (u := r1) (v := v0) (Y := Y) (q := q0) HR1Y.out HYM.out hq0
                obtain ⟨y1, qq, rr, HY1, HY2, HRR, hfin⟩ := fin_facts HP.out hy0 HQ1E.out HM1.out hq0 hm0.out HR1Y.out
                clear hq0 hr0
                go_wp2_with (first
                  | (show wpList _ _ _ (⟨some 103, .binOp _ _ _ _ _, _, _, _, _⟩ :: _) _ _; refine wpList_val rfl (opU_geq rfl rfl (b := 4294967296) rfl HG.out) ?_; go_frame)
                  | (show wpList _ _ _ (⟨some 107, .binOp _ _ _ _ _, _, _, _, _⟩ :: _) _ _; refine wpList_val rfl (opU_mulW rfl rfl rfl _ HP0.out) ?_; go_frame)
                  | (show wpList _ _ _ (⟨some 109, .binOp _ _ _ _ _, _, _, _, _⟩ :: _) _ _; refine wpList_val rfl (opU_mulW rfl (a := 4294967296) rfl rfl _ HXR.out) ?_; go_frame)
                  | (show wpList _ _ _ (⟨some 111, .binOp _ _ _ _ _, _, _, _, _⟩ :: _) _ _; refine wpList_val rfl (opU_addW rfl rfl rfl _ HXV.out) ?_; go_frame)
                  | (show wpList _ _ _ (⟨some 112, .binOp _ _ _ _ _, _, _, _, _⟩ :: _) _ _; refine wpList_val rfl (opU_gtr rfl rfl rfl HGT.out) ?_; go_frame)
                  | (show wpList _ _ _ (⟨some 115, .binOp _ _ _ _ _, _, _, _, _⟩ :: _) _ _; refine wpList_val rfl (opU_subW rfl rfl (b := 1) rfl _ HQ1.out) ?_; go_frame)
                  | (show wpList _ _ _ (⟨some 118, .binOp _ _ _ _ _, _, _, _, _⟩ :: _) _ _; refine wpList_val rfl (opU_addW rfl rfl rfl _ HRN.out) ?_; go_frame)
                  | (show wpList _ _ _ (⟨some 120, .binOp _ _ _ _ _, _, _, _, _⟩ :: _) _ _; refine wpList_val rfl (opU_geq rfl rfl (b := 4294967296) rfl HBK.out) ?_; go_frame)
                  | (show wpList _ _ _ (⟨some 122, .binOp _ _ _ _ _, _, _, _, _⟩ :: _) _ _; refine wpList_val rfl (opU_mulW rfl rfl (b := 4294967296) rfl y1 HY1.out) ?_; go_frame)
                  | (show wpList _ _ _ (⟨some 124, .binOp _ _ _ _ _, _, _, _, _⟩ :: _) _ _; refine wpList_val rfl (opU_addW rfl rfl rfl qq HY2.out) ?_; go_frame)
                  | (show wpList _ _ _ (⟨some 126, .binOp _ _ _ _ _, _, _, _, _⟩ :: _) _ _; refine wpList_val rfl (opU_mulW rfl rfl (b := 4294967296) rfl z1 HZ1.out) ?_; go_frame)
                  | (show wpList _ _ _ (⟨some 128, .binOp _ _ _ _ _, _, _, _, _⟩ :: _) _ _; refine wpList_val rfl (opU_addW rfl rfl rfl z2 HZ2.out) ?_; go_frame)
                  | (show wpList _ _ _ (⟨some 131, .binOp _ _ _ _ _, _, _, _, _⟩ :: _) _ _; refine wpList_val rfl (opU_mulW rfl rfl rfl z3 HZ3.out) ?_; go_frame)
                  | (show wpList _ _ _ (⟨some 132, .binOp _ _ _ _ _, _, _, _, _⟩ :: _) _ _; refine wpList_val rfl (opU_subW rfl rfl rfl r0 HR0.out) ?_; go_frame)
                  | (show wpList _ _ _ (⟨some 134, .binOp _ _ _ _ _, _, _, _, _⟩ :: _) _ _; refine wpList_val rfl (opU_shrN rfl rfl rfl HR0M.out rr HRR.out) ?_; go_frame)
                  )
                go_ret2
                exact ⟨hfin.out, hS⟩
              · have HBK := decF g3
                go_wp2_with (first
                  | (show wpList _ _ _ (⟨some 103, .binOp _ _ _ _ _, _, _, _, _⟩ :: _) _ _; refine wpList_val rfl (opU_geq rfl rfl (b := 4294967296) rfl HG.out) ?_; go_frame)
                  | (show wpList _ _ _ (⟨some 107, .binOp _ _ _ _ _, _, _, _, _⟩ :: _) _ _; refine wpList_val rfl (opU_mulW rfl rfl rfl _ HP0.out) ?_; go_frame)
                  | (show wpList _ _ _ (⟨some 109, .binOp _ _ _ _ _, _, _, _, _⟩ :: _) _ _; refine wpList_val rfl (opU_mulW rfl (a := 4294967296) rfl rfl _ HXR.out) ?_; go_frame)
                  | (show wpList _ _ _ (⟨some 111, .binOp _ _ _ _ _, _, _, _, _⟩ :: _) _ _; refine wpList_val rfl (opU_addW rfl rfl rfl _ HXV.out) ?_; go_frame)
                  | (show wpList _ _ _ (⟨some 112, .binOp _ _ _ _ _, _, _, _, _⟩ :: _) _ _; refine wpList_val rfl (opU_gtr rfl rfl rfl HGT.out) ?_; go_frame)
                  | (show wpList _ _ _ (⟨some 115, .binOp _ _ _ _ _, _, _, _, _⟩ :: _) _ _; refine wpList_val rfl (opU_subW rfl rfl (b := 1) rfl _ HQ1.out) ?_; go_frame)
                  | (show wpList _ _ _ (⟨some 118, .binOp _ _ _ _ _, _, _, _, _⟩ :: _) _ _; refine wpList_val rfl (opU_addW rfl rfl rfl _ HRN.out) ?_; go_frame)
                  | (show wpList _ _ _ (⟨some 120, .binOp _ _ _ _ _, _, _, _, _⟩ :: _) _ _; refine wpList_val rfl (opU_geq rfl rfl (b := 4294967296) rfl HBK.out) ?_; go_frame)
                  )
                go_round
                case rel => exact ⟨Q', R', rfl, rfl, hd', by omega, hQ'⟩
                case measure => simp [U, intOf]; omega
            · have HGT := decF g2
              have hq0 := hd.done hn1 (by rw [← HPE.out, ← HVE.out]; omega)
              obtain ⟨q0, rfl⟩ : ∃ q0, q0 = Q := ⟨Q, rfl⟩
              rw [← HYS.out] at hq0
              obtain ⟨z1, z2, z3, r0, HZ1, HZ2, HZ3, HR0, HR0M, hr0, hm0⟩ := rem_facts (u := r1) (v := v0) (Y := Y) (q := q0) HR1Y.out HYM.out hq0
              obtain ⟨y1, qq, rr, HY1, HY2, HRR, hfin⟩ := fin_facts HP.out hy0 HQ1E.out HM1.out hq0 hm0.out HR1Y.out
              clear hq0 hr0
              go_wp2_with (first
                | (show wpList _ _ _ (⟨some 103, .binOp _ _ _ _ _, _, _, _, _⟩ :: _) _ _; refine wpList_val rfl (opU_geq rfl rfl (b := 4294967296) rfl HG.out) ?_; go_frame)
                | (show wpList _ _ _ (⟨some 107, .binOp _ _ _ _ _, _, _, _, _⟩ :: _) _ _; refine wpList_val rfl (opU_mulW rfl rfl rfl _ HP0.out) ?_; go_frame)
                | (show wpList _ _ _ (⟨some 109, .binOp _ _ _ _ _, _, _, _, _⟩ :: _) _ _; refine wpList_val rfl (opU_mulW rfl (a := 4294967296) rfl rfl _ HXR.out) ?_; go_frame)
                | (show wpList _ _ _ (⟨some 111, .binOp _ _ _ _ _, _, _, _, _⟩ :: _) _ _; refine wpList_val rfl (opU_addW rfl rfl rfl _ HXV.out) ?_; go_frame)
                | (show wpList _ _ _ (⟨some 112, .binOp _ _ _ _ _, _, _, _, _⟩ :: _) _ _; refine wpList_val rfl (opU_gtr rfl rfl rfl HGT.out) ?_; go_frame)
                | (show wpList _ _ _ (⟨some 115, .binOp _ _ _ _ _, _, _, _, _⟩ :: _) _ _; refine wpList_val rfl (opU_subW rfl rfl (b := 1) rfl _ HQ1.out) ?_; go_frame)
                | (show wpList _ _ _ (⟨some 118, .binOp _ _ _ _ _, _, _, _, _⟩ :: _) _ _; refine wpList_val rfl (opU_addW rfl rfl rfl _ HRN.out) ?_; go_frame)
                | (show wpList _ _ _ (⟨some 120, .binOp _ _ _ _ _, _, _, _, _⟩ :: _) _ _; refine wpList_val rfl (opU_geq rfl rfl (b := 4294967296) rfl HBK.out) ?_; go_frame)
                | (show wpList _ _ _ (⟨some 122, .binOp _ _ _ _ _, _, _, _, _⟩ :: _) _ _; refine wpList_val rfl (opU_mulW rfl rfl (b := 4294967296) rfl y1 HY1.out) ?_; go_frame)
                | (show wpList _ _ _ (⟨some 124, .binOp _ _ _ _ _, _, _, _, _⟩ :: _) _ _; refine wpList_val rfl (opU_addW rfl rfl rfl qq HY2.out) ?_; go_frame)
                | (show wpList _ _ _ (⟨some 126, .binOp _ _ _ _ _, _, _, _, _⟩ :: _) _ _; refine wpList_val rfl (opU_mulW rfl rfl (b := 4294967296) rfl z1 HZ1.out) ?_; go_frame)
                | (show wpList _ _ _ (⟨some 128, .binOp _ _ _ _ _, _, _, _, _⟩ :: _) _ _; refine wpList_val rfl (opU_addW rfl rfl rfl z2 HZ2.out) ?_; go_frame)
                | (show wpList _ _ _ (⟨some 131, .binOp _ _ _ _ _, _, _, _, _⟩ :: _) _ _; refine wpList_val rfl (opU_mulW rfl rfl rfl z3 HZ3.out) ?_; go_frame)
                | (show wpList _ _ _ (⟨some 132, .binOp _ _ _ _ _, _, _, _, _⟩ :: _) _ _; refine wpList_val rfl (opU_subW rfl rfl rfl r0 HR0.out) ?_; go_frame)
                | (show wpList _ _ _ (⟨some 134, .binOp _ _ _ _ _, _, _, _, _⟩ :: _) _ _; refine wpList_val rfl (opU_shrN rfl rfl rfl HR0M.out rr HRR.out) ?_; go_frame)
                )
              go_ret2
              exact ⟨hfin.out, hS⟩
theorem div64_s {R : Nat → Prop} {base w : World} {F : List Hp} (hS : SepL R base w F) (hi lo y : Nat) (h : hi < y) (hy : y < 18446744073709551616) (hlo : lo < 18446744073709551616) :
    Calls Tryd.prog 51 #[U hi, U lo, U y] w (Ret fun r w' => r = .tuple #[U ((hi * 18446744073709551616 + lo) / y), U ((hi * 18446744073709551616 + lo) % y)] ∧ SepL R base w' F) := by
  rcases Nat.eq_zero_or_pos hi with h0 | h0
  · subst h0
    have := div64_zero hS lo y h hlo
    rwa [Nat.zero_mul, Nat.zero_add]
  · exact div64_pos hS hi lo y h0 h hy hlo
end Go.Proofs.YtieobcaegegboaaDoor
