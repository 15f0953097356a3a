/- Plain arithmetic: dividing two words by one in two steps of half a word each, multiplying and dividing bit by bit. Conditions: those that stand ahead of each theorem. -/
import Derived.Lib.Mul64
namespace Go.Calc

/-! ### one step of long division by half words -/
section
variable {u v n1 n0 y q : Nat}
/-- what the loop keeps: Q is no less than the true digit, R is what is left -/
structure Dig (u v n1 n0 Q R : Nat) : Prop where
  sum : Q * n1 + R = u
  ge : (u * 4294967296 + v) / (n1 * 4294967296 + n0) ≤ Q
theorem mul_y (Q n1 n0 : Nat) : Q * (n1 * 4294967296 + n0) = Q * n1 * 4294967296 + Q * n0 := by rw [Nat.mul_add, Nat.mul_assoc]
theorem Dig.start (h1 : 0 < n1) (hv : v < 4294967296) : Dig u v n1 n0 (u / n1) (u - u / n1 * n1) := by
  have hle : u / n1 * n1 ≤ u := Nat.div_mul_le_self u n1
  refine ⟨by omega, ?_⟩
  rw [Nat.le_div_iff_mul_le h1]
  have h2 := Nat.div_mul_le_self (u * 4294967296 + v) (n1 * 4294967296 + n0)
  rw [mul_y] at h2
  generalize (u * 4294967296 + v) / (n1 * 4294967296 + n0) = q at *
  generalize q * n1 = p at *
  generalize q * n0 = p0 at *
  omega
theorem div_lt {N Y Q : Nat} (hQ : N < Q * Y) : N / Y < Q := Nat.div_lt_of_lt_mul (by rw [Nat.mul_comm]; exact hQ)
/-- the digit is less than 2^32 -/
theorem Dig.small (hu : u < n1 * 4294967296 + n0) (hv : v < 4294967296) : (u * 4294967296 + v) / (n1 * 4294967296 + n0) < 4294967296 := by
  apply Nat.div_lt_of_lt_mul
  omega
theorem Dig.down {Q R : Nat} (h : Dig u v n1 n0 Q R) (hu : u < n1 * 4294967296 + n0) (hv : v < 4294967296) (ht : 4294967296 ≤ Q ∨ 4294967296 * R + v < Q * n0) : 1 ≤ Q ∧ Dig u v n1 n0 (Q - 1) (R + n1) := by
  suffices hs : 1 ≤ Q ∧ (Q - 1) * n1 + (R + n1) = u ∧ (u * 4294967296 + v) / (n1 * 4294967296 + n0) ≤ Q - 1 from ⟨hs.1, hs.2.1, hs.2.2⟩
  have hlt : (u * 4294967296 + v) / (n1 * 4294967296 + n0) < Q := by
    rcases ht with ht | ht
    · exact Nat.lt_of_lt_of_le (Dig.small hu hv) ht
    · apply div_lt
      rw [mul_y]
      have := h.sum
      generalize Q * n1 = p at *
      generalize Q * n0 = p0 at *
      omega
  generalize (u * 4294967296 + v) / (n1 * 4294967296 + n0) = q at *
  refine ⟨by omega, ?_, by omega⟩
  obtain ⟨Q', rfl⟩ : ∃ Q', Q = Q' + 1 := ⟨Q - 1, by omega⟩
  have := h.sum
  rw [Nat.add_mul, Nat.one_mul] at this
  simp only [Nat.add_sub_cancel]
  omega
theorem Dig.done {Q R : Nat} (h : Dig u v n1 n0 Q R) (hy : 0 < n1) (h0 : Q * n0 ≤ 4294967296 * R + v) : (u * 4294967296 + v) / (n1 * 4294967296 + n0) = Q := by
  refine Nat.le_antisymm h.ge ?_
  rw [Nat.le_div_iff_mul_le (by omega), mul_y]
  have := h.sum
  generalize Q * n1 = p at *
  generalize Q * n0 = p0 at *
  omega
theorem Dig.brk {Q R : Nat} (h : Dig u v n1 n0 Q R) (hy : 0 < n1) (h0 : n0 < 4294967296) (hu : u < n1 * 4294967296 + n0) (hR : 4294967296 ≤ R) : (u * 4294967296 + v) / (n1 * 4294967296 + n0) = Q := by
  refine h.done hy ?_
  have hQ : Q < 4294967296 := by
    rcases Nat.lt_or_ge Q 4294967296 with hh | hh
    · exact hh
    · have := h.sum
      have h2 := Nat.mul_le_mul_right n1 hh
      omega
  have h3 : Q * n0 ≤ 4294967295 * 4294967295 := Nat.mul_le_mul (by omega) (by omega)
  omega
end
theorem rem_word {u v y q : Nat} (hq : (u * 4294967296 + v) / y = q) : q * y ≤ u * 4294967296 + v ∧ u * 4294967296 + v - q * y = (u * 4294967296 + v) % y := by
  subst hq
  have h1 := Nat.div_add_mod (u * 4294967296 + v) y
  rw [Nat.mul_comm] at h1
  constructor <;> omega

/-! ### the whole division -/
/-- hi * 2^s + lo / 2^(64-s), and lo * 2^s, are the shifted number's two words -/
theorem shift_words {hi lo s : Nat} (hs : s ≤ 63) (hlo : lo < 18446744073709551616) :
    (hi * 18446744073709551616 + lo) * 2 ^ s = (hi * 2 ^ s + lo / 2 ^ (64 - s)) * 18446744073709551616 + lo * 2 ^ s % 18446744073709551616 := by
  have e : (18446744073709551616 : Nat) = 2 ^ (64 - s) * 2 ^ s := by
    rw [← Nat.pow_add, show 64 - s + s = 64 by omega]
  have h1 : lo * 2 ^ s % 18446744073709551616 = lo % 2 ^ (64 - s) * 2 ^ s := by
    rw [e, Nat.mul_mod_mul_right]
  have h2 := Nat.div_add_mod lo (2 ^ (64 - s))
  rw [h1]
  generalize 2 ^ s = p at *
  generalize 2 ^ (64 - s) = r at *
  rw [e]
  generalize lo / r = d at *
  generalize lo % r = m at *
  subst h2
  simp only [Nat.add_mul]
  have e1 : hi * (r * p) * p = hi * p * (r * p) := Nat.mul_right_comm _ _ _
  have e2 : r * d * p = d * (r * p) := by rw [Nat.mul_comm r d, Nat.mul_assoc]
  rw [e1, e2]
  omega
/-- dividing the shifted number by the shifted divisor, half a word at a time -/
theorem div_steps {N y s U v1 v0 q1 r1 q0 : Nat} (hy : 0 < y) (hN : N * 2 ^ s = U * 18446744073709551616 + v1 * 4294967296 + v0)
    (h1 : (U * 4294967296 + v1) / (y * 2 ^ s) = q1) (hr1 : (U * 4294967296 + v1) % (y * 2 ^ s) = r1) (h0 : (r1 * 4294967296 + v0) / (y * 2 ^ s) = q0) :
    q1 * 4294967296 + q0 = N / y ∧ (r1 * 4294967296 + v0) % (y * 2 ^ s) / 2 ^ s = N % y := by
  have hp : 0 < 2 ^ s := Nat.two_pow_pos s
  have hY : 0 < y * 2 ^ s := Nat.mul_pos hy hp
  have e : N * 2 ^ s = (r1 * 4294967296 + v0) + y * 2 ^ s * (q1 * 4294967296) := by
    have := Nat.div_add_mod (U * 4294967296 + v1) (y * 2 ^ s)
    rw [h1, hr1] at this
    rw [hN, ← Nat.mul_assoc]
    generalize y * 2 ^ s * q1 = p at *
    omega
  have hdiv : N * 2 ^ s / (y * 2 ^ s) = N / y := Nat.mul_div_mul_right _ _ hp
  have hmod : N * 2 ^ s % (y * 2 ^ s) = N % y * 2 ^ s := Nat.mul_mod_mul_right _ _ _
  constructor
  · rw [← hdiv, e, Nat.add_mul_div_left _ _ hY, h0]
    omega
  · rw [e, Nat.add_mul_mod_self_left] at hmod
    rw [hmod, Nat.mul_div_cancel _ hp]
end Go.Calc
