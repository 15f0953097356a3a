/- Plain facts on padded bytes, their blocks, and words as bytes; the document's first state. Conditions: those that stand ahead of each theorem. -/
import Derived.Test.YtpdanieiafjmhaaDoorCheck
import Derived.Test.YtpdanieiafjmhaaDoorInts2
namespace Go.Proofs.YtpdanieiafjmhaaDoor
open Go.RowKit Go.Px Go.Sha
theorem bytes_app (a b : List Byte) : bytes (a ++ b) = bytes a ++ bytes b := by simp [bytes]
theorem flat_bytes (l : List Byte) : Flat (bytes l) := by
  intro x hx v hv
  simp only [bytes, List.map_map, List.mem_map] at hx
  obtain ⟨b, _, rfl⟩ := hx
  simp only [Function.comp, List.mem_cons, List.not_mem_nil, or_false] at hv
  subst hv
  rfl
theorem RdIn.takeV {R : Nat → Prop} {base : World} {v : Value} {bs : List Byte} (h : RdIn R base 1 v (bytes bs)) {k : Nat} (hk : k ≤ bs.length) : RdIn R base 1 (cutV 1 v 0 k) (bytes (bs.take k)) := by
  have := h.cutV (l := 0) (h := k) (Nat.zero_le _) (by rw [bytes_len]; exact hk)
  simpa [bytes, List.map_take] using this
/-- so far padded -/
def padTo (m : List Byte) (j : Nat) : List Byte := m ++ 0x80#8 :: List.replicate j 0
theorem padTo_zero (m : List Byte) : m ++ [0x80#8] = padTo m 0 := rfl
theorem padTo_succ (m : List Byte) (j : Nat) : padTo m j ++ [0x00#8] = padTo m (j + 1) := by
  unfold padTo
  rw [List.append_assoc, List.cons_append, List.replicate_succ']
  rfl
theorem padTo_len (m : List Byte) (j : Nat) : (padTo m j).length = m.length + 1 + j := by
  simp [padTo]
  omega
theorem padTo_all (m : List Byte) : padTo m (lack (m.length + 1)) ++ be8 (bitsOf m.length) = padded m := by
  unfold padTo padded padding
  simp
attribute [irreducible] padTo
theorem padded_len2 (m : List Byte) : (padded m).length = m.length + 1 + lack (m.length + 1) + 8 := by
  rw [← padTo_all, List.length_append, padTo_len, be8_length]
theorem be8_small {n : Nat} (h : n ≤ 4000) : be8 (bitsOf n) = [0#8, 0#8, 0#8, 0#8, 0#8, BitVec.ofNat 8 (8 * n / 2 ^ 16), BitVec.ofNat 8 (8 * n / 2 ^ 8), BitVec.ofNat 8 (8 * n)] := by
  have e : ∀ c : Nat, (bitsOf n >>> c).setWidth 8 = BitVec.ofNat 8 (8 * n / 2 ^ c) := fun c => by
    apply BitVec.eq_of_toNat_eq
    unfold bitsOf
    rw [BitVec.toNat_setWidth, BitVec.toNat_ushiftRight, BitVec.toNat_shiftLeft, BitVec.toNat_ofNat, BitVec.toNat_ofNat, Nat.shiftRight_eq_div_pow, Nat.shiftLeft_eq]
    have e1 : n % 2 ^ 64 = n := Nat.mod_eq_of_lt (by omega)
    have e2 : n * 2 ^ 3 % 2 ^ 64 = 8 * n := by omega
    rw [e1, e2]
  have z2 : ∀ c : Nat, 24 ≤ c → BitVec.ofNat 8 (8 * n / 2 ^ c) = 0#8 := fun c hc => by
    have : 8 * n / 2 ^ c = 0 := by
      apply Nat.div_eq_of_lt
      have : 2 ^ 24 ≤ 2 ^ c := Nat.pow_le_pow_right (by omega) hc
      omega
    rw [this]
  unfold be8
  rw [show List.range 8 = [0, 1, 2, 3, 4, 5, 6, 7] from rfl]
  simp only [List.map_cons, List.map_nil, e]
  rw [z2 (56 - 8 * 0) (by omega), z2 (56 - 8 * 1) (by omega), z2 (56 - 8 * 2) (by omega), z2 (56 - 8 * 3) (by omega), z2 (56 - 8 * 4) (by omega)]
  simp
/-- four bytes of a word make the word -/
theorem word_be (x : Word) : ((x >>> 24).setWidth 8).setWidth 32 <<< 24 ||| ((x >>> 16).setWidth 8).setWidth 32 <<< 16 ||| ((x >>> 8).setWidth 8).setWidth 32 <<< 8 ||| (x.setWidth 8).setWidth 32 = x := by
  apply BitVec.eq_of_getLsbD_eq
  intro i hi
  simp only [BitVec.getLsbD_or, BitVec.getLsbD_shiftLeft, BitVec.getLsbD_setWidth, BitVec.getLsbD_ushiftRight, hi, decide_true, Bool.true_and]
  by_cases h1 : i < 8
  · simp [h1, show i < 16 by omega, show i < 24 by omega]
  · by_cases h2 : i < 16
    · simp [h1, h2, show i < 24 by omega, show i - 8 < 8 by omega, show i - 8 < 32 by omega, show 8 + (i - 8) = i by omega]
    · by_cases h3 : i < 24
      · simp [h1, h2, h3, show ¬ i - 8 < 8 by omega, show i - 16 < 8 by omega, show i - 16 < 32 by omega, show 16 + (i - 16) = i by omega]
      · simp [h1, h2, h3, show ¬ i - 8 < 8 by omega, show ¬ i - 16 < 8 by omega, show i - 24 < 8 by omega, show i - 24 < 32 by omega, show 24 + (i - 24) = i by omega]
theorem word_be2 (x : Word) : ((x >>> (24 - 8 * 0)).setWidth 8).setWidth 32 <<< 24 ||| ((x >>> (24 - 8 * 1)).setWidth 8).setWidth 32 <<< 16 ||| ((x >>> (24 - 8 * 2)).setWidth 8).setWidth 32 <<< 8 ||| ((x >>> (24 - 8 * 3)).setWidth 8).setWidth 32 = x := by
  have h : x >>> (24 - 8 * 3) = x := by
    apply BitVec.eq_of_toNat_eq
    simp
  rw [h]
  exact word_be x
theorem digest_getD (s : St) {j : Nat} (h : j < 32) : (digest s).getD j 0 = dgAt s j := by
  rw [← dg_all, List.getD_eq_getElem?_getD, List.getElem?_map, List.getElem?_range h]
  rfl
theorem digest_word (s : St) {k : Nat} (hk : k < s.list.length) : ((digest s).getD (4 * k) 0).setWidth 32 <<< 24 ||| ((digest s).getD (4 * k + 1) 0).setWidth 32 <<< 16 ||| ((digest s).getD (4 * k + 2) 0).setWidth 32 <<< 8 ||| ((digest s).getD (4 * k + 3) 0).setWidth 32 = s.list[k] := by
  have h8 : k < 8 := by rwa [st_list_len] at hk
  rw [digest_getD s (by omega), digest_getD s (by omega), digest_getD s (by omega), digest_getD s (by omega), dgAt_at s (m := 1) (by omega) hk, dgAt_at s (m := 2) (by omega) hk, dgAt_at s (m := 3) (by omega) hk]
  have e0 := dgAt_at s (m := 0) (k := k) (by omega) hk
  rw [Nat.add_zero] at e0
  rw [e0]
  exact word_be2 s.list[k]
theorem blocks_zero (s : St) (b : List Byte) : blocks s b 0 = s := rfl
theorem blocks_succ (s : St) (b : List Byte) (k : Nat) : compress (blocks s b k) ((b.drop (64 * k)).take 64) = blocks s b (k + 1) := rfl
theorem cut_rd {w : World} {v : Value} {l ch : List Byte} (h : Rd 1 w v (bytes l)) {a b : Nat} (h1 : a ≤ b) (h2 : b ≤ l.length) (hc : (l.drop a).take (b - a) = ch) : Rd 1 w (cutV 1 v a b) ((ch.map B8).map fun u => [u]) := by
  have := Rd.cutV h (l := a) (h := b) h1 (by rw [bytes_len]; exact h2)
  subst hc
  simpa [bytes, List.map_drop, List.map_take] using this
theorem copied64 {C xs : List Value} {k : Nat} (hx : xs.length = 64) (hC : C.length = 64) (hk : k = min xs.length 64) : C.take 0 ++ xs.take k ++ C.drop (0 + k) = xs := by
  have : k = 64 := by omega
  subst this
  rw [List.take_zero, List.nil_append, List.take_of_length_le (l := xs) (by omega), List.drop_eq_nil_of_le (by omega), List.append_nil]
section
variable {R : Nat → Prop} {base w : World} {F : List Hp}
theorem build_first (w : World) : (Instr.build 23 ((first.map W32).zipIdx.map fun x => (x.2, x.1)).toArray).run Tryd.prog w = .ok (.agg (first.map W32).toArray) w := by kernel_rfl
set_option maxRecDepth 100000 in
theorem rfirst_s (hS : SepL R base w F) : Calls Tryd.prog 24 #[] w (Ret fun r w' => r = ST firstSt ∧ SepL R base w' F) := by
  go_enter Tryd.func24, Tryd.ntmps24
  go_wp2_with (first
    | (show wpList _ _ _ (⟨_, .alloc 23, _, _, _, _⟩ :: _) _ _; refine wpS_alloc hS rfl rfl zero8w (zs := (List.replicate 8 (0 : Word)).map W32) rfl ?_; clear hS; intro nr w hS; go_frame)
    | (show wpList _ _ _ (⟨_, .build _ _, _, _, _, _⟩ :: _) _ _; refine wpList_val rfl (op_build (ps := ((first.map W32).zipIdx.map fun x => (x.2, x.1)).toArray) rfl rfl build_first _) ?_; go_frame)
    | (show wpList _ _ _ (⟨_, .store 23 _ _, _, _, _, _⟩ :: _) _ _; (refine wpS_storeAll agg8w (hS.bring (by repeat (first | exact t0 | apply tS))) rfl rfl rfl (vs := firstSt.list.map W32) rfl rfl (oneW _) rfl ?_); clear hS; intro w hS; go_frame)
    )
  exact ret_cell (b := nr) agg8w rfl rfl rfl ((hS.bring (by repeat (first | exact t0 | apply tS))).getBlk) rfl ⟨rfl, hS.sel (by repeat (first | exact Sel.refl | refine Sel.take (by repeat (first | exact t0 | apply tS)) ?_ | apply Sel.drop))⟩
end
end Go.Proofs.YtpdanieiafjmhaaDoor
