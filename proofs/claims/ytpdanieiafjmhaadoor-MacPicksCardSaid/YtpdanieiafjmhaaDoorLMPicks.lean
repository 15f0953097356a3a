/- What is picked is from nought on, below n; of two the lowest bit says which: the law returns true. Conditions: those that stand ahead of each theorem. -/
import Derived.Test.YtpdanieiafjmhaaDoorMAlive
namespace Go.Proofs.YtpdanieiafjmhaaDoor
open Go.RowKit Go.Px Go.Sha
theorem mod2_bit {n : Nat} (x : BitVec n) : x.toNat % 2 = if x.getLsbD 0 then 1 else 0 := by
  unfold BitVec.getLsbD
  rw [Nat.testBit_zero]
  by_cases h : x.toNat % 2 = 1
  · simp [h]
  · simp [h]
    omega
theorem lePart_bit (h : List Byte) : ∀ k, (lePart h (k + 1)).getLsbD 0 = (h.getD 0 0).getLsbD 0
  | 0 => by
    rw [lePart_succ, lePart_zero]
    simp
  | k + 1 => by
    rw [lePart_succ, BitVec.getLsbD_or, lePart_bit h k, BitVec.getLsbD_shiftLeft]
    simp
theorem pick_two (h : List Byte) : pickN h 2 = (h.getD 0 0 &&& 1#8).toNat := by
  have h1 := mod2_bit (lePart h 8)
  rw [lePart_bit h 7, ← mod2_bit, pickN_eq] at h1
  rw [h1, BitVec.toNat_and, show (1#8 : Byte).toNat = 1 from rfl, Nat.and_one_is_mod]
theorem pick_one (h : List Byte) : pickN h 1 = 0 := by
  have := pickN_lt h (n := 1) (by omega)
  omega
set_option maxRecDepth 100000 in
set_option maxHeartbeats 4000000 in
theorem macPicks_w {W : World} (hK : CIn All W 0 (kTab.map W32)) (hF : CIn All W 1 (first.map W32)) (h : List Byte) (hh : h.length = 32) (z : Int) (hz : -9223372036854775808 ≤ z ∧ z ≤ 9223372036854775807) :
    Calls Tryd.prog 14 #[.agg (h.map B8).toArray, .int .i64 z] W (Ret fun r w' => r = .bool true ∧ Chg No W w') := by
  have hS := SepL.start W
  have HL : Hid ((h.map B8).length = 32) := by
    unfold Hid
    rw [List.length_map, hh]
  by_cases hz1 : z < 1
  · have HLT : Hid (decide (z < 1) = true) := by
      unfold Hid
      rw [decide_eq_true_iff]
      exact hz1
    have HP : ∀ {w : World} {F : List Hp}, SepL All W w F → Calls Tryd.prog 39 #[.agg (h.map B8).toArray, .int .i64 z] w (Ret fun r w' => r = .tuple #[.int .i64 0, .int .i64 2] ∧ SepL All W w' F) := fun hs => pickArg_s hs z hz1
    clear hz1 hz
    go_enter Tryd.func14, Tryd.ntmps14
    go_wp2_with (first
      | (go_at_call 33; refine Ret.calls (malive_s hS hK hF) ?_; clear hS; rintro r w ⟨rfl, hS⟩)
      | (show wpList _ _ _ (⟨some 2, .box _ _, _, _, _, _⟩ :: _) _ _; refine wpS_boxA (cs := h.map B8) hS rfl rfl rfl ?_; clear hS; intro n2 w hS; go_frame)
      | (show wpList _ _ _ (⟨_, .load 34 _, _, _, _, _⟩ :: _) _ _; refine wpList_val rfl (op_load agg32b rfl rfl ((hS.bring (by repeat (first | exact t0 | apply tS))).getBlk.cells) HL.out) ?_; go_frame)
      | (show wpList _ _ _ (⟨some 20, .binOp _ _ _ _ _, _, _, _, _⟩ :: _) _ _; refine wpList_val rfl (op_ilss rfl rfl rfl HLT.out) ?_; go_frame)
      | (go_at_call 39; refine Ret.calls (HP hS) ?_; clear hS; rintro r w ⟨rfl, hS⟩)
      )
    go_ret
    exact ⟨rfl, hS.chg⟩
  · obtain ⟨n, rfl⟩ : ∃ n : Nat, z = n := ⟨z.toNat, by omega⟩
    have HLT : Hid (decide ((n : Int) < 1) = false) := by
      unfold Hid
      rw [decide_eq_false_iff_not]
      exact hz1
    have hq := pickN_lt h (n := n) (by omega)
    have HPA : ∀ {w : World} {F : List Hp}, SepL All W w F → Calls Tryd.prog 39 #[.agg (h.map B8).toArray, .int .i64 n] w (Ret fun r w' => r = .tuple #[.int .i64 (pickN h n : Nat), .int .i64 0] ∧ SepL All W w' F) := fun hs => pick_s hs hh n (by omega) (by omega)
    have HP1 : ∀ {w : World} {F : List Hp}, SepL All W w F → Calls Tryd.prog 39 #[.agg (h.map B8).toArray, .int .i64 1] w (Ret fun r w' => r = .tuple #[.int .i64 0, .int .i64 0] ∧ SepL All W w' F) := fun hs => by
      have h2 := pick_s hs hh 1 (by omega) (by omega)
      rw [pick_one] at h2
      exact h2
    obtain ⟨b, hb⟩ : ∃ b, (h.getD 0 0 &&& 1#8).toNat = b := ⟨_, rfl⟩
    have HP2 : ∀ {w : World} {F : List Hp}, SepL All W w F → Calls Tryd.prog 39 #[.agg (h.map B8).toArray, .int .i64 2] w (Ret fun r w' => r = .tuple #[.int .i64 b, .int .i64 0] ∧ SepL All W w' F) := fun hs => by
      have h2 := pick_s hs hh 2 (by omega) (by omega)
      rw [pick_two, hb] at h2
      exact h2
    have HC0 : Hid (h[0]? = some (h.getD 0 0)) := by
      unfold Hid
      rw [List.getD_eq_getElem?_getD, List.getElem?_eq_getElem (show 0 < h.length by omega)]
      rfl
    generalize h.getD 0 0 = c at *
    generalize pickN h n = q at *
    have HBB := hide hb
    have HGE : Hid (decide ((0 : Int) ≤ (q : Int)) = true) := by
      unfold Hid
      rw [decide_eq_true_iff]
      omega
    have HQN : Hid (decide ((q : Int) < (n : Int)) = true) := by
      unfold Hid
      rw [decide_eq_true_iff]
      omega
    clear hb hz1
    go_enter Tryd.func14, Tryd.ntmps14
    go_wp2_with (first
      | (go_at_call 33; refine Ret.calls (malive_s hS hK hF) ?_; clear hS; rintro r w ⟨rfl, hS⟩)
      | (show wpList _ _ _ (⟨some 2, .box _ _, _, _, _, _⟩ :: _) _ _; refine wpS_boxA (cs := h.map B8) hS rfl rfl rfl ?_; clear hS; intro n2 w hS; go_frame)
      | (show wpList _ _ _ (⟨_, .load 34 _, _, _, _, _⟩ :: _) _ _; refine wpList_val rfl (op_load agg32b rfl rfl ((hS.bring (by repeat (first | exact t0 | apply tS))).getBlk.cells) HL.out) ?_; go_frame)
      | (show wpList _ _ _ (⟨some 20, .binOp _ _ _ _ _, _, _, _, _⟩ :: _) _ _; refine wpList_val rfl (op_ilss rfl rfl rfl HLT.out) ?_; go_frame)
      | (go_at_call 39; (first | (with_reducible refine Ret.calls (HPA hS) ?_) | (with_reducible refine Ret.calls (HP1 hS) ?_) | (with_reducible refine Ret.calls (HP2 hS) ?_)); clear hS; rintro r w ⟨rfl, hS⟩)
      | (show wpList _ _ _ (⟨some 41, .binOp _ _ _ _ _, _, _, _, _⟩ :: _) _ _; refine wpList_val rfl (op_igeq rfl rfl rfl HGE.out) ?_; go_frame)
      | (show wpList _ _ _ (⟨some 46, .binOp _ _ _ _ _, _, _, _, _⟩ :: _) _ _; refine wpList_val rfl (op_ilss rfl rfl rfl HQN.out) ?_; go_frame)
      | (show wpList _ _ _ (⟨some 62, .indexAddr _ _ _, _, _, _, _⟩ :: _) _ _; refine wpList_val rfl (op_indexArrZ arr32b rfl rfl rfl 0 rfl (by omega)) ?_; rw [Nat.zero_add]; go_frame)
      | (show wpList _ _ _ (⟨some 63, .load _ _, _, _, _, _⟩ :: _) _ _; refine wpList_val rfl (op_load8 oneU8 ((hS.bring (by repeat (first | exact t0 | apply tS)))) rfl rfl HC0.out) ?_; go_frame)
      | (show wpList _ _ _ (⟨some 64, .binOp _ _ _ _ _, _, _, _, _⟩ :: _) _ _; refine wpList_val rfl (op_bin8 (op := .and) (b := 1#8) rfl rfl rfl rfl) ?_; go_frame)
      | (show wpList _ _ _ (⟨some 65, .convert _ _ _, _, _, _, _⟩ :: _) _ _; refine wpList_val rfl (op_8toInt undU8 undInt rfl rfl) ?_; rw [HBB.out]; go_frame)
      | (show wpList _ _ _ (⟨some 66, .binOp _ _ _ _ _, _, _, _, _⟩ :: _) _ _; refine wpList_val rfl (op_eqI rfl rfl rfl rfl) ?_; go_frame)
      )
    go_ret
    exact ⟨rfl, hS.chg⟩
end Go.Proofs.YtpdanieiafjmhaaDoor
