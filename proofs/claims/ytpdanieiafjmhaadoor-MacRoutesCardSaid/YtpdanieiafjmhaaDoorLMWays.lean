/- A source's way is one of those there are, as often as it is asked: the law returns true. Conditions: those that stand ahead of each theorem. -/
import Derived.Test.YtpdanieiafjmhaaDoorRoute
namespace Go.Proofs.YtpdanieiafjmhaaDoor
open Go.RowKit Go.Px Go.Sha
def wayC (sa : List Byte) (ep : BitVec 64) (so nn : Int) : List Value := sa.map B8 ++ [W64 ep] ++ [.int .i64 so] ++ [.int .i64 nn]
theorem wayHash {w : World} {b : Nat} {sa : List Byte} {ep : BitVec 64} {so nn : Int} (h : Cells w b 0 (wayC sa ep so nn)) (hs : sa.length = 32) : Cells w b 0 (sa.map B8) := by
  have h2 := h.sub 0 32
  have e : ((wayC sa ep so nn).drop 0).take 32 = sa.map B8 := by
    unfold wayC
    rw [List.drop_zero, List.append_assoc, List.append_assoc, List.take_append_of_le_length (by rw [List.length_map]; omega), List.take_of_length_le (by rw [List.length_map]; omega)]
  rw [e] at h2
  exact h2
theorem way32 {sa : List Byte} {ep : BitVec 64} {so nn : Int} (hs : sa.length = 32) : (wayC sa ep so nn)[32]? = some (W64 ep) := by
  unfold wayC
  rw [List.append_assoc, List.append_assoc, List.getElem?_append_right (by rw [List.length_map]; omega), List.length_map, hs]
  rfl
theorem way33 {sa : List Byte} {ep : BitVec 64} {so nn : Int} (hs : sa.length = 32) : (wayC sa ep so nn)[33]? = some (.int .i64 so) := by
  unfold wayC
  rw [List.append_assoc, List.append_assoc, List.getElem?_append_right (by rw [List.length_map]; omega), List.length_map, hs]
  rfl
theorem way34 {sa : List Byte} {ep : BitVec 64} {so nn : Int} (hs : sa.length = 32) : (wayC sa ep so nn)[34]? = some (.int .i64 nn) := by
  unfold wayC
  rw [List.append_assoc, List.append_assoc, List.getElem?_append_right (by rw [List.length_map]; omega), List.length_map, hs]
  rfl
theorem wayC_eq (sa : List Byte) (ep : BitVec 64) (so nn : Int) : sa.map B8 ++ [W64 ep] ++ [.int .i64 so] ++ [.int .i64 nn] = wayC sa ep so nn := rfl
attribute [irreducible] wayC
theorem oneInt : One Tryd.prog 3 := One.of (d := .int .i64) (by kernel_rfl) rfl (by kernel_rfl)
set_option maxRecDepth 100000 in
set_option maxHeartbeats 4000000 in
theorem macWays_w {W : World} (hK : CIn All W 0 (kTab.map W32)) (hF : CIn All W 1 (first.map W32)) (sa : List Byte) (hsa : sa.length = 32) (ep : BitVec 64) (so : Int) (_ : -9223372036854775808 ≤ so ∧ so ≤ 9223372036854775807) (nn : Int) (hnn : -9223372036854775808 ≤ nn ∧ nn ≤ 9223372036854775807) :
    Calls Tryd.prog 16 #[.agg (sa.map B8 ++ [W64 ep] ++ [Value.int .i64 so] ++ [Value.int .i64 nn]).toArray] W (Ret fun r w' => r = .bool true ∧ Chg No W w') := by
  have hS := SepL.start W
  rw [wayC_eq]
  have HSA := hide hsa
  have HSL : Hid ((sa.map B8).length = 32) := by
    unfold Hid
    rw [List.length_map, hsa]
  have HC32 := hide (way32 (ep := ep) (so := so) (nn := nn) hsa)
  have HC33 := hide (way33 (ep := ep) (so := so) (nn := nn) hsa)
  have HC34 := hide (way34 (ep := ep) (so := so) (nn := nn) hsa)
  by_cases hbad : so < 0 ∨ 64 < so ∨ nn < 1
  · have HRA : ∀ {w : World} {F : List Hp}, SepL All W w F → Calls Tryd.prog 40 #[.agg (sa.map B8).toArray, W64 ep, .int .i64 so, .int .i64 nn] w (Ret fun r w' => r = .tuple #[.int .i64 0, .int .i64 2] ∧ SepL All W w' F) := fun hs => routeArg_s hs ep so nn hbad
    obtain ⟨d1, hd1⟩ : ∃ d, decide (so < 0) = d := ⟨_, rfl⟩
    obtain ⟨d2, hd2⟩ : ∃ d, decide (64 < so) = d := ⟨_, rfl⟩
    obtain ⟨d3, hd3⟩ : ∃ d, decide (nn < 1) = d := ⟨_, rfl⟩
    have H1 := hide hd1
    have H2 := hide hd2
    have H3 := hide hd3
    have hor : d1 = true ∨ d2 = true ∨ d3 = true := by
      rw [← hd1, ← hd2, ← hd3]
      simpa using hbad
    clear hd1 hd2 hd3 hbad hnn hsa
    cases d1 <;> cases d2 <;> cases d3 <;> first
      | (simp at hor; done)
      | (clear hor
         go_enter Tryd.func16, Tryd.ntmps16
         go_wp2_with (first
           | (show wpList _ _ _ (⟨some 1, .box _ _, _, _, _, _⟩ :: _) _ _; refine wpS_boxA (cs := wayC sa ep _ _) hS rfl rfl rfl ?_; clear hS; intro n1 w hS; go_frame)
           | (go_at_call 33; refine Ret.calls (malive_s hS hK hF) ?_; clear hS; rintro r w ⟨rfl, hS⟩)
           | (show wpList _ _ _ (⟨_, .load 34 _, _, _, _, _⟩ :: _) _ _; refine wpList_val rfl (op_load agg32b rfl rfl (wayHash ((hS.bring (by repeat (first | exact t0 | apply tS))).getBlk.cells) HSA.out) HSL.out) ?_; go_frame)
           | (show wpList _ _ _ (⟨_, .load 42 _, _, _, _, _⟩ :: _) _ _; refine wpList_val rfl (op_load1S oneU64 ((hS.bring (by repeat (first | exact t0 | apply tS)))) rfl rfl HC32.out) ?_; go_frame)
           | (show wpList _ _ _ (⟨some 17, .load _ _, _, _, _, _⟩ :: _) _ _; refine wpList_val rfl (op_load1S oneInt ((hS.bring (by repeat (first | exact t0 | apply tS)))) rfl rfl HC33.out) ?_; go_frame)
           | (show wpList _ _ _ (⟨some 19, .load _ _, _, _, _, _⟩ :: _) _ _; refine wpList_val rfl (op_load1S oneInt ((hS.bring (by repeat (first | exact t0 | apply tS)))) rfl rfl HC34.out) ?_; go_frame)
           | (show wpList _ _ _ (⟨some 24, .load _ _, _, _, _, _⟩ :: _) _ _; refine wpList_val rfl (op_load1S oneInt ((hS.bring (by repeat (first | exact t0 | apply tS)))) rfl rfl HC33.out) ?_; go_frame)
           | (show wpList _ _ _ (⟨some 28, .load _ _, _, _, _, _⟩ :: _) _ _; refine wpList_val rfl (op_load1S oneInt ((hS.bring (by repeat (first | exact t0 | apply tS)))) rfl rfl HC33.out) ?_; go_frame)
           | (show wpList _ _ _ (⟨some 33, .load _ _, _, _, _, _⟩ :: _) _ _; refine wpList_val rfl (op_load1S oneInt ((hS.bring (by repeat (first | exact t0 | apply tS)))) rfl rfl HC34.out) ?_; go_frame)
           | (show wpList _ _ _ (⟨some 25, .binOp _ _ _ _ _, _, _, _, _⟩ :: _) _ _; refine wpList_val rfl (op_ilss rfl rfl rfl H1.out) ?_; go_frame)
           | (show wpList _ _ _ (⟨some 29, .binOp _ _ _ _ _, _, _, _, _⟩ :: _) _ _; refine wpList_val rfl (op_igtr rfl rfl rfl H2.out) ?_; go_frame)
           | (show wpList _ _ _ (⟨some 34, .binOp _ _ _ _ _, _, _, _, _⟩ :: _) _ _; refine wpList_val rfl (op_ilss rfl rfl rfl H3.out) ?_; go_frame)
           | (go_at_call 40; refine Ret.calls (HRA hS) ?_; clear hS; rintro r w ⟨rfl, hS⟩)
           )
         go_ret
         exact ⟨rfl, hS.chg⟩)
  · obtain ⟨s, rfl⟩ : ∃ s : Nat, so = s := ⟨so.toNat, by omega⟩
    obtain ⟨n, rfl⟩ : ∃ n : Nat, nn = n := ⟨nn.toNat, by omega⟩
    have hs64 : s ≤ 64 := by omega
    have hn1 : 1 ≤ n := by omega
    have H1 : Hid (decide ((s : Int) < 0) = false) := by
      unfold Hid
      rw [decide_eq_false_iff_not]
      omega
    have H2 : Hid (decide ((64 : Int) < (s : Int)) = false) := by
      unfold Hid
      rw [decide_eq_false_iff_not]
      omega
    have H3 : Hid (decide ((n : Int) < 1) = false) := by
      unfold Hid
      rw [decide_eq_false_iff_not]
      omega
    have HRT : ∀ {w : World} {F : List Hp}, SepL All W w F → Calls Tryd.prog 40 #[.agg (sa.map B8).toArray, W64 ep, .int .i64 s, .int .i64 n] w (Ret fun r w' => r = .tuple #[.int .i64 (routeN sa ep s n : Nat), .int .i64 0] ∧ SepL All W w' F) := fun hs => route_s hs hK hF hsa ep s n hs64 hn1 (by omega)
    have h1 := routeN_lt sa ep s (n := 1) (by omega)
    have h10 : routeN sa ep s 1 = 0 := by omega
    have HR1 : ∀ {w : World} {F : List Hp}, SepL All W w F → Calls Tryd.prog 40 #[.agg (sa.map B8).toArray, W64 ep, .int .i64 s, .int .i64 1] w (Ret fun r w' => r = .tuple #[.int .i64 0, .int .i64 0] ∧ SepL All W w' F) := fun hs => by
      have h2 := route_s hs hK hF hsa ep s 1 hs64 (by omega) (by omega)
      rw [h10] at h2
      exact h2
    have hq := routeN_lt sa ep s (n := n) (by omega)
    generalize routeN sa ep s n = q at *
    have HGE : Hid (decide ((0 : Int) ≤ (q : Int)) = true) := by
      unfold Hid
      rw [decide_eq_true_iff]
      omega
    have HQN : Hid (decide ((q : Int) < (n : Int)) = true) := by
      unfold Hid
      rw [decide_eq_true_iff]
      omega
    clear h1 h10 hbad hsa
    go_enter Tryd.func16, Tryd.ntmps16
    go_wp2_with (first
      | (show wpList _ _ _ (⟨some 1, .box _ _, _, _, _, _⟩ :: _) _ _; refine wpS_boxA (cs := wayC sa ep _ _) hS rfl rfl rfl ?_; clear hS; intro n1 w hS; go_frame)
      | (go_at_call 33; refine Ret.calls (malive_s hS hK hF) ?_; clear hS; rintro r w ⟨rfl, hS⟩)
      | (show wpList _ _ _ (⟨_, .load 34 _, _, _, _, _⟩ :: _) _ _; refine wpList_val rfl (op_load agg32b rfl rfl (wayHash ((hS.bring (by repeat (first | exact t0 | apply tS))).getBlk.cells) HSA.out) HSL.out) ?_; go_frame)
      | (show wpList _ _ _ (⟨_, .load 42 _, _, _, _, _⟩ :: _) _ _; refine wpList_val rfl (op_load1S oneU64 ((hS.bring (by repeat (first | exact t0 | apply tS)))) rfl rfl HC32.out) ?_; go_frame)
      | (show wpList _ _ _ (⟨some 17, .load _ _, _, _, _, _⟩ :: _) _ _; refine wpList_val rfl (op_load1S oneInt ((hS.bring (by repeat (first | exact t0 | apply tS)))) rfl rfl HC33.out) ?_; go_frame)
      | (show wpList _ _ _ (⟨some 19, .load _ _, _, _, _, _⟩ :: _) _ _; refine wpList_val rfl (op_load1S oneInt ((hS.bring (by repeat (first | exact t0 | apply tS)))) rfl rfl HC34.out) ?_; go_frame)
      | (show wpList _ _ _ (⟨some 24, .load _ _, _, _, _, _⟩ :: _) _ _; refine wpList_val rfl (op_load1S oneInt ((hS.bring (by repeat (first | exact t0 | apply tS)))) rfl rfl HC33.out) ?_; go_frame)
      | (show wpList _ _ _ (⟨some 28, .load _ _, _, _, _, _⟩ :: _) _ _; refine wpList_val rfl (op_load1S oneInt ((hS.bring (by repeat (first | exact t0 | apply tS)))) rfl rfl HC33.out) ?_; go_frame)
      | (show wpList _ _ _ (⟨some 33, .load _ _, _, _, _, _⟩ :: _) _ _; refine wpList_val rfl (op_load1S oneInt ((hS.bring (by repeat (first | exact t0 | apply tS)))) rfl rfl HC34.out) ?_; go_frame)
      | (show wpList _ _ _ (⟨some 25, .binOp _ _ _ _ _, _, _, _, _⟩ :: _) _ _; refine wpList_val rfl (op_ilss rfl rfl rfl H1.out) ?_; go_frame)
      | (show wpList _ _ _ (⟨some 29, .binOp _ _ _ _ _, _, _, _, _⟩ :: _) _ _; refine wpList_val rfl (op_igtr rfl rfl rfl H2.out) ?_; go_frame)
      | (show wpList _ _ _ (⟨some 34, .binOp _ _ _ _ _, _, _, _, _⟩ :: _) _ _; refine wpList_val rfl (op_ilss rfl rfl rfl H3.out) ?_; go_frame)
      | (show wpList _ _ _ (⟨some 48, .load _ _, _, _, _, _⟩ :: _) _ _; refine wpList_val rfl (op_load1S oneInt ((hS.bring (by repeat (first | exact t0 | apply tS)))) rfl rfl HC33.out) ?_; go_frame)
      | (show wpList _ _ _ (⟨some 50, .load _ _, _, _, _, _⟩ :: _) _ _; refine wpList_val rfl (op_load1S oneInt ((hS.bring (by repeat (first | exact t0 | apply tS)))) rfl rfl HC34.out) ?_; go_frame)
      | (show wpList _ _ _ (⟨some 60, .load _ _, _, _, _, _⟩ :: _) _ _; refine wpList_val rfl (op_load1S oneInt ((hS.bring (by repeat (first | exact t0 | apply tS)))) rfl rfl HC33.out) ?_; go_frame)
      | (show wpList _ _ _ (⟨some 86, .load _ _, _, _, _, _⟩ :: _) _ _; refine wpList_val rfl (op_load1S oneInt ((hS.bring (by repeat (first | exact t0 | apply tS)))) rfl rfl HC34.out) ?_; go_frame)
      | (go_at_call 40; (first | (with_reducible refine Ret.calls (HRT hS) ?_) | (with_reducible refine Ret.calls (HR1 hS) ?_)); clear hS; rintro r w ⟨rfl, hS⟩)
      | (show wpList _ _ _ (⟨some 77, .binOp _ _ _ _ _, _, _, _, _⟩ :: _) _ _; refine wpList_val rfl (op_eqI rfl rfl rfl rfl) ?_; go_frame)
      | (show wpList _ _ _ (⟨some 81, .binOp _ _ _ _ _, _, _, _, _⟩ :: _) _ _; refine wpList_val rfl (op_igeq rfl rfl rfl HGE.out) ?_; go_frame)
      | (show wpList _ _ _ (⟨some 87, .binOp _ _ _ _ _, _, _, _, _⟩ :: _) _ _; refine wpList_val rfl (op_ilss rfl rfl rfl HQN.out) ?_; go_frame)
      )
    go_ret
    exact ⟨rfl, hS.chg⟩
end Go.Proofs.YtpdanieiafjmhaaDoor
