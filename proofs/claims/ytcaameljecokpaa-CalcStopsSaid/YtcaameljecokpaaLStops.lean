/- A time never falls, is no less than what is added, and it is one in whatever order spans come: the law returns true. Conditions: those that stand ahead of each theorem. -/
import Derived.Test.YtcaameljecokpaaLAmong
namespace Go.Proofs.Ytcaameljecokpaa
open Go.RowKit Go.Px Go.Shelf Go.Calc
theorem m1 (a : Nat) : [U a].map (fun v => v.cells.toList) = [a].map fun n => [U n] := rfl
theorem m2 (a b : Nat) : [U a, U b].map (fun v => v.cells.toList) = [a, b].map fun n => [U n] := rfl
theorem later_def (t : Nat) (l : List Nat) : laterN t l = min (t + l.sum) 18446744073709551615 := by
  unfold laterN
  rfl
set_option maxRecDepth 100000 in
set_option maxHeartbeats 4000000 in
theorem calcStops_w {W : World} (t : Nat) (ht : t < 18446744073709551616) (d : Nat) (hd : d < 18446744073709551616) (e : Nat) (he : e < 18446744073709551616) :
    Calls Try.prog 10 #[U t, U d, U e] W (Ret fun r w' => r = .bool true ∧ Chg No W w') := by
  have hS := SepL.start W
  have k1 := later_def t [d]
  have k2 := later_def t [d, e]
  have k4 := later_def t [e, d]
  have k5 := later_def t []
  have k6 := later_def 18446744073709551615 [t]
  simp only [List.sum_cons, List.sum_nil, Nat.add_zero] at k1 k2 k4 k5 k6
  obtain ⟨x, hx⟩ : ∃ x, laterN t [d] = x := ⟨_, Eq.refl _⟩
  obtain ⟨y, hy⟩ : ∃ x, laterN t [d, e] = x := ⟨_, Eq.refl _⟩
  have k3 := later_def x [e]
  simp only [List.sum_cons, List.sum_nil, Nat.add_zero] at k3
  rw [hx] at k1
  rw [hy] at k2
  have L1 := hide hx
  have L2 := hide hy
  have L3 : Hid (laterN x [e] = y) := k3.trans (by omega)
  have L4 : Hid (laterN t [e, d] = y) := k4.trans (by omega)
  have L5 : Hid (laterN t [] = t) := k5.trans (by omega)
  have L6 : Hid (laterN 18446744073709551615 [t] = 18446744073709551615) := k6.trans (by omega)
  have H1 := decT (show t ≤ x by omega)
  have H2 := decT (show d ≤ x by omega)
  have H3 := decT (show x ≤ y by omega)
  have H4 := decT (show e ≤ y by omega)
  have hxM : x < 18446744073709551616 := by omega
  clear k1 k2 k3 k4 k5 k6 hx hy
  go_enter Try.func10, Try.ntmps10
  go_wp2_with (first
    | go_big_skip
    | (show wpList _ _ _ (⟨_, .load 22 _, _, _, _, _⟩ :: _) _ _; refine wpList_val rfl (op_load1S oneU ((hS.bring (by repeat (first | exact t0 | apply tS)))) rfl rfl rfl) ?_; go_frame)
    | (go_at_call 11; refine Ret.calls (alive_s hS) ?_; clear hS; rintro r w ⟨rfl, hS⟩)
    | (show wpList _ _ _ (⟨_, .binOp .eql 25 _ _ _, _, _, _, _⟩ :: _) _ _; refine wpList_val rfl (op_eqI rfl rfl rfl rfl) ?_; go_frame)
    | (show wpList _ _ _ (⟨some 13, .buildSlice _ _ _, _, _, _, _⟩ :: _) _ _; refine wpS_buildL slTyU hS rfl rfl [U d] rfl rfl (by omega) (by omega) (by simp [U, Value.cells]) ?_; clear hS; intro v1 w hS; rw [m1] at hS; go_frame)
    | (show wpList _ _ _ (⟨some 18, .buildSlice _ _ _, _, _, _, _⟩ :: _) _ _; refine wpS_buildL slTyU hS rfl rfl [U d, U e] rfl rfl (by omega) (by omega) (by simp [U, Value.cells]) ?_; clear hS; intro v1 w hS; rw [m2] at hS; go_frame)
    | (show wpList _ _ _ (⟨some 42, .buildSlice _ _ _, _, _, _, _⟩ :: _) _ _; refine wpS_buildL slTyU hS rfl rfl [U e] rfl rfl (by omega) (by omega) (by simp [U, Value.cells]) ?_; clear hS; intro v1 w hS; rw [m1] at hS; go_frame)
    | (show wpList _ _ _ (⟨some 51, .buildSlice _ _ _, _, _, _, _⟩ :: _) _ _; refine wpS_buildL slTyU hS rfl rfl [U e, U d] rfl rfl (by omega) (by omega) (by simp [U, Value.cells]) ?_; clear hS; intro v1 w hS; rw [m2] at hS; go_frame)
    | (show wpList _ _ _ (⟨some 63, .buildSlice _ _ _, _, _, _, _⟩ :: _) _ _; refine wpS_buildL slTyU hS rfl rfl [U t] rfl rfl (by omega) (by omega) (by simp [U, Value.cells]) ?_; clear hS; intro v1 w hS; rw [m1] at hS; go_frame)
    | (go_at_call 14; (first
        | (with_reducible refine Ret.calls (later_s [d] hS hS.getOwn.rd ht (all1 hd) L1) ?_)
        | (with_reducible refine Ret.calls (later_s [d, e] hS hS.getOwn.rd ht (all2 hd he) L2) ?_)
        | (with_reducible refine Ret.calls (later_s [e] hS hS.getOwn.rd hxM (all1 he) L3) ?_)
        | (with_reducible refine Ret.calls (later_s [e, d] hS hS.getOwn.rd ht (all2 he hd) L4) ?_)
        | (with_reducible refine Ret.calls (later_s [] hS Rd.nil ht (by simp) L5) ?_)
        | (refine Ret.calls (later_s (t := 18446744073709551615) [t] hS hS.getOwn.rd (by omega) (all1 ht) L6) ?_)); clear hS; rintro r w ⟨rfl, hS⟩)
    | (show wpList _ _ _ (⟨some 22, .binOp _ _ _ _ _, _, _, _, _⟩ :: _) _ _; refine wpList_val rfl (opU_geq rfl rfl rfl H1.out) ?_; go_frame)
    | (show wpList _ _ _ (⟨some 26, .binOp _ _ _ _ _, _, _, _, _⟩ :: _) _ _; refine wpList_val rfl (opU_geq rfl rfl rfl H2.out) ?_; go_frame)
    | (show wpList _ _ _ (⟨some 31, .binOp _ _ _ _ _, _, _, _, _⟩ :: _) _ _; refine wpList_val rfl (opU_geq rfl rfl rfl H3.out) ?_; go_frame)
    | (show wpList _ _ _ (⟨some 36, .binOp _ _ _ _ _, _, _, _, _⟩ :: _) _ _; refine wpList_val rfl (opU_geq rfl rfl rfl H4.out) ?_; go_frame)
    | (show wpList _ _ _ (⟨some 65, .binOp _ _ _ _ _, _, _, _, _⟩ :: _) _ _; refine wpList_val rfl (opU_eql rfl rfl (b := 18446744073709551615) rfl (r := true) (by simp)) ?_; go_frame)
    | (show wpList _ _ _ (⟨_, .binOp .eql 22 _ _ _, _, _, _, _⟩ :: _) _ _; refine wpList_val rfl (opU_eql rfl rfl rfl (r := true) (by simp)) ?_; go_frame)
    )
  go_ret
  exact ⟨rfl, hS.chg⟩
end Go.Proofs.Ytcaameljecokpaa
