/- Turning a word: the library's function and the document's one. Conditions: those that stand ahead of each theorem. -/
import Derived.Test.YtpdanieiafjmhaaDoorT
namespace Go.Proofs.YtpdanieiafjmhaaDoor
open Go.RowKit Go.Px Go.Sha
theorem ror_comm (x : Word) (c : Nat) : x <<< (32 - c) ||| x >>> c = ror x c := BitVec.or_comm _ _
section
variable {R : Nat → Prop} {base w : World} {F : List Hp}
set_option maxHeartbeats 400000 in
theorem rot_17 (x : Word) (w : World) : Calls Tryd.prog 43 #[W32 x, .int .i64 (-17)] w (Ret fun r w' => r = W32 (ror x 17) ∧ w' = w) := by
  go_enter Tryd.func43, Tryd.ntmps43
  go_wp2_with (first
    | (show wpList _ _ _ (⟨_, .binOp .shl _ _ _ _, _, _, _, _⟩ :: _) _ _; refine wpList_val rfl (op_shl32 rfl rfl (c := 15) rfl) ?_; go_frame)
    | (show wpList _ _ _ (⟨_, .binOp .shr _ _ _ _, _, _, _, _⟩ :: _) _ _; refine wpList_val rfl (op_shr32 rfl rfl (c := 17) rfl) ?_; go_frame)
    | (show wpList _ _ _ (⟨_, .binOp .or _ _ _ _, _, _, _, _⟩ :: _) _ _; refine wpList_val rfl (op_bin32 rfl rfl rfl rfl) ?_; go_frame)
    )
  go_ret
  exact ⟨congrArg W32 (ror_comm x 17), rfl⟩
set_option maxHeartbeats 400000 in
theorem rot_19 (x : Word) (w : World) : Calls Tryd.prog 43 #[W32 x, .int .i64 (-19)] w (Ret fun r w' => r = W32 (ror x 19) ∧ w' = w) := by
  go_enter Tryd.func43, Tryd.ntmps43
  go_wp2_with (first
    | (show wpList _ _ _ (⟨_, .binOp .shl _ _ _ _, _, _, _, _⟩ :: _) _ _; refine wpList_val rfl (op_shl32 rfl rfl (c := 13) rfl) ?_; go_frame)
    | (show wpList _ _ _ (⟨_, .binOp .shr _ _ _ _, _, _, _, _⟩ :: _) _ _; refine wpList_val rfl (op_shr32 rfl rfl (c := 19) rfl) ?_; go_frame)
    | (show wpList _ _ _ (⟨_, .binOp .or _ _ _ _, _, _, _, _⟩ :: _) _ _; refine wpList_val rfl (op_bin32 rfl rfl rfl rfl) ?_; go_frame)
    )
  go_ret
  exact ⟨congrArg W32 (ror_comm x 19), rfl⟩
set_option maxHeartbeats 400000 in
theorem rot_7 (x : Word) (w : World) : Calls Tryd.prog 43 #[W32 x, .int .i64 (-7)] w (Ret fun r w' => r = W32 (ror x 7) ∧ w' = w) := by
  go_enter Tryd.func43, Tryd.ntmps43
  go_wp2_with (first
    | (show wpList _ _ _ (⟨_, .binOp .shl _ _ _ _, _, _, _, _⟩ :: _) _ _; refine wpList_val rfl (op_shl32 rfl rfl (c := 25) rfl) ?_; go_frame)
    | (show wpList _ _ _ (⟨_, .binOp .shr _ _ _ _, _, _, _, _⟩ :: _) _ _; refine wpList_val rfl (op_shr32 rfl rfl (c := 7) rfl) ?_; go_frame)
    | (show wpList _ _ _ (⟨_, .binOp .or _ _ _ _, _, _, _, _⟩ :: _) _ _; refine wpList_val rfl (op_bin32 rfl rfl rfl rfl) ?_; go_frame)
    )
  go_ret
  exact ⟨congrArg W32 (ror_comm x 7), rfl⟩
set_option maxHeartbeats 400000 in
theorem rot_18 (x : Word) (w : World) : Calls Tryd.prog 43 #[W32 x, .int .i64 (-18)] w (Ret fun r w' => r = W32 (ror x 18) ∧ w' = w) := by
  go_enter Tryd.func43, Tryd.ntmps43
  go_wp2_with (first
    | (show wpList _ _ _ (⟨_, .binOp .shl _ _ _ _, _, _, _, _⟩ :: _) _ _; refine wpList_val rfl (op_shl32 rfl rfl (c := 14) rfl) ?_; go_frame)
    | (show wpList _ _ _ (⟨_, .binOp .shr _ _ _ _, _, _, _, _⟩ :: _) _ _; refine wpList_val rfl (op_shr32 rfl rfl (c := 18) rfl) ?_; go_frame)
    | (show wpList _ _ _ (⟨_, .binOp .or _ _ _ _, _, _, _, _⟩ :: _) _ _; refine wpList_val rfl (op_bin32 rfl rfl rfl rfl) ?_; go_frame)
    )
  go_ret
  exact ⟨congrArg W32 (ror_comm x 18), rfl⟩
set_option maxHeartbeats 400000 in
theorem rot_6 (x : Word) (w : World) : Calls Tryd.prog 43 #[W32 x, .int .i64 (-6)] w (Ret fun r w' => r = W32 (ror x 6) ∧ w' = w) := by
  go_enter Tryd.func43, Tryd.ntmps43
  go_wp2_with (first
    | (show wpList _ _ _ (⟨_, .binOp .shl _ _ _ _, _, _, _, _⟩ :: _) _ _; refine wpList_val rfl (op_shl32 rfl rfl (c := 26) rfl) ?_; go_frame)
    | (show wpList _ _ _ (⟨_, .binOp .shr _ _ _ _, _, _, _, _⟩ :: _) _ _; refine wpList_val rfl (op_shr32 rfl rfl (c := 6) rfl) ?_; go_frame)
    | (show wpList _ _ _ (⟨_, .binOp .or _ _ _ _, _, _, _, _⟩ :: _) _ _; refine wpList_val rfl (op_bin32 rfl rfl rfl rfl) ?_; go_frame)
    )
  go_ret
  exact ⟨congrArg W32 (ror_comm x 6), rfl⟩
set_option maxHeartbeats 400000 in
theorem rot_11 (x : Word) (w : World) : Calls Tryd.prog 43 #[W32 x, .int .i64 (-11)] w (Ret fun r w' => r = W32 (ror x 11) ∧ w' = w) := by
  go_enter Tryd.func43, Tryd.ntmps43
  go_wp2_with (first
    | (show wpList _ _ _ (⟨_, .binOp .shl _ _ _ _, _, _, _, _⟩ :: _) _ _; refine wpList_val rfl (op_shl32 rfl rfl (c := 21) rfl) ?_; go_frame)
    | (show wpList _ _ _ (⟨_, .binOp .shr _ _ _ _, _, _, _, _⟩ :: _) _ _; refine wpList_val rfl (op_shr32 rfl rfl (c := 11) rfl) ?_; go_frame)
    | (show wpList _ _ _ (⟨_, .binOp .or _ _ _ _, _, _, _, _⟩ :: _) _ _; refine wpList_val rfl (op_bin32 rfl rfl rfl rfl) ?_; go_frame)
    )
  go_ret
  exact ⟨congrArg W32 (ror_comm x 11), rfl⟩
set_option maxHeartbeats 400000 in
theorem rot_25 (x : Word) (w : World) : Calls Tryd.prog 43 #[W32 x, .int .i64 (-25)] w (Ret fun r w' => r = W32 (ror x 25) ∧ w' = w) := by
  go_enter Tryd.func43, Tryd.ntmps43
  go_wp2_with (first
    | (show wpList _ _ _ (⟨_, .binOp .shl _ _ _ _, _, _, _, _⟩ :: _) _ _; refine wpList_val rfl (op_shl32 rfl rfl (c := 7) rfl) ?_; go_frame)
    | (show wpList _ _ _ (⟨_, .binOp .shr _ _ _ _, _, _, _, _⟩ :: _) _ _; refine wpList_val rfl (op_shr32 rfl rfl (c := 25) rfl) ?_; go_frame)
    | (show wpList _ _ _ (⟨_, .binOp .or _ _ _ _, _, _, _, _⟩ :: _) _ _; refine wpList_val rfl (op_bin32 rfl rfl rfl rfl) ?_; go_frame)
    )
  go_ret
  exact ⟨congrArg W32 (ror_comm x 25), rfl⟩
set_option maxHeartbeats 400000 in
theorem rot_2 (x : Word) (w : World) : Calls Tryd.prog 43 #[W32 x, .int .i64 (-2)] w (Ret fun r w' => r = W32 (ror x 2) ∧ w' = w) := by
  go_enter Tryd.func43, Tryd.ntmps43
  go_wp2_with (first
    | (show wpList _ _ _ (⟨_, .binOp .shl _ _ _ _, _, _, _, _⟩ :: _) _ _; refine wpList_val rfl (op_shl32 rfl rfl (c := 30) rfl) ?_; go_frame)
    | (show wpList _ _ _ (⟨_, .binOp .shr _ _ _ _, _, _, _, _⟩ :: _) _ _; refine wpList_val rfl (op_shr32 rfl rfl (c := 2) rfl) ?_; go_frame)
    | (show wpList _ _ _ (⟨_, .binOp .or _ _ _ _, _, _, _, _⟩ :: _) _ _; refine wpList_val rfl (op_bin32 rfl rfl rfl rfl) ?_; go_frame)
    )
  go_ret
  exact ⟨congrArg W32 (ror_comm x 2), rfl⟩
set_option maxHeartbeats 400000 in
theorem rot_13 (x : Word) (w : World) : Calls Tryd.prog 43 #[W32 x, .int .i64 (-13)] w (Ret fun r w' => r = W32 (ror x 13) ∧ w' = w) := by
  go_enter Tryd.func43, Tryd.ntmps43
  go_wp2_with (first
    | (show wpList _ _ _ (⟨_, .binOp .shl _ _ _ _, _, _, _, _⟩ :: _) _ _; refine wpList_val rfl (op_shl32 rfl rfl (c := 19) rfl) ?_; go_frame)
    | (show wpList _ _ _ (⟨_, .binOp .shr _ _ _ _, _, _, _, _⟩ :: _) _ _; refine wpList_val rfl (op_shr32 rfl rfl (c := 13) rfl) ?_; go_frame)
    | (show wpList _ _ _ (⟨_, .binOp .or _ _ _ _, _, _, _, _⟩ :: _) _ _; refine wpList_val rfl (op_bin32 rfl rfl rfl rfl) ?_; go_frame)
    )
  go_ret
  exact ⟨congrArg W32 (ror_comm x 13), rfl⟩
set_option maxHeartbeats 400000 in
theorem rot_22 (x : Word) (w : World) : Calls Tryd.prog 43 #[W32 x, .int .i64 (-22)] w (Ret fun r w' => r = W32 (ror x 22) ∧ w' = w) := by
  go_enter Tryd.func43, Tryd.ntmps43
  go_wp2_with (first
    | (show wpList _ _ _ (⟨_, .binOp .shl _ _ _ _, _, _, _, _⟩ :: _) _ _; refine wpList_val rfl (op_shl32 rfl rfl (c := 10) rfl) ?_; go_frame)
    | (show wpList _ _ _ (⟨_, .binOp .shr _ _ _ _, _, _, _, _⟩ :: _) _ _; refine wpList_val rfl (op_shr32 rfl rfl (c := 22) rfl) ?_; go_frame)
    | (show wpList _ _ _ (⟨_, .binOp .or _ _ _ _, _, _, _, _⟩ :: _) _ _; refine wpList_val rfl (op_bin32 rfl rfl rfl rfl) ?_; go_frame)
    )
  go_ret
  exact ⟨congrArg W32 (ror_comm x 22), rfl⟩
set_option maxHeartbeats 400000 in
theorem turn_s (x : Word) (c : Nat) (h : 1 ≤ c ∧ c ≤ 31) (w : World) : Calls Tryd.prog 46 #[W32 x, .int .u64 c] w (Ret fun r w' => r = W32 (ror x c) ∧ w' = w) := by
  go_enter Tryd.func46, Tryd.ntmps46
  go_wp2_with (first
    | (show wpList _ _ _ (⟨_, .binOp .shl _ _ _ _, _, _, _, _⟩ :: _) _ _; refine wpList_val rfl (op_shl32Z rfl rfl rfl (32 - c) (by omega)) ?_; go_frame)
    | (show wpList _ _ _ (⟨_, .binOp .shr _ _ _ _, _, _, _, _⟩ :: _) _ _; refine wpList_val rfl (op_shr32 rfl rfl (c := c) rfl) ?_; go_frame)
    | (show wpList _ _ _ (⟨_, .binOp .or _ _ _ _, _, _, _, _⟩ :: _) _ _; refine wpList_val rfl (op_bin32 rfl rfl rfl rfl) ?_; go_frame)
    )
  go_ret
  exact ⟨rfl, rfl⟩
end
end Go.Proofs.YtpdanieiafjmhaaDoor
