/- One number of the schedule, as the program takes it out of its ring. Conditions: those that stand ahead of each theorem. -/
import Derived.Test.YtpdanieiafjmhaaDoorRot
namespace Go.Proofs.YtpdanieiafjmhaaDoor
open Go.RowKit Go.Px Go.Sha
section
variable {R : Nat → Prop} {base w : World} {F : List Hp}
set_option maxHeartbeats 1000000 in
theorem word_lo {b : Nat} {T : TypeId} {ring : List Word} (hS : SepL R base w (.blk b T (ring.map W32) :: F)) (hl : ring.length = 16) (t : Nat) (ht : t < 16) :
    Calls Tryd.prog 44 #[.pointer (some ⟨b, 0, none⟩), .int .i64 t] w (Ret fun r w' => r = W32 (ring.getD t 0) ∧ SepL R base w' (.blk b T (ring.map W32) :: F)) := by
  have h1 : t < ring.length := by omega
  have e := hide (getD_in h1)
  have HL := hide hl
  clear hl
  go_enter Tryd.func44, Tryd.ntmps44
  go_wp2_with (first
    | (show wpList _ _ _ (⟨_, .binOp .and _ _ _ _, _, _, _, _⟩ :: _) _ _; refine wpList_val rfl (op_iand15 rfl rfl rfl t (by omega) (by omega)) ?_; rw [Nat.mod_eq_of_lt ht]; go_frame)
    | (show wpList _ _ _ (⟨_, .indexAddr 62 _ _, _, _, _, _⟩ :: _) _ _; refine wpList_val rfl (op_indexArr arr16w rfl rfl (k := t) rfl (by omega)) ?_; rw [Nat.zero_add]; go_frame)
    | (show wpList _ _ _ (⟨_, .load 22 _, _, _, _, _⟩ :: _) _ _; refine wpList_val rfl (op_loadF (f := W32) oneU32 ((hS.bring (by repeat (first | exact t0 | apply tS)))) rfl rfl (by omega)) ?_; go_frame)
    )
  go_ret
  exact ⟨congrArg W32 e.out.symm, hS⟩
set_option maxHeartbeats 2000000 in
theorem word_hi {b : Nat} {T : TypeId} {ring : List Word} (hS : SepL R base w (.blk b T (ring.map W32) :: F)) (hl : ring.length = 16) (t : Nat) (ht : 16 ≤ t) (ht2 : t < 64) :
    Calls Tryd.prog 44 #[.pointer (some ⟨b, 0, none⟩), .int .i64 t] w (Ret fun r w' => r = W32 (newW ring t) ∧ SepL R base w' (.blk b T ((ring.set (t % 16) (newW ring t)).map W32) :: F)) := by
  have h0 : t % 16 < ring.length := by omega
  have h2 : (t - 2) % 16 < ring.length := by omega
  have h7 : (t - 7) % 16 < ring.length := by omega
  have h15 : (t - 15) % 16 < ring.length := by omega
  have e : Hid (newW ring t = ring[t % 16] + (sig1 ring[(t - 2) % 16] + ring[(t - 7) % 16] + sig0 ring[(t - 15) % 16])) := by
    unfold Hid newW
    rw [getD_in h0, getD_in h2, getD_in h7, getD_in h15]
  have HL := hide hl
  clear hl
  go_enter Tryd.func44, Tryd.ntmps44
  go_wp2_with (first
    | (refine wp_region_text (by kernel_rfl) (by kernel_rfl) (by repeat (first | exact Clean.body | refine Clean.then ?_ | refine Clean.inBlock ?_)) ?_; replace hS := hS.drew)
    | (refine fin_mk (by kernel_rfl) ?_)
    | (show wpList _ _ _ (⟨_, .binOp .and 3 _ _ _, _, _, _, _⟩ :: _) _ _; refine wpList_val rfl (op_iand15 rfl rfl rfl t (by omega) (by omega)) ?_; go_frame)
    | (show wpList _ _ _ (⟨_, .binOp .and 3 _ _ _, _, _, _, _⟩ :: _) _ _; refine wpList_val rfl (op_iand15 rfl rfl rfl (t - 2) (by omega) (by omega)) ?_; go_frame)
    | (show wpList _ _ _ (⟨_, .binOp .and 3 _ _ _, _, _, _, _⟩ :: _) _ _; refine wpList_val rfl (op_iand15 rfl rfl rfl (t - 7) (by omega) (by omega)) ?_; go_frame)
    | (show wpList _ _ _ (⟨_, .binOp .and 3 _ _ _, _, _, _, _⟩ :: _) _ _; refine wpList_val rfl (op_iand15 rfl rfl rfl (t - 15) (by omega) (by omega)) ?_; go_frame)
    | (show wpList _ _ _ (⟨_, .indexAddr 62 _ _, _, _, _, _⟩ :: _) _ _; refine wpList_val rfl (op_indexArr arr16w rfl rfl rfl (by omega)) ?_; rw [Nat.zero_add]; go_frame)
    | (show wpList _ _ _ (⟨_, .load 22 _, _, _, _, _⟩ :: _) _ _; refine wpList_val rfl (op_loadF (f := W32) oneU32 ((hS.bring (by repeat (first | exact t0 | apply tS)))) rfl rfl (by simpa using by omega)) ?_; go_frame)
    | (show wpList _ _ _ (⟨_, .binOp .shr _ _ _ _, _, _, _, _⟩ :: _) _ _; refine wpList_val rfl (op_shr32 rfl rfl (c := 10) rfl) ?_; go_frame)
    | (show wpList _ _ _ (⟨_, .binOp .shr _ _ _ _, _, _, _, _⟩ :: _) _ _; refine wpList_val rfl (op_shr32 rfl rfl (c := 3) rfl) ?_; go_frame)
    | (show wpList _ _ _ (⟨_, .binOp .xor _ _ _ _, _, _, _, _⟩ :: _) _ _; refine wpList_val rfl (op_bin32 rfl rfl rfl rfl) ?_; go_frame)
    | (show wpList _ _ _ (⟨_, .binOp .add 22 _ _ _, _, _, _, _⟩ :: _) _ _; refine wpList_val rfl (op_bin32 rfl rfl rfl rfl) ?_; go_frame)
    | (show wpList _ _ _ (⟨_, .store 22 _ _, _, _, _, _⟩ :: _) _ _; (refine wpS_storeF (f := W32) sizeU32 (hS.bring (by repeat (first | exact t0 | apply tS))) rfl rfl rfl rfl rfl rfl (by omega) ?_); clear hS; intro w hS; go_frame)
    | (go_at_call 43; (first | (with_reducible refine Ret.calls (rot_17 _ _) ?_) | (with_reducible refine Ret.calls (rot_19 _ _) ?_) | (with_reducible refine Ret.calls (rot_7 _ _) ?_) | (with_reducible refine Ret.calls (rot_18 _ _) ?_)); rintro r w' ⟨rfl, rfl⟩)
    )
  go_ret
  exact ⟨congrArg W32 ((List.getElem_set_self (by simpa using h0)).trans e.out.symm), by rw [e.out]; exact hS⟩
end
end Go.Proofs.YtpdanieiafjmhaaDoor
