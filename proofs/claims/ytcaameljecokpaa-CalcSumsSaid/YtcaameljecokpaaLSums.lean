/- Of any numbers the sum is the document's, and so is the time: the law returns true. Conditions: those that stand ahead of each theorem. -/
import Derived.Test.YtcaameljecokpaaAlive
namespace Go.Proofs.Ytcaameljecokpaa
open Go.RowKit Go.Px Go.Shelf Go.Calc
theorem rsum_s {R : Nat → Prop} {base w : World} {F : List Hp} {v : Value} (ls : List Nat) (hS : SepL R base w F) (hv : Rd 1 w v (ls.map fun n => [U n])) (hls : ∀ n ∈ ls, n < 18446744073709551616) {n e : Nat} (hn : Hid (sumN ls = n)) (he : Hid (sumE ls = e)) :
    Calls Try.prog 13 #[v] w (Ret fun r w' => r = .tuple #[U n, .int .i64 e] ∧ SepL R base w' F) :=
  Ret.calls (rsum_any v ls w hv hls) fun _ _ ⟨h1, h2⟩ => ⟨by rw [h1, hn.out, he.out], h2 ▸ hS⟩
theorem rlater_s {R : Nat → Prop} {base w : World} {F : List Hp} {t : Nat} {v : Value} (ls : List Nat) (hS : SepL R base w F) (hv : Rd 1 w v (ls.map fun n => [U n])) (ht : t < 18446744073709551616) (hls : ∀ n ∈ ls, n < 18446744073709551616) {n : Nat} (hn : Hid (laterN t ls = n)) :
    Calls Try.prog 15 #[U t, v] w (Ret fun r w' => r = U n ∧ SepL R base w' F) :=
  Ret.calls (rlater_any t v ls w hv ht hls) fun _ _ ⟨h1, h2⟩ => ⟨by rw [h1, hn.out], h2 ▸ hS⟩
set_option maxRecDepth 100000 in
set_option maxHeartbeats 2000000 in
theorem calcSums_w {W : World} (t : Nat) (ht : t < 18446744073709551616) (v : Value) (ls : List Nat) (hv : RdIn All W 1 v (ls.map fun n => [U n])) (hls : ∀ n ∈ ls, n < 18446744073709551616) :
    Calls Try.prog 3 #[U t, v] W (Ret fun r w' => r = .bool true ∧ Chg No W w') := by
  have hS := SepL.start W
  have HL : Hid ((ls.map fun n => [U n]).length = ls.length) := by simp [Hid]
  have HLS := hide hls
  clear hls
  by_cases hn : (10000 : Int) < ls.length
  · have HG := decT hn
    clear hn
    go_enter Try.func3, Try.ntmps3
    go_wp2_with (first
      | go_big_skip
      | (show wpList _ _ _ (⟨_, .load 22 _, _, _, _, _⟩ :: _) _ _; refine wpList_val rfl (op_load1S oneU ((hS.bring (by repeat (first | exact t0 | apply tS)))) rfl rfl rfl) ?_; go_frame)
      | (go_at_call 11; refine Ret.calls (alive_s hS) ?_; clear hS; rintro r w ⟨rfl, hS⟩)
      | (show wpList _ _ _ (⟨_, .binOp .eql 25 _ _ _, _, _, _, _⟩ :: _) _ _; refine wpList_val rfl (op_eqI rfl rfl rfl rfl) ?_; go_frame)
      | (show wpList _ _ _ (⟨_, .call ⟨.builtin .len, _, _⟩, _, _, _, _⟩ :: _) _ _; refine wpList_val rfl (op_len slTyU rfl rfl rfl (by exact hS.rd hv)) ?_; rw [HL.out]; go_frame)
      | (show wpList _ _ _ (⟨some 13, .binOp _ _ _ _ _, _, _, _, _⟩ :: _) _ _; refine wpList_val rfl (op_igtr rfl rfl rfl HG.out) ?_; go_frame)
      )
    go_ret
    exact ⟨rfl, hS.chg⟩
  · have HG := decF hn
    clear hn
    obtain ⟨a, ha⟩ : ∃ a, Hid (sumN ls = a) := ⟨_, Eq.refl _⟩
    obtain ⟨e, he⟩ : ∃ a, Hid (sumE ls = a) := ⟨_, Eq.refl _⟩
    obtain ⟨l, hl⟩ : ∃ a, Hid (laterN t ls = a) := ⟨_, Eq.refl _⟩
    go_enter Try.func3, Try.ntmps3
    go_wp2_with (first
      | go_big_skip
      | (show wpList _ _ _ (⟨_, .load 22 _, _, _, _, _⟩ :: _) _ _; refine wpList_val rfl (op_load1S oneU ((hS.bring (by repeat (first | exact t0 | apply tS)))) rfl rfl rfl) ?_; go_frame)
      | (go_at_call 11; refine Ret.calls (alive_s hS) ?_; clear hS; rintro r w ⟨rfl, hS⟩)
      | (show wpList _ _ _ (⟨_, .binOp .eql 25 _ _ _, _, _, _, _⟩ :: _) _ _; refine wpList_val rfl (op_eqI rfl rfl rfl rfl) ?_; go_frame)
      | (show wpList _ _ _ (⟨_, .call ⟨.builtin .len, _, _⟩, _, _, _, _⟩ :: _) _ _; refine wpList_val rfl (op_len slTyU rfl rfl rfl (by exact hS.rd hv)) ?_; rw [HL.out]; go_frame)
      | (show wpList _ _ _ (⟨some 13, .binOp _ _ _ _ _, _, _, _, _⟩ :: _) _ _; refine wpList_val rfl (op_igtr rfl rfl rfl HG.out) ?_; go_frame)
      | (go_at_call 12; refine Ret.calls (sum_s ls hS (hS.rd hv) HLS.out ha he) ?_; clear hS; rintro r w ⟨rfl, hS⟩)
      | (go_at_call 13; refine Ret.calls (rsum_s ls hS (hS.rd hv) HLS.out ha he) ?_; clear hS; rintro r w ⟨rfl, hS⟩)
      | (go_at_call 14; refine Ret.calls (later_s ls hS (hS.rd hv) ht HLS.out hl) ?_; clear hS; rintro r w ⟨rfl, hS⟩)
      | (go_at_call 15; refine Ret.calls (rlater_s ls hS (hS.rd hv) ht HLS.out hl) ?_; clear hS; rintro r w ⟨rfl, hS⟩)
      | (show wpList _ _ _ (⟨_, .binOp .eql 22 _ _ _, _, _, _, _⟩ :: _) _ _; refine wpList_val rfl (opU_eql rfl rfl rfl (r := true) (by simp)) ?_; go_frame)
      )
    go_ret
    exact ⟨rfl, hS.chg⟩
end Go.Proofs.Ytcaameljecokpaa
