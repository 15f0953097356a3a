/- The document's examples answer yes. Conditions: those that stand ahead of each theorem. -/
import Derived.Test.YtcaameljecokpaaRFn
namespace Go.Proofs.Ytcaameljecokpaa
open Go.RowKit Go.Px Go.Shelf Go.Calc
section
variable {R : Nat → Prop} {base w : World} {F : List Hp}
theorem later_s {t : Nat} {v : Value} (ls : List Nat) (hS : SepL R base w F) (hv : Rd 1 w v (ls.map fun n => [U n])) (ht : t < 18446744073709551616) (hls : ∀ n ∈ ls, n < 18446744073709551616) {n : Nat} (hn : Hid (laterN t ls = n)) :
    Calls Try.prog 14 #[U t, v] w (Ret fun r w' => r = U n ∧ SepL R base w' F) :=
  Ret.calls (later_any t v ls w hv ht hls) fun _ _ ⟨h1, h2⟩ => ⟨by rw [h1, hn.out], h2 ▸ hS⟩
theorem sum_s {v : Value} (ls : List Nat) (hS : SepL R base w F) (hv : Rd 1 w v (ls.map fun n => [U n])) (hls : ∀ n ∈ ls, n < 18446744073709551616) {n e : Nat} (hn : Hid (sumN ls = n)) (he : Hid (sumE ls = e)) :
    Calls Try.prog 12 #[v] w (Ret fun r w' => r = .tuple #[U n, .int .i64 e] ∧ SepL R base w' F) :=
  Ret.calls (sum_any v ls w hv hls) fun _ _ ⟨h1, h2⟩ => ⟨by rw [h1, hn.out, he.out], h2 ▸ hS⟩
theorem cmp_s {a b c d : Nat} (hS : SepL R base w F) (ha : a < 18446744073709551616) (hb : b < 18446744073709551616) (hc : c < 18446744073709551616) (hd : d < 18446744073709551616) {n : Int} (hn : Hid (cmpN (a * b) (c * d) = n)) :
    Calls Try.prog 20 #[U a, U b, U c, U d] w (Ret fun r w' => r = .int .i64 n ∧ SepL R base w' F) :=
  Ret.calls (cmp_any a b c d ha hb hc hd w) fun _ _ ⟨h1, h2⟩ => ⟨by rw [h1, hn.out], h2 ▸ hS⟩
theorem part_t {x n d : Nat} (hS : SepL R base w F) (hx : x < 18446744073709551616) (hn : n < 18446744073709551616) (hd : d < 18446744073709551616) {q e : Nat} (hq : Hid (partN x n d = q)) (he : Hid (partE x n d = e)) :
    Calls Try.prog 16 #[U x, U n, U d] w (Ret fun r w' => r = .tuple #[U q, .int .i64 e] ∧ SepL R base w' F) := by
  have := part_s x n d hx hn hd hS
  rwa [hq.out, he.out] at this
theorem need_t {x n : Nat} (hS : SepL R base w F) (hx : x < 18446744073709551616) (hn : n < 18446744073709551616) {q e : Nat} (hq : Hid (needN x n = q)) (he : Hid (needE x n = e)) :
    Calls Try.prog 18 #[U x, U n] w (Ret fun r w' => r = .tuple #[U q, .int .i64 e] ∧ SepL R base w' F) := by
  have := need_s x n hx hn hS
  rwa [hq.out, he.out] at this
theorem all2 {a b : Nat} (ha : a < 18446744073709551616) (hb : b < 18446744073709551616) : ∀ n ∈ [a, b], n < 18446744073709551616 := by
  intro n hn
  rcases List.mem_cons.1 hn with h | h
  · rw [h]; exact ha
  · rw [List.mem_singleton.1 h]; exact hb
theorem all1 {a : Nat} (ha : a < 18446744073709551616) : ∀ n ∈ [a], n < 18446744073709551616 := by
  intro n hn
  rw [List.mem_singleton.1 hn]
  exact ha
theorem lst1 : [Value.int .u64 18446744073709551615, Value.int .u64 1].map (fun v => v.cells.toList) = [18446744073709551615, 1].map fun n => [U n] := rfl
theorem lst2 : [Value.int .u64 3, Value.int .u64 2].map (fun v => v.cells.toList) = [3, 2].map fun n => [U n] := rfl
theorem ex1 : Hid (laterN 5 [3, 2] = 10) := by unfold Hid laterN; decide +kernel
theorem ex2 : Hid (sumN [18446744073709551615, 1] = 0) := by unfold Hid sumN; decide +kernel
theorem ex3 : Hid (sumE [18446744073709551615, 1] = 3) := by unfold Hid sumE; decide +kernel
theorem ex4 : Hid (cmpN (3 * 4) (2 * 5) = 1) := by unfold Hid cmpN; decide +kernel
theorem ex5 : Hid (cmpN (3 * 4) (2 * 7) = -1) := by unfold Hid cmpN; decide +kernel
theorem ex6 : Hid (partN 9223372036854775808 6 4 = 13835058055282163712) := by unfold Hid partN; decide +kernel
theorem ex7 : Hid (partE 9223372036854775808 6 4 = 0) := by unfold Hid partE; decide +kernel
theorem ex8 : Hid (needN 251 100 = 26) := by unfold Hid needN; decide +kernel
theorem ex9 : Hid (needE 251 100 = 0) := by unfold Hid needE; decide +kernel
set_option maxRecDepth 100000 in
set_option maxHeartbeats 2000000 in
theorem alive_s (hS : SepL R base w F) : Calls Try.prog 11 #[] w (Ret fun r w' => r = .bool true ∧ SepL R base w' F) := by
  have C1 : ∀ {w : World} {F : List Hp}, SepL R base w F → Calls Try.prog 20 #[.int .u64 3, .int .u64 4, .int .u64 2, .int .u64 5] w (Ret fun r w' => r = .int .i64 1 ∧ SepL R base w' F) := fun hS => cmp_s (a := 3) (b := 4) (c := 2) (d := 5) hS (by omega) (by omega) (by omega) (by omega) ex4
  have C2 : ∀ {w : World} {F : List Hp}, SepL R base w F → Calls Try.prog 20 #[.int .u64 3, .int .u64 4, .int .u64 2, .int .u64 7] w (Ret fun r w' => r = .int .i64 (-1) ∧ SepL R base w' F) := fun hS => cmp_s (a := 3) (b := 4) (c := 2) (d := 7) hS (by omega) (by omega) (by omega) (by omega) ex5
  go_enter Try.func11, Try.ntmps11
  go_wp2_with (first
    | (show wpList _ _ _ (⟨some 8, .buildSlice _ _ _, _, _, _, _⟩ :: _) _ _; refine wpS_buildL slTyU hS rfl rfl [.int .u64 18446744073709551615, .int .u64 1] rfl rfl (by omega) (by omega) (by simp [Value.cells]) ?_; clear hS; intro v1 w hS; rw [lst1] at hS; go_frame)
    | (show wpList _ _ _ (⟨some 20, .buildSlice _ _ _, _, _, _, _⟩ :: _) _ _; refine wpS_buildL slTyU hS rfl rfl [.int .u64 3, .int .u64 2] rfl rfl (by omega) (by omega) (by simp [Value.cells]) ?_; clear hS; intro v2 w hS; rw [lst2] at hS; go_frame)
    | (go_at_call 12; refine Ret.calls (sum_s [18446744073709551615, 1] hS (by exact hS.getOwn.rd) (all2 (by omega) (by omega)) ex2 ex3) ?_; clear hS; rintro r w ⟨rfl, hS⟩)
    | (go_at_call 14; refine Ret.calls (later_s (t := 5) [3, 2] hS (by exact hS.getOwn.rd) (by omega) (all2 (by omega) (by omega)) ex1) ?_; clear hS; rintro r w ⟨rfl, hS⟩)
    | (go_at_call 16; refine Ret.calls (part_t (x := 9223372036854775808) (n := 6) (d := 4) hS (by omega) (by omega) (by omega) ex6 ex7) ?_; clear hS; rintro r w ⟨rfl, hS⟩)
    | (go_at_call 18; refine Ret.calls (need_t (x := 251) (n := 100) hS (by omega) (by omega) ex8 ex9) ?_; clear hS; rintro r w ⟨rfl, hS⟩)
    | (go_at_call 20; (first | (with_reducible refine Ret.calls (C1 hS) ?_) | (with_reducible refine Ret.calls (C2 hS) ?_)); clear hS; rintro r w ⟨rfl, hS⟩)
    | (show wpList _ _ _ (⟨_, .binOp .eql 22 _ _ _, _, _, _, _⟩ :: _) _ _; refine wpList_val rfl (opU_eql rfl rfl rfl (r := true) rfl) ?_; go_frame)
    )
  go_ret
  exact ⟨rfl, hS.tail.tail⟩
end
end Go.Proofs.Ytcaameljecokpaa
