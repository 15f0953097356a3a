/- What the functions of calc return, told by sums, products and quotients of natural numbers. Conditions: those that stand ahead of each theorem. -/
import Derived.Test.YtcaameljecokpaaDiv
namespace Go.Proofs.Ytcaameljecokpaa
open Go.RowKit Go.Px Go.Shelf Go.Calc
theorem oneU : One Try.prog 22 := One.of Try.underlying22 rfl (by kernel_rfl)
theorem infoU : (Try.prog.info? 22).map (fun i => (i.zero, i.size, i.bytes)) = some (some (.int .u64 0), 1, 8) := by kernel_rfl
theorem slTyU : SlTy Try.prog 23 22 1 8 where
  ty := by kernel_rfl
  info := by
    obtain ⟨i, h1, h2, h3, h4⟩ := info_parts infoU
    exact ⟨i, _, h1, h2, h3, by simp [Value.cells], h4, by simp [Value.cells]; rfl⟩
  pos := by omega
section
variable {o : Oper} {w : World} {ρ : Operand → Value} {x y z : Operand} {a b c : Nat} {ts : Array TypeId}
theorem op_add64 (ho : o.op = .call { callee := .value (.func 22), args := #[x, y, z], argTypes := ts }) (hx : ρ x = U a) (hy : ρ y = U b) (hz : ρ z = U 0) (hf : ρ (.func 22) = .func (.func 22) #[] #[]) (s : Nat) (hs : (a + b) % 18446744073709551616 = s) (r : Nat) (hr : (a + b) / 18446744073709551616 = r) :
    (execOp ρ o).run Try.prog w = .ok (.value (.tuple #[U s, U r])) w := by
  have h := add64_any a b 0 (by omega) w
  rw [Nat.add_zero, hs, hr] at h
  unfold execOp
  simp [ho, resolve, invoke, hf, Deferred.ofValue, hx, hy, hz, h]
theorem op_sub64 (ho : o.op = .call { callee := .value (.func 27), args := #[x, y, z], argTypes := ts }) (hx : ρ x = U a) (hy : ρ y = U b) (hz : ρ z = U c) (hf : ρ (.func 27) = .func (.func 27) #[] #[]) (hc : c ≤ 1) (s : Nat) (hs : ((a : Int) - b - c) % 18446744073709551616 = s) (hb : b < 18446744073709551616) (r : Nat) (hr : (if a < b + c then 1 else 0) = r) :
    (execOp ρ o).run Try.prog w = .ok (.value (.tuple #[U s, U r])) w := by
  have h := sub64_any a b c hc w
  rw [show (a + 18446744073709551616 - b - c) % 18446744073709551616 = s by omega, hr] at h
  unfold execOp
  simp [ho, resolve, invoke, hf, Deferred.ofValue, hx, hy, hz, h]
end
def laterN (t : Nat) (l : List Nat) : Nat := min (t + l.sum) 18446744073709551615
def sumN (l : List Nat) : Nat := if l.sum < 18446744073709551616 then l.sum else 0
def sumE (l : List Nat) : Nat := if l.sum < 18446744073709551616 then 0 else 3
theorem sum_take : ∀ (l : List Nat) (k : Nat), (l.take k).sum ≤ l.sum
  | [], k => by simp
  | x :: l, 0 => by simp
  | x :: l, k + 1 => by
    have := sum_take l k
    simp only [List.take_succ_cons, List.sum_cons]
    omega
theorem sum_next (l : List Nat) (k : Nat) (h : k < l.length) : (l.take (k + 1)).sum = (l.take k).sum + l[k] := by
  rw [List.take_succ_eq_append_getElem h, List.sum_append, List.sum_cons, List.sum_nil, Nat.add_zero]
set_option maxRecDepth 100000 in
set_option maxHeartbeats 2000000 in
theorem later_any (t : Nat) (v : Value) (ls : List Nat) (w : World) (hv : Rd 1 w v (ls.map fun n => [U n])) (ht : t < 18446744073709551616) (hls : ∀ n ∈ ls, n < 18446744073709551616) :
    Calls Try.prog 14 #[U t, v] w (Ret fun r w' => r = U (laterN t ls) ∧ w' = w) := by
  have HL : Hid ((ls.map fun n => [U n]).length = ls.length) := by simp [Hid]
  have hmax : ls.length ≤ maxLen := by
    have := hv.len
    rwa [HL.out] at this
  unfold maxLen at hmax
  have HLS := hide hls
  clear hls
  go_enter Try.func14, Try.ntmps14
  go_wp2_with (first
    | (show wpList _ _ _ (⟨_, .call ⟨.value (.func 22), _, _⟩, _, _, _, _⟩ :: _) _ _; refine wpList_val rfl (op_add64 rfl rfl rfl rfl rfl _ HS.out _ HC.out) ?_; go_frame)
    | (show wpList _ _ _ (⟨_, .call ⟨.builtin .len, _, _⟩, _, _, _, _⟩ :: _) _ _; refine wpList_val rfl (op_len slTyU rfl rfl rfl (by exact hv)) ?_; rw [HL.out]; go_frame)
    | (show wpList _ _ _ (⟨_, .indexAddr 23 _ _, _, _, _, _⟩ :: _) _ _; refine wpList_val rfl (op_indexAddr slTyU rfl rfl (k := k) rfl (by exact hv) hlt') ?_; go_frame)
    | (show wpList _ _ _ (⟨_, .load 22 _, _, _, _, _⟩ :: _) _ _; refine wpList_val rfl (op_loadE1 oneU rfl rfl (f := U) (by exact hv) hlt) ?_; rw [HX.out]; go_frame)
    )
  go_loop [0, 11] (fun a i => ∃ k : Nat, i = .int .i64 k ∧ k ≤ ls.length ∧ a = U (t + (ls.take k).sum) ∧ t + (ls.take k).sum < 18446744073709551616) (fun _ i => ls.length - (intOf i).toNat)
  case atStart => exact ⟨0, rfl, by omega, by simp, by simpa using ht⟩
  case round =>
    obtain ⟨k, rfl, hk, rfl, hM⟩ := hrel
    by_cases hlt : k < ls.length
    · have hlt' : k < (ls.map fun n => [U n]).length := by simpa using hlt
      have hnx := sum_next ls k hlt
      have hle := sum_take ls (k + 1)
      have hxM : ls[k] < 18446744073709551616 := HLS.out _ (List.getElem_mem hlt)
      obtain ⟨x, hx⟩ : ∃ x, ls[k] = x := ⟨_, rfl⟩
      have HX := hide hx
      rw [hx] at hnx hxM
      clear hx
      obtain ⟨a, ha⟩ : ∃ a, t + (ls.take k).sum = a := ⟨_, rfl⟩
      obtain ⟨b, hb⟩ : ∃ b, t + (ls.take (k + 1)).sum = b := ⟨_, rfl⟩
      have hab : b = a + x := by omega
      have hbl : b ≤ t + ls.sum := by omega
      rw [ha] at hM
      simp only [ha]
      have HB := hide hb
      clear ha hb hnx hle
      by_cases ho : a + x < 18446744073709551616
      · have HS : Hid ((a + x) % 18446744073709551616 = b) := by
          unfold Hid
          omega
        have HC : Hid ((a + x) / 18446744073709551616 = 0) := by
          unfold Hid
          omega
        have HNE : Hid (((0 : Nat) != 0) = false) := rfl
        have HAB := hide hab
        clear hab
        go_wp2_with (first
          | (show wpList _ _ _ (⟨_, .call ⟨.value (.func 22), _, _⟩, _, _, _, _⟩ :: _) _ _; refine wpList_val rfl (op_add64 rfl rfl rfl rfl rfl _ HS.out _ HC.out) ?_; go_frame)
          | (show wpList _ _ _ (⟨_, .call ⟨.builtin .len, _, _⟩, _, _, _, _⟩ :: _) _ _; refine wpList_val rfl (op_len slTyU rfl rfl rfl (by exact hv)) ?_; rw [HL.out]; go_frame)
          | (show wpList _ _ _ (⟨_, .indexAddr 23 _ _, _, _, _, _⟩ :: _) _ _; refine wpList_val rfl (op_indexAddr slTyU rfl rfl (k := k) rfl (by exact hv) hlt') ?_; go_frame)
          | (show wpList _ _ _ (⟨_, .load 22 _, _, _, _, _⟩ :: _) _ _; refine wpList_val rfl (op_loadE1 oneU rfl rfl (f := U) (by exact hv) hlt) ?_; rw [HX.out]; go_frame)
          | (show wpList _ _ _ (⟨some 22, .binOp _ _ _ _ _, _, _, _, _⟩ :: _) _ _; refine wpList_val rfl (opU_neq rfl rfl (b := 0) rfl HNE.out) ?_; go_frame)
          )
        go_round
        case rel => exact ⟨k + 1, by go_num, by omega, by rw [HB.out], by rw [HB.out, HAB.out]; exact ho⟩
        case measure => simp [intOf]; omega
      · obtain ⟨s, hs⟩ : ∃ s, (a + x) % 18446744073709551616 = s := ⟨_, rfl⟩
        have HS := hide hs
        have HC : Hid ((a + x) / 18446744073709551616 = 1) := by
          unfold Hid
          omega
        have HNE : Hid (((1 : Nat) != 0) = true) := rfl
        have hfin : laterN t ls = 18446744073709551615 := by
          unfold laterN
          omega
        have HF := hide hfin
        clear hs hab hfin
        go_wp2_with (first
          | (show wpList _ _ _ (⟨_, .call ⟨.value (.func 22), _, _⟩, _, _, _, _⟩ :: _) _ _; refine wpList_val rfl (op_add64 rfl rfl rfl rfl rfl _ HS.out _ HC.out) ?_; go_frame)
          | (show wpList _ _ _ (⟨_, .call ⟨.builtin .len, _, _⟩, _, _, _, _⟩ :: _) _ _; refine wpList_val rfl (op_len slTyU rfl rfl rfl (by exact hv)) ?_; rw [HL.out]; go_frame)
          | (show wpList _ _ _ (⟨_, .indexAddr 23 _ _, _, _, _, _⟩ :: _) _ _; refine wpList_val rfl (op_indexAddr slTyU rfl rfl (k := k) rfl (by exact hv) hlt') ?_; go_frame)
          | (show wpList _ _ _ (⟨_, .load 22 _, _, _, _, _⟩ :: _) _ _; refine wpList_val rfl (op_loadE1 oneU rfl rfl (f := U) (by exact hv) hlt) ?_; rw [HX.out]; go_frame)
          | (show wpList _ _ _ (⟨some 22, .binOp _ _ _ _ _, _, _, _, _⟩ :: _) _ _; refine wpList_val rfl (opU_neq rfl rfl (b := 0) rfl HNE.out) ?_; go_frame)
          )
        go_ret
        exact ⟨by rw [HF.out]; rfl, rfl⟩
    · have hk2 : k = ls.length := by omega
      subst hk2
      rw [List.take_length] at hM ⊢
      have HF : Hid (laterN t ls = t + ls.sum) := by
        unfold Hid laterN
        omega
      go_wp2_with fail
      go_ret
      exact ⟨congrArg U HF.out.symm, rfl⟩
set_option maxRecDepth 100000 in
set_option maxHeartbeats 2000000 in
theorem rlater_any (t : Nat) (v : Value) (ls : List Nat) (w : World) (hv : Rd 1 w v (ls.map fun n => [U n])) (ht : t < 18446744073709551616) (hls : ∀ n ∈ ls, n < 18446744073709551616) :
    Calls Try.prog 15 #[U t, v] w (Ret fun r w' => r = U (laterN t ls) ∧ w' = w) := by
  have HL : Hid ((ls.map fun n => [U n]).length = ls.length) := by simp [Hid]
  have hmax : ls.length ≤ maxLen := by
    have := hv.len
    rwa [HL.out] at this
  unfold maxLen at hmax
  have HLS := hide hls
  clear hls
  go_enter Try.func15, Try.ntmps15
  go_wp2_with (first
    | (show wpList _ _ _ (⟨_, .call ⟨.value (.func 22), _, _⟩, _, _, _, _⟩ :: _) _ _; refine wpList_val rfl (op_add64 rfl rfl rfl rfl rfl _ HS.out _ HC.out) ?_; go_frame)
    | (show wpList _ _ _ (⟨_, .call ⟨.builtin .len, _, _⟩, _, _, _, _⟩ :: _) _ _; refine wpList_val rfl (op_len slTyU rfl rfl rfl (by exact hv)) ?_; rw [HL.out]; go_frame)
    | (show wpList _ _ _ (⟨_, .indexAddr 23 _ _, _, _, _, _⟩ :: _) _ _; refine wpList_val rfl (op_indexAddr slTyU rfl rfl (k := k) rfl (by exact hv) hlt') ?_; go_frame)
    | (show wpList _ _ _ (⟨_, .load 22 _, _, _, _, _⟩ :: _) _ _; refine wpList_val rfl (op_loadE1 oneU rfl rfl (f := U) (by exact hv) hlt) ?_; rw [HX.out]; go_frame)
    )
  go_loop [0, 9] (fun a i => ∃ k : Nat, i = .int .i64 k ∧ k ≤ ls.length ∧ a = U (t + (ls.take k).sum) ∧ t + (ls.take k).sum < 18446744073709551616) (fun _ i => ls.length - (intOf i).toNat)
  case atStart => exact ⟨0, rfl, by omega, by simp, by simpa using ht⟩
  case round =>
    obtain ⟨k, rfl, hk, rfl, hM⟩ := hrel
    by_cases hlt : k < ls.length
    ·
      have hlt' : k < (ls.map fun n => [U n]).length := by simpa using hlt
      have hnx := sum_next ls k hlt
      have hle := sum_take ls (k + 1)
      have hxM : ls[k] < 18446744073709551616 := HLS.out _ (List.getElem_mem hlt)
      obtain ⟨x, hx⟩ : ∃ x, ls[k] = x := ⟨_, rfl⟩
      have HX := hide hx
      rw [hx] at hnx hxM
      clear hx
      obtain ⟨a, ha⟩ : ∃ a, t + (ls.take k).sum = a := ⟨_, rfl⟩
      obtain ⟨b, hb⟩ : ∃ b, t + (ls.take (k + 1)).sum = b := ⟨_, rfl⟩
      have hab : b = a + x := by omega
      have hbl : b ≤ t + ls.sum := by omega
      rw [ha] at hM
      simp only [ha]
      have HB := hide hb
      clear ha hb hnx hle
      obtain ⟨m, hm⟩ : ∃ m : Nat, ((18446744073709551615 : Nat) : Int) - a = m := ⟨18446744073709551615 - a, by omega⟩
      have HM : Hid ((((18446744073709551615 : Nat) : Int) - a) % 18446744073709551616 = m) := by
        unfold Hid
        omega
      by_cases ho : a + x < 18446744073709551616
      · have HS : Hid ((a + x) % 18446744073709551616 = b) := by
          unfold Hid
          omega
        have HNE : Hid (decide (m < x) = false) := decF (by omega)
        have HAB := hide hab
        clear hab hm
        go_wp2_with (first
          | (show wpList _ _ _ (⟨_, .call ⟨.value (.func 22), _, _⟩, _, _, _, _⟩ :: _) _ _; refine wpList_val rfl (op_add64 rfl rfl rfl rfl rfl _ HS.out _ HC.out) ?_; go_frame)
          | (show wpList _ _ _ (⟨_, .call ⟨.builtin .len, _, _⟩, _, _, _, _⟩ :: _) _ _; refine wpList_val rfl (op_len slTyU rfl rfl rfl (by exact hv)) ?_; rw [HL.out]; go_frame)
          | (show wpList _ _ _ (⟨_, .indexAddr 23 _ _, _, _, _, _⟩ :: _) _ _; refine wpList_val rfl (op_indexAddr slTyU rfl rfl (k := k) rfl (by exact hv) hlt') ?_; go_frame)
          | (show wpList _ _ _ (⟨_, .load 22 _, _, _, _, _⟩ :: _) _ _; refine wpList_val rfl (op_loadE1 oneU rfl rfl (f := U) (by exact hv) hlt) ?_; rw [HX.out]; go_frame)
          | (show wpList _ _ _ (⟨some 15, .binOp _ _ _ _ _, _, _, _, _⟩ :: _) _ _; refine wpList_val rfl (opU_subW rfl (a := 18446744073709551615) rfl rfl m HM.out) ?_; go_frame)
          | (show wpList _ _ _ (⟨some 16, .binOp _ _ _ _ _, _, _, _, _⟩ :: _) _ _; refine wpList_val rfl (opU_gtr rfl rfl rfl HNE.out) ?_; go_frame)
          | (show wpList _ _ _ (⟨some 19, .binOp _ _ _ _ _, _, _, _, _⟩ :: _) _ _; refine wpList_val rfl (opU_addW rfl rfl rfl b HS.out) ?_; go_frame)
          )
        go_round
        case rel => exact ⟨k + 1, by go_num, by omega, by rw [HB.out], by rw [HB.out, HAB.out]; exact ho⟩
        case measure => simp [intOf]; omega
      · have HNE : Hid (decide (m < x) = true) := decT (by omega)
        have hfin : laterN t ls = 18446744073709551615 := by
          unfold laterN
          omega
        have HF := hide hfin
        clear hab hfin hm
        go_wp2_with (first
          | (show wpList _ _ _ (⟨_, .call ⟨.value (.func 22), _, _⟩, _, _, _, _⟩ :: _) _ _; refine wpList_val rfl (op_add64 rfl rfl rfl rfl rfl _ HS.out _ HC.out) ?_; go_frame)
          | (show wpList _ _ _ (⟨_, .call ⟨.builtin .len, _, _⟩, _, _, _, _⟩ :: _) _ _; refine wpList_val rfl (op_len slTyU rfl rfl rfl (by exact hv)) ?_; rw [HL.out]; go_frame)
          | (show wpList _ _ _ (⟨_, .indexAddr 23 _ _, _, _, _, _⟩ :: _) _ _; refine wpList_val rfl (op_indexAddr slTyU rfl rfl (k := k) rfl (by exact hv) hlt') ?_; go_frame)
          | (show wpList _ _ _ (⟨_, .load 22 _, _, _, _, _⟩ :: _) _ _; refine wpList_val rfl (op_loadE1 oneU rfl rfl (f := U) (by exact hv) hlt) ?_; rw [HX.out]; go_frame)
          | (show wpList _ _ _ (⟨some 15, .binOp _ _ _ _ _, _, _, _, _⟩ :: _) _ _; refine wpList_val rfl (opU_subW rfl (a := 18446744073709551615) rfl rfl m HM.out) ?_; go_frame)
          | (show wpList _ _ _ (⟨some 16, .binOp _ _ _ _ _, _, _, _, _⟩ :: _) _ _; refine wpList_val rfl (opU_gtr rfl rfl rfl HNE.out) ?_; go_frame)
          )
        go_ret
        exact ⟨by rw [HF.out]; rfl, rfl⟩
    · have hk2 : k = ls.length := by omega
      subst hk2
      rw [List.take_length] at hM ⊢
      have HF : Hid (laterN t ls = t + ls.sum) := by
        unfold Hid laterN
        omega
      go_wp2_with fail
      go_ret
      exact ⟨congrArg U HF.out.symm, rfl⟩
theorem sum_yes {l : List Nat} (h : l.sum < 18446744073709551616) : sumN l = l.sum ∧ sumE l = 0 := by
  unfold sumN sumE
  exact ⟨if_pos h, if_pos h⟩
theorem sum_no {l : List Nat} (h : ¬ l.sum < 18446744073709551616) : sumN l = 0 ∧ sumE l = 3 := by
  unfold sumN sumE
  exact ⟨if_neg h, if_neg h⟩
theorem sum_step {c d l x c' l' : Nat} (h1 : (l + x) % 18446744073709551616 = l') (h2 : (l + x) / 18446744073709551616 = d) (h3 : c' = c + d) : c' * 18446744073709551616 + l' = c * 18446744073709551616 + l + x := by
  subst h3
  rw [Nat.add_mul]
  omega
theorem tupE {a b c d : Nat} (h : a = c) (k : b = d) : Value.tuple #[U a, .int .i64 b] = .tuple #[U c, .int .i64 d] := by rw [h, k]
set_option maxRecDepth 100000 in
set_option maxHeartbeats 2000000 in
theorem rsum_any (v : Value) (ls : List Nat) (w : World) (hv : Rd 1 w v (ls.map fun n => [U n])) (hls : ∀ n ∈ ls, n < 18446744073709551616) :
    Calls Try.prog 13 #[v] w (Ret fun r w' => r = .tuple #[U (sumN ls), .int .i64 (sumE ls)] ∧ w' = w) := by
  have HL : Hid ((ls.map fun n => [U n]).length = ls.length) := by simp [Hid]
  have hmax : ls.length ≤ maxLen := by
    have := hv.len
    rwa [HL.out] at this
  unfold maxLen at hmax
  have HLS := hide hls
  clear hls
  go_enter Try.func13, Try.ntmps13
  go_wp2_with (first
    | (show wpList _ _ _ (⟨_, .call ⟨.value (.func 22), _, _⟩, _, _, _, _⟩ :: _) _ _; refine wpList_val rfl (op_add64 rfl rfl rfl rfl rfl _ HS.out _ HC.out) ?_; go_frame)
    | (show wpList _ _ _ (⟨_, .call ⟨.builtin .len, _, _⟩, _, _, _, _⟩ :: _) _ _; refine wpList_val rfl (op_len slTyU rfl rfl rfl (by exact hv)) ?_; rw [HL.out]; go_frame)
    | (show wpList _ _ _ (⟨_, .indexAddr 23 _ _, _, _, _, _⟩ :: _) _ _; refine wpList_val rfl (op_indexAddr slTyU rfl rfl (k := k) rfl (by exact hv) hlt') ?_; go_frame)
    | (show wpList _ _ _ (⟨_, .load 22 _, _, _, _, _⟩ :: _) _ _; refine wpList_val rfl (op_loadE1 oneU rfl rfl (f := U) (by exact hv) hlt) ?_; rw [HX.out]; go_frame)
    )
  go_loop [4, 9] (fun a i => ∃ k : Nat, i = .int .i64 k ∧ k ≤ ls.length ∧ a = U ((ls.take k).sum) ∧ (ls.take k).sum < 18446744073709551616) (fun _ i => ls.length - (intOf i).toNat)
  case atStart => exact ⟨0, rfl, by omega, by simp; rfl, by simp⟩
  case round =>
    obtain ⟨k, rfl, hk, rfl, hM⟩ := hrel
    by_cases hlt : k < ls.length
    ·
      have hlt' : k < (ls.map fun n => [U n]).length := by simpa using hlt
      have hnx := sum_next ls k hlt
      have hle := sum_take ls (k + 1)
      have hxM : ls[k] < 18446744073709551616 := HLS.out _ (List.getElem_mem hlt)
      obtain ⟨x, hx⟩ : ∃ x, ls[k] = x := ⟨_, rfl⟩
      have HX := hide hx
      rw [hx] at hnx hxM
      clear hx
      obtain ⟨a, ha⟩ : ∃ a, (ls.take k).sum = a := ⟨_, rfl⟩
      obtain ⟨b, hb⟩ : ∃ b, (ls.take (k + 1)).sum = b := ⟨_, rfl⟩
      have hab : b = a + x := by omega
      have hbl : b ≤ ls.sum := by omega
      rw [ha] at hM
      simp only [ha]
      have HB := hide hb
      clear ha hb hnx hle
      obtain ⟨m, hm⟩ : ∃ m : Nat, ((18446744073709551615 : Nat) : Int) - a = m := ⟨18446744073709551615 - a, by omega⟩
      have HM : Hid ((((18446744073709551615 : Nat) : Int) - a) % 18446744073709551616 = m) := by
        unfold Hid
        omega
      by_cases ho : a + x < 18446744073709551616
      · have HS : Hid ((a + x) % 18446744073709551616 = b) := by
          unfold Hid
          omega
        have HNE : Hid (decide (m < x) = false) := decF (by omega)
        have HAB := hide hab
        clear hab hm
        go_wp2_with (first
          | (show wpList _ _ _ (⟨_, .call ⟨.value (.func 22), _, _⟩, _, _, _, _⟩ :: _) _ _; refine wpList_val rfl (op_add64 rfl rfl rfl rfl rfl _ HS.out _ HC.out) ?_; go_frame)
          | (show wpList _ _ _ (⟨_, .call ⟨.builtin .len, _, _⟩, _, _, _, _⟩ :: _) _ _; refine wpList_val rfl (op_len slTyU rfl rfl rfl (by exact hv)) ?_; rw [HL.out]; go_frame)
          | (show wpList _ _ _ (⟨_, .indexAddr 23 _ _, _, _, _, _⟩ :: _) _ _; refine wpList_val rfl (op_indexAddr slTyU rfl rfl (k := k) rfl (by exact hv) hlt') ?_; go_frame)
          | (show wpList _ _ _ (⟨_, .load 22 _, _, _, _, _⟩ :: _) _ _; refine wpList_val rfl (op_loadE1 oneU rfl rfl (f := U) (by exact hv) hlt) ?_; rw [HX.out]; go_frame)
          | (show wpList _ _ _ (⟨some 15, .binOp _ _ _ _ _, _, _, _, _⟩ :: _) _ _; refine wpList_val rfl (opU_subW rfl (a := 18446744073709551615) rfl rfl m HM.out) ?_; go_frame)
          | (show wpList _ _ _ (⟨some 16, .binOp _ _ _ _ _, _, _, _, _⟩ :: _) _ _; refine wpList_val rfl (opU_gtr rfl rfl rfl HNE.out) ?_; go_frame)
          | (show wpList _ _ _ (⟨some 19, .binOp _ _ _ _ _, _, _, _, _⟩ :: _) _ _; refine wpList_val rfl (opU_addW rfl rfl rfl b HS.out) ?_; go_frame)
          )
        go_round
        case rel => exact ⟨k + 1, by go_num, by omega, by rw [HB.out], by rw [HB.out, HAB.out]; exact ho⟩
        case measure => simp [intOf]; omega
      · have HNE : Hid (decide (m < x) = true) := decT (by omega)
        have hfin := sum_no (l := ls) (by omega)
        have HF := hide hfin
        clear hab hfin hm
        go_wp2_with (first
          | (show wpList _ _ _ (⟨_, .call ⟨.value (.func 22), _, _⟩, _, _, _, _⟩ :: _) _ _; refine wpList_val rfl (op_add64 rfl rfl rfl rfl rfl _ HS.out _ HC.out) ?_; go_frame)
          | (show wpList _ _ _ (⟨_, .call ⟨.builtin .len, _, _⟩, _, _, _, _⟩ :: _) _ _; refine wpList_val rfl (op_len slTyU rfl rfl rfl (by exact hv)) ?_; rw [HL.out]; go_frame)
          | (show wpList _ _ _ (⟨_, .indexAddr 23 _ _, _, _, _, _⟩ :: _) _ _; refine wpList_val rfl (op_indexAddr slTyU rfl rfl (k := k) rfl (by exact hv) hlt') ?_; go_frame)
          | (show wpList _ _ _ (⟨_, .load 22 _, _, _, _, _⟩ :: _) _ _; refine wpList_val rfl (op_loadE1 oneU rfl rfl (f := U) (by exact hv) hlt) ?_; rw [HX.out]; go_frame)
          | (show wpList _ _ _ (⟨some 15, .binOp _ _ _ _ _, _, _, _, _⟩ :: _) _ _; refine wpList_val rfl (opU_subW rfl (a := 18446744073709551615) rfl rfl m HM.out) ?_; go_frame)
          | (show wpList _ _ _ (⟨some 16, .binOp _ _ _ _ _, _, _, _, _⟩ :: _) _ _; refine wpList_val rfl (opU_gtr rfl rfl rfl HNE.out) ?_; go_frame)
          )
        go_ret2
        exact ⟨tupE HF.out.1.symm HF.out.2.symm, rfl⟩
    · have hk2 : k = ls.length := by omega
      subst hk2
      rw [List.take_length] at hM ⊢
      have HF := hide (sum_yes hM)
      go_wp2_with fail
      go_ret2
      exact ⟨tupE HF.out.1.symm HF.out.2.symm, rfl⟩
set_option maxRecDepth 100000 in
set_option maxHeartbeats 2000000 in
theorem sum_any (v : Value) (ls : List Nat) (w : World) (hv : Rd 1 w v (ls.map fun n => [U n])) (hls : ∀ n ∈ ls, n < 18446744073709551616) :
    Calls Try.prog 12 #[v] w (Ret fun r w' => r = .tuple #[U (sumN ls), .int .i64 (sumE ls)] ∧ w' = w) := by
  have HL : Hid ((ls.map fun n => [U n]).length = ls.length) := by simp [Hid]
  have hmax : ls.length ≤ maxLen := by
    have := hv.len
    rwa [HL.out] at this
  unfold maxLen at hmax
  have HLS := hide hls
  clear hls
  go_enter Try.func12, Try.ntmps12
  go_wp2_with (first
    | (show wpList _ _ _ (⟨_, .call ⟨.value (.func 22), _, _⟩, _, _, _, _⟩ :: _) _ _; refine wpList_val rfl (op_add64 rfl rfl rfl rfl rfl _ HS.out _ HC.out) ?_; go_frame)
    | (show wpList _ _ _ (⟨_, .call ⟨.builtin .len, _, _⟩, _, _, _, _⟩ :: _) _ _; refine wpList_val rfl (op_len slTyU rfl rfl rfl (by exact hv)) ?_; rw [HL.out]; go_frame)
    | (show wpList _ _ _ (⟨_, .indexAddr 23 _ _, _, _, _, _⟩ :: _) _ _; refine wpList_val rfl (op_indexAddr slTyU rfl rfl (k := k) rfl (by exact hv) hlt') ?_; go_frame)
    | (show wpList _ _ _ (⟨_, .load 22 _, _, _, _, _⟩ :: _) _ _; refine wpList_val rfl (op_loadE1 oneU rfl rfl (f := U) (by exact hv) hlt) ?_; rw [HX.out]; go_frame)
    )
  go_loop [4, 5, 12] (fun h a i => ∃ k c l : Nat, i = .int .i64 k ∧ k ≤ ls.length ∧ h = U c ∧ a = U l ∧ c ≤ k ∧ l < 18446744073709551616 ∧ Hid (c * 18446744073709551616 + l = (ls.take k).sum)) (fun _ _ i => ls.length - (intOf i).toNat)
  case atStart => exact ⟨0, 0, 0, rfl, by omega, rfl, rfl, by omega, by omega, by simp [Hid]⟩
  case round =>
    obtain ⟨k, c, l, rfl, hk, rfl, rfl, hck, hlM, HSUM⟩ := hrel
    by_cases hlt : k < ls.length
    ·
      have hlt' : k < (ls.map fun n => [U n]).length := by simpa using hlt
      have hnx := sum_next ls k hlt
      have hle := sum_take ls (k + 1)
      have hxM : ls[k] < 18446744073709551616 := HLS.out _ (List.getElem_mem hlt)
      obtain ⟨x, hx⟩ : ∃ x, ls[k] = x := ⟨_, rfl⟩
      have HX := hide hx
      rw [hx] at hnx hxM
      clear hx
      have hsum := HSUM.out
      rw [← hsum] at hnx
      obtain ⟨l', hl'⟩ : ∃ l', (l + x) % 18446744073709551616 = l' := ⟨_, rfl⟩
      obtain ⟨d, hd⟩ : ∃ d, (l + x) / 18446744073709551616 = d := ⟨_, rfl⟩
      obtain ⟨c', hc'⟩ : ∃ c', (c + d) % 18446744073709551616 = c' := ⟨_, rfl⟩
      have hc2 : c' = c + d := by omega
      have HN : Hid (c' * 18446744073709551616 + l' = (ls.take (k + 1)).sum) := by
        exact (sum_step hl' hd hc2).trans hnx.symm
      have hd1 : c' ≤ k + 1 := by omega
      have hl2 : l' < 18446744073709551616 := by omega
      have HS := hide hl'
      have HC := hide hd
      have HCC := hide hc'
      clear hl' hd hc' hc2 hsum hnx hle
      go_wp2_with (first
        | (show wpList _ _ _ (⟨_, .call ⟨.value (.func 22), _, _⟩, _, _, _, _⟩ :: _) _ _; refine wpList_val rfl (op_add64 rfl rfl rfl rfl rfl _ HS.out _ HC.out) ?_; go_frame)
        | (show wpList _ _ _ (⟨_, .call ⟨.builtin .len, _, _⟩, _, _, _, _⟩ :: _) _ _; refine wpList_val rfl (op_len slTyU rfl rfl rfl (by exact hv)) ?_; rw [HL.out]; go_frame)
        | (show wpList _ _ _ (⟨_, .indexAddr 23 _ _, _, _, _, _⟩ :: _) _ _; refine wpList_val rfl (op_indexAddr slTyU rfl rfl (k := k) rfl (by exact hv) hlt') ?_; go_frame)
        | (show wpList _ _ _ (⟨_, .load 22 _, _, _, _, _⟩ :: _) _ _; refine wpList_val rfl (op_loadE1 oneU rfl rfl (f := U) (by exact hv) hlt) ?_; rw [HX.out]; go_frame)
        | (show wpList _ _ _ (⟨some 24, .binOp _ _ _ _ _, _, _, _, _⟩ :: _) _ _; refine wpList_val rfl (opU_addW rfl rfl rfl _ HCC.out) ?_; go_frame)
        )
      go_round
      case rel => exact ⟨k + 1, c', l', by go_num, by omega, rfl, rfl, hd1, hl2, HN⟩
      case measure => simp [intOf]; omega
    · have hk2 : k = ls.length := by omega
      subst hk2
      rw [List.take_length] at HSUM
      by_cases hc : c = 0
      · subst hc
        have HNE : Hid (((0 : Nat) != 0) = false) := rfl
        have hs := HSUM.out
        have HF := hide (sum_yes (l := ls) (by omega))
        have HE : Hid (l = ls.sum) := by
          unfold Hid
          omega
        clear hs
        go_wp2_with (first
          | (show wpList _ _ _ (⟨some 28, .binOp _ _ _ _ _, _, _, _, _⟩ :: _) _ _; refine wpList_val rfl (opU_neq rfl rfl (b := 0) rfl HNE.out) ?_; go_frame)
          )
        go_ret2
        exact ⟨tupE (HE.out.trans HF.out.1.symm) HF.out.2.symm, rfl⟩
      · have HNE : Hid ((c != 0) = true) := by
          unfold Hid
          rw [bne_iff_ne]
          exact hc
        have hs := HSUM.out
        have HF := hide (sum_no (l := ls) (by omega))
        clear hs
        go_wp2_with (first
          | (show wpList _ _ _ (⟨some 28, .binOp _ _ _ _ _, _, _, _, _⟩ :: _) _ _; refine wpList_val rfl (opU_neq rfl rfl (b := 0) rfl HNE.out) ?_; go_frame)
          )
        go_ret2
        exact ⟨tupE HF.out.1.symm HF.out.2.symm, rfl⟩
attribute [irreducible] laterN sumN sumE
end Go.Proofs.Ytcaameljecokpaa
