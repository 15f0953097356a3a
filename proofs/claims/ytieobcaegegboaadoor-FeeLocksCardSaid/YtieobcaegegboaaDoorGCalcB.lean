/- Sums, products held against each other, what bytes cost. Conditions: those that stand ahead of each theorem. -/
import Derived.Test.YtieobcaegegboaaDoorGCalcA
namespace Go.Proofs.YtieobcaegegboaaDoor
open Go.RowKit Go.Px Go.Shelf Go.Calc
theorem oneU : One Tryd.prog 29 := One.of Tryd.underlying29 rfl (by kernel_rfl)
theorem infoU : (Tryd.prog.info? 29).map (fun i => (i.zero, i.size, i.bytes)) = some (some (.int .u64 0), 1, 8) := by kernel_rfl
theorem slTyU : SlTy Tryd.prog 58 29 1 8 where
  ty := by kernel_rfl
  info := by
    obtain ⟨i, h1, h2, h3, h4⟩ := info_parts infoU
    exact ⟨i, _, h1, h2, h3, by simp [Value.cells], h4, by simp [Value.cells]; rfl⟩
  pos := by omega
section
variable {o : Oper} {w : World} {ρ : Operand → Value} {x y z : Operand} {a b c : Nat} {ts : Array TypeId}
theorem op_add64 (ho : o.op = .call { callee := .value (.func 42), args := #[x, y, z], argTypes := ts }) (hx : ρ x = U a) (hy : ρ y = U b) (hz : ρ z = U 0) (hf : ρ (.func 42) = .func (.func 42) #[] #[]) (s : Nat) (hs : (a + b) % 18446744073709551616 = s) (r : Nat) (hr : (a + b) / 18446744073709551616 = r) :
    (execOp ρ o).run Tryd.prog w = .ok (.value (.tuple #[U s, U r])) w := by
  have h := add64_any a b 0 (by omega) w
  rw [Nat.add_zero, hs, hr] at h
  unfold execOp
  simp [ho, resolve, invoke, hf, Deferred.ofValue, hx, hy, hz, h]
theorem op_sub64 (ho : o.op = .call { callee := .value (.func 63), args := #[x, y, z], argTypes := ts }) (hx : ρ x = U a) (hy : ρ y = U b) (hz : ρ z = U c) (hf : ρ (.func 63) = .func (.func 63) #[] #[]) (hc : c ≤ 1) (s : Nat) (hs : ((a : Int) - b - c) % 18446744073709551616 = s) (hb : b < 18446744073709551616) (r : Nat) (hr : (if a < b + c then 1 else 0) = r) :
    (execOp ρ o).run Tryd.prog w = .ok (.value (.tuple #[U s, U r])) w := by
  have h := sub64_any a b c hc w
  rw [show (a + 18446744073709551616 - b - c) % 18446744073709551616 = s by omega, hr] at h
  unfold execOp
  simp [ho, resolve, invoke, hf, Deferred.ofValue, hx, hy, hz, h]
end
def laterN (t : Nat) (l : List Nat) : Nat := min (t + l.sum) 18446744073709551615
def sumN (l : List Nat) : Nat := if l.sum < 18446744073709551616 then l.sum else 0
def sumE (l : List Nat) : Nat := if l.sum < 18446744073709551616 then 0 else 3
theorem sum_take : ∀ (l : List Nat) (k : Nat), (l.take k).sum ≤ l.sum
  | [], k => by simp
  | x :: l, 0 => by simp
  | x :: l, k + 1 => by
    have := sum_take l k
    simp only [List.take_succ_cons, List.sum_cons]
    omega
theorem sum_next (l : List Nat) (k : Nat) (h : k < l.length) : (l.take (k + 1)).sum = (l.take k).sum + l[k] := by
  rw [List.take_succ_eq_append_getElem h, List.sum_append, List.sum_cons, List.sum_nil, Nat.add_zero]
theorem sum_yes {l : List Nat} (h : l.sum < 18446744073709551616) : sumN l = l.sum ∧ sumE l = 0 := by
  unfold sumN sumE
  exact ⟨if_pos h, if_pos h⟩
theorem sum_no {l : List Nat} (h : ¬ l.sum < 18446744073709551616) : sumN l = 0 ∧ sumE l = 3 := by
  unfold sumN sumE
  exact ⟨if_neg h, if_neg h⟩
theorem sum_step {c d l x c' l' : Nat} (h1 : (l + x) % 18446744073709551616 = l') (h2 : (l + x) / 18446744073709551616 = d) (h3 : c' = c + d) : c' * 18446744073709551616 + l' = c * 18446744073709551616 + l + x := by
  subst h3
  rw [Nat.add_mul]
  omega
theorem tupE {a b c d : Nat} (h : a = c) (k : b = d) : Value.tuple #[U a, .int .i64 b] = .tuple #[U c, .int .i64 d] := by rw [h, k]
set_option maxRecDepth 100000 in
set_option maxHeartbeats 2000000 in
theorem rsum_any (v : Value) (ls : List Nat) (w : World) (hv : Rd 1 w v (ls.map fun n => [U n])) (hls : ∀ n ∈ ls, n < 18446744073709551616) :
    Calls Tryd.prog 31 #[v] w (Ret fun r w' => r = .tuple #[U (sumN ls), .int .i64 (sumE ls)] ∧ w' = w) := by
  have HL : Hid ((ls.map fun n => [U n]).length = ls.length) := by simp [Hid]
  have hmax : ls.length ≤ maxLen := by
    have := hv.len
    rwa [HL.out] at this
  unfold maxLen at hmax
  have HLS := hide hls
  clear hls
  go_enter Tryd.func31, Tryd.ntmps31
  go_wp2_with (first
    | (show wpList _ _ _ (⟨_, .call ⟨.value (.func 42), _, _⟩, _, _, _, _⟩ :: _) _ _; refine wpList_val rfl (op_add64 rfl rfl rfl rfl rfl _ HS.out _ HC.out) ?_; go_frame)
    | (show wpList _ _ _ (⟨_, .call ⟨.builtin .len, _, _⟩, _, _, _, _⟩ :: _) _ _; refine wpList_val rfl (op_len slTyU rfl rfl rfl (by exact hv)) ?_; rw [HL.out]; go_frame)
    | (show wpList _ _ _ (⟨_, .indexAddr 58 _ _, _, _, _, _⟩ :: _) _ _; refine wpList_val rfl (op_indexAddr slTyU rfl rfl (k := k) rfl (by exact hv) hlt') ?_; go_frame)
    | (show wpList _ _ _ (⟨_, .load 29 _, _, _, _, _⟩ :: _) _ _; refine wpList_val rfl (op_loadE1 oneU rfl rfl (f := U) (by exact hv) hlt) ?_; rw [HX.out]; go_frame)
    )
  go_loop [4, 9] (fun a i => ∃ k : Nat, i = .int .i64 k ∧ k ≤ ls.length ∧ a = U ((ls.take k).sum) ∧ (ls.take k).sum < 18446744073709551616) (fun _ i => ls.length - (intOf i).toNat)
  case atStart => exact ⟨0, rfl, by omega, by simp; rfl, by simp⟩
  case round =>
    obtain ⟨k, rfl, hk, rfl, hM⟩ := hrel
    by_cases hlt : k < ls.length
    ·
      have hlt' : k < (ls.map fun n => [U n]).length := by simpa using hlt
      have hnx := sum_next ls k hlt
      have hle := sum_take ls (k + 1)
      have hxM : ls[k] < 18446744073709551616 := HLS.out _ (List.getElem_mem hlt)
      obtain ⟨x, hx⟩ : ∃ x, ls[k] = x := ⟨_, rfl⟩
      have HX := hide hx
      rw [hx] at hnx hxM
      clear hx
      obtain ⟨a, ha⟩ : ∃ a, (ls.take k).sum = a := ⟨_, rfl⟩
      obtain ⟨b, hb⟩ : ∃ b, (ls.take (k + 1)).sum = b := ⟨_, rfl⟩
      have hab : b = a + x := by omega
      have hbl : b ≤ ls.sum := by omega
      rw [ha] at hM
      simp only [ha]
      have HB := hide hb
      clear ha hb hnx hle
      obtain ⟨m, hm⟩ : ∃ m : Nat, ((18446744073709551615 : Nat) : Int) - a = m := ⟨18446744073709551615 - a, by omega⟩
      have HM : Hid ((((18446744073709551615 : Nat) : Int) - a) % 18446744073709551616 = m) := by
        unfold Hid
        omega
      by_cases ho : a + x < 18446744073709551616
      · have HS : Hid ((a + x) % 18446744073709551616 = b) := by
          unfold Hid
          omega
        have HNE : Hid (decide (m < x) = false) := decF (by omega)
        have HAB := hide hab
        clear hab hm
        go_wp2_with (first
          | (show wpList _ _ _ (⟨_, .call ⟨.value (.func 42), _, _⟩, _, _, _, _⟩ :: _) _ _; refine wpList_val rfl (op_add64 rfl rfl rfl rfl rfl _ HS.out _ HC.out) ?_; go_frame)
          | (show wpList _ _ _ (⟨_, .call ⟨.builtin .len, _, _⟩, _, _, _, _⟩ :: _) _ _; refine wpList_val rfl (op_len slTyU rfl rfl rfl (by exact hv)) ?_; rw [HL.out]; go_frame)
          | (show wpList _ _ _ (⟨_, .indexAddr 58 _ _, _, _, _, _⟩ :: _) _ _; refine wpList_val rfl (op_indexAddr slTyU rfl rfl (k := k) rfl (by exact hv) hlt') ?_; go_frame)
          | (show wpList _ _ _ (⟨_, .load 29 _, _, _, _, _⟩ :: _) _ _; refine wpList_val rfl (op_loadE1 oneU rfl rfl (f := U) (by exact hv) hlt) ?_; rw [HX.out]; go_frame)
          | (show wpList _ _ _ (⟨some 15, .binOp _ _ _ _ _, _, _, _, _⟩ :: _) _ _; refine wpList_val rfl (opU_subW rfl (a := 18446744073709551615) rfl rfl m HM.out) ?_; go_frame)
          | (show wpList _ _ _ (⟨some 16, .binOp _ _ _ _ _, _, _, _, _⟩ :: _) _ _; refine wpList_val rfl (opU_gtr rfl rfl rfl HNE.out) ?_; go_frame)
          | (show wpList _ _ _ (⟨some 19, .binOp _ _ _ _ _, _, _, _, _⟩ :: _) _ _; refine wpList_val rfl (opU_addW rfl rfl rfl b HS.out) ?_; go_frame)
          )
        go_round
        case rel => exact ⟨k + 1, by go_num, by omega, by rw [HB.out], by rw [HB.out, HAB.out]; exact ho⟩
        case measure => simp [intOf]; omega
      · have HNE : Hid (decide (m < x) = true) := decT (by omega)
        have hfin := sum_no (l := ls) (by omega)
        have HF := hide hfin
        clear hab hfin hm
        go_wp2_with (first
          | (show wpList _ _ _ (⟨_, .call ⟨.value (.func 42), _, _⟩, _, _, _, _⟩ :: _) _ _; refine wpList_val rfl (op_add64 rfl rfl rfl rfl rfl _ HS.out _ HC.out) ?_; go_frame)
          | (show wpList _ _ _ (⟨_, .call ⟨.builtin .len, _, _⟩, _, _, _, _⟩ :: _) _ _; refine wpList_val rfl (op_len slTyU rfl rfl rfl (by exact hv)) ?_; rw [HL.out]; go_frame)
          | (show wpList _ _ _ (⟨_, .indexAddr 58 _ _, _, _, _, _⟩ :: _) _ _; refine wpList_val rfl (op_indexAddr slTyU rfl rfl (k := k) rfl (by exact hv) hlt') ?_; go_frame)
          | (show wpList _ _ _ (⟨_, .load 29 _, _, _, _, _⟩ :: _) _ _; refine wpList_val rfl (op_loadE1 oneU rfl rfl (f := U) (by exact hv) hlt) ?_; rw [HX.out]; go_frame)
          | (show wpList _ _ _ (⟨some 15, .binOp _ _ _ _ _, _, _, _, _⟩ :: _) _ _; refine wpList_val rfl (opU_subW rfl (a := 18446744073709551615) rfl rfl m HM.out) ?_; go_frame)
          | (show wpList _ _ _ (⟨some 16, .binOp _ _ _ _ _, _, _, _, _⟩ :: _) _ _; refine wpList_val rfl (opU_gtr rfl rfl rfl HNE.out) ?_; go_frame)
          )
        go_ret2
        exact ⟨tupE HF.out.1.symm HF.out.2.symm, rfl⟩
    · have hk2 : k = ls.length := by omega
      subst hk2
      rw [List.take_length] at hM ⊢
      have HF := hide (sum_yes hM)
      go_wp2_with fail
      go_ret2
      exact ⟨tupE HF.out.1.symm HF.out.2.symm, rfl⟩
set_option maxRecDepth 100000 in
set_option maxHeartbeats 2000000 in
theorem sum_any (v : Value) (ls : List Nat) (w : World) (hv : Rd 1 w v (ls.map fun n => [U n])) (hls : ∀ n ∈ ls, n < 18446744073709551616) :
    Calls Tryd.prog 27 #[v] w (Ret fun r w' => r = .tuple #[U (sumN ls), .int .i64 (sumE ls)] ∧ w' = w) := by
  have HL : Hid ((ls.map fun n => [U n]).length = ls.length) := by simp [Hid]
  have hmax : ls.length ≤ maxLen := by
    have := hv.len
    rwa [HL.out] at this
  unfold maxLen at hmax
  have HLS := hide hls
  clear hls
  go_enter Tryd.func27, Tryd.ntmps27
  go_wp2_with (first
    | (show wpList _ _ _ (⟨_, .call ⟨.value (.func 42), _, _⟩, _, _, _, _⟩ :: _) _ _; refine wpList_val rfl (op_add64 rfl rfl rfl rfl rfl _ HS.out _ HC.out) ?_; go_frame)
    | (show wpList _ _ _ (⟨_, .call ⟨.builtin .len, _, _⟩, _, _, _, _⟩ :: _) _ _; refine wpList_val rfl (op_len slTyU rfl rfl rfl (by exact hv)) ?_; rw [HL.out]; go_frame)
    | (show wpList _ _ _ (⟨_, .indexAddr 58 _ _, _, _, _, _⟩ :: _) _ _; refine wpList_val rfl (op_indexAddr slTyU rfl rfl (k := k) rfl (by exact hv) hlt') ?_; go_frame)
    | (show wpList _ _ _ (⟨_, .load 29 _, _, _, _, _⟩ :: _) _ _; refine wpList_val rfl (op_loadE1 oneU rfl rfl (f := U) (by exact hv) hlt) ?_; rw [HX.out]; go_frame)
    )
  go_loop [4, 5, 12] (fun h a i => ∃ k c l : Nat, i = .int .i64 k ∧ k ≤ ls.length ∧ h = U c ∧ a = U l ∧ c ≤ k ∧ l < 18446744073709551616 ∧ Hid (c * 18446744073709551616 + l = (ls.take k).sum)) (fun _ _ i => ls.length - (intOf i).toNat)
  case atStart => exact ⟨0, 0, 0, rfl, by omega, rfl, rfl, by omega, by omega, by simp [Hid]⟩
  case round =>
    obtain ⟨k, c, l, rfl, hk, rfl, rfl, hck, hlM, HSUM⟩ := hrel
    by_cases hlt : k < ls.length
    ·
      have hlt' : k < (ls.map fun n => [U n]).length := by simpa using hlt
      have hnx := sum_next ls k hlt
      have hle := sum_take ls (k + 1)
      have hxM : ls[k] < 18446744073709551616 := HLS.out _ (List.getElem_mem hlt)
      obtain ⟨x, hx⟩ : ∃ x, ls[k] = x := ⟨_, rfl⟩
      have HX := hide hx
      rw [hx] at hnx hxM
      clear hx
      have hsum := HSUM.out
      rw [← hsum] at hnx
      obtain ⟨l', hl'⟩ : ∃ l', (l + x) % 18446744073709551616 = l' := ⟨_, rfl⟩
      obtain ⟨d, hd⟩ : ∃ d, (l + x) / 18446744073709551616 = d := ⟨_, rfl⟩
      obtain ⟨c', hc'⟩ : ∃ c', (c + d) % 18446744073709551616 = c' := ⟨_, rfl⟩
      have hc2 : c' = c + d := by omega
      have HN : Hid (c' * 18446744073709551616 + l' = (ls.take (k + 1)).sum) := by
        exact (sum_step hl' hd hc2).trans hnx.symm
      have hd1 : c' ≤ k + 1 := by omega
      have hl2 : l' < 18446744073709551616 := by omega
      have HS := hide hl'
      have HC := hide hd
      have HCC := hide hc'
      clear hl' hd hc' hc2 hsum hnx hle
      go_wp2_with (first
        | (show wpList _ _ _ (⟨_, .call ⟨.value (.func 42), _, _⟩, _, _, _, _⟩ :: _) _ _; refine wpList_val rfl (op_add64 rfl rfl rfl rfl rfl _ HS.out _ HC.out) ?_; go_frame)
        | (show wpList _ _ _ (⟨_, .call ⟨.builtin .len, _, _⟩, _, _, _, _⟩ :: _) _ _; refine wpList_val rfl (op_len slTyU rfl rfl rfl (by exact hv)) ?_; rw [HL.out]; go_frame)
        | (show wpList _ _ _ (⟨_, .indexAddr 58 _ _, _, _, _, _⟩ :: _) _ _; refine wpList_val rfl (op_indexAddr slTyU rfl rfl (k := k) rfl (by exact hv) hlt') ?_; go_frame)
        | (show wpList _ _ _ (⟨_, .load 29 _, _, _, _, _⟩ :: _) _ _; refine wpList_val rfl (op_loadE1 oneU rfl rfl (f := U) (by exact hv) hlt) ?_; rw [HX.out]; go_frame)
        | (show wpList _ _ _ (⟨some 24, .binOp _ _ _ _ _, _, _, _, _⟩ :: _) _ _; refine wpList_val rfl (opU_addW rfl rfl rfl _ HCC.out) ?_; go_frame)
        )
      go_round
      case rel => exact ⟨k + 1, c', l', by go_num, by omega, rfl, rfl, hd1, hl2, HN⟩
      case measure => simp [intOf]; omega
    · have hk2 : k = ls.length := by omega
      subst hk2
      rw [List.take_length] at HSUM
      by_cases hc : c = 0
      · subst hc
        have HNE : Hid (((0 : Nat) != 0) = false) := rfl
        have hs := HSUM.out
        have HF := hide (sum_yes (l := ls) (by omega))
        have HE : Hid (l = ls.sum) := by
          unfold Hid
          omega
        clear hs
        go_wp2_with (first
          | (show wpList _ _ _ (⟨some 28, .binOp _ _ _ _ _, _, _, _, _⟩ :: _) _ _; refine wpList_val rfl (opU_neq rfl rfl (b := 0) rfl HNE.out) ?_; go_frame)
          )
        go_ret2
        exact ⟨tupE (HE.out.trans HF.out.1.symm) HF.out.2.symm, rfl⟩
      · have HNE : Hid ((c != 0) = true) := by
          unfold Hid
          rw [bne_iff_ne]
          exact hc
        have hs := HSUM.out
        have HF := hide (sum_no (l := ls) (by omega))
        clear hs
        go_wp2_with (first
          | (show wpList _ _ _ (⟨some 28, .binOp _ _ _ _ _, _, _, _, _⟩ :: _) _ _; refine wpList_val rfl (opU_neq rfl rfl (b := 0) rfl HNE.out) ?_; go_frame)
          )
        go_ret2
        exact ⟨tupE HF.out.1.symm HF.out.2.symm, rfl⟩
attribute [irreducible] laterN sumN sumE
end Go.Proofs.YtieobcaegegboaaDoor
namespace Go.Proofs.YtieobcaegegboaaDoor
open Go.RowKit Go.Px Go.Shelf Go.Calc
def cmpN (p q : Nat) : Int := if p < q then -1 else if p = q then 0 else 1
theorem cmp_lt {p q : Nat} (h : p < q) : cmpN p q = -1 := if_pos h
theorem cmp_eq {p q : Nat} (h : p = q) : cmpN p q = 0 := by
  unfold cmpN
  rw [if_neg (by omega), if_pos h]
theorem cmp_gt {p q : Nat} (h : q < p) : cmpN p q = 1 := by
  unfold cmpN
  rw [if_neg (by omega), if_neg (by omega)]
theorem cmp_facts (p q : Nat) (hp : p < 18446744073709551616 * 18446744073709551616) (hq : q < 18446744073709551616 * 18446744073709551616) : ∃ h l i m s1 u s2 v z : Nat,
    Hid (p / 18446744073709551616 = h) ∧ Hid (p % 18446744073709551616 = l) ∧ Hid (q / 18446744073709551616 = i) ∧ Hid (q % 18446744073709551616 = m) ∧
    Hid (((l : Int) - m - (0 : Nat)) % 18446744073709551616 = s1) ∧ Hid ((if l < m + 0 then 1 else 0) = u) ∧ Hid (((h : Int) - i - u) % 18446744073709551616 = s2) ∧ Hid ((if h < i + u then 1 else 0) = v) ∧ Hid (s2 ||| s1 = z) ∧
    u ≤ 1 ∧ m < 18446744073709551616 ∧ i < 18446744073709551616 ∧ s1 < 18446744073709551616 ∧ s2 < 18446744073709551616 ∧ (p < q → v = 1) ∧ (¬ p < q → v = 0) ∧ (p = q → z = 0) ∧ (q < p → z ≠ 0) := by
  obtain ⟨h, h1⟩ : ∃ x, p / 18446744073709551616 = x := ⟨_, Eq.refl _⟩
  obtain ⟨l, h2⟩ : ∃ x, p % 18446744073709551616 = x := ⟨_, Eq.refl _⟩
  obtain ⟨i, h3⟩ : ∃ x, q / 18446744073709551616 = x := ⟨_, Eq.refl _⟩
  obtain ⟨m, h4⟩ : ∃ x, q % 18446744073709551616 = x := ⟨_, Eq.refl _⟩
  obtain ⟨s1, h5⟩ : ∃ x : Nat, ((l : Int) - m - (0 : Nat)) % 18446744073709551616 = x := ⟨(((l : Int) - m - (0 : Nat)) % 18446744073709551616).toNat, by omega⟩
  obtain ⟨u, h6⟩ : ∃ x : Nat, (if l < m + 0 then 1 else 0) = x := ⟨_, Eq.refl _⟩
  obtain ⟨s2, h7⟩ : ∃ x : Nat, ((h : Int) - i - u) % 18446744073709551616 = x := ⟨(((h : Int) - i - u) % 18446744073709551616).toNat, by omega⟩
  obtain ⟨v, h8⟩ : ∃ x : Nat, (if h < i + u then 1 else 0) = x := ⟨_, Eq.refl _⟩
  have hu : u ≤ 1 := by
    rw [← h6]
    split <;> omega
  have hu2 : (l < m ∧ u = 1) ∨ (m ≤ l ∧ u = 0) := by
    rw [← h6]
    split <;> omega
  have hv2 : (h < i + u ∧ v = 1) ∨ (i + u ≤ h ∧ v = 0) := by
    rw [← h8]
    split <;> omega
  have hh : h < 18446744073709551616 := by omega
  have hi : i < 18446744073709551616 := by omega
  have key : s2 ||| s1 = 0 ↔ s2 = 0 ∧ s1 = 0 := Nat.or_eq_zero_iff
  refine ⟨h, l, i, m, s1, u, s2, v, s2 ||| s1, h1, h2, h3, h4, h5, h6, h7, h8, Eq.refl _, hu, by omega, hi, by omega, by omega, ?_, ?_, ?_, ?_⟩
  · omega
  · omega
  · intro hpq
    rw [key]
    omega
  · intro hpq
    rw [Ne, key]
    omega
theorem mul_lt {a b : Nat} (ha : a < 18446744073709551616) (hb : b < 18446744073709551616) : a * b < 18446744073709551616 * 18446744073709551616 := Nat.mul_lt_mul'' ha hb
section
variable {R : Nat → Prop} {base w : World} {F : List Hp}
theorem mul_s {a b h l : Nat} (ha : a < 18446744073709551616) (hb : b < 18446744073709551616) (H1 : Hid (a * b / 18446744073709551616 = h)) (H2 : Hid (a * b % 18446744073709551616 = l)) (w : World) : Calls Tryd.prog 50 #[U a, U b] w (Ret fun r w' => r = .tuple #[U h, U l] ∧ w' = w) := by
  have := mul64_any a b ha hb w
  rwa [H1.out, H2.out] at this
set_option maxRecDepth 100000 in
set_option maxHeartbeats 2000000 in
theorem cmp_any (a b c d : Nat) (ha : a < 18446744073709551616) (hb : b < 18446744073709551616) (hc : c < 18446744073709551616) (hd : d < 18446744073709551616) (w : World) :
    Calls Tryd.prog 55 #[U a, U b, U c, U d] w (Ret fun r w' => r = .int .i64 (cmpN (a * b) (c * d)) ∧ w' = w) := by
  obtain ⟨h, l, i, m, s1, u, s2, v, z, H1, H2, H3, H4, H5, H6, H7, H8, H9, hu, hm, hi, hs1, hs2, g1, g2, g3, g4⟩ := cmp_facts (a * b) (c * d) (mul_lt ha hb) (mul_lt hc hd)
  have HM1 := mul_s ha hb H1 H2
  have HM2 := mul_s hc hd H3 H4
  clear H1 H2 H3 H4
  have c1 := @cmp_lt (a * b) (c * d)
  have c2 := @cmp_eq (a * b) (c * d)
  have c3 := @cmp_gt (a * b) (c * d)
  generalize cmpN (a * b) (c * d) = r at *
  generalize a * b = p at *
  generalize c * d = q at *
  rcases Nat.lt_trichotomy p q with hlt | heq | hgt
  · have HR := hide (c1 hlt)
    have HNE : Hid ((v != 0) = true) := by rw [g1 hlt]; rfl
    clear g1 g2 g3 g4 hlt c1 c2 c3
    go_enter Tryd.func55, Tryd.ntmps55
    go_wp2_with (first
      | (go_at_call 50; (first | (with_reducible refine Ret.calls (HM1 _) ?_) | (with_reducible refine Ret.calls (HM2 _) ?_)); rintro r w' ⟨rfl, rfl⟩)
      | (show wpList _ _ _ (⟨some 32, .call _, _, _, _, _⟩ :: _) _ _; refine wpList_val rfl (op_sub64 rfl rfl rfl (c := 0) rfl rfl (by omega) s1 H5.out hm u H6.out) ?_; go_frame)
      | (show wpList _ _ _ (⟨some 39, .call _, _, _, _, _⟩ :: _) _ _; refine wpList_val rfl (op_sub64 rfl rfl rfl (c := u) rfl rfl hu s2 H7.out hi v H8.out) ?_; go_frame)
      | (show wpList _ _ _ (⟨some 43, .binOp _ _ _ _ _, _, _, _, _⟩ :: _) _ _; refine wpList_val rfl (opU_neq rfl rfl (b := 0) rfl HNE.out) ?_; go_frame)
      | (show wpList _ _ _ (⟨some 46, .binOp _ _ _ _ _, _, _, _, _⟩ :: _) _ _; refine wpList_val rfl (opU_or rfl rfl rfl hs2 hs1 z H9.out) ?_; go_frame)
      | (show wpList _ _ _ (⟨some 47, .binOp _ _ _ _ _, _, _, _, _⟩ :: _) _ _; refine wpList_val rfl (opU_eql rfl rfl (b := 0) rfl HZ.out) ?_; go_frame)
      )
    go_ret
    exact ⟨congrArg (Value.int .i64) HR.out.symm, rfl⟩
  · have HR := hide (c2 heq)
    have HNE : Hid ((v != 0) = false) := by rw [g2 (by omega)]; rfl
    have HZ : Hid ((z == 0) = true) := by rw [g3 heq]; rfl
    clear g1 g2 g3 g4 heq c1 c2 c3
    go_enter Tryd.func55, Tryd.ntmps55
    go_wp2_with (first
      | (go_at_call 50; (first | (with_reducible refine Ret.calls (HM1 _) ?_) | (with_reducible refine Ret.calls (HM2 _) ?_)); rintro r w' ⟨rfl, rfl⟩)
      | (show wpList _ _ _ (⟨some 32, .call _, _, _, _, _⟩ :: _) _ _; refine wpList_val rfl (op_sub64 rfl rfl rfl (c := 0) rfl rfl (by omega) s1 H5.out hm u H6.out) ?_; go_frame)
      | (show wpList _ _ _ (⟨some 39, .call _, _, _, _, _⟩ :: _) _ _; refine wpList_val rfl (op_sub64 rfl rfl rfl (c := u) rfl rfl hu s2 H7.out hi v H8.out) ?_; go_frame)
      | (show wpList _ _ _ (⟨some 43, .binOp _ _ _ _ _, _, _, _, _⟩ :: _) _ _; refine wpList_val rfl (opU_neq rfl rfl (b := 0) rfl HNE.out) ?_; go_frame)
      | (show wpList _ _ _ (⟨some 46, .binOp _ _ _ _ _, _, _, _, _⟩ :: _) _ _; refine wpList_val rfl (opU_or rfl rfl rfl hs2 hs1 z H9.out) ?_; go_frame)
      | (show wpList _ _ _ (⟨some 47, .binOp _ _ _ _ _, _, _, _, _⟩ :: _) _ _; refine wpList_val rfl (opU_eql rfl rfl (b := 0) rfl HZ.out) ?_; go_frame)
      )
    go_ret
    exact ⟨congrArg (Value.int .i64) HR.out.symm, rfl⟩
  · have HR := hide (c3 hgt)
    have HNE : Hid ((v != 0) = false) := by rw [g2 (by omega)]; rfl
    have HZ := beqF (g4 hgt)
    clear g1 g2 g3 g4 hgt c1 c2 c3
    go_enter Tryd.func55, Tryd.ntmps55
    go_wp2_with (first
      | (go_at_call 50; (first | (with_reducible refine Ret.calls (HM1 _) ?_) | (with_reducible refine Ret.calls (HM2 _) ?_)); rintro r w' ⟨rfl, rfl⟩)
      | (show wpList _ _ _ (⟨some 32, .call _, _, _, _, _⟩ :: _) _ _; refine wpList_val rfl (op_sub64 rfl rfl rfl (c := 0) rfl rfl (by omega) s1 H5.out hm u H6.out) ?_; go_frame)
      | (show wpList _ _ _ (⟨some 39, .call _, _, _, _, _⟩ :: _) _ _; refine wpList_val rfl (op_sub64 rfl rfl rfl (c := u) rfl rfl hu s2 H7.out hi v H8.out) ?_; go_frame)
      | (show wpList _ _ _ (⟨some 43, .binOp _ _ _ _ _, _, _, _, _⟩ :: _) _ _; refine wpList_val rfl (opU_neq rfl rfl (b := 0) rfl HNE.out) ?_; go_frame)
      | (show wpList _ _ _ (⟨some 46, .binOp _ _ _ _ _, _, _, _, _⟩ :: _) _ _; refine wpList_val rfl (opU_or rfl rfl rfl hs2 hs1 z H9.out) ?_; go_frame)
      | (show wpList _ _ _ (⟨some 47, .binOp _ _ _ _ _, _, _, _, _⟩ :: _) _ _; refine wpList_val rfl (opU_eql rfl rfl (b := 0) rfl HZ.out) ?_; go_frame)
      )
    go_ret
    exact ⟨congrArg (Value.int .i64) HR.out.symm, rfl⟩
def partN (x n d : Nat) : Nat := if d = 0 then 0 else if x * n / d < 18446744073709551616 then x * n / d else 0
def partE (x n d : Nat) : Nat := if d = 0 then 2 else if x * n / d < 18446744073709551616 then 0 else 3
theorem part_zero {x n : Nat} : partN x n 0 = 0 ∧ partE x n 0 = 2 := ⟨rfl, rfl⟩
theorem part_far {x n d : Nat} (hd : d ≠ 0) (h : d ≤ x * n / 18446744073709551616) : partN x n d = 0 ∧ partE x n d = 3 := by
  have : ¬ x * n / d < 18446744073709551616 := by
    have h2 := Nat.mul_le_of_le_div _ _ _ h
    have : 18446744073709551616 ≤ x * n / d := by
      rw [Nat.le_div_iff_mul_le (by omega), Nat.mul_comm]
      exact h2
    omega
  unfold partN partE
  rw [if_neg hd, if_neg hd, if_neg this, if_neg this]
  exact ⟨rfl, rfl⟩
theorem part_near {x n d : Nat} (hd : d ≠ 0) (h : x * n / 18446744073709551616 < d) : partN x n d = x * n / d ∧ partE x n d = 0 := by
  have : x * n / d < 18446744073709551616 := by
    apply Nat.div_lt_of_lt_mul
    exact (Nat.div_lt_iff_lt_mul (by omega)).1 h
  unfold partN partE
  rw [if_neg hd, if_neg hd, if_pos this, if_pos this]
  exact ⟨rfl, rfl⟩
theorem two_words (N : Nat) : N / 18446744073709551616 * 18446744073709551616 + N % 18446744073709551616 = N := by
  rw [Nat.mul_comm]
  exact Nat.div_add_mod N _
theorem div_s {N hi lo y q r : Nat} (H1 : Hid (N / 18446744073709551616 = hi)) (H2 : Hid (N % 18446744073709551616 = lo)) (h : hi < y) (hy : y < 18446744073709551616) (hq : Hid (N / y = q)) (hr : Hid (N % y = r)) (hS : SepL R base w F) :
    Calls Tryd.prog 51 #[U hi, U lo, U y] w (Ret fun r' w' => r' = .tuple #[U q, U r] ∧ SepL R base w' F) := by
  have hlo : lo < 18446744073709551616 := by rw [← H2.out]; exact Nat.mod_lt _ (by omega)
  have h := div64_s hS hi lo y h hy hlo
  have e : hi * 18446744073709551616 + lo = N := by rw [← H1.out, ← H2.out]; exact two_words N
  rwa [e, hq.out, hr.out] at h
def needC (s r : Nat) : Nat := (s * r + 999) / 1000
def needN (s r : Nat) : Nat := if needC s r < 18446744073709551616 then needC s r else 0
def needE (s r : Nat) : Nat := if needC s r < 18446744073709551616 then 0 else 3
theorem need_far {s r : Nat} (h : ¬ needC s r < 18446744073709551616) : needN s r = 0 ∧ needE s r = 3 := by
  unfold needN needE
  exact ⟨if_neg h, if_neg h⟩
theorem need_near {s r : Nat} (h : needC s r < 18446744073709551616) : needN s r = needC s r ∧ needE s r = 0 := by
  unfold needN needE
  exact ⟨if_pos h, if_pos h⟩
set_option maxRecDepth 100000 in
set_option maxHeartbeats 2000000 in
theorem need_s (x n : Nat) (hx : x < 18446744073709551616) (hn : n < 18446744073709551616) (hS : SepL R base w F) :
    Calls Tryd.prog 35 #[U x, U n] w (Ret fun r w' => r = .tuple #[U (needN x n), .int .i64 (needE x n)] ∧ SepL R base w' F) := by
  obtain ⟨h, H1⟩ : ∃ h, Hid (x * n / 18446744073709551616 = h) := ⟨_, Eq.refl _⟩
  obtain ⟨l, H2⟩ : ∃ h, Hid (x * n % 18446744073709551616 = h) := ⟨_, Eq.refl _⟩
  have HM := mul_s hx hn H1 H2
  have f1 := @need_far x n
  have f2 := @need_near x n
  have hc : needC x n = (x * n + 999) / 1000 := rfl
  have hh := H1.out
  obtain ⟨q, hq⟩ : ∃ q, Hid (x * n / 1000 = q) := ⟨_, Eq.refl _⟩
  obtain ⟨r, hr⟩ : ∃ q, Hid (x * n % 1000 = q) := ⟨_, Eq.refl _⟩
  have hq' := hq.out
  have hr' := hr.out
  by_cases hg : 1000 ≤ h
  · have HP := hide (f1 (by
      rw [hc]
      generalize x * n = N at *
      omega))
    have HG := decT hg
    clear hg f1 f2 hc hq' hr' hh
    go_enter Tryd.func35, Tryd.ntmps35
    go_wp2_with (first
      | (go_at_call 50; refine Ret.calls (HM _) ?_; rintro r w' ⟨rfl, rfl⟩)
      | (show wpList _ _ _ (⟨some 17, .binOp _ _ _ _ _, _, _, _, _⟩ :: _) _ _; refine wpList_val rfl (opU_geq rfl rfl (b := 1000) rfl HG.out) ?_; go_frame)
      )
    go_ret2
    exact ⟨tupE HP.out.1.symm HP.out.2.symm, hS⟩
  have HG := decF hg
  have hlt : h < 1000 := by omega
  have HD : ∀ {w : World}, SepL R base w F → Calls Tryd.prog 51 #[U h, U l, U 1000] w (Ret fun r' w' => r' = .tuple #[U q, U r] ∧ SepL R base w' F) := fun hS => div_s H1 H2 hlt (by omega) hq hr hS
  by_cases hr0 : r = 0
  · subst hr0
    have HP := hide (f2 (by
      rw [hc]
      generalize x * n = N at *
      omega))
    have HE : Hid (q = needC x n) := by
      unfold Hid
      rw [hc]
      generalize x * n = N at *
      omega
    have HR0 : Hid (((0 : Nat) == 0) = true) := rfl
    clear hg f1 f2 hc hq' hr' hh
    go_enter Tryd.func35, Tryd.ntmps35
    go_wp2_with (first
      | (go_at_call 50; refine Ret.calls (HM _) ?_; rintro r w' ⟨rfl, rfl⟩)
      | (show wpList _ _ _ (⟨some 17, .binOp _ _ _ _ _, _, _, _, _⟩ :: _) _ _; refine wpList_val rfl (opU_geq rfl rfl (b := 1000) rfl HG.out) ?_; go_frame)
      | (go_at_call 51; refine Ret.calls (HD hS) ?_; clear hS; rintro r w' ⟨rfl, hS⟩)
      | (show wpList _ _ _ (⟨some 25, .binOp _ _ _ _ _, _, _, _, _⟩ :: _) _ _; refine wpList_val rfl (opU_eql rfl rfl (b := 0) rfl HR0.out) ?_; go_frame)
      )
    go_ret2
    exact ⟨tupE (HE.out.trans HP.out.1.symm) HP.out.2.symm, hS⟩
  have HR0 := beqF hr0
  by_cases hqm : q = 18446744073709551615
  · have HQ : Hid ((q == 18446744073709551615) = true) := by
      rw [hqm]
      rfl
    have HP := hide (f1 (by
      rw [hc]
      generalize x * n = N at *
      omega))
    clear hg f1 f2 hc hq' hr' hh hqm hr0
    go_enter Tryd.func35, Tryd.ntmps35
    go_wp2_with (first
      | (go_at_call 50; refine Ret.calls (HM _) ?_; rintro r w' ⟨rfl, rfl⟩)
      | (show wpList _ _ _ (⟨some 17, .binOp _ _ _ _ _, _, _, _, _⟩ :: _) _ _; refine wpList_val rfl (opU_geq rfl rfl (b := 1000) rfl HG.out) ?_; go_frame)
      | (go_at_call 51; refine Ret.calls (HD hS) ?_; clear hS; rintro r w' ⟨rfl, hS⟩)
      | (show wpList _ _ _ (⟨some 25, .binOp _ _ _ _ _, _, _, _, _⟩ :: _) _ _; refine wpList_val rfl (opU_eql rfl rfl (b := 0) rfl HR0.out) ?_; go_frame)
      | (show wpList _ _ _ (⟨some 28, .binOp _ _ _ _ _, _, _, _, _⟩ :: _) _ _; refine wpList_val rfl (opU_eql rfl rfl (b := 18446744073709551615) rfl HQ.out) ?_; go_frame)
      )
    go_ret2
    exact ⟨tupE HP.out.1.symm HP.out.2.symm, hS⟩
  · have HQ := beqF hqm
    have hqM : q < 18446744073709551616 := by
      generalize x * n = N at *
      omega
    have HP := hide (f2 (by
      rw [hc]
      generalize x * n = N at *
      omega))
    have HE : Hid (q + 1 = needC x n) := by
      unfold Hid
      rw [hc]
      generalize x * n = N at *
      omega
    have HQ1 : q + 1 < 18446744073709551616 := by omega
    clear hg f1 f2 hc hq' hr' hh hqm hr0
    go_enter Tryd.func35, Tryd.ntmps35
    go_wp2_with (first
      | (go_at_call 50; refine Ret.calls (HM _) ?_; rintro r w' ⟨rfl, rfl⟩)
      | (show wpList _ _ _ (⟨some 17, .binOp _ _ _ _ _, _, _, _, _⟩ :: _) _ _; refine wpList_val rfl (opU_geq rfl rfl (b := 1000) rfl HG.out) ?_; go_frame)
      | (go_at_call 51; refine Ret.calls (HD hS) ?_; clear hS; rintro r w' ⟨rfl, hS⟩)
      | (show wpList _ _ _ (⟨some 25, .binOp _ _ _ _ _, _, _, _, _⟩ :: _) _ _; refine wpList_val rfl (opU_eql rfl rfl (b := 0) rfl HR0.out) ?_; go_frame)
      | (show wpList _ _ _ (⟨some 28, .binOp _ _ _ _ _, _, _, _, _⟩ :: _) _ _; refine wpList_val rfl (opU_eql rfl rfl (b := 18446744073709551615) rfl HQ.out) ?_; go_frame)
      | (show wpList _ _ _ (⟨some 30, .binOp _ _ _ _ _, _, _, _, _⟩ :: _) _ _; refine wpList_val rfl (opU_add rfl rfl (b := 1) rfl HQ1) ?_; go_frame)
      )
    go_ret2
    exact ⟨tupE (HE.out.trans HP.out.1.symm) HP.out.2.symm, hS⟩
end
attribute [irreducible] cmpN partN partE needC needN needE
end Go.Proofs.YtieobcaegegboaaDoor
namespace Go.Proofs.YtieobcaegegboaaDoor
open Go.RowKit Go.Px Go.Shelf Go.Calc
theorem infoU1 : (Tryd.prog.info? 29).map (·.size) = some 1 := by kernel_rfl
theorem aggW : Agg Tryd.prog 102 2 := Agg.of Tryd.underlying102 rfl (by kernel_rfl)
theorem opI_sub {P : Program} {o : Oper} {w : World} {ρ : Operand → Value} {t t' : TypeId} {x y : Operand} (ho : o.op = .binOp .sub t x y t') {a b : Int} (hx : ρ x = .int .i64 a) (hy : ρ y = .int .i64 b) (z : Int) (hz : a - b = z) (h1 : -9223372036854775808 ≤ z) (h2 : z ≤ 9223372036854775807) : (execOp ρ o).run P w = .ok (.value (.int .i64 z)) w := by
  have e : IntKind.i64.wrap (a - b) = z := by rw [hz]; exact IntWalk.i64_in _ (by omega)
  unfold execOp
  simp only [ho, hx, hy, Sem.run_bind, run_eqGuard_int, Result.andThen_ok, binOp, ne_eq, not_true_eq_false, if_false, Op.intArith, Sem.run_pure, e]
theorem one_more {h l2 l3 a : Nat} (k : l3 + 18446744073709551616 = l2 + a) : (h + 1) * 18446744073709551616 + l3 = h * 18446744073709551616 + l2 + a := by
  rw [Nat.add_mul, Nat.one_mul]
  generalize h * 18446744073709551616 = p
  omega
theorem buildW (x y : Nat) (w : World) : (Instr.build 102 #[(0, U x), (1, U y)]).run Tryd.prog w = .ok (.agg #[U x, U y]) w := by kernel_rfl
theorem times_core {a hi lo l2 g h2 l3 c : Nat} (hl : lo < 18446744073709551616) (hl2 : lo * 2 ^ 1 % 18446744073709551616 = l2) (hg : lo / 2 ^ 63 = g) (hh2 : hi * 2 + g = h2) (hl3 : (l2 + a) % 18446744073709551616 = l3) (hc : (h2 + 1) % 18446744073709551616 = c) (ha : a < 18446744073709551616) (h1 : hi * 2 < 18446744073709551616) :
    h2 < 18446744073709551616 ∧ h2 * 18446744073709551616 + l2 = 2 * (hi * 18446744073709551616 + lo) ∧
    (l3 < l2 → 2 * (hi * 18446744073709551616 + lo) + a < 18446744073709551616 * 18446744073709551616 → c * 18446744073709551616 + l3 = 2 * (hi * 18446744073709551616 + lo) + a) ∧ (¬ l3 < l2 → h2 * 18446744073709551616 + l3 = 2 * (hi * 18446744073709551616 + lo) + a) ∧ True := by
  have k2 : l2 + g * 18446744073709551616 = 2 * lo := by omega
  have k0 : h2 < 18446744073709551616 := by omega
  have k3 : h2 * 18446744073709551616 + l2 = 2 * (hi * 18446744073709551616 + lo) := by omega
  refine ⟨k0, k3, ?_, ?_, trivial⟩
  · intro hlt hM
    rw [← k3] at hM ⊢
    have k4 : l3 + 18446744073709551616 = l2 + a := by omega
    have k5 : c = h2 + 1 := by omega
    rw [k5]
    exact one_more k4
  · intro hlt
    rw [← k3]
    omega
/-- one bit more of a product -/
theorem times_facts {a b k hi lo : Nat} (ha : a < 18446744073709551616) (hb : b < 18446744073709551616) (hw : hi * 18446744073709551616 + lo = a * (b / 2 ^ (k + 1))) (hl : lo < 18446744073709551616) :
    ∃ h1 g h2 l2 bit l3 c : Nat, Hid (hi * 2 ^ 1 % 18446744073709551616 = h1) ∧ Hid (lo / 2 ^ 63 = g) ∧ Hid (h1 ||| g = h2) ∧ Hid (lo * 2 ^ 1 % 18446744073709551616 = l2) ∧ Hid (b / 2 ^ k % 2 = bit) ∧ Hid ((l2 + a) % 18446744073709551616 = l3) ∧
      h1 < 18446744073709551616 ∧ g < 18446744073709551616 ∧ l2 < 18446744073709551616 ∧ l3 < 18446744073709551616 ∧ h2 < 18446744073709551616 ∧ bit < 2 ∧ c < 18446744073709551616 ∧
      (bit ≠ 1 → h2 * 18446744073709551616 + l2 = a * (b / 2 ^ k)) ∧ (bit = 1 → l3 < l2 → Hid ((h2 + 1) % 18446744073709551616 = c) ∧ c * 18446744073709551616 + l3 = a * (b / 2 ^ k)) ∧ (bit = 1 → ¬ l3 < l2 → h2 * 18446744073709551616 + l3 = a * (b / 2 ^ k)) := by
  have hB : b / 2 ^ k < 18446744073709551616 := Nat.lt_of_le_of_lt (Nat.div_le_self _ _) hb
  have hbits : b / 2 ^ k = 2 * (b / 2 ^ (k + 1)) + b / 2 ^ k % 2 := by
    rw [Nat.pow_succ, ← Nat.div_div_eq_div_mul]
    omega
  have hmax := mul_lt ha hB
  obtain ⟨e, he⟩ : ∃ e, b / 2 ^ k = e := ⟨_, Eq.refl _⟩
  obtain ⟨f, hf⟩ : ∃ e, b / 2 ^ (k + 1) = e := ⟨_, Eq.refl _⟩
  rw [he] at hbits hmax ⊢
  rw [hf] at hbits hw
  obtain ⟨p, hp⟩ : ∃ p, a * f = p := ⟨_, Eq.refl _⟩
  rw [hp] at hw
  have hg : lo / 2 ^ 63 < 2 ^ 1 := by omega
  have hor : hi * 2 ^ 1 ||| lo / 2 ^ 63 = hi * 2 ^ 1 + lo / 2 ^ 63 := or_add hg
  obtain ⟨bit, hbit⟩ : ∃ bit, e % 2 = bit := ⟨_, Eq.refl _⟩
  rw [hbit] at hbits
  have hmul : a * e = 2 * p + a * bit := by
    rw [hbits, Nat.mul_add, Nat.mul_left_comm, hp]
  have hb2 : bit < 2 := by omega
  have hab : a * bit = if bit = 1 then a else 0 := by
    rcases (show bit = 0 ∨ bit = 1 by omega) with h | h
    · subst h
      simp
    · subst h
      simp
  rw [hab] at hmul
  have hle : 2 * p ≤ a * e := by omega
  have h1 : hi * 2 < 18446744073709551616 := by omega
  have e1 : hi * 2 ^ 1 % 18446744073709551616 = hi * 2 := by omega
  rw [show (2 : Nat) ^ 1 = 2 from rfl] at hor
  obtain ⟨l2, hl2⟩ : ∃ x, lo * 2 ^ 1 % 18446744073709551616 = x := ⟨_, Eq.refl _⟩
  obtain ⟨g, hgg⟩ : ∃ x, lo / 2 ^ 63 = x := ⟨_, Eq.refl _⟩
  rw [hgg] at hor
  obtain ⟨h2, hh2⟩ : ∃ x, hi * 2 + g = x := ⟨_, Eq.refl _⟩
  rw [hh2] at hor
  obtain ⟨l3, hl3⟩ : ∃ x, (l2 + a) % 18446744073709551616 = x := ⟨_, Eq.refl _⟩
  obtain ⟨c, hc⟩ : ∃ x, (h2 + 1) % 18446744073709551616 = x := ⟨_, Eq.refl _⟩
  obtain ⟨k1, k2, k3, k4, k5⟩ := times_core hl hl2 hgg hh2 hl3 hc ha h1
  refine ⟨hi * 2, g, h2, l2, bit, l3, c, e1, hgg, hor, hl2, hbit, hl3, h1, by omega, by omega, by omega, k1, hb2, by omega, ?_, ?_, ?_⟩
  · intro h
    rw [if_neg h, Nat.add_zero] at hmul
    rw [hmul, ← hw]
    exact k2
  · intro h hlt
    rw [if_pos h] at hmul
    rw [hmul] at hmax ⊢
    rw [← hw] at hmax ⊢
    exact ⟨hc, k3 hlt hmax⟩
  · intro h hlt
    rw [if_pos h] at hmul
    rw [hmul, ← hw]
    exact k4 hlt
section
variable {R : Nat → Prop} {base w : World} {F : List Hp}
theorem dec1 (k : Nat) (hk : k ≤ 64) : ∃ z : Int, ((k : Nat) : Int) - 1 = z ∧ -9223372036854775808 ≤ z ∧ z ≤ 9223372036854775807 := ⟨_, rfl, by omega, by omega⟩
set_option maxRecDepth 100000 in
set_option maxHeartbeats 4000000 in
theorem times_s (a b : Nat) (ha : a < 18446744073709551616) (hb : b < 18446744073709551616) {p q : Nat} (hp : Hid (a * b / 18446744073709551616 = p)) (hq : Hid (a * b % 18446744073709551616 = q)) (hS : SepL R base w F) :
    Calls Tryd.prog 53 #[U a, U b] w (Ret fun r w' => r = .agg #[U p, U q] ∧ SepL R base w' F) := by
  go_enter Tryd.func53, Tryd.ntmps53
  go_wp2_with (first
    | (show wpList _ _ _ (⟨some 4, .alloc _, _, _, _, _⟩ :: _) _ _; refine wpS_alloc hS rfl rfl Tryd.zeroValue102 (zs := [U 0, U 0]) rfl ?_; clear hS; intro nr w hS; go_frame)
    | (show wpList _ _ _ (⟨some 5, .alloc _, _, _, _, _⟩ :: _) _ _; refine wpS_alloc hS rfl rfl Tryd.zeroValue102 (zs := [U 0, U 0]) rfl ?_; clear hS; intro nb w hS; go_frame)
    )
  go_loopw [6] (fun i wr => ∃ (z : Int) (k hi lo : Nat), i = .int .i64 z ∧ Hid (z = (k : Int) - 1) ∧ k ≤ 64 ∧ lo < 18446744073709551616 ∧ hi < 18446744073709551616 ∧ Hid (hi * 18446744073709551616 + lo = a * (b / 2 ^ k)) ∧ SepL R base wr (.blk nb 102 [U hi, U lo] :: .blk nr 102 [U 0, U 0] :: F)) (fun i _ => (intOf i + 1).toNat)
  case atStart => exact ⟨63, 64, 0, 0, rfl, by simp [Hid], by omega, by omega, by omega, by rw [Nat.div_eq_of_lt hb]; simp [Hid], hS⟩
  case round =>
    clear hS
    obtain ⟨z, k, hi, lo, rfl, HZ, hk, hl, hh, HW, hS⟩ := hrel
    rcases k with _ | k
    · have hz : z = -1 := by have := HZ.out; omega
      subst hz
      rw [Nat.pow_zero, Nat.div_one] at HW
      have e1 : hi = p := by rw [← hp.out, ← HW.out, Nat.mul_comm, Nat.mul_add_div (by omega), Nat.div_eq_of_lt hl, Nat.add_zero]
      have e2 : lo = q := by rw [← hq.out, ← HW.out, Nat.mul_comm, Nat.mul_add_mod, Nat.mod_eq_of_lt hl]
      subst e1 e2
      clear HW HZ
      go_wp2_with (first
        | (show wpList _ _ _ (⟨_, .load 102 _, _, _, _, _⟩ :: _) _ _; refine wpList_val rfl (op_load aggW rfl rfl ((hS.bring (by repeat (first | exact t0 | apply tS))).getBlk.cells) rfl) ?_; go_frame)
        | (show wpList _ _ _ (⟨_, .store 102 _ _, _, _, _, _⟩ :: _) _ _; (refine wpS_storeAll aggW (hS.bring (by repeat (first | exact t0 | apply tS))) rfl rfl rfl (vs := [U hi, U lo]) rfl rfl (by simp [U, Value.oneCell']) rfl ?_); clear hS; intro w hS; go_frame)
        )
      exact ret_cell aggW rfl rfl rfl ((hS.bring (by repeat (first | exact t0 | apply tS))).getBlk) rfl ⟨rfl, hS.tail.tail⟩
    · have hz : z = k := by have := HZ.out; omega
      subst hz
      obtain ⟨h1, g, h2, l2, bit, l3, c, K1, K2, K3, K4, K5, K6, m1, m2, m3, m4, m5, m6, m7, f1, f2, f3⟩ := times_facts ha hb HW.out hl
      obtain ⟨z2, hz2, hz3, hz4⟩ := dec1 k (by omega)
      have HG := decT (show (0 : Int) ≤ (k : Int) by omega)
      have HC : Hid ((k : Int) % 18446744073709551616 = (k : Nat)) := by
        unfold Hid
        omega
      obtain ⟨b1, hb1⟩ : ∃ x, Hid (b / 2 ^ k = x) := ⟨_, Eq.refl _⟩
      have hb1M : b1 < 18446744073709551616 := by rw [← hb1.out]; exact Nat.lt_of_le_of_lt (Nat.div_le_self _ _) hb
      have K5' : Hid (b1 % 2 = bit) := by rw [← hb1.out]; exact K5
      clear HW K5
      have HZ2 := hide hz2
      have HZ3 : Hid (z2 = (k : Int) - 1) := hz2.symm
      clear hz2 HZ
      by_cases hbit : bit = 1
      · have HB : Hid ((bit == 1) = true) := by rw [hbit]; rfl
        by_cases hlt : l3 < l2
        · have HL := decT hlt
          obtain ⟨K7, HW⟩ := f2 hbit hlt
          have HW' := hide HW
          clear f1 f2 f3 HW hlt hbit
          go_wp2_with (first
            | (show wpList _ _ _ (⟨some 9, .binOp _ _ _ _ _, _, _, _, _⟩ :: _) _ _; refine wpList_val rfl (op_igeq rfl rfl rfl HG.out) ?_; go_frame)
            | (show wpList _ _ _ (⟨some 11, .binOp _ _ _ _ _, _, _, _, _⟩ :: _) _ _; refine wpList_val rfl (opI_sub rfl rfl rfl z2 HZ2.out hz3 hz4) ?_; go_frame)
            | (show wpList _ _ _ (⟨some 14, .binOp _ _ _ _ _, _, _, _, _⟩ :: _) _ _; refine wpList_val rfl (opU_shlW rfl rfl (c := 1) rfl _ K1.out) ?_; go_frame)
            | (show wpList _ _ _ (⟨some 17, .binOp _ _ _ _ _, _, _, _, _⟩ :: _) _ _; refine wpList_val rfl (opU_shrN rfl rfl (c := 63) rfl hl _ K2.out) ?_; go_frame)
            | (show wpList _ _ _ (⟨some 18, .binOp _ _ _ _ _, _, _, _, _⟩ :: _) _ _; refine wpList_val rfl (opU_or rfl rfl rfl m1 m2 _ K3.out) ?_; go_frame)
            | (show wpList _ _ _ (⟨some 21, .binOp _ _ _ _ _, _, _, _, _⟩ :: _) _ _; refine wpList_val rfl (opU_shlW rfl rfl (c := 1) rfl _ K4.out) ?_; go_frame)
            | (show wpList _ _ _ (⟨some 22, .build _ _, _, _, _, _⟩ :: _) _ _; refine wpList_val rfl (op_build (ps := #[(0, U h2), (1, U l2)]) rfl rfl (buildW h2 l2) _) ?_; go_frame)
            | (show wpList _ _ _ (⟨some 25, .convert _ _ _, _, _, _, _⟩ :: _) _ _; refine wpList_val rfl (opU_ofInt Tryd.underlying3 Tryd.underlying73 rfl rfl k HC.out) ?_; go_frame)
            | (show wpList _ _ _ (⟨some 26, .binOp _ _ _ _ _, _, _, _, _⟩ :: _) _ _; refine wpList_val rfl (opU_shrN rfl rfl rfl hb b1 hb1.out) ?_; go_frame)
            | (show wpList _ _ _ (⟨some 27, .binOp _ _ _ _ _, _, _, _, _⟩ :: _) _ _; refine wpList_val rfl (opU_bit0 rfl rfl rfl hb1M) ?_; rw [K5'.out]; go_frame)
            | (show wpList _ _ _ (⟨some 28, .binOp _ _ _ _ _, _, _, _, _⟩ :: _) _ _; refine wpList_val rfl (opU_eql rfl rfl (b := 1) rfl HB.out) ?_; go_frame)
            | (show wpList _ _ _ (⟨some 32, .binOp _ _ _ _ _, _, _, _, _⟩ :: _) _ _; refine wpList_val rfl (opU_addW rfl rfl rfl _ K6.out) ?_; go_frame)
            | (show wpList _ _ _ (⟨some 36, .binOp _ _ _ _ _, _, _, _, _⟩ :: _) _ _; refine wpList_val rfl (opU_lss rfl rfl rfl HL.out) ?_; go_frame)
            | (show wpList _ _ _ (⟨some 39, .binOp _ _ _ _ _, _, _, _, _⟩ :: _) _ _; refine wpList_val rfl (opU_addW rfl rfl (b := 1) rfl _ K7.out) ?_; go_frame)
            | (show wpList _ _ _ (⟨_, .load 29 _, _, _, _, _⟩ :: _) _ _; refine wpList_val rfl (op_load1S oneU ((hS.bring (by repeat (first | exact t0 | apply tS)))) rfl rfl rfl) ?_; go_frame)
            | (show wpList _ _ _ (⟨_, .store 102 _ _, _, _, _, _⟩ :: _) _ _; (refine wpS_storeAll aggW (hS.bring (by repeat (first | exact t0 | apply tS))) rfl rfl rfl (vs := [U h2, U l2]) rfl rfl (by simp [U, Value.oneCell']) rfl ?_); clear hS; intro w hS; go_frame)
            | (show wpList _ _ _ (⟨_, .store 29 _ _, _, _, _, _⟩ :: _) _ _; (refine wpS_store1 infoU1 (hS.bring (by repeat (first | exact t0 | apply tS))) rfl rfl rfl rfl rfl rfl (by simp) ?_); clear hS; intro w hS; go_frame)
            )
          go_roundw
          case rel => exact ⟨z2, k, c, l3, rfl, HZ3, by omega, m4, m7, HW', hS.sel (by repeat (first | exact Sel.refl | refine Sel.take (by repeat (first | exact t0 | apply tS)) ?_ | apply Sel.drop))⟩
          case measure => simp [intOf]; have := HZ3.out; omega
        · have HL := decF hlt
          have HW' := hide (f3 hbit hlt)
          clear f1 f2 f3 hlt hbit
          go_wp2_with (first
            | (show wpList _ _ _ (⟨some 9, .binOp _ _ _ _ _, _, _, _, _⟩ :: _) _ _; refine wpList_val rfl (op_igeq rfl rfl rfl HG.out) ?_; go_frame)
            | (show wpList _ _ _ (⟨some 11, .binOp _ _ _ _ _, _, _, _, _⟩ :: _) _ _; refine wpList_val rfl (opI_sub rfl rfl rfl z2 HZ2.out hz3 hz4) ?_; go_frame)
            | (show wpList _ _ _ (⟨some 14, .binOp _ _ _ _ _, _, _, _, _⟩ :: _) _ _; refine wpList_val rfl (opU_shlW rfl rfl (c := 1) rfl _ K1.out) ?_; go_frame)
            | (show wpList _ _ _ (⟨some 17, .binOp _ _ _ _ _, _, _, _, _⟩ :: _) _ _; refine wpList_val rfl (opU_shrN rfl rfl (c := 63) rfl hl _ K2.out) ?_; go_frame)
            | (show wpList _ _ _ (⟨some 18, .binOp _ _ _ _ _, _, _, _, _⟩ :: _) _ _; refine wpList_val rfl (opU_or rfl rfl rfl m1 m2 _ K3.out) ?_; go_frame)
            | (show wpList _ _ _ (⟨some 21, .binOp _ _ _ _ _, _, _, _, _⟩ :: _) _ _; refine wpList_val rfl (opU_shlW rfl rfl (c := 1) rfl _ K4.out) ?_; go_frame)
            | (show wpList _ _ _ (⟨some 22, .build _ _, _, _, _, _⟩ :: _) _ _; refine wpList_val rfl (op_build (ps := #[(0, U h2), (1, U l2)]) rfl rfl (buildW h2 l2) _) ?_; go_frame)
            | (show wpList _ _ _ (⟨some 25, .convert _ _ _, _, _, _, _⟩ :: _) _ _; refine wpList_val rfl (opU_ofInt Tryd.underlying3 Tryd.underlying73 rfl rfl k HC.out) ?_; go_frame)
            | (show wpList _ _ _ (⟨some 26, .binOp _ _ _ _ _, _, _, _, _⟩ :: _) _ _; refine wpList_val rfl (opU_shrN rfl rfl rfl hb b1 hb1.out) ?_; go_frame)
            | (show wpList _ _ _ (⟨some 27, .binOp _ _ _ _ _, _, _, _, _⟩ :: _) _ _; refine wpList_val rfl (opU_bit0 rfl rfl rfl hb1M) ?_; rw [K5'.out]; go_frame)
            | (show wpList _ _ _ (⟨some 28, .binOp _ _ _ _ _, _, _, _, _⟩ :: _) _ _; refine wpList_val rfl (opU_eql rfl rfl (b := 1) rfl HB.out) ?_; go_frame)
            | (show wpList _ _ _ (⟨some 32, .binOp _ _ _ _ _, _, _, _, _⟩ :: _) _ _; refine wpList_val rfl (opU_addW rfl rfl rfl _ K6.out) ?_; go_frame)
            | (show wpList _ _ _ (⟨some 36, .binOp _ _ _ _ _, _, _, _, _⟩ :: _) _ _; refine wpList_val rfl (opU_lss rfl rfl rfl HL.out) ?_; go_frame)
            | (show wpList _ _ _ (⟨some 39, .binOp _ _ _ _ _, _, _, _, _⟩ :: _) _ _; refine wpList_val rfl (opU_addW rfl rfl (b := 1) rfl _ K7.out) ?_; go_frame)
            | (show wpList _ _ _ (⟨_, .load 29 _, _, _, _, _⟩ :: _) _ _; refine wpList_val rfl (op_load1S oneU ((hS.bring (by repeat (first | exact t0 | apply tS)))) rfl rfl rfl) ?_; go_frame)
            | (show wpList _ _ _ (⟨_, .store 102 _ _, _, _, _, _⟩ :: _) _ _; (refine wpS_storeAll aggW (hS.bring (by repeat (first | exact t0 | apply tS))) rfl rfl rfl (vs := [U h2, U l2]) rfl rfl (by simp [U, Value.oneCell']) rfl ?_); clear hS; intro w hS; go_frame)
            | (show wpList _ _ _ (⟨_, .store 29 _ _, _, _, _, _⟩ :: _) _ _; (refine wpS_store1 infoU1 (hS.bring (by repeat (first | exact t0 | apply tS))) rfl rfl rfl rfl rfl rfl (by simp) ?_); clear hS; intro w hS; go_frame)
            )
          go_roundw
          case rel => exact ⟨z2, k, h2, l3, rfl, HZ3, by omega, m4, m5, HW', hS.sel (by repeat (first | exact Sel.refl | refine Sel.take (by repeat (first | exact t0 | apply tS)) ?_ | apply Sel.drop))⟩
          case measure => simp [intOf]; have := HZ3.out; omega
      · have HB := beqF hbit
        have HW' := hide (f1 hbit)
        clear f1 f2 f3 hbit
        go_wp2_with (first
          | (show wpList _ _ _ (⟨some 9, .binOp _ _ _ _ _, _, _, _, _⟩ :: _) _ _; refine wpList_val rfl (op_igeq rfl rfl rfl HG.out) ?_; go_frame)
          | (show wpList _ _ _ (⟨some 11, .binOp _ _ _ _ _, _, _, _, _⟩ :: _) _ _; refine wpList_val rfl (opI_sub rfl rfl rfl z2 HZ2.out hz3 hz4) ?_; go_frame)
          | (show wpList _ _ _ (⟨some 14, .binOp _ _ _ _ _, _, _, _, _⟩ :: _) _ _; refine wpList_val rfl (opU_shlW rfl rfl (c := 1) rfl _ K1.out) ?_; go_frame)
          | (show wpList _ _ _ (⟨some 17, .binOp _ _ _ _ _, _, _, _, _⟩ :: _) _ _; refine wpList_val rfl (opU_shrN rfl rfl (c := 63) rfl hl _ K2.out) ?_; go_frame)
          | (show wpList _ _ _ (⟨some 18, .binOp _ _ _ _ _, _, _, _, _⟩ :: _) _ _; refine wpList_val rfl (opU_or rfl rfl rfl m1 m2 _ K3.out) ?_; go_frame)
          | (show wpList _ _ _ (⟨some 21, .binOp _ _ _ _ _, _, _, _, _⟩ :: _) _ _; refine wpList_val rfl (opU_shlW rfl rfl (c := 1) rfl _ K4.out) ?_; go_frame)
          | (show wpList _ _ _ (⟨some 22, .build _ _, _, _, _, _⟩ :: _) _ _; refine wpList_val rfl (op_build (ps := #[(0, U h2), (1, U l2)]) rfl rfl (buildW h2 l2) _) ?_; go_frame)
          | (show wpList _ _ _ (⟨some 25, .convert _ _ _, _, _, _, _⟩ :: _) _ _; refine wpList_val rfl (opU_ofInt Tryd.underlying3 Tryd.underlying73 rfl rfl k HC.out) ?_; go_frame)
          | (show wpList _ _ _ (⟨some 26, .binOp _ _ _ _ _, _, _, _, _⟩ :: _) _ _; refine wpList_val rfl (opU_shrN rfl rfl rfl hb b1 hb1.out) ?_; go_frame)
          | (show wpList _ _ _ (⟨some 27, .binOp _ _ _ _ _, _, _, _, _⟩ :: _) _ _; refine wpList_val rfl (opU_bit0 rfl rfl rfl hb1M) ?_; rw [K5'.out]; go_frame)
          | (show wpList _ _ _ (⟨some 28, .binOp _ _ _ _ _, _, _, _, _⟩ :: _) _ _; refine wpList_val rfl (opU_eql rfl rfl (b := 1) rfl HB.out) ?_; go_frame)
          | (show wpList _ _ _ (⟨some 32, .binOp _ _ _ _ _, _, _, _, _⟩ :: _) _ _; refine wpList_val rfl (opU_addW rfl rfl rfl _ K6.out) ?_; go_frame)
          | (show wpList _ _ _ (⟨some 36, .binOp _ _ _ _ _, _, _, _, _⟩ :: _) _ _; refine wpList_val rfl (opU_lss rfl rfl rfl HL.out) ?_; go_frame)
          | (show wpList _ _ _ (⟨some 39, .binOp _ _ _ _ _, _, _, _, _⟩ :: _) _ _; refine wpList_val rfl (opU_addW rfl rfl (b := 1) rfl _ K7.out) ?_; go_frame)
          | (show wpList _ _ _ (⟨_, .load 29 _, _, _, _, _⟩ :: _) _ _; refine wpList_val rfl (op_load1S oneU ((hS.bring (by repeat (first | exact t0 | apply tS)))) rfl rfl rfl) ?_; go_frame)
          | (show wpList _ _ _ (⟨_, .store 102 _ _, _, _, _, _⟩ :: _) _ _; (refine wpS_storeAll aggW (hS.bring (by repeat (first | exact t0 | apply tS))) rfl rfl rfl (vs := [U h2, U l2]) rfl rfl (by simp [U, Value.oneCell']) rfl ?_); clear hS; intro w hS; go_frame)
          | (show wpList _ _ _ (⟨_, .store 29 _ _, _, _, _, _⟩ :: _) _ _; (refine wpS_store1 infoU1 (hS.bring (by repeat (first | exact t0 | apply tS))) rfl rfl rfl rfl rfl rfl (by simp) ?_); clear hS; intro w hS; go_frame)
          )
        go_roundw
        case rel => exact ⟨z2, k, h2, l2, rfl, HZ3, by omega, m3, m5, HW', hS.sel (by repeat (first | exact Sel.refl | refine Sel.take (by repeat (first | exact t0 | apply tS)) ?_ | apply Sel.drop))⟩
        case measure => simp [intOf]; have := HZ3.out; omega
end
end Go.Proofs.YtieobcaegegboaaDoor
namespace Go.Proofs.YtieobcaegegboaaDoor
open Go.RowKit Go.Px Go.Shelf Go.Calc
theorem ret_tmp3 {P : Program} {fn : Func} {R : Value → World → Prop} {a : Act} {w : World} {s t r : Nat} {u v x : Value} (hr : fn.results = #[.tmp s, .tmp t, .tmp r]) (hd : a.defers = []) (hu : a.tmps.getD s undef = u) (hv : a.tmps.getD t undef = v) (hx : a.tmps.getD r undef = x) (h : R (.tuple #[u, v, x]) w) : bodyPost P fn (Ret R) .ret a w := by
  refine bodyPost_ret (v := .tuple #[u, v, x]) ?_ hd h
  have hu' : a.tmps[s]?.getD undef = u := by simpa using hu
  have hv' : a.tmps[t]?.getD undef = v := by simpa using hv
  have hx' : a.tmps[r]?.getD undef = x := by simpa using hx
  simp [results, hr, hu', hv', hx']
theorem div_of {x d a b : Nat} (h : x = a * d + b) (hb : b < d) : x / d = a ∧ x % d = b := by
  subst h
  constructor
  · rw [Nat.mul_comm, Nat.mul_add_div (by omega), Nat.div_eq_of_lt hb, Nat.add_zero]
  · rw [Nat.mul_comm, Nat.mul_add_mod, Nat.mod_eq_of_lt hb]
theorem over_step {d r q bit N : Nat} (hd : r < d) (hN : N = q * d + r) (hb : bit < 2) :
    (2 * r + bit < d → (2 * N + bit) / d = 2 * q ∧ (2 * N + bit) % d = 2 * r + bit) ∧ (d ≤ 2 * r + bit → (2 * N + bit) / d = 2 * q + 1 ∧ (2 * N + bit) % d = 2 * r + bit - d) := by
  constructor
  · intro h
    refine div_of ?_ h
    rw [hN, Nat.mul_assoc]
    omega
  · intro h
    refine div_of ?_ (by omega)
    rw [hN, Nat.add_mul, Nat.mul_assoc, Nat.one_mul]
    omega
theorem high_bit {hi lo k : Nat} (hk : k < 64) : (hi * 18446744073709551616 + lo) / 2 ^ k % 2 = lo / 2 ^ k % 2 := by
  have e : hi * 18446744073709551616 = 2 ^ k * (2 * (hi * 2 ^ (63 - k))) := by
    rw [show (18446744073709551616 : Nat) = 2 ^ k * (2 * 2 ^ (63 - k)) by
      rw [← Nat.pow_succ', ← Nat.pow_add, show k + (63 - k + 1) = 64 by omega]]
    generalize 2 ^ (63 - k) = p
    generalize 2 ^ k = q
    rw [Nat.mul_left_comm hi q, Nat.mul_left_comm hi 2]
  rw [e, Nat.mul_add_div (Nat.two_pow_pos k), Nat.mul_add_mod]
theorem half_step (W k : Nat) : W / 2 ^ k = 2 * (W / 2 ^ (k + 1)) + W / 2 ^ k % 2 := by
  rw [Nat.pow_succ, ← Nat.div_div_eq_div_mul]
  omega
theorem over_core {d r bit t r1 r2 : Nat} (hd : r < d) (hdM : d < 18446744073709551616) (hb : bit < 2) (h1 : r / 2 ^ 63 = t) (h2 : r * 2 ^ 1 % 18446744073709551616 = r1) (h3 : r1 + bit = r2) :
    (t = 1 ∨ t = 0) ∧ r1 < 18446744073709551616 ∧ r2 < 18446744073709551616 ∧ 2 * r + bit = t * 18446744073709551616 + r2 := by
  refine ⟨?_, ?_, ?_, ?_⟩ <;> omega
theorem over_facts {d r q hi lo k : Nat} (hr : r < d) (hdM : d < 18446744073709551616) (hk : k < 64) (hlo : lo < 18446744073709551616) (hhi : hi < d)
    (hN : (hi * 18446744073709551616 + lo) / 2 ^ (k + 1) = q * d + r) :
    ∃ t r1 bit r2 q1 r3 q2 : Nat, Hid (r / 2 ^ 63 = t) ∧ Hid (r * 2 ^ 1 % 18446744073709551616 = r1) ∧ Hid (lo / 2 ^ k % 2 = bit) ∧ Hid (r1 ||| bit = r2) ∧ Hid (q * 2 ^ 1 % 18446744073709551616 = q1) ∧ Hid (((r2 : Int) - d) % 18446744073709551616 = r3) ∧ Hid (q1 ||| 1 = q2) ∧
      r1 < 18446744073709551616 ∧ bit < 18446744073709551616 ∧ q1 < 18446744073709551616 ∧ (t = 1 ∨ t = 0) ∧
      ((t ≠ 1 ∧ ¬ d ≤ r2) → r2 < d ∧ (hi * 18446744073709551616 + lo) / 2 ^ k = q1 * d + r2) ∧ ((t = 1 ∨ d ≤ r2) → r3 < d ∧ (hi * 18446744073709551616 + lo) / 2 ^ k = q2 * d + r3) := by
  have hs := half_step (hi * 18446744073709551616 + lo) k
  rw [high_bit hk, hN] at hs
  obtain ⟨bit, hbit⟩ : ∃ x, lo / 2 ^ k % 2 = x := ⟨_, Eq.refl _⟩
  have hb2 : bit < 2 := by omega
  obtain ⟨s1, s2⟩ := over_step (q := q) (N := q * d + r) hr (Eq.refl _) hb2
  have hle : (hi * 18446744073709551616 + lo) / 2 ^ k / d ≤ (hi * 18446744073709551616 + lo) / d := Nat.div_le_div_right (Nat.div_le_self _ _)
  have hlt : (hi * 18446744073709551616 + lo) / d < 18446744073709551616 := by
    apply Nat.div_lt_of_lt_mul
    have h2 := Nat.mul_le_mul_right 18446744073709551616 (show hi + 1 ≤ d by omega)
    omega
  rw [hbit] at hs
  rw [← hs] at s1 s2
  obtain ⟨X, hX⟩ : ∃ X, (hi * 18446744073709551616 + lo) / 2 ^ k = X := ⟨_, Eq.refl _⟩
  rw [hX] at hs hle s1 s2 ⊢
  have hq2 : 2 * q < 18446744073709551616 := by
    by_cases h : 2 * r + bit < d
    · have := (s1 h).1
      omega
    · have := (s2 (by omega)).1
      omega
  obtain ⟨t, ht⟩ : ∃ x, r / 2 ^ 63 = x := ⟨_, Eq.refl _⟩
  obtain ⟨r1, hr1⟩ : ∃ x, r * 2 ^ 1 % 18446744073709551616 = x := ⟨_, Eq.refl _⟩
  obtain ⟨r2, hr2⟩ : ∃ x, r1 + bit = x := ⟨_, Eq.refl _⟩
  obtain ⟨c1, c2, c3, c4⟩ := over_core hr hdM hb2 ht hr1 hr2
  obtain ⟨r3, hr3⟩ : ∃ x : Nat, ((r2 : Int) - d) % 18446744073709551616 = x := ⟨(((r2 : Int) - d) % 18446744073709551616).toNat, by omega⟩
  have ho : r1 ||| bit = r2 := by
    have : r1 = r1 / 2 * 2 ^ 1 := by omega
    rw [this, or_add (by omega), ← this, hr2]
  have hq1 : q * 2 ^ 1 % 18446744073709551616 = 2 * q := by omega
  have hq3 : 2 * q ||| 1 = 2 * q + 1 := by
    have := or_add (a := q) (b := 1) (s := 1) (by omega)
    rw [show q * 2 ^ 1 = 2 * q by omega] at this
    exact this
  refine ⟨t, r1, bit, r2, 2 * q, r3, 2 * q + 1, ht, hr1, hbit, ho, hq1, hr3, hq3, c2, by omega, hq2, c1, ?_, ?_⟩
  · rintro ⟨h1, h2⟩
    have e := s1 (by omega)
    have := Nat.div_add_mod X d
    rw [e.1, e.2, Nat.mul_comm] at this
    refine ⟨by omega, ?_⟩
    rw [← this]
    omega
  · intro h1
    have e := s2 (by omega)
    have := Nat.div_add_mod X d
    rw [e.1, e.2, Nat.mul_comm] at this
    refine ⟨by omega, ?_⟩
    rw [← this]
    omega
section
variable {R : Nat → Prop} {base w : World} {F : List Hp}
set_option maxRecDepth 100000 in
set_option maxHeartbeats 4000000 in
theorem over_far (hi lo d : Nat) (h : d ≤ hi) (hS : SepL R base w F) :
    Calls Tryd.prog 52 #[.agg #[U hi, U lo], U d] w (Ret fun r w' => r = .tuple #[U 0, U 0, .bool false] ∧ SepL R base w' F) := by
  have HG := decT h
  go_enter Tryd.func52, Tryd.ntmps52
  go_wp2_with (first
    | (show wpList _ _ _ (⟨_, .box _ _, _, _, _, _⟩ :: _) _ _; refine wpS_boxA (cs := [U hi, U lo]) hS rfl rfl rfl ?_; clear hS; intro nb w hS; go_frame)
    | (show wpList _ _ _ (⟨_, .load 29 _, _, _, _, _⟩ :: _) _ _; refine wpList_val rfl (op_load1S oneU ((hS.bring (by repeat (first | exact t0 | apply tS)))) rfl rfl rfl) ?_; go_frame)
    | (show wpList _ _ _ (⟨some 14, .binOp _ _ _ _ _, _, _, _, _⟩ :: _) _ _; refine wpList_val rfl (opU_geq rfl rfl rfl HG.out) ?_; go_frame)
    )
  exact ret_tmp3 rfl rfl rfl rfl rfl ⟨rfl, hS.tail⟩
set_option maxRecDepth 100000 in
set_option maxHeartbeats 4000000 in
theorem over_s (hi lo d : Nat) (h : hi < d) (hdM : d < 18446744073709551616) (hlo : lo < 18446744073709551616) {x y : Nat} (hx : Hid ((hi * 18446744073709551616 + lo) / d = x)) (hy : Hid ((hi * 18446744073709551616 + lo) % d = y)) (hS : SepL R base w F) :
    Calls Tryd.prog 52 #[.agg #[U hi, U lo], U d] w (Ret fun r w' => r = .tuple #[U x, U y, .bool true] ∧ SepL R base w' F) := by
  have HGD := decF (show ¬ d ≤ hi by omega)
  have h64 : (hi * 18446744073709551616 + lo) / 2 ^ 64 = 0 * d + hi := by
    rw [show (2 : Nat) ^ 64 = 18446744073709551616 from rfl, Nat.mul_comm, Nat.mul_add_div (by omega), Nat.div_eq_of_lt hlo]
    omega
  have H64 := hide h64
  clear h64
  have hl := hlo
  go_enter Tryd.func52, Tryd.ntmps52
  go_wp2_with (first
    | (show wpList _ _ _ (⟨_, .box _ _, _, _, _, _⟩ :: _) _ _; refine wpS_boxA (cs := [U hi, U lo]) hS rfl rfl rfl ?_; clear hS; intro nb w hS; go_frame)
    | (show wpList _ _ _ (⟨_, .load 29 _, _, _, _, _⟩ :: _) _ _; refine wpList_val rfl (op_load1S oneU ((hS.bring (by repeat (first | exact t0 | apply tS)))) rfl rfl rfl) ?_; go_frame)
    | (show wpList _ _ _ (⟨some 14, .binOp _ _ _ _ _, _, _, _, _⟩ :: _) _ _; refine wpList_val rfl (opU_geq rfl rfl rfl HGD.out) ?_; go_frame)
    )
  go_loopw [7, 8, 9] (fun rv qv i wr => ∃ (z : Int) (k r q : Nat), i = .int .i64 z ∧ rv = U r ∧ qv = U q ∧ Hid (z = (k : Int) - 1) ∧ k ≤ 64 ∧ r < d ∧ Hid ((hi * 18446744073709551616 + lo) / 2 ^ k = q * d + r) ∧ SepL R base wr (.blk nb 102 [U hi, U lo] :: F)) (fun _ _ i _ => (intOf i + 1).toNat)
  case atStart => exact ⟨63, 64, hi, 0, rfl, rfl, rfl, by simp [Hid], by omega, h, H64, hS⟩
  case round =>
    clear hS H64
    obtain ⟨z, k, r, q, rfl, rfl, rfl, HZ, hk, hrd, HW, hS⟩ := hrel
    rcases k with _ | k
    · have hz : z = -1 := by have := HZ.out; omega
      subst hz
      rw [Nat.pow_zero, Nat.div_one] at HW
      have e1 := div_of HW.out hrd
      rw [hx.out, hy.out] at e1
      have E1 := hide e1
      clear e1 HW HZ
      go_wp2_with fail
      refine ret_tmp3 rfl rfl rfl rfl rfl ⟨?_, hS.tail⟩
      rw [E1.out.1, E1.out.2]
      rfl
    · have hz : z = k := by have := HZ.out; omega
      subst hz
      obtain ⟨t, r1, bit, r2, q1, r3, q2, K1, K2, HBIT, K3, K4, K5, K6, m1, m2, m3, ht, f1, f2⟩ := over_facts hrd hdM (by omega) hlo h HW.out
      have hrM : r < 18446744073709551616 := by omega
      obtain ⟨z2, hz2, hz3, hz4⟩ := dec1 k (by omega)
      have HG := decT (show (0 : Int) ≤ (k : Int) by omega)
      have HC : Hid ((k : Int) % 18446744073709551616 = (k : Nat)) := by
        unfold Hid
        omega
      obtain ⟨b1, hb1⟩ : ∃ x, Hid (lo / 2 ^ k = x) := ⟨_, Eq.refl _⟩
      have hb1M : b1 < 18446744073709551616 := by rw [← hb1.out]; exact Nat.lt_of_le_of_lt (Nat.div_le_self _ _) hlo
      rw [hb1.out] at HBIT
      clear HW
      have HZ2 := hide hz2
      have HZ3 : Hid (z2 = (k : Int) - 1) := hz2.symm
      clear hz2 HZ
      by_cases hL : d ≤ r2
      · obtain ⟨g1, g2⟩ := f2 (.inr hL)
        have G2 := hide g2
        have HL := decT hL
        clear f1 f2 g2 hL
        rcases ht with ht | ht
        · have HT : Hid ((t == 1) = true) := by rw [ht]; rfl
          clear ht
          go_wp2_with (first
            | (show wpList _ _ _ (⟨some 18, .binOp _ _ _ _ _, _, _, _, _⟩ :: _) _ _; refine wpList_val rfl (op_igeq rfl rfl rfl HG.out) ?_; go_frame)
            | (show wpList _ _ _ (⟨some 20, .binOp _ _ _ _ _, _, _, _, _⟩ :: _) _ _; refine wpList_val rfl (opI_sub rfl rfl rfl z2 HZ2.out hz3 hz4) ?_; go_frame)
            | (show wpList _ _ _ (⟨some 22, .binOp _ _ _ _ _, _, _, _, _⟩ :: _) _ _; refine wpList_val rfl (opU_shrN rfl rfl (c := 63) rfl hrM _ K1.out) ?_; go_frame)
            | (show wpList _ _ _ (⟨some 24, .binOp _ _ _ _ _, _, _, _, _⟩ :: _) _ _; refine wpList_val rfl (opU_shlW rfl rfl (c := 1) rfl _ K2.out) ?_; go_frame)
            | (show wpList _ _ _ (⟨_, .load 29 _, _, _, _, _⟩ :: _) _ _; refine wpList_val rfl (op_load1S oneU ((hS.bring (by repeat (first | exact t0 | apply tS)))) rfl rfl rfl) ?_; go_frame)
            | (show wpList _ _ _ (⟨some 28, .convert _ _ _, _, _, _, _⟩ :: _) _ _; refine wpList_val rfl (opU_ofInt Tryd.underlying3 Tryd.underlying73 rfl rfl k HC.out) ?_; go_frame)
            | (show wpList _ _ _ (⟨some 29, .binOp _ _ _ _ _, _, _, _, _⟩ :: _) _ _; refine wpList_val rfl (opU_shrN rfl rfl rfl hl b1 hb1.out) ?_; go_frame)
            | (show wpList _ _ _ (⟨some 30, .binOp _ _ _ _ _, _, _, _, _⟩ :: _) _ _; refine wpList_val rfl (opU_bit0 rfl rfl rfl hb1M) ?_; rw [HBIT.out]; go_frame)
            | (show wpList _ _ _ (⟨some 31, .binOp _ _ _ _ _, _, _, _, _⟩ :: _) _ _; refine wpList_val rfl (opU_or rfl rfl rfl m1 m2 _ K3.out) ?_; go_frame)
            | (show wpList _ _ _ (⟨some 33, .binOp _ _ _ _ _, _, _, _, _⟩ :: _) _ _; refine wpList_val rfl (opU_shlW rfl rfl (c := 1) rfl _ K4.out) ?_; go_frame)
            | (show wpList _ _ _ (⟨some 35, .binOp _ _ _ _ _, _, _, _, _⟩ :: _) _ _; refine wpList_val rfl (opU_eql rfl rfl (b := 1) rfl HT.out) ?_; go_frame)
            | (show wpList _ _ _ (⟨some 39, .binOp _ _ _ _ _, _, _, _, _⟩ :: _) _ _; refine wpList_val rfl (opU_geq rfl rfl rfl HL.out) ?_; go_frame)
            | (show wpList _ _ _ (⟨some 43, .binOp _ _ _ _ _, _, _, _, _⟩ :: _) _ _; refine wpList_val rfl (opU_subW rfl rfl rfl _ K5.out) ?_; go_frame)
            | (show wpList _ _ _ (⟨some 45, .binOp _ _ _ _ _, _, _, _, _⟩ :: _) _ _; refine wpList_val rfl (opU_or rfl rfl (b := 1) rfl m3 (by omega) _ K6.out) ?_; go_frame)
            )
          go_roundw
          case rel => exact ⟨z2, k, r3, q2, rfl, rfl, rfl, HZ3, by omega, g1, G2, hS.sel (by repeat (first | exact Sel.refl | refine Sel.take (by repeat (first | exact t0 | apply tS)) ?_ | apply Sel.drop))⟩
          case measure => simp [intOf]; have := HZ3.out; omega
        · have HT : Hid ((t == 1) = false) := by rw [ht]; rfl
          clear ht
          go_wp2_with (first
            | (show wpList _ _ _ (⟨some 18, .binOp _ _ _ _ _, _, _, _, _⟩ :: _) _ _; refine wpList_val rfl (op_igeq rfl rfl rfl HG.out) ?_; go_frame)
            | (show wpList _ _ _ (⟨some 20, .binOp _ _ _ _ _, _, _, _, _⟩ :: _) _ _; refine wpList_val rfl (opI_sub rfl rfl rfl z2 HZ2.out hz3 hz4) ?_; go_frame)
            | (show wpList _ _ _ (⟨some 22, .binOp _ _ _ _ _, _, _, _, _⟩ :: _) _ _; refine wpList_val rfl (opU_shrN rfl rfl (c := 63) rfl hrM _ K1.out) ?_; go_frame)
            | (show wpList _ _ _ (⟨some 24, .binOp _ _ _ _ _, _, _, _, _⟩ :: _) _ _; refine wpList_val rfl (opU_shlW rfl rfl (c := 1) rfl _ K2.out) ?_; go_frame)
            | (show wpList _ _ _ (⟨_, .load 29 _, _, _, _, _⟩ :: _) _ _; refine wpList_val rfl (op_load1S oneU ((hS.bring (by repeat (first | exact t0 | apply tS)))) rfl rfl rfl) ?_; go_frame)
            | (show wpList _ _ _ (⟨some 28, .convert _ _ _, _, _, _, _⟩ :: _) _ _; refine wpList_val rfl (opU_ofInt Tryd.underlying3 Tryd.underlying73 rfl rfl k HC.out) ?_; go_frame)
            | (show wpList _ _ _ (⟨some 29, .binOp _ _ _ _ _, _, _, _, _⟩ :: _) _ _; refine wpList_val rfl (opU_shrN rfl rfl rfl hl b1 hb1.out) ?_; go_frame)
            | (show wpList _ _ _ (⟨some 30, .binOp _ _ _ _ _, _, _, _, _⟩ :: _) _ _; refine wpList_val rfl (opU_bit0 rfl rfl rfl hb1M) ?_; rw [HBIT.out]; go_frame)
            | (show wpList _ _ _ (⟨some 31, .binOp _ _ _ _ _, _, _, _, _⟩ :: _) _ _; refine wpList_val rfl (opU_or rfl rfl rfl m1 m2 _ K3.out) ?_; go_frame)
            | (show wpList _ _ _ (⟨some 33, .binOp _ _ _ _ _, _, _, _, _⟩ :: _) _ _; refine wpList_val rfl (opU_shlW rfl rfl (c := 1) rfl _ K4.out) ?_; go_frame)
            | (show wpList _ _ _ (⟨some 35, .binOp _ _ _ _ _, _, _, _, _⟩ :: _) _ _; refine wpList_val rfl (opU_eql rfl rfl (b := 1) rfl HT.out) ?_; go_frame)
            | (show wpList _ _ _ (⟨some 39, .binOp _ _ _ _ _, _, _, _, _⟩ :: _) _ _; refine wpList_val rfl (opU_geq rfl rfl rfl HL.out) ?_; go_frame)
            | (show wpList _ _ _ (⟨some 43, .binOp _ _ _ _ _, _, _, _, _⟩ :: _) _ _; refine wpList_val rfl (opU_subW rfl rfl rfl _ K5.out) ?_; go_frame)
            | (show wpList _ _ _ (⟨some 45, .binOp _ _ _ _ _, _, _, _, _⟩ :: _) _ _; refine wpList_val rfl (opU_or rfl rfl (b := 1) rfl m3 (by omega) _ K6.out) ?_; go_frame)
            )
          go_roundw
          case rel => exact ⟨z2, k, r3, q2, rfl, rfl, rfl, HZ3, by omega, g1, G2, hS.sel (by repeat (first | exact Sel.refl | refine Sel.take (by repeat (first | exact t0 | apply tS)) ?_ | apply Sel.drop))⟩
          case measure => simp [intOf]; have := HZ3.out; omega
      · rcases ht with ht | ht
        · obtain ⟨g1, g2⟩ := f2 (.inl ht)
          have G2 := hide g2
          have HL := decF hL
          have HT : Hid ((t == 1) = true) := by rw [ht]; rfl
          clear f1 f2 g2 hL ht
          go_wp2_with (first
            | (show wpList _ _ _ (⟨some 18, .binOp _ _ _ _ _, _, _, _, _⟩ :: _) _ _; refine wpList_val rfl (op_igeq rfl rfl rfl HG.out) ?_; go_frame)
            | (show wpList _ _ _ (⟨some 20, .binOp _ _ _ _ _, _, _, _, _⟩ :: _) _ _; refine wpList_val rfl (opI_sub rfl rfl rfl z2 HZ2.out hz3 hz4) ?_; go_frame)
            | (show wpList _ _ _ (⟨some 22, .binOp _ _ _ _ _, _, _, _, _⟩ :: _) _ _; refine wpList_val rfl (opU_shrN rfl rfl (c := 63) rfl hrM _ K1.out) ?_; go_frame)
            | (show wpList _ _ _ (⟨some 24, .binOp _ _ _ _ _, _, _, _, _⟩ :: _) _ _; refine wpList_val rfl (opU_shlW rfl rfl (c := 1) rfl _ K2.out) ?_; go_frame)
            | (show wpList _ _ _ (⟨_, .load 29 _, _, _, _, _⟩ :: _) _ _; refine wpList_val rfl (op_load1S oneU ((hS.bring (by repeat (first | exact t0 | apply tS)))) rfl rfl rfl) ?_; go_frame)
            | (show wpList _ _ _ (⟨some 28, .convert _ _ _, _, _, _, _⟩ :: _) _ _; refine wpList_val rfl (opU_ofInt Tryd.underlying3 Tryd.underlying73 rfl rfl k HC.out) ?_; go_frame)
            | (show wpList _ _ _ (⟨some 29, .binOp _ _ _ _ _, _, _, _, _⟩ :: _) _ _; refine wpList_val rfl (opU_shrN rfl rfl rfl hl b1 hb1.out) ?_; go_frame)
            | (show wpList _ _ _ (⟨some 30, .binOp _ _ _ _ _, _, _, _, _⟩ :: _) _ _; refine wpList_val rfl (opU_bit0 rfl rfl rfl hb1M) ?_; rw [HBIT.out]; go_frame)
            | (show wpList _ _ _ (⟨some 31, .binOp _ _ _ _ _, _, _, _, _⟩ :: _) _ _; refine wpList_val rfl (opU_or rfl rfl rfl m1 m2 _ K3.out) ?_; go_frame)
            | (show wpList _ _ _ (⟨some 33, .binOp _ _ _ _ _, _, _, _, _⟩ :: _) _ _; refine wpList_val rfl (opU_shlW rfl rfl (c := 1) rfl _ K4.out) ?_; go_frame)
            | (show wpList _ _ _ (⟨some 35, .binOp _ _ _ _ _, _, _, _, _⟩ :: _) _ _; refine wpList_val rfl (opU_eql rfl rfl (b := 1) rfl HT.out) ?_; go_frame)
            | (show wpList _ _ _ (⟨some 39, .binOp _ _ _ _ _, _, _, _, _⟩ :: _) _ _; refine wpList_val rfl (opU_geq rfl rfl rfl HL.out) ?_; go_frame)
            | (show wpList _ _ _ (⟨some 43, .binOp _ _ _ _ _, _, _, _, _⟩ :: _) _ _; refine wpList_val rfl (opU_subW rfl rfl rfl _ K5.out) ?_; go_frame)
            | (show wpList _ _ _ (⟨some 45, .binOp _ _ _ _ _, _, _, _, _⟩ :: _) _ _; refine wpList_val rfl (opU_or rfl rfl (b := 1) rfl m3 (by omega) _ K6.out) ?_; go_frame)
            )
          go_roundw
          case rel => exact ⟨z2, k, r3, q2, rfl, rfl, rfl, HZ3, by omega, g1, G2, hS.sel (by repeat (first | exact Sel.refl | refine Sel.take (by repeat (first | exact t0 | apply tS)) ?_ | apply Sel.drop))⟩
          case measure => simp [intOf]; have := HZ3.out; omega
        · obtain ⟨g1, g2⟩ := f1 ⟨by omega, hL⟩
          have G2 := hide g2
          have HL := decF hL
          have HT : Hid ((t == 1) = false) := by rw [ht]; rfl
          clear f1 f2 g2 hL ht
          go_wp2_with (first
            | (show wpList _ _ _ (⟨some 18, .binOp _ _ _ _ _, _, _, _, _⟩ :: _) _ _; refine wpList_val rfl (op_igeq rfl rfl rfl HG.out) ?_; go_frame)
            | (show wpList _ _ _ (⟨some 20, .binOp _ _ _ _ _, _, _, _, _⟩ :: _) _ _; refine wpList_val rfl (opI_sub rfl rfl rfl z2 HZ2.out hz3 hz4) ?_; go_frame)
            | (show wpList _ _ _ (⟨some 22, .binOp _ _ _ _ _, _, _, _, _⟩ :: _) _ _; refine wpList_val rfl (opU_shrN rfl rfl (c := 63) rfl hrM _ K1.out) ?_; go_frame)
            | (show wpList _ _ _ (⟨some 24, .binOp _ _ _ _ _, _, _, _, _⟩ :: _) _ _; refine wpList_val rfl (opU_shlW rfl rfl (c := 1) rfl _ K2.out) ?_; go_frame)
            | (show wpList _ _ _ (⟨_, .load 29 _, _, _, _, _⟩ :: _) _ _; refine wpList_val rfl (op_load1S oneU ((hS.bring (by repeat (first | exact t0 | apply tS)))) rfl rfl rfl) ?_; go_frame)
            | (show wpList _ _ _ (⟨some 28, .convert _ _ _, _, _, _, _⟩ :: _) _ _; refine wpList_val rfl (opU_ofInt Tryd.underlying3 Tryd.underlying73 rfl rfl k HC.out) ?_; go_frame)
            | (show wpList _ _ _ (⟨some 29, .binOp _ _ _ _ _, _, _, _, _⟩ :: _) _ _; refine wpList_val rfl (opU_shrN rfl rfl rfl hl b1 hb1.out) ?_; go_frame)
            | (show wpList _ _ _ (⟨some 30, .binOp _ _ _ _ _, _, _, _, _⟩ :: _) _ _; refine wpList_val rfl (opU_bit0 rfl rfl rfl hb1M) ?_; rw [HBIT.out]; go_frame)
            | (show wpList _ _ _ (⟨some 31, .binOp _ _ _ _ _, _, _, _, _⟩ :: _) _ _; refine wpList_val rfl (opU_or rfl rfl rfl m1 m2 _ K3.out) ?_; go_frame)
            | (show wpList _ _ _ (⟨some 33, .binOp _ _ _ _ _, _, _, _, _⟩ :: _) _ _; refine wpList_val rfl (opU_shlW rfl rfl (c := 1) rfl _ K4.out) ?_; go_frame)
            | (show wpList _ _ _ (⟨some 35, .binOp _ _ _ _ _, _, _, _, _⟩ :: _) _ _; refine wpList_val rfl (opU_eql rfl rfl (b := 1) rfl HT.out) ?_; go_frame)
            | (show wpList _ _ _ (⟨some 39, .binOp _ _ _ _ _, _, _, _, _⟩ :: _) _ _; refine wpList_val rfl (opU_geq rfl rfl rfl HL.out) ?_; go_frame)
            | (show wpList _ _ _ (⟨some 43, .binOp _ _ _ _ _, _, _, _, _⟩ :: _) _ _; refine wpList_val rfl (opU_subW rfl rfl rfl _ K5.out) ?_; go_frame)
            | (show wpList _ _ _ (⟨some 45, .binOp _ _ _ _ _, _, _, _, _⟩ :: _) _ _; refine wpList_val rfl (opU_or rfl rfl (b := 1) rfl m3 (by omega) _ K6.out) ?_; go_frame)
            )
          go_roundw
          case rel => exact ⟨z2, k, r2, q1, rfl, rfl, rfl, HZ3, by omega, g1, G2, hS.sel (by repeat (first | exact Sel.refl | refine Sel.take (by repeat (first | exact t0 | apply tS)) ?_ | apply Sel.drop))⟩
          case measure => simp [intOf]; have := HZ3.out; omega
end
end Go.Proofs.YtieobcaegegboaaDoor
namespace Go.Proofs.YtieobcaegegboaaDoor
open Go.RowKit Go.Px Go.Shelf Go.Calc
theorem part0 (a b : Nat) (w : World) : (part 29 #[U a, U b] 0).run Tryd.prog w = .ok (U a) w := by kernel_rfl
theorem part1 (a b : Nat) (w : World) : (part 29 #[U a, U b] 1).run Tryd.prog w = .ok (U b) w := by kernel_rfl
theorem equalU (a b d : Nat) (w : World) : (Op.equalIn (d + 1) 29 (U a) (U b)).run Tryd.prog w = .ok (a == b) w := by
  have e : ((a : Int) == (b : Int)) = (a == b) := by
    rw [Bool.eq_iff_iff, beq_iff_eq, beq_iff_eq]
    omega
  unfold U
  rw [run_equalIn_int w d _ _ _ _ _ Tryd.underlying29, e]
theorem equalW (x y z t : Nat) (w : World) : (Op.equal 102 (.agg #[U x, U y]) (.agg #[U z, U t])).run Tryd.prog w = .ok (x == z && y == t) w := by
  unfold Op.equal
  show (Op.equalIn (9999 + 1) _ _ _).run _ _ = _
  unfold Op.equalIn
  simp [Sem.run_bind, run_underlying Tryd.underlying102, part0, part1, equalU _ _ 9998]
  by_cases h : x = z <;> by_cases h' : y = t <;> simp [h, h']
theorem op_eqW {o : Oper} {ρ : Operand → Value} {w : World} {x y : Operand} {t : TypeId} (ho : o.op = .binOp .eql 102 x y t) {a b c d : Nat} (hx : ρ x = .agg #[U a, U b]) (hy : ρ y = .agg #[U c, U d]) {r : Bool} (hr : (a == c && b == d) = r) :
    (execOp ρ o).run Tryd.prog w = .ok (.value (.bool r)) w := by
  unfold execOp
  have hb : (binOp .eql 102 (.agg #[U a, U b]) (.agg #[U c, U d])).run Tryd.prog w = .ok (.bool r) w := by
    simp [binOp, equalW, hr]
  simp [ho, hx, hy, Sem.run_bind, Go.Px.run_eqGuard_agg (P := Tryd.prog) (k := 102) (by kernel_rfl), hb]
theorem words_eq (x y : Nat) : x = y ↔ x / 18446744073709551616 = y / 18446744073709551616 ∧ x % 18446744073709551616 = y % 18446744073709551616 := by
  constructor
  · rintro rfl
    exact ⟨rfl, rfl⟩
  · rintro ⟨h1, h2⟩
    have e1 := Nat.div_add_mod x 18446744073709551616
    have e2 := Nat.div_add_mod y 18446744073709551616
    rw [h1, h2] at e1
    exact e1.symm.trans e2
theorem words_lt (x y : Nat) : x < y ↔ x / 18446744073709551616 < y / 18446744073709551616 ∨ (x / 18446744073709551616 = y / 18446744073709551616 ∧ x % 18446744073709551616 < y % 18446744073709551616) := by
  omega
section
variable {R : Nat → Prop} {base w : World} {F : List Hp}
set_option maxRecDepth 100000 in
set_option maxHeartbeats 1000000 in
theorem rcmp_s (a b c d : Nat) (ha : a < 18446744073709551616) (hb : b < 18446744073709551616) (hc : c < 18446744073709551616) (hd : d < 18446744073709551616) (hS : SepL R base w F) :
    Calls Tryd.prog 40 #[U a, U b, U c, U d] w (Ret fun r w' => r = .int .i64 (cmpN (a * b) (c * d)) ∧ SepL R base w' F) := by
  have hE := words_eq (a * b) (c * d)
  have hL := words_lt (a * b) (c * d)
  have hG := words_lt (c * d) (a * b)
  obtain ⟨p1, H1⟩ : ∃ p, Hid (a * b / 18446744073709551616 = p) := ⟨_, Eq.refl _⟩
  obtain ⟨p2, H2⟩ : ∃ p, Hid (a * b % 18446744073709551616 = p) := ⟨_, Eq.refl _⟩
  obtain ⟨q1, H3⟩ : ∃ p, Hid (c * d / 18446744073709551616 = p) := ⟨_, Eq.refl _⟩
  obtain ⟨q2, H4⟩ : ∃ p, Hid (c * d % 18446744073709551616 = p) := ⟨_, Eq.refl _⟩
  rw [H1.out, H2.out, H3.out, H4.out] at hE hL hG
  have T1 : ∀ {w : World} {F : List Hp}, SepL R base w F → Calls Tryd.prog 53 #[U a, U b] w (Ret fun r w' => r = .agg #[U p1, U p2] ∧ SepL R base w' F) := fun hS => times_s a b ha hb H1 H2 hS
  have T2 : ∀ {w : World} {F : List Hp}, SepL R base w F → Calls Tryd.prog 53 #[U c, U d] w (Ret fun r w' => r = .agg #[U q1, U q2] ∧ SepL R base w' F) := fun hS => times_s c d hc hd H3 H4 hS
  clear H1 H2 H3 H4
  have c1 := @cmp_lt (a * b) (c * d)
  have c2 := @cmp_eq (a * b) (c * d)
  have c3 := @cmp_gt (a * b) (c * d)
  generalize cmpN (a * b) (c * d) = r at *
  generalize a * b = p at *
  generalize c * d = q at *
  by_cases h1 : p1 < q1
  · have HR := hide (c1 (hL.2 (.inl h1)))
    have HQ : Hid ((p1 == q1 && p2 == q2) = false) := by
      unfold Hid
      rw [Bool.and_eq_false_iff, beq_eq_false_iff_ne]
      left
      omega
    have HL1 := decT h1
    clear hE hL hG c1 c2 c3 h1
    go_enter Tryd.func40, Tryd.ntmps40
    go_wp2_with (first
      | go_big_skip
      | (go_at_call 53; (first | (with_reducible refine Ret.calls (T1 hS) ?_) | (with_reducible refine Ret.calls (T2 hS) ?_)); clear hS; rintro r w ⟨rfl, hS⟩)
      | (show wpList _ _ _ (⟨_, .alloc 102, _, _, _, _⟩ :: _) _ _; refine wpS_alloc hS rfl rfl Tryd.zeroValue102 (zs := [U 0, U 0]) rfl ?_; clear hS; intro nb w hS; go_frame)
      | (show wpList _ _ _ (⟨_, .store 102 _ (.tmp 13), _, _, _, _⟩ :: _) _ _; (refine wpS_storeAll aggW (hS.bring (by repeat (first | exact t0 | apply tS))) rfl rfl rfl (vs := [U p1, U p2]) rfl rfl (by simp [U, Value.oneCell']) rfl ?_); clear hS; intro w hS; go_frame)
      | (show wpList _ _ _ (⟨_, .store 102 _ (.tmp 16), _, _, _, _⟩ :: _) _ _; (refine wpS_storeAll aggW (hS.bring (by repeat (first | exact t0 | apply tS))) rfl rfl rfl (vs := [U q1, U q2]) rfl rfl (by simp [U, Value.oneCell']) rfl ?_); clear hS; intro w hS; go_frame)
      | (show wpList _ _ _ (⟨_, .load 102 _, _, _, _, _⟩ :: _) _ _; refine wpList_val rfl (op_load aggW rfl rfl ((hS.bring (by repeat (first | exact t0 | apply tS))).getBlk.cells) rfl) ?_; go_frame)
      | (show wpList _ _ _ (⟨_, .load 29 _, _, _, _, _⟩ :: _) _ _; refine wpList_val rfl (op_load1S oneU ((hS.bring (by repeat (first | exact t0 | apply tS)))) rfl rfl rfl) ?_; go_frame)
      | (show wpList _ _ _ (⟨some 19, .binOp _ _ _ _ _, _, _, _, _⟩ :: _) _ _; refine wpList_val rfl (op_eqW rfl rfl rfl HQ.out) ?_; go_frame)
      | (show wpList _ _ _ (⟨some 24, .binOp _ _ _ _ _, _, _, _, _⟩ :: _) _ _; refine wpList_val rfl (opU_lss rfl rfl rfl HL1.out) ?_; go_frame)
      | (show wpList _ _ _ (⟨some 30, .binOp _ _ _ _ _, _, _, _, _⟩ :: _) _ _; refine wpList_val rfl (opU_eql rfl rfl rfl HE1.out) ?_; go_frame)
      | (show wpList _ _ _ (⟨some 36, .binOp _ _ _ _ _, _, _, _, _⟩ :: _) _ _; refine wpList_val rfl (opU_lss rfl rfl rfl HL2.out) ?_; go_frame)
      )
    go_ret
    exact ⟨congrArg (Value.int .i64) HR.out.symm, hS.tail.tail⟩
  · have HL1 := decF h1
    by_cases h2 : p1 = q1
    · have HE1 : Hid ((p1 == q1) = true) := by
        unfold Hid
        rw [beq_iff_eq]
        exact h2
      by_cases h3 : p2 < q2
      · have HR := hide (c1 (hL.2 (.inr ⟨h2, h3⟩)))
        have HQ : Hid ((p1 == q1 && p2 == q2) = false) := by
          unfold Hid
          rw [Bool.and_eq_false_iff, beq_eq_false_iff_ne, beq_eq_false_iff_ne]
          right
          omega
        have HL2 := decT h3
        clear hE hL hG c1 c2 c3 h1 h2 h3
        go_enter Tryd.func40, Tryd.ntmps40
        go_wp2_with (first
          | go_big_skip
          | (go_at_call 53; (first | (with_reducible refine Ret.calls (T1 hS) ?_) | (with_reducible refine Ret.calls (T2 hS) ?_)); clear hS; rintro r w ⟨rfl, hS⟩)
          | (show wpList _ _ _ (⟨_, .alloc 102, _, _, _, _⟩ :: _) _ _; refine wpS_alloc hS rfl rfl Tryd.zeroValue102 (zs := [U 0, U 0]) rfl ?_; clear hS; intro nb w hS; go_frame)
          | (show wpList _ _ _ (⟨_, .store 102 _ (.tmp 13), _, _, _, _⟩ :: _) _ _; (refine wpS_storeAll aggW (hS.bring (by repeat (first | exact t0 | apply tS))) rfl rfl rfl (vs := [U p1, U p2]) rfl rfl (by simp [U, Value.oneCell']) rfl ?_); clear hS; intro w hS; go_frame)
          | (show wpList _ _ _ (⟨_, .store 102 _ (.tmp 16), _, _, _, _⟩ :: _) _ _; (refine wpS_storeAll aggW (hS.bring (by repeat (first | exact t0 | apply tS))) rfl rfl rfl (vs := [U q1, U q2]) rfl rfl (by simp [U, Value.oneCell']) rfl ?_); clear hS; intro w hS; go_frame)
          | (show wpList _ _ _ (⟨_, .load 102 _, _, _, _, _⟩ :: _) _ _; refine wpList_val rfl (op_load aggW rfl rfl ((hS.bring (by repeat (first | exact t0 | apply tS))).getBlk.cells) rfl) ?_; go_frame)
          | (show wpList _ _ _ (⟨_, .load 29 _, _, _, _, _⟩ :: _) _ _; refine wpList_val rfl (op_load1S oneU ((hS.bring (by repeat (first | exact t0 | apply tS)))) rfl rfl rfl) ?_; go_frame)
          | (show wpList _ _ _ (⟨some 19, .binOp _ _ _ _ _, _, _, _, _⟩ :: _) _ _; refine wpList_val rfl (op_eqW rfl rfl rfl HQ.out) ?_; go_frame)
          | (show wpList _ _ _ (⟨some 24, .binOp _ _ _ _ _, _, _, _, _⟩ :: _) _ _; refine wpList_val rfl (opU_lss rfl rfl rfl HL1.out) ?_; go_frame)
          | (show wpList _ _ _ (⟨some 30, .binOp _ _ _ _ _, _, _, _, _⟩ :: _) _ _; refine wpList_val rfl (opU_eql rfl rfl rfl HE1.out) ?_; go_frame)
          | (show wpList _ _ _ (⟨some 36, .binOp _ _ _ _ _, _, _, _, _⟩ :: _) _ _; refine wpList_val rfl (opU_lss rfl rfl rfl HL2.out) ?_; go_frame)
          )
        go_ret
        exact ⟨congrArg (Value.int .i64) HR.out.symm, hS.tail.tail⟩
      · have HL2 := decF h3
        by_cases h4 : p2 = q2
        · have HR := hide (c2 (hE.2 ⟨h2, h4⟩))
          have HQ : Hid ((p1 == q1 && p2 == q2) = true) := by
            unfold Hid
            rw [Bool.and_eq_true_iff, beq_iff_eq, beq_iff_eq]
            exact ⟨h2, h4⟩
          clear hE hL hG c1 c2 c3 h1 h2 h3 h4
          go_enter Tryd.func40, Tryd.ntmps40
          go_wp2_with (first
            | go_big_skip
            | (go_at_call 53; (first | (with_reducible refine Ret.calls (T1 hS) ?_) | (with_reducible refine Ret.calls (T2 hS) ?_)); clear hS; rintro r w ⟨rfl, hS⟩)
            | (show wpList _ _ _ (⟨_, .alloc 102, _, _, _, _⟩ :: _) _ _; refine wpS_alloc hS rfl rfl Tryd.zeroValue102 (zs := [U 0, U 0]) rfl ?_; clear hS; intro nb w hS; go_frame)
            | (show wpList _ _ _ (⟨_, .store 102 _ (.tmp 13), _, _, _, _⟩ :: _) _ _; (refine wpS_storeAll aggW (hS.bring (by repeat (first | exact t0 | apply tS))) rfl rfl rfl (vs := [U p1, U p2]) rfl rfl (by simp [U, Value.oneCell']) rfl ?_); clear hS; intro w hS; go_frame)
            | (show wpList _ _ _ (⟨_, .store 102 _ (.tmp 16), _, _, _, _⟩ :: _) _ _; (refine wpS_storeAll aggW (hS.bring (by repeat (first | exact t0 | apply tS))) rfl rfl rfl (vs := [U q1, U q2]) rfl rfl (by simp [U, Value.oneCell']) rfl ?_); clear hS; intro w hS; go_frame)
            | (show wpList _ _ _ (⟨_, .load 102 _, _, _, _, _⟩ :: _) _ _; refine wpList_val rfl (op_load aggW rfl rfl ((hS.bring (by repeat (first | exact t0 | apply tS))).getBlk.cells) rfl) ?_; go_frame)
            | (show wpList _ _ _ (⟨_, .load 29 _, _, _, _, _⟩ :: _) _ _; refine wpList_val rfl (op_load1S oneU ((hS.bring (by repeat (first | exact t0 | apply tS)))) rfl rfl rfl) ?_; go_frame)
            | (show wpList _ _ _ (⟨some 19, .binOp _ _ _ _ _, _, _, _, _⟩ :: _) _ _; refine wpList_val rfl (op_eqW rfl rfl rfl HQ.out) ?_; go_frame)
            | (show wpList _ _ _ (⟨some 24, .binOp _ _ _ _ _, _, _, _, _⟩ :: _) _ _; refine wpList_val rfl (opU_lss rfl rfl rfl HL1.out) ?_; go_frame)
            | (show wpList _ _ _ (⟨some 30, .binOp _ _ _ _ _, _, _, _, _⟩ :: _) _ _; refine wpList_val rfl (opU_eql rfl rfl rfl HE1.out) ?_; go_frame)
            | (show wpList _ _ _ (⟨some 36, .binOp _ _ _ _ _, _, _, _, _⟩ :: _) _ _; refine wpList_val rfl (opU_lss rfl rfl rfl HL2.out) ?_; go_frame)
            )
          go_ret
          exact ⟨congrArg (Value.int .i64) HR.out.symm, hS.tail.tail⟩
        · have HR := hide (c3 (hG.2 (.inr ⟨h2.symm, by omega⟩)))
          have HQ : Hid ((p1 == q1 && p2 == q2) = false) := by
            unfold Hid
            rw [Bool.and_eq_false_iff, beq_eq_false_iff_ne, beq_eq_false_iff_ne]
            right
            omega
          clear hE hL hG c1 c2 c3 h1 h2 h3 h4
          go_enter Tryd.func40, Tryd.ntmps40
          go_wp2_with (first
            | go_big_skip
            | (go_at_call 53; (first | (with_reducible refine Ret.calls (T1 hS) ?_) | (with_reducible refine Ret.calls (T2 hS) ?_)); clear hS; rintro r w ⟨rfl, hS⟩)
            | (show wpList _ _ _ (⟨_, .alloc 102, _, _, _, _⟩ :: _) _ _; refine wpS_alloc hS rfl rfl Tryd.zeroValue102 (zs := [U 0, U 0]) rfl ?_; clear hS; intro nb w hS; go_frame)
            | (show wpList _ _ _ (⟨_, .store 102 _ (.tmp 13), _, _, _, _⟩ :: _) _ _; (refine wpS_storeAll aggW (hS.bring (by repeat (first | exact t0 | apply tS))) rfl rfl rfl (vs := [U p1, U p2]) rfl rfl (by simp [U, Value.oneCell']) rfl ?_); clear hS; intro w hS; go_frame)
            | (show wpList _ _ _ (⟨_, .store 102 _ (.tmp 16), _, _, _, _⟩ :: _) _ _; (refine wpS_storeAll aggW (hS.bring (by repeat (first | exact t0 | apply tS))) rfl rfl rfl (vs := [U q1, U q2]) rfl rfl (by simp [U, Value.oneCell']) rfl ?_); clear hS; intro w hS; go_frame)
            | (show wpList _ _ _ (⟨_, .load 102 _, _, _, _, _⟩ :: _) _ _; refine wpList_val rfl (op_load aggW rfl rfl ((hS.bring (by repeat (first | exact t0 | apply tS))).getBlk.cells) rfl) ?_; go_frame)
            | (show wpList _ _ _ (⟨_, .load 29 _, _, _, _, _⟩ :: _) _ _; refine wpList_val rfl (op_load1S oneU ((hS.bring (by repeat (first | exact t0 | apply tS)))) rfl rfl rfl) ?_; go_frame)
            | (show wpList _ _ _ (⟨some 19, .binOp _ _ _ _ _, _, _, _, _⟩ :: _) _ _; refine wpList_val rfl (op_eqW rfl rfl rfl HQ.out) ?_; go_frame)
            | (show wpList _ _ _ (⟨some 24, .binOp _ _ _ _ _, _, _, _, _⟩ :: _) _ _; refine wpList_val rfl (opU_lss rfl rfl rfl HL1.out) ?_; go_frame)
            | (show wpList _ _ _ (⟨some 30, .binOp _ _ _ _ _, _, _, _, _⟩ :: _) _ _; refine wpList_val rfl (opU_eql rfl rfl rfl HE1.out) ?_; go_frame)
            | (show wpList _ _ _ (⟨some 36, .binOp _ _ _ _ _, _, _, _, _⟩ :: _) _ _; refine wpList_val rfl (opU_lss rfl rfl rfl HL2.out) ?_; go_frame)
            )
          go_ret
          exact ⟨congrArg (Value.int .i64) HR.out.symm, hS.tail.tail⟩
    · have HR := hide (c3 (hG.2 (.inl (by omega))))
      have HE1 := beqF h2
      have HQ : Hid ((p1 == q1 && p2 == q2) = false) := by
        unfold Hid
        rw [Bool.and_eq_false_iff, beq_eq_false_iff_ne]
        left
        omega
      clear hE hL hG c1 c2 c3 h1 h2
      go_enter Tryd.func40, Tryd.ntmps40
      go_wp2_with (first
        | go_big_skip
        | (go_at_call 53; (first | (with_reducible refine Ret.calls (T1 hS) ?_) | (with_reducible refine Ret.calls (T2 hS) ?_)); clear hS; rintro r w ⟨rfl, hS⟩)
        | (show wpList _ _ _ (⟨_, .alloc 102, _, _, _, _⟩ :: _) _ _; refine wpS_alloc hS rfl rfl Tryd.zeroValue102 (zs := [U 0, U 0]) rfl ?_; clear hS; intro nb w hS; go_frame)
        | (show wpList _ _ _ (⟨_, .store 102 _ (.tmp 13), _, _, _, _⟩ :: _) _ _; (refine wpS_storeAll aggW (hS.bring (by repeat (first | exact t0 | apply tS))) rfl rfl rfl (vs := [U p1, U p2]) rfl rfl (by simp [U, Value.oneCell']) rfl ?_); clear hS; intro w hS; go_frame)
        | (show wpList _ _ _ (⟨_, .store 102 _ (.tmp 16), _, _, _, _⟩ :: _) _ _; (refine wpS_storeAll aggW (hS.bring (by repeat (first | exact t0 | apply tS))) rfl rfl rfl (vs := [U q1, U q2]) rfl rfl (by simp [U, Value.oneCell']) rfl ?_); clear hS; intro w hS; go_frame)
        | (show wpList _ _ _ (⟨_, .load 102 _, _, _, _, _⟩ :: _) _ _; refine wpList_val rfl (op_load aggW rfl rfl ((hS.bring (by repeat (first | exact t0 | apply tS))).getBlk.cells) rfl) ?_; go_frame)
        | (show wpList _ _ _ (⟨_, .load 29 _, _, _, _, _⟩ :: _) _ _; refine wpList_val rfl (op_load1S oneU ((hS.bring (by repeat (first | exact t0 | apply tS)))) rfl rfl rfl) ?_; go_frame)
        | (show wpList _ _ _ (⟨some 19, .binOp _ _ _ _ _, _, _, _, _⟩ :: _) _ _; refine wpList_val rfl (op_eqW rfl rfl rfl HQ.out) ?_; go_frame)
        | (show wpList _ _ _ (⟨some 24, .binOp _ _ _ _ _, _, _, _, _⟩ :: _) _ _; refine wpList_val rfl (opU_lss rfl rfl rfl HL1.out) ?_; go_frame)
        | (show wpList _ _ _ (⟨some 30, .binOp _ _ _ _ _, _, _, _, _⟩ :: _) _ _; refine wpList_val rfl (opU_eql rfl rfl rfl HE1.out) ?_; go_frame)
        | (show wpList _ _ _ (⟨some 36, .binOp _ _ _ _ _, _, _, _, _⟩ :: _) _ _; refine wpList_val rfl (opU_lss rfl rfl rfl HL2.out) ?_; go_frame)
        )
      go_ret
      exact ⟨congrArg (Value.int .i64) HR.out.symm, hS.tail.tail⟩
set_option maxRecDepth 100000 in
set_option maxHeartbeats 4000000 in
theorem rneed_s (x n : Nat) (hx : x < 18446744073709551616) (hn : n < 18446744073709551616) (hS : SepL R base w F) :
    Calls Tryd.prog 36 #[U x, U n] w (Ret fun r w' => r = .tuple #[U (needN x n), .int .i64 (needE x n)] ∧ SepL R base w' F) := by
  obtain ⟨h, H1⟩ : ∃ h, Hid (x * n / 18446744073709551616 = h) := ⟨_, Eq.refl _⟩
  obtain ⟨l, H2⟩ : ∃ h, Hid (x * n % 18446744073709551616 = h) := ⟨_, Eq.refl _⟩
  have hl : l < 18446744073709551616 := by rw [← H2.out]; exact Nat.mod_lt _ (by omega)
  have hN : h * 18446744073709551616 + l = x * n := by rw [← H1.out, ← H2.out]; exact two_words _
  have T1 : ∀ {w : World} {F : List Hp}, SepL R base w F → Calls Tryd.prog 53 #[U x, U n] w (Ret fun r w' => r = .agg #[U h, U l] ∧ SepL R base w' F) := fun hS => times_s x n hx hn H1 H2 hS
  have f1 := @need_far x n
  have f2 := @need_near x n
  have hc : needC x n = (x * n + 999) / 1000 := by unfold needC; rfl
  have hh := H1.out
  obtain ⟨q, hq⟩ : ∃ q, Hid (x * n / 1000 = q) := ⟨_, Eq.refl _⟩
  obtain ⟨r, hr⟩ : ∃ q, Hid (x * n % 1000 = q) := ⟨_, Eq.refl _⟩
  have hq' := hq.out
  have hr' := hr.out
  by_cases hg : 1000 ≤ h
  · have HP := hide (f1 (by
      rw [hc]
      generalize x * n = N at *
      omega))
    have T2 : ∀ {w : World} {F : List Hp}, SepL R base w F → Calls Tryd.prog 52 #[.agg #[U h, U l], U 1000] w (Ret fun r w' => r = .tuple #[U 0, U 0, .bool false] ∧ SepL R base w' F) := fun hS => over_far h l 1000 hg hS
    clear hg f1 f2 hc hq' hr' hh hN
    go_enter Tryd.func36, Tryd.ntmps36
    go_wp2_with (first
      | (go_at_call 53; refine Ret.calls (T1 hS) ?_; clear hS; rintro r w ⟨rfl, hS⟩)
      | (go_at_call 52; refine Ret.calls (T2 hS) ?_; clear hS; rintro r w ⟨rfl, hS⟩)
      | (show wpList _ _ _ (⟨some 21, .binOp _ _ _ _ _, _, _, _, _⟩ :: _) _ _; refine wpList_val rfl (opU_gtr rfl rfl (b := 0) rfl HR0.out) ?_; go_frame)
      | (show wpList _ _ _ (⟨some 24, .binOp _ _ _ _ _, _, _, _, _⟩ :: _) _ _; refine wpList_val rfl (opU_eql rfl rfl (b := 18446744073709551615) rfl HQ.out) ?_; go_frame)
      | (show wpList _ _ _ (⟨some 28, .binOp _ _ _ _ _, _, _, _, _⟩ :: _) _ _; refine wpList_val rfl (opU_gtr rfl rfl (b := 0) rfl HR0.out) ?_; go_frame)
      | (show wpList _ _ _ (⟨some 30, .binOp _ _ _ _ _, _, _, _, _⟩ :: _) _ _; refine wpList_val rfl (opU_add rfl rfl (b := 1) rfl HQ1) ?_; go_frame)
      )
    go_ret2
    exact ⟨tupE HP.out.1.symm HP.out.2.symm, hS⟩
  have T2 : ∀ {w : World} {F : List Hp}, SepL R base w F → Calls Tryd.prog 52 #[.agg #[U h, U l], U 1000] w (Ret fun r' w' => r' = .tuple #[U q, U r, .bool true] ∧ SepL R base w' F) := fun hS => over_s h l 1000 (by omega) (by omega) hl (by rw [hN]; exact hq) (by rw [hN]; exact hr) hS
  by_cases hr0 : r = 0
  · subst hr0
    have HP := hide (f2 (by
      rw [hc]
      generalize x * n = N at *
      omega))
    have HE : Hid (q = needC x n) := by
      unfold Hid
      rw [hc]
      generalize x * n = N at *
      omega
    have HR0 : Hid (decide (0 < (0 : Nat)) = false) := rfl
    clear hg f1 f2 hc hq' hr' hh hN
    go_enter Tryd.func36, Tryd.ntmps36
    go_wp2_with (first
      | (go_at_call 53; refine Ret.calls (T1 hS) ?_; clear hS; rintro r w ⟨rfl, hS⟩)
      | (go_at_call 52; refine Ret.calls (T2 hS) ?_; clear hS; rintro r w ⟨rfl, hS⟩)
      | (show wpList _ _ _ (⟨some 21, .binOp _ _ _ _ _, _, _, _, _⟩ :: _) _ _; refine wpList_val rfl (opU_gtr rfl rfl (b := 0) rfl HR0.out) ?_; go_frame)
      | (show wpList _ _ _ (⟨some 24, .binOp _ _ _ _ _, _, _, _, _⟩ :: _) _ _; refine wpList_val rfl (opU_eql rfl rfl (b := 18446744073709551615) rfl HQ.out) ?_; go_frame)
      | (show wpList _ _ _ (⟨some 28, .binOp _ _ _ _ _, _, _, _, _⟩ :: _) _ _; refine wpList_val rfl (opU_gtr rfl rfl (b := 0) rfl HR0.out) ?_; go_frame)
      | (show wpList _ _ _ (⟨some 30, .binOp _ _ _ _ _, _, _, _, _⟩ :: _) _ _; refine wpList_val rfl (opU_add rfl rfl (b := 1) rfl HQ1) ?_; go_frame)
      )
    go_ret2
    exact ⟨tupE (HE.out.trans HP.out.1.symm) HP.out.2.symm, hS⟩
  have HR0 := decT (show 0 < r by omega)
  by_cases hqm : q = 18446744073709551615
  · have HQ : Hid ((q == 18446744073709551615) = true) := by
      rw [hqm]
      rfl
    have HP := hide (f1 (by
      rw [hc]
      generalize x * n = N at *
      omega))
    clear hg f1 f2 hc hq' hr' hh hqm hr0 hN
    go_enter Tryd.func36, Tryd.ntmps36
    go_wp2_with (first
      | (go_at_call 53; refine Ret.calls (T1 hS) ?_; clear hS; rintro r w ⟨rfl, hS⟩)
      | (go_at_call 52; refine Ret.calls (T2 hS) ?_; clear hS; rintro r w ⟨rfl, hS⟩)
      | (show wpList _ _ _ (⟨some 21, .binOp _ _ _ _ _, _, _, _, _⟩ :: _) _ _; refine wpList_val rfl (opU_gtr rfl rfl (b := 0) rfl HR0.out) ?_; go_frame)
      | (show wpList _ _ _ (⟨some 24, .binOp _ _ _ _ _, _, _, _, _⟩ :: _) _ _; refine wpList_val rfl (opU_eql rfl rfl (b := 18446744073709551615) rfl HQ.out) ?_; go_frame)
      | (show wpList _ _ _ (⟨some 28, .binOp _ _ _ _ _, _, _, _, _⟩ :: _) _ _; refine wpList_val rfl (opU_gtr rfl rfl (b := 0) rfl HR0.out) ?_; go_frame)
      | (show wpList _ _ _ (⟨some 30, .binOp _ _ _ _ _, _, _, _, _⟩ :: _) _ _; refine wpList_val rfl (opU_add rfl rfl (b := 1) rfl HQ1) ?_; go_frame)
      )
    go_ret2
    exact ⟨tupE HP.out.1.symm HP.out.2.symm, hS⟩
  · have HQ := beqF hqm
    have hqM : q < 18446744073709551616 := by
      generalize x * n = N at *
      omega
    have HP := hide (f2 (by
      rw [hc]
      generalize x * n = N at *
      omega))
    have HE : Hid (q + 1 = needC x n) := by
      unfold Hid
      rw [hc]
      generalize x * n = N at *
      omega
    have HQ1 : q + 1 < 18446744073709551616 := by omega
    clear hg f1 f2 hc hq' hr' hh hqm hr0 hN
    go_enter Tryd.func36, Tryd.ntmps36
    go_wp2_with (first
      | (go_at_call 53; refine Ret.calls (T1 hS) ?_; clear hS; rintro r w ⟨rfl, hS⟩)
      | (go_at_call 52; refine Ret.calls (T2 hS) ?_; clear hS; rintro r w ⟨rfl, hS⟩)
      | (show wpList _ _ _ (⟨some 21, .binOp _ _ _ _ _, _, _, _, _⟩ :: _) _ _; refine wpList_val rfl (opU_gtr rfl rfl (b := 0) rfl HR0.out) ?_; go_frame)
      | (show wpList _ _ _ (⟨some 24, .binOp _ _ _ _ _, _, _, _, _⟩ :: _) _ _; refine wpList_val rfl (opU_eql rfl rfl (b := 18446744073709551615) rfl HQ.out) ?_; go_frame)
      | (show wpList _ _ _ (⟨some 28, .binOp _ _ _ _ _, _, _, _, _⟩ :: _) _ _; refine wpList_val rfl (opU_gtr rfl rfl (b := 0) rfl HR0.out) ?_; go_frame)
      | (show wpList _ _ _ (⟨some 30, .binOp _ _ _ _ _, _, _, _, _⟩ :: _) _ _; refine wpList_val rfl (opU_add rfl rfl (b := 1) rfl HQ1) ?_; go_frame)
      )
    go_ret2
    exact ⟨tupE (HE.out.trans HP.out.1.symm) HP.out.2.symm, hS⟩
end
end Go.Proofs.YtieobcaegegboaaDoor
