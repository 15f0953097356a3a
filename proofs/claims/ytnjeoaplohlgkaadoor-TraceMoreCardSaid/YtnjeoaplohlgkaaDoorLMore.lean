/- More ends see no less; what is secret from more is secret from fewer, what is aside likewise: the law returns true. Conditions: those that stand ahead of each theorem. -/
import Derived.Deep.DeepCutAuto
import Derived.Test.YtnjeoaplohlgkaaDoorLPieces
import Derived.Test.YtnjeoaplohlgkaaDoorTHid
namespace Go.Proofs.YtnjeoaplohlgkaaDoor
open Go.RowKit Go.Px Go.Sha
def zAct : List Value := [.int .i64 0, .int .i64 0, .int .i64 0, .int .i64 0, .int .i64 0, .slice none 0 0, .int .u64 0, .int .u32 0, .slice none 0 0, .slice none 0 0, .int .u64 0, .slice none 0 0, .slice none 0 0] ++ List.replicate 32 (.int .u8 0) ++ [.slice none 0 0]
theorem qlenP {q : List (Value × PS)} {S : List PS} (h : q.map (·.2) = S) : q.length = S.length := by rw [← h, List.length_map]
theorem sees_more (E M : List Int) (T : List PS) : seesP E (seesP (E ++ M) T) = seesP E T := by
  unfold seesP
  rw [List.filter_filter]
  apply List.filter_congr
  intro s _
  by_cases h : s.to ∈ E <;> simp [h]
theorem sees_le (E M : List Int) (T : List PS) : (seesP E T).length ≤ (seesP (E ++ M) T).length := by
  rw [← sees_more E M T]
  exact sees_len _ _
theorem secret_more {a : Int} {E M : List Int} (h : secretB a (E ++ M) = true) : secretB a E = true := by
  unfold secretB at h ⊢
  by_cases h1 : a = 64
  · simp [h1]
  · simp only [h1, decide_false, Bool.false_or, Bool.and_eq_true, decide_eq_true_eq, Bool.not_eq_true', decide_eq_false_iff_not, List.mem_append, not_or] at h ⊢
    exact ⟨h.1, h.2.1⟩
theorem aside_more {k a b l : Int} {E M : List Int} (h : asideP k a b l (E ++ M) = true) : asideP k a b l E = true := by
  unfold asideP at h ⊢
  by_cases h7 : k = 7
  · rw [if_pos h7] at h ⊢
    simp only [Bool.not_eq_true', decide_eq_false_iff_not, List.mem_append, not_or] at h ⊢
    exact h.1
  · rw [if_neg h7] at h ⊢
    by_cases h3 : k = 3 ∨ k = 4
    · rw [if_pos h3] at h ⊢
      simp only [Bool.and_eq_true, decide_eq_true_eq, Bool.not_eq_true', decide_eq_false_iff_not, List.mem_append, not_or] at h ⊢
      exact ⟨h.1, h.2.1.1, h.2.2.1⟩
    · rw [if_neg h3] at h
      cases h
section
variable {R : Nat → Prop} {base w : World} {F : List Hp}
theorem aside_own {T : Nat} {v : Value} {E : List Int} (hS : SepL R base w (.own T 1 v (E.map fun z => [I64 z]) :: F)) (hE : ∀ z ∈ E, In64 z) {k a b l : Int} {r : List Value} (ha : In64 a) (hb : In64 b) {q : Bool} (hq : asideP k a b l E = q) :
    Calls Tryd.prog 19 #[.agg (actC k a b l r).toArray, v] w (Ret fun r w' => r = .bool q ∧ SepL R base w' (.own T 1 v (E.map fun z => [I64 z]) :: F)) := by
  obtain ⟨R', h1, h2, h3, h4⟩ := hS.freezeOwn
  refine Ret.calls (aside_s h1 h2 hE ha hb hq) ?_
  rintro r w' ⟨h5, h6⟩
  exact ⟨h5, h4 w' _ h6⟩
end
set_option maxRecDepth 100000 in
set_option maxHeartbeats 8000000 in
theorem traceMore_w {W : World} (hK : CIn All W 1 (kTab.map W32)) (hF : CIn All W 0 (first.map W32)) {u0 u1 u2 : Value} {E M : List Int} {L : List (Value × PS)} {k a b l : Int} {c : List Value} (h0 : Rd 1 W u0 (E.map fun z => [I64 z]) ∧ Rd 1 W u1 (M.map fun z => [I64 z]) ∧ SRd W u2 L) (hok : (∀ z ∈ E, In64 z) ∧ (∀ z ∈ M, In64 z) ∧ (∀ x ∈ L, AIn x.2) ∧ E.length ≤ 17592186044416 ∧ M.length ≤ 17592186044416) (hc : In64 a ∧ In64 b ∧ List.length c = 42 ∧ ∀ x ∈ actC k a b l c, x.oneCell' = true) :
    Calls Tryd.prog 7 #[.agg (u0 :: u1 :: u2 :: actC k a b l c).toArray] W (Ret fun r w' => r = .bool true ∧ Chg No W w') := by
  have hS := SepL.start W
  have he := RdIn.of h0.1
  have hm := RdIn.of h0.2.1
  have hl := SIn.of h0.2.2
  obtain ⟨hE, hM, hL, he44, hm44⟩ := hok
  have HEL : Hid ((E.map fun z => [I64 z]).length = E.length) := by simp [Hid]
  have HML : Hid ((M.map fun z => [I64 z]).length = M.length) := by simp [Hid]
  have HE := hide hE
  have HAI := hide hc.1
  have HBI := hide hc.2.1
  have HFL := hide hc.2.2.2
  have hcl : (actC k a b l c).length = 46 := by
    unfold actC
    simp only [List.length_cons, hc.2.2.1]
  have HCL := hide hcl
  have HD : Hid (((u0 :: u1 :: u2 :: actC k a b l c).drop 3).take 46 = actC k a b l c) := by
    unfold Hid
    simp only [List.drop_succ_cons, List.drop_zero]
    exact List.take_of_length_le (Nat.le_of_eq hcl)
  clear h0 hcl hc
  cases hg : greatB (L.map (·.2)) with
  | true =>
    have HGR := hide hg
    clear hg hL hE hM
    go_enter Tryd.func7, Tryd.ntmps7
    go_wp2_with (first
      | (go_at_call 9; refine Ret.calls (alive_s hS hK hF) ?_; clear hS; rintro r w ⟨rfl, hS⟩)
      | (show wpList _ _ _ (⟨_, .box _ _, _, _, _, _⟩ :: _) _ _; refine wpS_boxA (cs := u0 :: u1 :: u2 :: actC k a b l c) hS rfl rfl rfl ?_; clear hS; intro n1 w hS; go_frame)
      )
    refine wp_region_text (by kernel_rfl) (by kernel_rfl) (by repeat (first | exact Clean.body | refine Clean.then ?_ | refine Clean.inBlock ?_)) ?_
    replace hS := hS.drew
    go_wp2_with (first
      | (show wpList _ _ _ (⟨some 14, .load _ _, _, _, _, _⟩ :: _) _ _; refine wpList_val rfl (op_load1S (b := n1) (T := 54) oneInts ((hS.bring (by repeat (first | exact t0 | apply tS)))) rfl rfl rfl) ?_; go_frame)
      | (show wpList _ _ _ (⟨some 16, .load _ _, _, _, _, _⟩ :: _) _ _; refine wpList_val rfl (op_load1S (b := n1) (T := 54) oneInts ((hS.bring (by repeat (first | exact t0 | apply tS)))) rfl rfl rfl) ?_; go_frame)
      | (show wpList _ _ _ (⟨some 18, .load _ _, _, _, _, _⟩ :: _) _ _; refine wpList_val rfl (op_load1S (b := n1) (T := 54) oneSights ((hS.bring (by repeat (first | exact t0 | apply tS)))) rfl rfl rfl) ?_; go_frame)
      | (show wpList _ _ _ (⟨some 20, .load _ _, _, _, _, _⟩ :: _) _ _; refine wpList_val rfl (op_load aggAct rfl rfl ((SepL.getBlk (b := n1) (T := 54) ((hS.bring (by repeat (first | exact t0 | apply tS))))).cells.subN 3 46 HD.out) HCL.out) ?_; go_frame)
      | (show wpList _ _ _ (⟨_, .alloc 52, _, _, _, _⟩ :: _) _ _; refine wpS_alloc hS rfl rfl Tryd.zeroValue52 (zs := zAct) rfl ?_; clear hS; intro na w hS; go_frame)
      | (show wpList _ _ _ (⟨_, .store 52 _ _, _, _, _, _⟩ :: _) _ _; (refine wpS_storeAll (b := na) aggAct (hS.bring (by repeat (first | exact t0 | apply tS))) rfl rfl rfl (vs := actC k a b l c) rfl HCL.out HFL.out rfl ?_); clear hS; intro w hS; go_frame)
      | (refine fin_mk (by kernel_rfl) ?_)
      | (go_at_call 10; refine Ret.calls (great_s hS hl HGR.out) ?_; clear hS; rintro r w ⟨rfl, hS⟩)
      )
    go_ret
    exact ⟨rfl, hS.chg⟩
  | false =>
    have HGR := hide hg
    have hlo := lok_of hL hg
    have HLO := hide hlo
    have hll := hlo.len
    rw [List.length_map] at hll
    have HLL : Hid (([] : List PS).length + L.length ≤ 10000) := by unfold Hid; rw [List.length_nil]; omega
    by_cases hel : 100 < E.length + M.length
    · have HG : Hid (decide ((100 : Int) < ((E.length + M.length : Nat) : Int)) = true) := decT (by omega)
      clear hg hL hlo hel hE hM
      go_enter Tryd.func7, Tryd.ntmps7
      go_wp2_with (first
        | (go_at_call 9; refine Ret.calls (alive_s hS hK hF) ?_; clear hS; rintro r w ⟨rfl, hS⟩)
        | (show wpList _ _ _ (⟨_, .box _ _, _, _, _, _⟩ :: _) _ _; refine wpS_boxA (cs := u0 :: u1 :: u2 :: actC k a b l c) hS rfl rfl rfl ?_; clear hS; intro n1 w hS; go_frame)
        )
      refine wp_region_text (by kernel_rfl) (by kernel_rfl) (by repeat (first | exact Clean.body | refine Clean.then ?_ | refine Clean.inBlock ?_)) ?_
      replace hS := hS.drew
      go_wp2_with (first
        | (show wpList _ _ _ (⟨some 14, .load _ _, _, _, _, _⟩ :: _) _ _; refine wpList_val rfl (op_load1S (b := n1) (T := 54) oneInts ((hS.bring (by repeat (first | exact t0 | apply tS)))) rfl rfl rfl) ?_; go_frame)
        | (show wpList _ _ _ (⟨some 16, .load _ _, _, _, _, _⟩ :: _) _ _; refine wpList_val rfl (op_load1S (b := n1) (T := 54) oneInts ((hS.bring (by repeat (first | exact t0 | apply tS)))) rfl rfl rfl) ?_; go_frame)
        | (show wpList _ _ _ (⟨some 18, .load _ _, _, _, _, _⟩ :: _) _ _; refine wpList_val rfl (op_load1S (b := n1) (T := 54) oneSights ((hS.bring (by repeat (first | exact t0 | apply tS)))) rfl rfl rfl) ?_; go_frame)
        | (show wpList _ _ _ (⟨some 20, .load _ _, _, _, _, _⟩ :: _) _ _; refine wpList_val rfl (op_load aggAct rfl rfl ((SepL.getBlk (b := n1) (T := 54) ((hS.bring (by repeat (first | exact t0 | apply tS))))).cells.subN 3 46 HD.out) HCL.out) ?_; go_frame)
        | (show wpList _ _ _ (⟨_, .alloc 52, _, _, _, _⟩ :: _) _ _; refine wpS_alloc hS rfl rfl Tryd.zeroValue52 (zs := zAct) rfl ?_; clear hS; intro na w hS; go_frame)
        | (show wpList _ _ _ (⟨_, .store 52 _ _, _, _, _, _⟩ :: _) _ _; (refine wpS_storeAll (b := na) aggAct (hS.bring (by repeat (first | exact t0 | apply tS))) rfl rfl rfl (vs := actC k a b l c) rfl HCL.out HFL.out rfl ?_); clear hS; intro w hS; go_frame)
        | (refine fin_mk (by kernel_rfl) ?_)
        | (go_at_call 10; refine Ret.calls (great_s hS hl HGR.out) ?_; clear hS; rintro r w ⟨rfl, hS⟩)
        | (show wpList _ _ _ (⟨some 25, .call _, _, _, _, _⟩ :: _) _ _; refine wpList_val rfl (op_len slInt rfl rfl (v := u0) (xs := E.map fun z => [I64 z]) rfl (by exact hS.rd he)) ?_; rw [HEL.out]; go_frame)
        | (show wpList _ _ _ (⟨some 27, .call _, _, _, _, _⟩ :: _) _ _; refine wpList_val rfl (op_len slInt rfl rfl (v := u1) (xs := M.map fun z => [I64 z]) rfl (by exact hS.rd hm)) ?_; rw [HML.out]; go_frame)
        | (show wpList _ _ _ (⟨some 28, .binOp _ _ _ _ _, _, _, _, _⟩ :: _) _ _; refine wpList_val rfl (op_iaddN rfl rfl rfl (E.length + M.length) (by omega) (by omega)) ?_; go_frame)
        | (show wpList _ _ _ (⟨some 29, .binOp _ _ _ _ _, _, _, _, _⟩ :: _) _ _; refine wpList_val rfl (op_igtr rfl rfl rfl HG.out) ?_; go_frame)
        )
      go_ret
      exact ⟨rfl, hS.chg⟩
    · have HG : Hid (decide ((100 : Int) < ((E.length + M.length : Nat) : Int)) = false) := decF (by omega)
      have HB1 : Hid ((([] : List (List Value)).length + (E.map fun z => [I64 z]).length) * 8 ≤ 140737488355328) := by
        unfold Hid
        rw [List.length_map, List.length_nil]
        omega
      have HB2 : Hid (([] : List (List Value)).length + (E.map fun z => [I64 z]).length ≤ maxLen) := by
        unfold Hid maxLen
        rw [List.length_map, List.length_nil]
        omega
      have HB3 : Hid (((E.map fun z => [I64 z]).length + (M.map fun z => [I64 z]).length) * 8 ≤ 140737488355328) := by
        unfold Hid
        rw [List.length_map, List.length_map]
        omega
      have HB4 : Hid ((E.map fun z => [I64 z]).length + (M.map fun z => [I64 z]).length ≤ maxLen) := by
        unfold Hid maxLen
        rw [List.length_map, List.length_map]
        omega
      obtain ⟨T, hT⟩ : ∃ T, L.map (·.2) = T := ⟨_, rfl⟩
      obtain ⟨A, hA⟩ : ∃ A, E ++ M = A := ⟨_, rfl⟩
      have HA : Hid ((E.map fun z => [I64 z]) ++ (M.map fun z => [I64 z]) = A.map fun z => [I64 z]) := by
        unfold Hid
        rw [← hA, List.map_append]
      have HAE : Hid (∀ z ∈ A, In64 z) := by
        intro z hz
        rw [← hA] at hz
        rcases List.mem_append.1 hz with h | h
        · exact hE z h
        · exact hM z h
      obtain ⟨SE, hSE⟩ : ∃ S, seesP E T = S := ⟨_, rfl⟩
      obtain ⟨SA, hSA⟩ : ∃ S, seesP A T = S := ⟨_, rfl⟩
      have HSEO : Hid (LOk SE) := by unfold Hid; rw [← hSE, ← hT]; exact hlo.sees E
      have HSAO : Hid (LOk SA) := by unfold Hid; rw [← hSA, ← hT]; exact hlo.sees A
      have HS1 : Hid ([] ++ seesP E (L.map (·.2)) = SE) := by unfold Hid; rw [List.nil_append, hT]; exact hSE
      have HS2 : Hid ([] ++ seesP A (L.map (·.2)) = SA) := by unfold Hid; rw [List.nil_append, hT]; exact hSA
      have HS3 : Hid ([] ++ seesP E SA = SE) := by unfold Hid; rw [List.nil_append, ← hSA, ← hA, ← hSE]; exact sees_more E M T
      have hle : SE.length ≤ SA.length := by rw [← hSE, ← hSA, ← hA]; exact sees_le E M T
      have HLS : Hid (decide ((SA.length : Int) < (SE.length : Int)) = false) := decF (by omega)
      obtain ⟨sa, hsa⟩ : ∃ q, secretB a A = q := ⟨_, rfl⟩
      obtain ⟨aa, haa⟩ : ∃ q, asideP k a b l A = q := ⟨_, rfl⟩
      have HSA := hide hsa
      have HAA := hide haa
      have HSF : sa = true → Hid (secretB a E = true) := fun h => secret_more (M := M) (by rw [hA, hsa, h])
      have HAF : aa = true → Hid (asideP k a b l E = true) := fun h => aside_more (M := M) (by rw [hA, haa, h])
      replace HSF := hide HSF
      replace HAF := hide HAF
      obtain ⟨M1, hM1⟩ : ∃ m : Nat, m = 0 := ⟨0, rfl⟩
      obtain ⟨M2, hM2⟩ : ∃ m : Nat, m = 0 := ⟨0, rfl⟩
      obtain ⟨M3, hM3⟩ : ∃ m : Nat, m = 0 := ⟨0, rfl⟩
      obtain ⟨M4, hM4⟩ : ∃ m : Nat, m = 0 := ⟨0, rfl⟩
      obtain ⟨M5, hM5⟩ : ∃ m : Nat, m = 0 := ⟨0, rfl⟩
      obtain ⟨M6, hM6⟩ : ∃ m : Nat, m = 0 := ⟨0, rfl⟩
      obtain ⟨M7, hM7⟩ : ∃ m : Nat, m = 0 := ⟨0, rfl⟩
      obtain ⟨M8, hM8⟩ : ∃ m : Nat, m = 0 := ⟨0, rfl⟩
      obtain ⟨M9, hM9⟩ : ∃ m : Nat, m = 0 := ⟨0, rfl⟩
      obtain ⟨N1, hN1⟩ : ∃ m : Nat, m = 0 := ⟨0, rfl⟩
      obtain ⟨N2, hN2⟩ : ∃ m : Nat, m = 0 := ⟨0, rfl⟩
      clear hM1 hM2 hM3 hM4 hM5 hM6 hM7 hM8 hM9 hN1 hN2 hg hL hlo hT hA hE hM hSE hSA hle hsa haa
      go_enter Tryd.func7, Tryd.ntmps7
      go_wp2_with (first
        | (go_at_call 9; refine Ret.calls (alive_s hS hK hF) ?_; clear hS; rintro r w ⟨rfl, hS⟩)
        | (show wpList _ _ _ (⟨_, .box _ _, _, _, _, _⟩ :: _) _ _; refine wpS_boxA (cs := u0 :: u1 :: u2 :: actC k a b l c) hS rfl rfl rfl ?_; clear hS; intro n1 w hS; go_frame)
        )
      refine wp_region_text (by kernel_rfl) (by kernel_rfl) (by repeat (first | exact Clean.body | refine Clean.then ?_ | refine Clean.inBlock ?_)) ?_
      replace hS := hS.drew
      go_upto_region 14 with (first
        | (show wpList _ _ _ (⟨some 14, .load _ _, _, _, _, _⟩ :: _) _ _; refine wpList_val rfl (op_load1S (b := n1) (T := 54) oneInts ((hS.bring (by repeat (first | exact t0 | apply tS)))) rfl rfl rfl) ?_; go_frame)
        | (show wpList _ _ _ (⟨some 16, .load _ _, _, _, _, _⟩ :: _) _ _; refine wpList_val rfl (op_load1S (b := n1) (T := 54) oneInts ((hS.bring (by repeat (first | exact t0 | apply tS)))) rfl rfl rfl) ?_; go_frame)
        | (show wpList _ _ _ (⟨some 18, .load _ _, _, _, _, _⟩ :: _) _ _; refine wpList_val rfl (op_load1S (b := n1) (T := 54) oneSights ((hS.bring (by repeat (first | exact t0 | apply tS)))) rfl rfl rfl) ?_; go_frame)
        | (show wpList _ _ _ (⟨some 20, .load _ _, _, _, _, _⟩ :: _) _ _; refine wpList_val rfl (op_load aggAct rfl rfl ((SepL.getBlk (b := n1) (T := 54) ((hS.bring (by repeat (first | exact t0 | apply tS))))).cells.subN 3 46 HD.out) HCL.out) ?_; go_frame)
        | (show wpList _ _ _ (⟨_, .alloc 52, _, _, _, _⟩ :: _) _ _; refine wpS_alloc hS rfl rfl Tryd.zeroValue52 (zs := zAct) rfl ?_; clear hS; intro na w hS; go_frame)
        | (show wpList _ _ _ (⟨_, .store 52 _ _, _, _, _, _⟩ :: _) _ _; (refine wpS_storeAll (b := na) aggAct (hS.bring (by repeat (first | exact t0 | apply tS))) rfl rfl rfl (vs := actC k a b l c) rfl HCL.out HFL.out rfl ?_); clear hS; intro w hS; go_frame)
        | (refine fin_mk (by kernel_rfl) ?_)
        | (go_at_call 10; refine Ret.calls (great_s hS hl HGR.out) ?_; clear hS; rintro r w ⟨rfl, hS⟩)
        | (show wpList _ _ _ (⟨some 25, .call _, _, _, _, _⟩ :: _) _ _; refine wpList_val rfl (op_len slInt rfl rfl (v := u0) (xs := E.map fun z => [I64 z]) rfl (by exact hS.rd he)) ?_; rw [HEL.out]; go_frame)
        | (show wpList _ _ _ (⟨some 27, .call _, _, _, _, _⟩ :: _) _ _; refine wpList_val rfl (op_len slInt rfl rfl (v := u1) (xs := M.map fun z => [I64 z]) rfl (by exact hS.rd hm)) ?_; rw [HML.out]; go_frame)
        | (show wpList _ _ _ (⟨some 28, .binOp _ _ _ _ _, _, _, _, _⟩ :: _) _ _; refine wpList_val rfl (op_iaddN rfl rfl rfl (E.length + M.length) (by omega) (by omega)) ?_; go_frame)
        | (show wpList _ _ _ (⟨some 29, .binOp _ _ _ _ _, _, _, _, _⟩ :: _) _ _; refine wpList_val rfl (op_igtr rfl rfl rfl HG.out) ?_; go_frame)
        | (show wpList _ _ _ (⟨some 31, .buildSlice _ _ _, _, _, _, _⟩ :: _) _ _; refine wpS_build0 slInt hS rfl rfl ?_; clear hS; intro v31 w hS; go_frame)
        | (show wpList _ _ _ (⟨some 33, .call _, _, _, _, _⟩ :: _) _ _; (refine wpS_append slInt (hS.bring (by repeat (first | exact t0 | apply tS))) rfl rfl (sv := v31) (xs := []) (xv := u0) rfl rfl (ys := E.map fun z => [I64 z]) (by exact hS.rd he) (flat_ints _) HB1.out HB2.out ?_); clear hS; intro v33 w hS; rw [List.nil_append] at hS; go_frame)
        | (show wpList _ _ _ (⟨some 35, .call _, _, _, _, _⟩ :: _) _ _; (refine wpS_append slInt (hS.bring (by repeat (first | exact t0 | apply tS))) rfl rfl (sv := v33) (xs := E.map fun z => [I64 z]) (xv := u1) rfl rfl (ys := M.map fun z => [I64 z]) (by exact hS.rd hm) (flat_ints _) HB3.out HB4.out ?_); clear hS; intro v35 w hS; rw [HA.out] at hS; go_frame)
        | (have m1 := M1; clear m1; go_at_call 11; refine Ret.calls (new_w hS he HE.out) ?_; clear hS M1; rintro r w ⟨p1, rfl, hS⟩)
        | (have m1 := M2; clear m1; go_at_call 11; refine Ret.calls (new_own (E := A) (F := [hW p1 E [], .blk na 52 (actC k a b l c)]) (hS.sel (by repeat (first | exact Sel.refl | refine Sel.take (by repeat (first | exact t0 | apply tS)) ?_ | apply Sel.drop))) HAE.out) ?_; clear hS M2; rintro r w ⟨p2, rfl, hS⟩)
        | (have m1 := M3; clear m1; go_at_call 12; refine Ret.calls (see_s (p := p1) (E := E) (S0 := []) (F := [.own 3 1 v35 (A.map fun z => [I64 z]), hW p2 A [], .blk na 52 (actC k a b l c)]) (hS.sel (by repeat (first | exact Sel.refl | refine Sel.take (by repeat (first | exact t0 | apply tS)) ?_ | apply Sel.drop))) hK hF hl HLO.out HLL.out) ?_; clear hS M3; rintro r w hS; rw [HS1.out] at hS)
        | (have m1 := M4; clear m1; go_at_call 12; refine Ret.calls (see_s (p := p2) (E := A) (S0 := []) (F := [.own 3 1 v35 (A.map fun z => [I64 z]), hW p1 E SE, .blk na 52 (actC k a b l c)]) (hS.sel (by repeat (first | exact Sel.refl | refine Sel.take (by repeat (first | exact t0 | apply tS)) ?_ | apply Sel.drop))) hK hF hl HLO.out HLL.out) ?_; clear hS M4; rintro r w hS; rw [HS2.out] at hS)
        | (go_at_call 11; refine Ret.calls (new_w hS he HE.out) ?_; clear hS; rintro r w ⟨p3, rfl, hS⟩)
        | (have m1 := M5; clear m1; go_at_call 15; (refine Ret.calls (all_s (p := p2) (E := A) (S := SA) (hS.bring (by repeat (first | exact t0 | apply tS))) HSAO.out) ?_); clear hS M5; rintro q0v w ⟨q0, hq, hS⟩; have HQ0 := hide hq; have HQO : Hid (LOk (q0.map (·.2))) := (by rw [hq]; exact HSAO.out); have HQM : Hid (([] : List PS).length + q0.length ≤ 10000) := (by have h := qlenP hq; unfold Hid; rw [List.length_nil]; have h2 := HSAO.out.len; omega); clear hq)
        | (go_at_call 12; refine Ret.calls (see_own (p := p3) (E := E) (S0 := []) (v := q0v) (L := q0) (F := [.own 3 1 v35 (A.map fun z => [I64 z]), hW p1 E SE, hW p2 A SA, .blk na 52 (actC k a b l c)]) (hS.sel (by repeat (first | exact Sel.refl | refine Sel.take (by repeat (first | exact t0 | apply tS)) ?_ | apply Sel.drop))) hK hF HQO.out HQM.out) ?_; clear hS; rintro r w hS; rw [HQ0.out, HS3.out] at hS)
        | (have m1 := M6; clear m1; go_at_call 15; (refine Ret.calls (all_s (p := p3) (E := E) (S := SE) (hS.bring (by repeat (first | exact t0 | apply tS))) HSEO.out) ?_); clear hS M6; rintro q1v w ⟨q1, hq, hS⟩; have HQ1 := hide hq; clear hq)
        | (have m1 := M7; clear m1; go_at_call 15; (refine Ret.calls (all_s (p := p1) (E := E) (S := SE) (hS.bring (by repeat (first | exact t0 | apply tS))) HSEO.out) ?_); clear hS M7; rintro q2v w ⟨q2, hq, hS⟩; have HQ2 := hide hq; clear hq)
        | (go_at_call 14; refine Ret.calls (hS.callNo (sameSeen_s (v := q1v) (u := q2v) (l := q1) (m := q2) (b := true) (hG_srd ((hS.bring (by repeat (first | exact t0 | apply tS))))) (hG_srd ((hS.bring (by repeat (first | exact t0 | apply tS))))) (qlen HQ1.out HSEO.out) (qfew HQ1.out HSEO.out) (by simp [HQ1.out, HQ2.out]))) ?_; clear hS; rintro r w ⟨rfl, hS⟩)
        | (have m1 := M8; clear m1; go_at_call 16; (refine Ret.calls (sumW_s (p := p3) (E := E) (S := SE) (hS.bring (by repeat (first | exact t0 | apply tS)))) ?_); clear hS M8; rintro r1 w ⟨rfl, hS⟩)
        | (go_at_call 16; (refine Ret.calls (sumW_s (p := p1) (E := E) (S := SE) (hS.bring (by repeat (first | exact t0 | apply tS)))) ?_); clear hS; rintro r1 w ⟨rfl, hS⟩)
        | (show wpList _ _ _ (⟨some 63, .binOp _ _ _ _ _, _, _, _, _⟩ :: _) _ _; refine wpList_val rfl (op_neHash rfl rfl rfl (sumT_len SE) rfl) ?_; go_frame)
        | (have m1 := M9; clear m1; go_at_call 15; (refine Ret.calls (all_s (p := p2) (E := A) (S := SA) (hS.bring (by repeat (first | exact t0 | apply tS))) HSAO.out) ?_); clear hS M9; rintro q3v w ⟨q3, hq, hS⟩; have HQ3 := hide (qlen2 hq); clear hq)
        | (go_at_call 15; (refine Ret.calls (all_s (p := p1) (E := E) (S := SE) (hS.bring (by repeat (first | exact t0 | apply tS))) HSEO.out) ?_); clear hS; rintro q4v w ⟨q4, hq, hS⟩; have HQ4 := hide (qlen2 hq); clear hq)
        | (show wpList _ _ _ (⟨some 68, .call _, _, _, _, _⟩ :: _) _ _; refine wpList_val rfl (op_len slSight rfl rfl (v := q3v) (xs := q3.map sC) rfl (hG_srd ((hS.bring (by repeat (first | exact t0 | apply tS))))).rd) ?_; rw [HQ3.out]; go_frame)
        | (show wpList _ _ _ (⟨some 71, .call _, _, _, _, _⟩ :: _) _ _; refine wpList_val rfl (op_len slSight rfl rfl (v := q4v) (xs := q4.map sC) rfl (hG_srd ((hS.bring (by repeat (first | exact t0 | apply tS))))).rd) ?_; rw [HQ4.out]; go_frame)
        | (show wpList _ _ _ (⟨some 72, .binOp _ _ _ _ _, _, _, _, _⟩ :: _) _ _; refine wpList_val rfl (op_ilss rfl rfl rfl HLS.out) ?_; go_frame)
        )
      replace HSF := HSF.out
      replace HAF := HAF.out
      cases sa with
      | true =>
        replace HSF := HSF rfl
        cases aa with
        | true =>
          replace HAF := HAF rfl
          go_wp2_with (first
            | (show wpList _ _ _ (⟨_, .load 3 _, _, _, _, _⟩ :: _) _ _; refine wpList_val rfl (op_load1S (b := na) (T := 52) oneInt ((hS.bring (by repeat (first | exact t0 | apply tS)))) rfl rfl rfl) ?_; go_frame)
            | (show wpList _ _ _ (⟨_, .load 52 _, _, _, _, _⟩ :: _) _ _; refine wpList_val rfl (op_load aggAct rfl rfl (SepL.getBlk (b := na) (T := 52) ((hS.bring (by repeat (first | exact t0 | apply tS))))).cells HCL.out) ?_; go_frame)
            | (have m1 := N1; clear m1; go_at_call 18; refine Ret.calls (secret_s v35 A a _ ((hS.bring (by repeat (first | exact t0 | apply tS))).getOwn.rd) HSA.out) ?_; clear N1; rintro r1 w' ⟨rfl, rfl⟩)
            | (go_at_call 18; refine Ret.calls (secret_s u0 E a _ (by exact hS.rd he) HSF.out) ?_; rintro r1 w' ⟨rfl, rfl⟩)
            | (have m1 := N2; clear m1; go_at_call 19; refine Ret.calls (aside_own (v := v35) (k := k) (a := a) (b := b) (l := l) (r := c) (F := [.blk na 52 (actC k a b l c)]) (hS.sel (by repeat (first | exact Sel.refl | refine Sel.take (by repeat (first | exact t0 | apply tS)) ?_ | apply Sel.drop))) HAE.out HAI.out HBI.out HAA.out) ?_; clear hS N2; rintro r1 w ⟨rfl, hS⟩)
            | (go_at_call 19; refine Ret.calls (aside_s (v := u0) (k := k) (a := a) (b := b) (l := l) (r := c) hS he HE.out HAI.out HBI.out HAF.out) ?_; clear hS; rintro r1 w ⟨rfl, hS⟩)
            )
          go_ret
          exact ⟨rfl, hS.chg⟩
        | false =>
          clear HAF
          go_wp2_with (first
            | go_big_skip
            | (show wpList _ _ _ (⟨_, .load 3 _, _, _, _, _⟩ :: _) _ _; refine wpList_val rfl (op_load1S (b := na) (T := 52) oneInt ((hS.bring (by repeat (first | exact t0 | apply tS)))) rfl rfl rfl) ?_; go_frame)
            | (show wpList _ _ _ (⟨_, .load 52 _, _, _, _, _⟩ :: _) _ _; refine wpList_val rfl (op_load aggAct rfl rfl (SepL.getBlk (b := na) (T := 52) ((hS.bring (by repeat (first | exact t0 | apply tS))))).cells HCL.out) ?_; go_frame)
            | (have m1 := N1; clear m1; go_at_call 18; refine Ret.calls (secret_s v35 A a _ ((hS.bring (by repeat (first | exact t0 | apply tS))).getOwn.rd) HSA.out) ?_; clear N1; rintro r1 w' ⟨rfl, rfl⟩)
            | (go_at_call 18; refine Ret.calls (secret_s u0 E a _ (by exact hS.rd he) HSF.out) ?_; rintro r1 w' ⟨rfl, rfl⟩)
            | (have m1 := N2; clear m1; go_at_call 19; refine Ret.calls (aside_own (v := v35) (k := k) (a := a) (b := b) (l := l) (r := c) (F := [.blk na 52 (actC k a b l c)]) (hS.sel (by repeat (first | exact Sel.refl | refine Sel.take (by repeat (first | exact t0 | apply tS)) ?_ | apply Sel.drop))) HAE.out HAI.out HBI.out HAA.out) ?_; clear hS N2; rintro r1 w ⟨rfl, hS⟩)
            )
          go_ret
          exact ⟨rfl, hS.chg⟩
      | false =>
        clear HSF
        cases aa with
        | true =>
          replace HAF := HAF rfl
          go_wp2_with (first
            | go_big_skip
            | (show wpList _ _ _ (⟨_, .load 3 _, _, _, _, _⟩ :: _) _ _; refine wpList_val rfl (op_load1S (b := na) (T := 52) oneInt ((hS.bring (by repeat (first | exact t0 | apply tS)))) rfl rfl rfl) ?_; go_frame)
            | (show wpList _ _ _ (⟨_, .load 52 _, _, _, _, _⟩ :: _) _ _; refine wpList_val rfl (op_load aggAct rfl rfl (SepL.getBlk (b := na) (T := 52) ((hS.bring (by repeat (first | exact t0 | apply tS))))).cells HCL.out) ?_; go_frame)
            | (have m1 := N1; clear m1; go_at_call 18; refine Ret.calls (secret_s v35 A a _ ((hS.bring (by repeat (first | exact t0 | apply tS))).getOwn.rd) HSA.out) ?_; clear N1; rintro r1 w' ⟨rfl, rfl⟩)
            | (have m1 := N2; clear m1; go_at_call 19; refine Ret.calls (aside_own (v := v35) (k := k) (a := a) (b := b) (l := l) (r := c) (F := [.blk na 52 (actC k a b l c)]) (hS.sel (by repeat (first | exact Sel.refl | refine Sel.take (by repeat (first | exact t0 | apply tS)) ?_ | apply Sel.drop))) HAE.out HAI.out HBI.out HAA.out) ?_; clear hS N2; rintro r1 w ⟨rfl, hS⟩)
            | (go_at_call 19; refine Ret.calls (aside_s (v := u0) (k := k) (a := a) (b := b) (l := l) (r := c) hS he HE.out HAI.out HBI.out HAF.out) ?_; clear hS; rintro r1 w ⟨rfl, hS⟩)
            )
          go_ret
          exact ⟨rfl, hS.chg⟩
        | false =>
          clear HAF
          go_wp2_with (first
            | go_big_skip
            | (show wpList _ _ _ (⟨_, .load 3 _, _, _, _, _⟩ :: _) _ _; refine wpList_val rfl (op_load1S (b := na) (T := 52) oneInt ((hS.bring (by repeat (first | exact t0 | apply tS)))) rfl rfl rfl) ?_; go_frame)
            | (show wpList _ _ _ (⟨_, .load 52 _, _, _, _, _⟩ :: _) _ _; refine wpList_val rfl (op_load aggAct rfl rfl (SepL.getBlk (b := na) (T := 52) ((hS.bring (by repeat (first | exact t0 | apply tS))))).cells HCL.out) ?_; go_frame)
            | (have m1 := N1; clear m1; go_at_call 18; refine Ret.calls (secret_s v35 A a _ ((hS.bring (by repeat (first | exact t0 | apply tS))).getOwn.rd) HSA.out) ?_; clear N1; rintro r1 w' ⟨rfl, rfl⟩)
            | (have m1 := N2; clear m1; go_at_call 19; refine Ret.calls (aside_own (v := v35) (k := k) (a := a) (b := b) (l := l) (r := c) (F := [.blk na 52 (actC k a b l c)]) (hS.sel (by repeat (first | exact Sel.refl | refine Sel.take (by repeat (first | exact t0 | apply tS)) ?_ | apply Sel.drop))) HAE.out HAI.out HBI.out HAA.out) ?_; clear hS N2; rintro r1 w ⟨rfl, hS⟩)
            )
          go_ret
          exact ⟨rfl, hS.chg⟩
end Go.Proofs.YtnjeoaplohlgkaaDoor
