/- What some ends see is what the document says, and its sum: the law returns true. Conditions: those that stand ahead of each theorem. -/
import Derived.Test.YtnjeoaplohlgkaaDoorGTc
namespace Go.Proofs.YtnjeoaplohlgkaaDoor
open Go.RowKit Go.Px Go.Sha
set_option maxRecDepth 100000 in
set_option maxHeartbeats 4000000 in
theorem traceSees_w {W : World} (hK : CIn All W 1 (kTab.map W32)) (hF : CIn All W 0 (first.map W32)) {ve vl : Value} {E : List Int} {L : List (Value × PS)} (he0 : Rd 1 W ve (E.map fun z => [I64 z])) (hE : ∀ z ∈ E, In64 z) (hl0 : SRd W vl L) (hL : ∀ x ∈ L, AIn x.2) :
    Calls Tryd.prog 3 #[ve, vl] W (Ret fun r w' => r = .bool true ∧ Chg No W w') := by
  have hS := SepL.start W
  have he := RdIn.of he0
  have hl := SIn.of hl0
  have HEL : Hid ((E.map fun z => [I64 z]).length = E.length) := by simp [Hid]
  have HE := hide hE
  clear he0 hl0 hE
  cases hg : greatB (L.map (·.2)) with
  | true =>
    have HGR := hide hg
    clear hg hL
    go_enter Tryd.func3, Tryd.ntmps3
    go_wp2_with (first
      | go_big_skip
      | (go_at_call 9; refine Ret.calls (alive_s hS hK hF) ?_; clear hS; rintro r w ⟨rfl, hS⟩)
      | (go_at_call 10; refine Ret.calls (great_s hS hl HGR.out) ?_; clear hS; rintro r w ⟨rfl, hS⟩)
      | (show wpList _ _ _ (⟨some 13, .call _, _, _, _, _⟩ :: _) _ _; refine wpList_val rfl (op_len slInt rfl rfl (v := ve) (xs := E.map fun z => [I64 z]) rfl (by exact hS.rd he)) ?_; rw [HEL.out]; go_frame)
      | (show wpList _ _ _ (⟨some 14, .binOp _ _ _ _ _, _, _, _, _⟩ :: _) _ _; refine wpList_val rfl (op_igtr rfl rfl rfl HG.out) ?_; go_frame)
      )
    go_ret
    exact ⟨rfl, hS.chg⟩
  | false =>
    have HGR := hide hg
    have hlo := lok_of hL hg
    by_cases hel : 100 < E.length
    · have HG : Hid (decide ((100 : Int) < (E.length : Int)) = true) := decT (by omega)
      clear hg hL hlo hel
      go_enter Tryd.func3, Tryd.ntmps3
      go_wp2_with (first
        | go_big_skip
        | (go_at_call 9; refine Ret.calls (alive_s hS hK hF) ?_; clear hS; rintro r w ⟨rfl, hS⟩)
        | (go_at_call 10; refine Ret.calls (great_s hS hl HGR.out) ?_; clear hS; rintro r w ⟨rfl, hS⟩)
        | (show wpList _ _ _ (⟨some 13, .call _, _, _, _, _⟩ :: _) _ _; refine wpList_val rfl (op_len slInt rfl rfl (v := ve) (xs := E.map fun z => [I64 z]) rfl (by exact hS.rd he)) ?_; rw [HEL.out]; go_frame)
        | (show wpList _ _ _ (⟨some 14, .binOp _ _ _ _ _, _, _, _, _⟩ :: _) _ _; refine wpList_val rfl (op_igtr rfl rfl rfl HG.out) ?_; go_frame)
        )
      go_ret
      exact ⟨rfl, hS.chg⟩
    · have HG : Hid (decide ((100 : Int) < (E.length : Int)) = false) := decF (by omega)
      have HLO := hide hlo
      have hll := hlo.len
      rw [List.length_map] at hll
      have HLL := hide hll
      have HSO := hide (hlo.sees E)
      have HSN := hide (seesL_snd E L)
      obtain ⟨A, hA⟩ : ∃ A, seesL E L = A := ⟨_, rfl⟩
      have hAm : ∀ x ∈ A, x ∈ L := by
        intro x hx
        rw [← hA] at hx
        exact (List.mem_filter.1 hx).1
      have HAT := hide (fun x (hx : x ∈ A) => hl.at_ x (hAm x hx))
      have hAl : A.length ≤ L.length := by rw [← hA]; exact List.length_filter_le _ _
      rw [hA] at HSN
      obtain ⟨S, hS0⟩ : ∃ S, seesP E (L.map (·.2)) = S := ⟨_, rfl⟩
      rw [hS0] at HSO HSN
      have HS0 : Hid ([] ++ seesP E (L.map (·.2)) = S) := hS0
      have HA := hide hA
      have hAo : LOk (A.map (·.2)) := by rw [HSN.out]; exact HSO.out
      have HAO := hide hAo
      have HAL : Hid (A.length ≤ 100000) := by unfold Hid; omega
      clear hg hL hlo hel hll hA hAm hAl hS0 hAo
      go_enter Tryd.func3, Tryd.ntmps3
      go_wp2_with (first
        | go_big_skip
        | (go_at_call 9; refine Ret.calls (alive_s hS hK hF) ?_; clear hS; rintro r w ⟨rfl, hS⟩)
        | (go_at_call 10; refine Ret.calls (great_s hS hl HGR.out) ?_; clear hS; rintro r w ⟨rfl, hS⟩)
        | (show wpList _ _ _ (⟨some 13, .call _, _, _, _, _⟩ :: _) _ _; refine wpList_val rfl (op_len slInt rfl rfl (v := ve) (xs := E.map fun z => [I64 z]) rfl (by exact hS.rd he)) ?_; rw [HEL.out]; go_frame)
        | (show wpList _ _ _ (⟨some 14, .binOp _ _ _ _ _, _, _, _, _⟩ :: _) _ _; refine wpList_val rfl (op_igtr rfl rfl rfl HG.out) ?_; go_frame)
        | (go_at_call 11; refine Ret.calls (new_w hS he HE.out) ?_; clear hS; rintro r w ⟨p, rfl, hS⟩)
        | (go_at_call 12; refine Ret.calls (see_s hS hK hF hl HLO.out (by have := HLL.out; simpa using this)) ?_; clear hS; rintro r w hS; rw [HS0.out] at hS)
        | (go_at_call 13; refine Ret.calls (sees_s hS hl he HLL.out) ?_; clear hS; rintro av w hS; rw [HA.out] at hS)
        | (go_at_call 15; (refine Ret.calls (all_s (p := p) (E := E) (S := S) (hS.bring (by repeat (first | exact t0 | apply tS))) HSO.out) ?_); clear hS; rintro qv w ⟨q, hq, hS⟩; have HQ := hide hq; clear hq)
        | (go_at_call 14; refine Ret.calls (hS.callNo (sameSeen_s (v := qv) (u := av) (l := q) (m := A) (b := true) (hG_srd ((hS.bring (by repeat (first | exact t0 | apply tS))))) ⟨((hS.bring (by repeat (first | exact t0 | apply tS))).getOwn.rd), fun x hx => hS.rd (HAT.out x hx)⟩ (qlen HQ.out HSO.out) (qfew HQ.out HSO.out) (by simp [HQ.out, HSN.out]))) ?_; clear hS; rintro r w ⟨rfl, hS⟩)
        | (go_at_call 16; (refine Ret.calls (sumW_s (p := p) (E := E) (S := S) (hS.bring (by repeat (first | exact t0 | apply tS)))) ?_); clear hS; rintro r1 w ⟨rfl, hS⟩)
        | (go_at_call 17; (refine Ret.calls (rsumT_list (v := av) (l := A) (hS.bring (by repeat (first | exact t0 | apply tS))) HAT.out HAO.out) ?_); clear hS; rw [HSN.out]; rintro r1 w ⟨rfl, hS⟩)
        | (show wpList _ _ _ (⟨some 33, .binOp _ _ _ _ _, _, _, _, _⟩ :: _) _ _; refine wpList_val rfl (op_eqHash rfl rfl rfl (sumT_len S) rfl) ?_; go_frame)
        )
      go_ret
      exact ⟨rfl, hS.chg⟩
end Go.Proofs.YtnjeoaplohlgkaaDoor
