/- A watch has what came to its ends alone, in order: the law returns true. Conditions: those that stand ahead of each theorem. -/
import Derived.Test.YtnjeoaplohlgkaaDoorLPieces
namespace Go.Proofs.YtnjeoaplohlgkaaDoor
open Go.RowKit Go.Px Go.Sha
theorem sub_hit {s : PS} {R T : List PS} {k : Nat} (h : List.Sublist (s :: R) (T.drop k)) (hk : k < T.length) (he : T[k] = s) : List.Sublist R (T.drop (k + 1)) := by
  rw [List.drop_eq_getElem_cons hk, he] at h
  exact List.cons_sublist_cons.1 h
theorem sub_miss {s : PS} {R T : List PS} {k : Nat} (h : List.Sublist (s :: R) (T.drop k)) (hk : k < T.length) (he : T[k] ≠ s) : List.Sublist (s :: R) (T.drop (k + 1)) := by
  rw [List.drop_eq_getElem_cons hk] at h
  cases h with
  | cons _ h => exact h
  | cons_cons _ h => exact absurd rfl he
theorem sub_in {s : PS} {R T : List PS} {k : Nat} (h : List.Sublist (s :: R) (T.drop k)) : k < T.length := by
  rcases Nat.lt_or_ge k T.length with h1 | h1
  · exact h1
  · rw [List.drop_eq_nil_of_le h1] at h
    cases h
theorem same_t {u v : Value} {x s : PS} (h : x = s) : true = true ↔ [(u, x)].map (·.2) = [(v, s)].map (·.2) := by simp [h]
theorem same_f {u v : Value} {x s : PS} (h : x ≠ s) : false = true ↔ [(u, x)].map (·.2) = [(v, s)].map (·.2) := by simp [h]
theorem sees_idem (E : List Int) (T : List PS) : seesP E (seesP E T) = seesP E T := by
  unfold seesP
  rw [List.filter_filter]
  simp
set_option maxRecDepth 100000 in
set_option maxHeartbeats 8000000 in
theorem traceOnly_w {W : World} (hK : CIn All W 1 (kTab.map W32)) (hF : CIn All W 0 (first.map W32)) {ve vl : Value} {E : List Int} {L : List (Value × PS)} (he0 : Rd 1 W ve (E.map fun z => [I64 z])) (hE : ∀ z ∈ E, In64 z) (hl0 : SRd W vl L) (hL : ∀ x ∈ L, AIn x.2) :
    Calls Tryd.prog 5 #[ve, vl] W (Ret fun r w' => r = .bool true ∧ Chg No W w') := by
  have hS := SepL.start W
  have he := RdIn.of he0
  have hl := SIn.of hl0
  have HEL : Hid ((E.map fun z => [I64 z]).length = E.length) := by simp [Hid]
  have HLN : Hid ((L.map sC).length = L.length) := by simp [Hid]
  have HE := hide hE
  clear he0 hl0 hE
  cases hg : greatB (L.map (·.2)) with
  | true =>
    have HGR := hide hg
    clear hg hL
    go_enter Tryd.func5, Tryd.ntmps5
    go_wp2_with (first
      | (go_at_call 9; refine Ret.calls (alive_s hS hK hF) ?_; clear hS; rintro r w ⟨rfl, hS⟩)
      | (go_at_call 10; refine Ret.calls (great_s hS hl HGR.out) ?_; clear hS; rintro r w ⟨rfl, hS⟩)
      )
    go_ret
    exact ⟨rfl, hS.chg⟩
  | false =>
    have HGR := hide hg
    have hlo := lok_of hL hg
    by_cases hel : 100 < E.length
    · have HG : Hid (decide ((100 : Int) < (E.length : Int)) = true) := decT (by omega)
      clear hg hL hlo hel
      go_enter Tryd.func5, Tryd.ntmps5
      go_wp2_with (first
        | (go_at_call 9; refine Ret.calls (alive_s hS hK hF) ?_; clear hS; rintro r w ⟨rfl, hS⟩)
        | (go_at_call 10; refine Ret.calls (great_s hS hl HGR.out) ?_; clear hS; rintro r w ⟨rfl, hS⟩)
        | (show wpList _ _ _ (⟨some 19, .call _, _, _, _, _⟩ :: _) _ _; refine wpList_val rfl (op_len slInt rfl rfl (v := ve) (xs := E.map fun z => [I64 z]) rfl (by exact hS.rd he)) ?_; rw [HEL.out]; go_frame)
        | (show wpList _ _ _ (⟨some 20, .binOp _ _ _ _ _, _, _, _, _⟩ :: _) _ _; refine wpList_val rfl (op_igtr rfl rfl rfl HG.out) ?_; go_frame)
        )
      go_ret
      exact ⟨rfl, hS.chg⟩
    · have HG : Hid (decide ((100 : Int) < (E.length : Int)) = false) := decF (by omega)
      have HLO := hide hlo
      have hll := hlo.len
      rw [List.length_map] at hll
      have HLL := hide hll
      obtain ⟨T, hT⟩ : ∃ T, L.map (·.2) = T := ⟨_, rfl⟩
      have HTL : Hid (T.length = L.length) := by unfold Hid; rw [← hT, List.length_map]
      have HT := hide hT
      obtain ⟨S, hS1⟩ : ∃ S, seesP E T = S := ⟨_, rfl⟩
      have HSE := hide hS1
      have HSO : Hid (LOk S) := by rw [← hS1, ← hT]; exact hlo.sees E
      have HS0 : Hid ([] ++ seesP E (L.map (·.2)) = S) := by unfold Hid; rw [hT]; exact hS1
      have hsl := HSO.out.len
      have HS2 : Hid ([] ++ seesP E S = S) := by
        unfold Hid
        rw [List.nil_append, ← hS1, sees_idem]
      have HSUB0 : Hid (List.Sublist S T) := by
        rw [← hS1]
        exact List.filter_sublist
      obtain ⟨M1, hM1⟩ : ∃ m : Nat, m = 0 := ⟨0, rfl⟩
      clear hg hL hlo hT hS1 hM1
      go_enter Tryd.func5, Tryd.ntmps5
      go_wp2_with (first
        | (go_at_call 9; refine Ret.calls (alive_s hS hK hF) ?_; clear hS; rintro r w ⟨rfl, hS⟩)
        | (go_at_call 10; refine Ret.calls (great_s hS hl HGR.out) ?_; clear hS; rintro r w ⟨rfl, hS⟩)
        | (show wpList _ _ _ (⟨some 19, .call _, _, _, _, _⟩ :: _) _ _; refine wpList_val rfl (op_len slInt rfl rfl (v := ve) (xs := E.map fun z => [I64 z]) rfl (by exact hS.rd he)) ?_; rw [HEL.out]; go_frame)
        | (show wpList _ _ _ (⟨some 20, .binOp _ _ _ _ _, _, _, _, _⟩ :: _) _ _; refine wpList_val rfl (op_igtr rfl rfl rfl HG.out) ?_; go_frame)
        | (have m1 := M1; clear m1; go_at_call 11; refine Ret.calls (new_w hS he HE.out) ?_; clear hS M1; rintro r w ⟨p1, rfl, hS⟩)
        | (go_at_call 11; refine Ret.calls (new_w hS he HE.out) ?_; clear hS; rintro r w ⟨p2, rfl, hS⟩)
        | (go_at_call 12; refine Ret.calls (see_s (p := p1) (E := E) (S0 := []) (F := [hW p2 E []]) (hS.sel (by repeat (first | exact Sel.refl | refine Sel.take (by repeat (first | exact t0 | apply tS)) ?_ | apply Sel.drop))) hK hF hl HLO.out (by have := HLL.out; simpa using this)) ?_; clear hS; rintro r w hS; rw [HS0.out] at hS)
        | (go_at_call 15; (refine Ret.calls (all_s (p := p1) (E := E) (S := S) (hS.bring (by repeat (first | exact t0 | apply tS))) HSO.out) ?_); clear hS; rintro qv w ⟨q, hq, hS⟩; have HQ := hide hq; clear hq)
        | (show wpList _ _ _ (⟨some 31, .call _, _, _, _, _⟩ :: _) _ _; refine wpList_val rfl (op_len slSight rfl rfl (v := qv) (xs := q.map sC) rfl (hG_srd ((hS.bring (by repeat (first | exact t0 | apply tS))))).rd) ?_; rw [qlen2 HQ.out]; go_frame)
        )
      go_loopw [7, 32] (fun kv iv wr => ∃ (i k : Nat), iv = .int .i64 i ∧ kv = .int .i64 k ∧ i ≤ S.length ∧ k ≤ L.length ∧ Hid (List.Sublist (S.drop i) (T.drop k)) ∧ SepL All W wr [hG qv q, hW p2 E [], hW p1 E S]) (fun _ iv _ => S.length - (intOf iv).toNat)
      case atStart => exact ⟨0, 0, rfl, rfl, by omega, by omega, HSUB0.out, hS.sel (by repeat (first | exact Sel.refl | refine Sel.take (by repeat (first | exact t0 | apply tS)) ?_ | apply Sel.drop))⟩
      case round =>
        clear hS
        obtain ⟨i, k0, rfl, rfl, hi, hk0, HSUB, hS⟩ := hrel
        by_cases hlt : i < S.length
        · have hiq : i < q.length := by
            have := congrArg List.length HQ.out
            rw [List.length_map] at this
            omega
          have HIL : Hid (i < (q.map sC).length) := by unfold Hid; rw [List.length_map]; exact hiq
          obtain ⟨⟨u, s⟩, hx⟩ : ∃ x, q[i] = x := ⟨_, rfl⟩
          have hxm : (u, s) ∈ q := by rw [← hx]; exact List.getElem_mem hiq
          have HX : Hid ((q.map sC)[i]'HIL.out = sC (u, s)) := by
            unfold Hid
            rw [List.getElem_map, hx]
          have hsi : S[i] = s := by simp only [← HQ.out, List.getElem_map, hx]
          have hsm : s ∈ S := by rw [← hsi]; exact List.getElem_mem hlt
          have hin : s.to ∈ E := by
            have h2 := hsm
            rw [← HSE.out] at h2
            exact of_decide_eq_true (List.mem_filter.1 h2).2
          have HIN : Hid (decide (s.to ∈ E) = true) := decT hin
          have HUF := hide (sC_flat (x := (u, s)) ((hG_srd ((hS.bring (by repeat (first | exact t0 | apply tS))))).one hxm))
          have HUA := hide (fun (w : World) (F : List Hp) (h : SepL All W w (hG qv q :: F)) => fun x (hx2 : x ∈ [(u, s)]) => (hG_srd h).at_ x (by rw [List.mem_singleton.1 hx2]; exact hxm))
          obtain ⟨R, hR⟩ : ∃ R, S.drop (i + 1) = R := ⟨_, rfl⟩
          have hsub := HSUB.out
          rw [List.drop_eq_getElem_cons hlt, hsi, hR] at hsub
          have HSUB2 := hide hsub
          have HR := hide hR
          clear hx hxm hsi hsm hin hsub hR hiq
          go_wp2_with (first
            | (show wpList _ _ _ (⟨some 34, .indexAddr _ _ _, _, _, _, _⟩ :: _) _ _; refine wpList_val rfl (op_indexAddr slSight rfl (v := qv) (xs := q.map sC) rfl (k := i) rfl (hG_srd ((hS.bring (by repeat (first | exact t0 | apply tS))))).rd HIL.out) ?_; go_frame)
            | (show wpList _ _ _ (⟨some 35, .load _ _, _, _, _, _⟩ :: _) _ _; refine wpList_val rfl (op_loadE aggSight rfl (v := qv) (xs := q.map sC) (k := i) rfl (hG_srd ((hS.bring (by repeat (first | exact t0 | apply tS))))).rd HIL.out) ?_; rw [HX.out]; go_frame)
            | (show wpList _ _ _ (⟨some 9, .alloc _, _, _, _, _⟩ :: _) _ _; refine wpS_alloc hS rfl rfl Tryd.zeroValue39 (zs := [.int .i64 0, .int .i64 0, .int .i64 0, .slice none 0 0]) rfl ?_; clear hS; intro nb w hS; go_frame)
            | (show wpList _ _ _ (⟨_, .store 39 _ _, _, _, _, _⟩ :: _) _ _; (refine wpS_storeAll (b := nb) aggSight (hS.bring (by repeat (first | exact t0 | apply tS))) rfl rfl rfl (vs := sC (u, s)) rfl rfl HUF.out rfl ?_); clear hS; intro w hS; go_frame)
            | (show wpList _ _ _ (⟨some 37, .call _, _, _, _, _⟩ :: _) _ _; refine wpList_val rfl (op_len slInt rfl rfl (v := ve) (xs := E.map fun z => [I64 z]) rfl (by exact hS.rd he)) ?_; rw [HEL.out]; go_frame)
            )
          go_loopw [10, 38] (fun tv jv wr => ∃ (j : Nat) (th : Bool), jv = .int .i64 j ∧ tv = .bool th ∧ Hid (decide (s.to ∈ E.take j) = th) ∧ j ≤ E.length ∧ SepL All W wr [.blk nb 39 (sC (u, s)), hG qv q, hW p2 E [], hW p1 E S]) (fun _ jv _ => E.length - (intOf jv).toNat)
          case atStart => exact ⟨0, false, rfl, rfl, decide_eq_false (by simp), by omega, hS.sel (by repeat (first | exact Sel.refl | refine Sel.take (by repeat (first | exact t0 | apply tS)) ?_ | apply Sel.drop))⟩
          case round =>
            clear hS
            obtain ⟨j, th, rfl, rfl, HTH, hj, hS⟩ := hrel
            by_cases hje : j < E.length
            · have hjl : j < (E.map fun z => [I64 z]).length := by rw [HEL.out]; exact hje
              obtain ⟨z, hz⟩ : ∃ z, E[j] = z := ⟨_, rfl⟩
              have HZ := hide hz
              obtain ⟨be, hbe⟩ : ∃ b, (z == s.to) = b := ⟨_, rfl⟩
              have HZE := hide hbe
              have HTN : Hid (decide (s.to ∈ E.take (j + 1)) = (th || be)) := by
                unfold Hid
                rw [mem_take_next hje, HTH.out, hz, hbe]
              clear hz hbe
              cases th
              · go_wp2_with (first
                  | (show wpList _ _ _ (⟨some 40, .indexAddr _ _ _, _, _, _, _⟩ :: _) _ _; refine wpList_val rfl (op_indexAddr slInt rfl (v := ve) (xs := E.map fun z => [I64 z]) rfl (k := j) rfl (by exact hS.rd he) hjl) ?_; go_frame)
                  | (show wpList _ _ _ (⟨some 41, .load _ _, _, _, _, _⟩ :: _) _ _; refine wpList_val rfl (op_loadE1 oneInt rfl (v := ve) (k := j) rfl (f := I64) (us := E) (by exact hS.rd he) hje) ?_; rw [HZ.out]; go_frame)
                  | (show wpList _ _ _ (⟨some 46, .load _ _, _, _, _, _⟩ :: _) _ _; refine wpList_val rfl (op_load1S (b := nb) (T := 39) oneInt ((hS.bring (by repeat (first | exact t0 | apply tS)))) rfl rfl rfl) ?_; go_frame)
                  | (show wpList _ _ _ (⟨some 47, .binOp _ _ _ _ _, _, _, _, _⟩ :: _) _ _; refine wpList_val rfl (op_eqI' rfl rfl rfl HZE.out) ?_; go_frame)
                  )
                go_roundw
                case rel => exact ⟨j + 1, _, by go_num, rfl, HTN, by omega, hS.sel (by repeat (first | exact Sel.refl | refine Sel.take (by repeat (first | exact t0 | apply tS)) ?_ | apply Sel.drop))⟩
                case measure => simp [intOf]; omega
              · go_wp2_with (first
                  | (show wpList _ _ _ (⟨some 40, .indexAddr _ _ _, _, _, _, _⟩ :: _) _ _; refine wpList_val rfl (op_indexAddr slInt rfl (v := ve) (xs := E.map fun z => [I64 z]) rfl (k := j) rfl (by exact hS.rd he) hjl) ?_; go_frame)
                  | (show wpList _ _ _ (⟨some 41, .load _ _, _, _, _, _⟩ :: _) _ _; refine wpList_val rfl (op_loadE1 oneInt rfl (v := ve) (k := j) rfl (f := I64) (us := E) (by exact hS.rd he) hje) ?_; rw [HZ.out]; go_frame)
                  )
                go_roundw
                case rel => exact ⟨j + 1, true, by go_num, rfl, HTN, by omega, hS.sel (by repeat (first | exact Sel.refl | refine Sel.take (by repeat (first | exact t0 | apply tS)) ?_ | apply Sel.drop))⟩
                case measure => simp [intOf]; omega
            · have hj2 : j = E.length := by omega
              subst hj2
              have hth := HTH.out
              rw [List.take_length, HIN.out] at hth
              subst hth
              go_wp2_with fail
              go_loopw [7] (fun kv wr => ∃ (k : Nat), kv = .int .i64 k ∧ k ≤ L.length ∧ Hid (List.Sublist (s :: R) (T.drop k)) ∧ SepL All W wr [.blk nb 39 (sC (u, s)), hG qv q, hW p2 E [], hW p1 E S]) (fun kv _ => L.length - (intOf kv).toNat)
              case atStart => exact ⟨k0, rfl, by omega, HSUB2, hS.sel (by repeat (first | exact Sel.refl | refine Sel.take (by repeat (first | exact t0 | apply tS)) ?_ | apply Sel.drop))⟩
              case round =>
                clear hS
                obtain ⟨k, rfl, hk, HSB, hS⟩ := hrel
                have hkt : k < T.length := sub_in HSB.out
                have hkl : k < L.length := by rw [← HTL.out]; exact hkt
                have HKL : Hid (decide ((k : Int) < (L.length : Int)) = true) := decT (by omega)
                have HKL2 : Hid (k + 1 ≤ (L.map sC).length) := by unfold Hid; rw [HLN.out]; omega
                have HKN : Hid (((k : Int) == (L.length : Int)) = false) := eqF (by omega)
                obtain ⟨y, hy⟩ : ∃ y, L[k] = y := ⟨_, rfl⟩
                have hym : y ∈ L := by rw [← hy]; exact List.getElem_mem hkl
                have hty : T[k] = y.2 := by simp only [← HT.out, List.getElem_map, hy]
                have HCUT : Hid (∀ w : World, Rd 4 w vl (L.map sC) → Rd 4 w (cutV 4 vl k (k + 1)) ([y].map sC)) := by
                  intro w h
                  have h2 := h.cutV (l := k) (h := k + 1) (Nat.le_succ _) HKL2.out
                  rw [List.drop_eq_getElem_cons (by rw [HLN.out]; exact hkl), List.getElem_map, hy, show k + 1 - k = 1 by omega, List.take_succ_cons, List.take_zero] at h2
                  exact h2
                have HYA := hide (fun (w : World) (F : List Hp) (h : SepL All W w F) => fun x (hx2 : x ∈ [y]) => h.rd (hl.at_ x (by rw [List.mem_singleton.1 hx2]; exact hym)))
                have HY1 : Hid ([y].length ≤ 100000) := by simp [Hid]
                have HY2 : Hid (∀ x ∈ [y], x.2.bytes.length ≤ 100000) := by
                  intro x hx2
                  rw [List.mem_singleton.1 hx2]
                  exact (HLO.out.all y.2 (List.mem_map.2 ⟨y, hym, rfl⟩)).few
                by_cases hys : y.2 = s
                · have HYT := hide hys
                  have HSN : Hid (List.Sublist (S.drop (i + 1)) (T.drop (k + 1))) := by
                    unfold Hid
                    rw [HR.out]
                    exact sub_hit HSB.out hkt (by rw [hty, hys])
                  clear hkt hy hym hty hys
                  go_wp2_with fail
                  refine wp_region_text (by kernel_rfl) (by kernel_rfl) (by repeat (first | exact Clean.body | refine Clean.then ?_ | refine Clean.inBlock ?_)) ?_
                  replace hS := hS.drew
                  go_wp2_with (first
                    | (show wpList _ _ _ (⟨some 52, .call _, _, _, _, _⟩ :: _) _ _; refine wpList_val rfl (op_len slSight rfl rfl (v := vl) (xs := L.map sC) rfl (by exact hS.rd hl.rd)) ?_; rw [HLN.out]; go_frame)
                    | (show wpList _ _ _ (⟨some 53, .binOp _ _ _ _ _, _, _, _, _⟩ :: _) _ _; refine wpList_val rfl (op_ilss rfl rfl rfl HKL.out) ?_; go_frame)
                    | (show wpList _ _ _ (⟨some 58, .binOp _ _ _ _ _, _, _, _, _⟩ :: _) _ _; refine wpList_val rfl (op_iaddN rfl rfl rfl (k + 1) (by omega) (by omega)) ?_; go_frame)
                    | (show wpList _ _ _ (⟨some 59, .slice _ _ _ _ _, _, _, _, _⟩ :: _) _ _; refine wpList_val rfl (op_cut slSight rfl (v := vl) (xs := L.map sC) rfl (by exact hS.rd hl.rd) (l := k) (h := k + 1) (Or.inr rfl) (Or.inr rfl) (Nat.le_succ _) HKL2.out) ?_; go_frame)
                    | (show wpList _ _ _ (⟨some 60, .load _ _, _, _, _, _⟩ :: _) _ _; refine wpList_val rfl (op_load aggSight rfl rfl (SepL.getBlk (b := nb) (T := 39) ((hS.bring (by repeat (first | exact t0 | apply tS))))).cells rfl) ?_; go_frame)
                    | (show wpList _ _ _ (⟨_, .buildSlice 23 1 _, _, _, _, _⟩ :: _) _ _; refine wpS_build1A slSight (by omega) hS rfl rfl (cs := sC (u, s)) rfl rfl ?_; clear hS; intro v61 w hS; go_frame)
                    | (go_at_call 14; refine Ret.calls (hS.callNo (sameSeen_s (v := cutV 4 vl k (k + 1)) (u := v61) (l := [y]) (m := [(u, s)]) (b := true) ⟨HCUT.out _ (hS.rd hl.rd), HYA.out _ _ hS⟩ ⟨((hS.bring (by repeat (first | exact t0 | apply tS))).getOwn.rd), HUA.out _ _ ((hS.bring (by repeat (first | exact t0 | apply tS))))⟩ HY1.out HY2.out (same_t HYT.out))) ?_; clear hS; rintro r w ⟨rfl, hS⟩)
                    | (refine fin_mk (by kernel_rfl) ?_)
                    | (show wpList _ _ _ (⟨some 72, .call _, _, _, _, _⟩ :: _) _ _; refine wpList_val rfl (op_len slSight rfl rfl (v := vl) (xs := L.map sC) rfl (by exact hS.rd hl.rd)) ?_; rw [HLN.out]; go_frame)
                    | (show wpList _ _ _ (⟨some 73, .binOp _ _ _ _ _, _, _, _, _⟩ :: _) _ _; refine wpList_val rfl (op_eqI' rfl rfl rfl HKN.out) ?_; go_frame)
                    )
                  go_roundw
                  case rel => exact ⟨i + 1, k + 1, by go_num, by go_num, by omega, by omega, HSN, hS.sel (by repeat (first | exact Sel.refl | refine Sel.take (by repeat (first | exact t0 | apply tS)) ?_ | apply Sel.drop))⟩
                  case measure => simp [intOf]; omega
                · have HYF := hide hys
                  have HSN : Hid (List.Sublist (s :: R) (T.drop (k + 1))) := sub_miss HSB.out hkt (by rw [hty]; exact hys)
                  clear hkt hy hym hty hys
                  go_wp2_with fail
                  refine wp_region_text (by kernel_rfl) (by kernel_rfl) (by repeat (first | exact Clean.body | refine Clean.then ?_ | refine Clean.inBlock ?_)) ?_
                  replace hS := hS.drew
                  go_wp2_with (first
                    | (show wpList _ _ _ (⟨some 52, .call _, _, _, _, _⟩ :: _) _ _; refine wpList_val rfl (op_len slSight rfl rfl (v := vl) (xs := L.map sC) rfl (by exact hS.rd hl.rd)) ?_; rw [HLN.out]; go_frame)
                    | (show wpList _ _ _ (⟨some 53, .binOp _ _ _ _ _, _, _, _, _⟩ :: _) _ _; refine wpList_val rfl (op_ilss rfl rfl rfl HKL.out) ?_; go_frame)
                    | (show wpList _ _ _ (⟨some 58, .binOp _ _ _ _ _, _, _, _, _⟩ :: _) _ _; refine wpList_val rfl (op_iaddN rfl rfl rfl (k + 1) (by omega) (by omega)) ?_; go_frame)
                    | (show wpList _ _ _ (⟨some 59, .slice _ _ _ _ _, _, _, _, _⟩ :: _) _ _; refine wpList_val rfl (op_cut slSight rfl (v := vl) (xs := L.map sC) rfl (by exact hS.rd hl.rd) (l := k) (h := k + 1) (Or.inr rfl) (Or.inr rfl) (Nat.le_succ _) HKL2.out) ?_; go_frame)
                    | (show wpList _ _ _ (⟨some 60, .load _ _, _, _, _, _⟩ :: _) _ _; refine wpList_val rfl (op_load aggSight rfl rfl (SepL.getBlk (b := nb) (T := 39) ((hS.bring (by repeat (first | exact t0 | apply tS))))).cells rfl) ?_; go_frame)
                    | (show wpList _ _ _ (⟨_, .buildSlice 23 1 _, _, _, _, _⟩ :: _) _ _; refine wpS_build1A slSight (by omega) hS rfl rfl (cs := sC (u, s)) rfl rfl ?_; clear hS; intro v61 w hS; go_frame)
                    | (go_at_call 14; refine Ret.calls (hS.callNo (sameSeen_s (v := cutV 4 vl k (k + 1)) (u := v61) (l := [y]) (m := [(u, s)]) (b := false) ⟨HCUT.out _ (hS.rd hl.rd), HYA.out _ _ hS⟩ ⟨((hS.bring (by repeat (first | exact t0 | apply tS))).getOwn.rd), HUA.out _ _ ((hS.bring (by repeat (first | exact t0 | apply tS))))⟩ HY1.out HY2.out (same_f HYF.out))) ?_; clear hS; rintro r w ⟨rfl, hS⟩)
                    | (refine fin_mk (by kernel_rfl) ?_)
                    )
                  go_roundw
                  case rel => exact ⟨k + 1, by go_num, by omega, HSN, hS.sel (by repeat (first | exact Sel.refl | refine Sel.take (by repeat (first | exact t0 | apply tS)) ?_ | apply Sel.drop))⟩
                  case measure => simp [intOf]; omega
        · have hi2 : i = S.length := by omega
          subst hi2
          obtain ⟨M1, hM1⟩ : ∃ m : Nat, m = 0 := ⟨0, rfl⟩
          obtain ⟨M2, hM2⟩ : ∃ m : Nat, m = 0 := ⟨0, rfl⟩
          obtain ⟨M3, hM3⟩ : ∃ m : Nat, m = 0 := ⟨0, rfl⟩
          clear hM1 hM2 hM3
          go_wp2_with (first
            | (have m3 := M3; clear m3; go_at_call 15; (refine Ret.calls (all_s (p := p1) (E := E) (S := S) (hS.bring (by repeat (first | exact t0 | apply tS))) HSO.out) ?_); clear hS M3; rintro q0v w ⟨q0, hq0, hS⟩; have HQ0 := hide hq0; have HQO : Hid (LOk (q0.map (·.2))) := (by rw [hq0]; exact HSO.out); have HQM : Hid (0 + q0.length ≤ 10000) := (by have h := qlen2 hq0; rw [List.length_map] at h; unfold Hid; omega); clear hq0)
            | (go_at_call 12; refine Ret.calls (see_own (p := p2) (E := E) (S0 := []) (v := q0v) (L := q0) (F := [hW p1 E S]) (hS.sel (by repeat (first | exact Sel.refl | refine Sel.take (by repeat (first | exact t0 | apply tS)) ?_ | apply Sel.drop))) hK hF HQO.out HQM.out) ?_; clear hS; rintro r w hS; rw [HQ0.out, HS2.out] at hS)
            | (have m1 := M1; clear m1; go_at_call 15; (refine Ret.calls (all_s (p := p2) (E := E) (S := S) (hS.bring (by repeat (first | exact t0 | apply tS))) HSO.out) ?_); clear hS M1; rintro q1v w ⟨q1, hq1, hS⟩; have HQ1 := hide hq1; clear hq1)
            | (go_at_call 15; (refine Ret.calls (all_s (p := p1) (E := E) (S := S) (hS.bring (by repeat (first | exact t0 | apply tS))) HSO.out) ?_); clear hS; rintro q2v w ⟨q2, hq2, hS⟩; have HQ2 := hide hq2; clear hq2)
            | (go_at_call 14; refine Ret.calls (hS.callNo (sameSeen_s (v := q1v) (u := q2v) (l := q1) (m := q2) (b := true) (hG_srd ((hS.bring (by repeat (first | exact t0 | apply tS))))) (hG_srd ((hS.bring (by repeat (first | exact t0 | apply tS))))) (qlen HQ1.out HSO.out) (qfew HQ1.out HSO.out) (by simp [HQ1.out, HQ2.out]))) ?_; clear hS; rintro r w ⟨rfl, hS⟩)
            | (have m2 := M2; clear m2; go_at_call 16; (refine Ret.calls (sumW_s (p := p2) (E := E) (S := S) (hS.bring (by repeat (first | exact t0 | apply tS)))) ?_); clear hS M2; rintro r1 w ⟨rfl, hS⟩)
            | (go_at_call 16; (refine Ret.calls (sumW_s (p := p1) (E := E) (S := S) (hS.bring (by repeat (first | exact t0 | apply tS)))) ?_); clear hS; rintro r1 w ⟨rfl, hS⟩)
            | (show wpList _ _ _ (⟨some 92, .binOp _ _ _ _ _, _, _, _, _⟩ :: _) _ _; refine wpList_val rfl (op_eqHash rfl rfl rfl (sumT_len S) rfl) ?_; go_frame)
            )
          go_ret
          exact ⟨rfl, hS.chg⟩
end Go.Proofs.YtnjeoaplohlgkaaDoor
