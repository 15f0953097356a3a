/- Shown at once, or one by one, it is one: the law returns true. Conditions: those that stand ahead of each theorem. -/
import Derived.Test.YtnjeoaplohlgkaaDoorTLaw2
namespace Go.Proofs.YtnjeoaplohlgkaaDoor
open Go.RowKit Go.Px Go.Sha
theorem qlen2 {q : List (Value × PS)} {S : List PS} (h : q.map (·.2) = S) : (q.map sC).length = S.length := by rw [← h, List.length_map, List.length_map]
set_option maxRecDepth 100000 in
set_option maxHeartbeats 8000000 in
theorem tracePieces_w {W : World} (hK : CIn All W 1 (kTab.map W32)) (hF : CIn All W 0 (first.map W32)) {ve vl : Value} {E : List Int} {L : List (Value × PS)} (he0 : Rd 1 W ve (E.map fun z => [I64 z])) (hE : ∀ z ∈ E, In64 z) (hl0 : SRd W vl L) (hL : ∀ x ∈ L, AIn x.2) :
    Calls Tryd.prog 4 #[ve, vl] W (Ret fun r w' => r = .bool true ∧ Chg No W w') := by
  have hS := SepL.start W
  have he := RdIn.of he0
  have hl := SIn.of hl0
  have HEL : Hid ((E.map fun z => [I64 z]).length = E.length) := by simp [Hid]
  have HLN : Hid ((L.map sC).length = L.length) := by simp [Hid]
  have HE := hide hE
  clear he0 hl0 hE
  cases hg : greatB (L.map (·.2)) with
  | true =>
    have HGR := hide hg
    clear hg hL
    go_enter Tryd.func4, Tryd.ntmps4
    go_wp2_with (first
      | go_big_skip
      | (go_at_call 9; refine Ret.calls (alive_s hS hK hF) ?_; clear hS; rintro r w ⟨rfl, hS⟩)
      | (go_at_call 10; refine Ret.calls (great_s hS hl HGR.out) ?_; clear hS; rintro r w ⟨rfl, hS⟩)
      | (show wpList _ _ _ (⟨some 20, .call _, _, _, _, _⟩ :: _) _ _; refine wpList_val rfl (op_len slInt rfl rfl (v := ve) (xs := E.map fun z => [I64 z]) rfl (by exact hS.rd he)) ?_; rw [HEL.out]; go_frame)
      | (show wpList _ _ _ (⟨some 21, .binOp _ _ _ _ _, _, _, _, _⟩ :: _) _ _; refine wpList_val rfl (op_igtr rfl rfl rfl HG.out) ?_; go_frame)
      )
    go_ret
    exact ⟨rfl, hS.chg⟩
  | false =>
    have HGR := hide hg
    have hlo := lok_of hL hg
    by_cases hel : 100 < E.length
    · have HG : Hid (decide ((100 : Int) < (E.length : Int)) = true) := decT (by omega)
      clear hg hL hlo hel
      go_enter Tryd.func4, Tryd.ntmps4
      go_wp2_with (first
        | go_big_skip
        | (go_at_call 9; refine Ret.calls (alive_s hS hK hF) ?_; clear hS; rintro r w ⟨rfl, hS⟩)
        | (go_at_call 10; refine Ret.calls (great_s hS hl HGR.out) ?_; clear hS; rintro r w ⟨rfl, hS⟩)
        | (show wpList _ _ _ (⟨some 20, .call _, _, _, _, _⟩ :: _) _ _; refine wpList_val rfl (op_len slInt rfl rfl (v := ve) (xs := E.map fun z => [I64 z]) rfl (by exact hS.rd he)) ?_; rw [HEL.out]; go_frame)
        | (show wpList _ _ _ (⟨some 21, .binOp _ _ _ _ _, _, _, _, _⟩ :: _) _ _; refine wpList_val rfl (op_igtr rfl rfl rfl HG.out) ?_; go_frame)
        )
      go_ret
      exact ⟨rfl, hS.chg⟩
    · have HG : Hid (decide ((100 : Int) < (E.length : Int)) = false) := decF (by omega)
      have HLO := hide hlo
      have hll := hlo.len
      rw [List.length_map] at hll
      have HLL := hide hll
      obtain ⟨T, hT⟩ : ∃ T, L.map (·.2) = T := ⟨_, rfl⟩
      have HTL : Hid (T.length = L.length) := by unfold Hid; rw [← hT, List.length_map]
      have HT := hide hT
      obtain ⟨ST, hST⟩ : ∃ S, seesP E T = S := ⟨_, rfl⟩
      have HST := hide hST
      have HSTO : Hid (LOk ST) := by rw [← hST, ← hT]; exact hlo.sees E
      have HS0 : Hid ([] ++ seesP E (L.map (·.2)) = ST) := by unfold Hid; rw [hT]; exact hST
      obtain ⟨M1, hM1⟩ : ∃ m : Nat, m = 0 := ⟨0, rfl⟩
      clear hg hL hlo hT hST hM1
      go_enter Tryd.func4, Tryd.ntmps4
      go_wp2_with (first
        | go_big_skip
        | (go_at_call 9; refine Ret.calls (alive_s hS hK hF) ?_; clear hS; rintro r w ⟨rfl, hS⟩)
        | (go_at_call 10; refine Ret.calls (great_s hS hl HGR.out) ?_; clear hS; rintro r w ⟨rfl, hS⟩)
        | (show wpList _ _ _ (⟨some 20, .call _, _, _, _, _⟩ :: _) _ _; refine wpList_val rfl (op_len slInt rfl rfl (v := ve) (xs := E.map fun z => [I64 z]) rfl (by exact hS.rd he)) ?_; rw [HEL.out]; go_frame)
        | (show wpList _ _ _ (⟨some 21, .binOp _ _ _ _ _, _, _, _, _⟩ :: _) _ _; refine wpList_val rfl (op_igtr rfl rfl rfl HG.out) ?_; go_frame)
        | (have m1 := M1; clear m1; go_at_call 11; refine Ret.calls (new_w hS he HE.out) ?_; clear hS M1; rintro r w ⟨p1, rfl, hS⟩)
        | (go_at_call 11; refine Ret.calls (new_w hS he HE.out) ?_; clear hS; rintro r w ⟨p2, rfl, hS⟩)
        | (go_at_call 12; refine Ret.calls (see_s (p := p1) (E := E) (S0 := []) (F := [hW p2 E []]) (hS.sel (by repeat (first | exact Sel.refl | refine Sel.take (by repeat (first | exact t0 | apply tS)) ?_ | apply Sel.drop))) hK hF hl HLO.out (by have := HLL.out; simpa using this)) ?_; clear hS; rintro r w hS; rw [HS0.out] at hS)
        | (show wpList _ _ _ (⟨some 31, .call _, _, _, _, _⟩ :: _) _ _; refine wpList_val rfl (op_len slSight rfl rfl (v := vl) (xs := L.map sC) rfl (by exact hS.rd hl.rd)) ?_; rw [HLN.out]; go_frame)
        )
      go_loopw [32] (fun iv wr => ∃ (k : Nat) (S : List PS), iv = .int .i64 k ∧ k ≤ L.length ∧ Hid (S = seesP E (T.take k)) ∧ SepL All W wr [hW p2 E S, hW p1 E ST]) (fun iv _ => L.length - (intOf iv).toNat)
      case atStart => exact ⟨0, [], rfl, by omega, rfl, hS.sel (by repeat (first | exact Sel.refl | refine Sel.take (by repeat (first | exact t0 | apply tS)) ?_ | apply Sel.drop))⟩
      case round =>
        clear hS
        obtain ⟨k, S, rfl, hk, HS, hS⟩ := hrel
        by_cases hlt : k < L.length
        · have hlk : k < (L.map sC).length := by rw [HLN.out]; exact hlt
          obtain ⟨⟨u, s⟩, hx⟩ : ∃ x, L[k] = x := ⟨_, rfl⟩
          have hxm : (u, s) ∈ L := by rw [← hx]; exact List.getElem_mem hlt
          have HX : Hid ((L.map sC)[k] = sC (u, s)) := by
            unfold Hid
            rw [List.getElem_map, hx]
          have hur := hl.at_ _ hxm
          have HAT1 : Hid (∀ x ∈ [(u, s)], RdIn All W 1 x.1 (bytes x.2.bytes)) := by
            intro x hx2
            rw [List.mem_singleton.1 hx2]
            exact hur
          have HUF := hide (sC_flat (x := (u, s)) (hS.rd hur).one1)
          have hktl : k < T.length := by rw [HTL.out]; exact hlt
          have hsk : T[k] = s := by simp only [← HT.out, List.getElem_map, hx]
          have htk : LOk (T.take k) := by rw [← HT.out]; exact HLO.out.take k
          have hso : LOk S := by rw [HS.out]; exact htk.sees E
          have HSO := hide hso
          have hsok := HLO.out.all s (List.mem_map.2 ⟨(u, s), hxm, rfl⟩)
          have HLO1 : Hid (LOk ([(u, s)].map (·.2))) := ⟨by simp, fun t ht => by
            have ht2 : t = s := by simpa using ht
            rw [ht2]
            exact hsok⟩
          have hsl : S.length ≤ L.length := by
            rw [HS.out]
            refine Nat.le_trans (sees_len _ _) ?_
            rw [List.length_take, HTL.out]
            omega
          have HLS1 : Hid (S.length + [(u, s)].length ≤ 10000) := by
            unfold Hid
            have h1 := heft_le HGR.out
            rw [List.length_map] at h1
            rw [List.length_singleton]
            omega
          have HSL : Hid (((sumT S).map B8).length = 32) := by unfold Hid; rw [List.length_map, sumT_len]
          obtain ⟨S1, hS1⟩ : ∃ S1, S ++ seesP E ([(u, s)].map (·.2)) = S1 := ⟨_, rfl⟩
          have HS1 := hide hS1
          have hone : seesP E ([(u, s)].map (·.2)) = if s.to ∈ E then [s] else [] := by
            unfold seesP
            by_cases h : s.to ∈ E
            · simp [h]
            · simp [h]
          have HSN : Hid (S1 = seesP E (T.take (k + 1))) := by
            unfold Hid
            rw [← hS1, sees_next hktl, hsk, hone, HS.out]
          have HSO1 : Hid (LOk S1) := by
            rw [HSN.out, ← HT.out]
            exact (HLO.out.take (k + 1)).sees E
          rw [hone] at hS1
          clear hx hxm hur hsk htk hso hsok hone
          by_cases hmem : s.to ∈ E
          · rw [if_pos hmem] at hS1
            have HIN : Hid (decide (s.to ∈ E) = true) := decT hmem
            have HN2 : Hid (((S1.length : Int) != ((S.length + 1 : Nat) : Int)) = false) := neF (by rw [← hS1]; simp)
            clear hS1 hmem hktl
            go_wp2_with (first
              | (show wpList _ _ _ (⟨some 34, .indexAddr _ _ _, _, _, _, _⟩ :: _) _ _; refine wpList_val rfl (op_indexAddr slSight rfl (v := vl) (xs := L.map sC) rfl (k := k) rfl (by exact hS.rd hl.rd) hlk) ?_; go_frame)
              | (show wpList _ _ _ (⟨some 35, .load _ _, _, _, _, _⟩ :: _) _ _; refine wpList_val rfl (op_loadE aggSight rfl (v := vl) (xs := L.map sC) (k := k) rfl (by exact hS.rd hl.rd) hlk) ?_; rw [HX.out]; go_frame)
              | (show wpList _ _ _ (⟨some 8, .alloc _, _, _, _, _⟩ :: _) _ _; refine wpS_alloc hS rfl rfl Tryd.zeroValue39 (zs := [.int .i64 0, .int .i64 0, .int .i64 0, .slice none 0 0]) rfl ?_; clear hS; intro nb w hS; go_frame)
              | (show wpList _ _ _ (⟨_, .store 39 _ _, _, _, _, _⟩ :: _) _ _; (refine wpS_storeAll (b := nb) aggSight (hS.bring (by repeat (first | exact t0 | apply tS))) rfl rfl rfl (vs := sC (u, s)) rfl rfl HUF.out rfl ?_); clear hS; intro w hS; go_frame)
              | (go_at_call 15; (refine Ret.calls (all_s (p := p2) (E := E) (S := S) (hS.bring (by repeat (first | exact t0 | apply tS))) HSO.out) ?_); clear hS; rintro qv w ⟨q, hq, hS⟩; have HQL := hide (qlen2 hq); clear hq)
              | (show wpList _ _ _ (⟨some 38, .call _, _, _, _, _⟩ :: _) _ _; refine wpList_val rfl (op_len slSight rfl rfl (v := qv) (xs := q.map sC) rfl (hG_srd ((hS.bring (by repeat (first | exact t0 | apply tS))))).rd) ?_; rw [HQL.out]; go_frame)
              | (go_at_call 16; (refine Ret.calls (sumW_s (p := p2) (E := E) (S := S) (hS.bring (by repeat (first | exact t0 | apply tS)))) ?_); clear hS; rintro r1 w ⟨rfl, hS⟩)
              | (show wpList _ _ _ (⟨some 10, .alloc _, _, _, _, _⟩ :: _) _ _; refine wpS_alloc hS rfl rfl zero32b (zs := (List.replicate 32 (0 : Byte)).map B8) rfl ?_; clear hS; intro nh w hS; go_frame)
              | (show wpList _ _ _ (⟨_, .store 33 _ _, _, _, _, _⟩ :: _) _ _; (refine wpS_storeAll (b := nh) agg32b (hS.bring (by repeat (first | exact t0 | apply tS))) rfl rfl rfl (vs := (sumT S).map B8) rfl HSL.out (B8_one _) (by rw [List.length_map, List.length_replicate]) ?_); clear hS; intro w hS; go_frame)
              | (show wpList _ _ _ (⟨some 42, .load _ _, _, _, _, _⟩ :: _) _ _; refine wpList_val rfl (op_load aggSight rfl rfl (SepL.getBlk (b := nb) (T := 39) ((hS.bring (by repeat (first | exact t0 | apply tS))))).cells rfl) ?_; go_frame)
              | (show wpList _ _ _ (⟨_, .buildSlice 23 1 _, _, _, _, _⟩ :: _) _ _; refine wpS_build1A slSight (by omega) hS rfl rfl (cs := sC (u, s)) rfl rfl ?_; clear hS; intro v43 w hS; go_frame)
              | (go_at_call 12; refine Ret.calls (see_list (p := p2) (E := E) (S0 := S) (v := v43) (l := [(u, s)]) (F := [.blk nh 33 ((sumT S).map B8), .blk nb 39 (sC (u, s)), hW p1 E ST]) (hS.sel (by repeat (first | exact Sel.refl | refine Sel.take (by repeat (first | exact t0 | apply tS)) ?_ | apply Sel.drop))) hK hF HAT1.out HLO1.out HLS1.out) ?_; clear hS; rintro r w hS; rw [HS1.out] at hS)
              | (show wpList _ _ _ (⟨some 46, .call _, _, _, _, _⟩ :: _) _ _; refine wpList_val rfl (op_len slInt rfl rfl (v := ve) (xs := E.map fun z => [I64 z]) rfl (by exact hS.rd he)) ?_; rw [HEL.out]; go_frame)
              )
            go_loopw [11, 47] (fun tv jv wr => ∃ (j : Nat) (th : Bool), jv = .int .i64 j ∧ tv = .bool th ∧ Hid (decide (s.to ∈ E.take j) = th) ∧ j ≤ E.length ∧ SepL All W wr [.blk nh 33 ((sumT S).map B8), .blk nb 39 (sC (u, s)), hW p2 E S1, hW p1 E ST]) (fun _ jv _ => E.length - (intOf jv).toNat)
            case atStart => exact ⟨0, false, rfl, rfl, decide_eq_false (by simp), by omega, hS.sel (by repeat (first | exact Sel.refl | refine Sel.take (by repeat (first | exact t0 | apply tS)) ?_ | apply Sel.drop))⟩
            case round =>
              clear hS
              obtain ⟨j, th, rfl, rfl, HTH, hj, hS⟩ := hrel
              by_cases hje : j < E.length
              · have hjl : j < (E.map fun z => [I64 z]).length := by rw [HEL.out]; exact hje
                obtain ⟨z, hz⟩ : ∃ z, E[j] = z := ⟨_, rfl⟩
                have HZ := hide hz
                obtain ⟨be, hbe⟩ : ∃ b, (z == s.to) = b := ⟨_, rfl⟩
                have HZE := hide hbe
                have HTN : Hid (decide (s.to ∈ E.take (j + 1)) = (th || be)) := by
                  unfold Hid
                  rw [mem_take_next hje, HTH.out, hz, hbe]
                clear hz hbe
                cases th
                · go_wp2_with (first
                    | go_big_skip
                    | (show wpList _ _ _ (⟨some 49, .indexAddr _ _ _, _, _, _, _⟩ :: _) _ _; refine wpList_val rfl (op_indexAddr slInt rfl (v := ve) (xs := E.map fun z => [I64 z]) rfl (k := j) rfl (by exact hS.rd he) hjl) ?_; go_frame)
                    | (show wpList _ _ _ (⟨some 50, .load _ _, _, _, _, _⟩ :: _) _ _; refine wpList_val rfl (op_loadE1 oneInt rfl (v := ve) (k := j) rfl (f := I64) (us := E) (by exact hS.rd he) hje) ?_; rw [HZ.out]; go_frame)
                    | (show wpList _ _ _ (⟨some 55, .load _ _, _, _, _, _⟩ :: _) _ _; refine wpList_val rfl (op_load1S (b := nb) (T := 39) oneInt ((hS.bring (by repeat (first | exact t0 | apply tS)))) rfl rfl rfl) ?_; go_frame)
                    | (show wpList _ _ _ (⟨some 56, .binOp _ _ _ _ _, _, _, _, _⟩ :: _) _ _; refine wpList_val rfl (op_eqI' rfl rfl rfl HZE.out) ?_; go_frame)
                    )
                  go_roundw
                  case rel => exact ⟨j + 1, _, by go_num, rfl, HTN, by omega, hS.sel (by repeat (first | exact Sel.refl | refine Sel.take (by repeat (first | exact t0 | apply tS)) ?_ | apply Sel.drop))⟩
                  case measure => simp [intOf]; omega
                · go_wp2_with (first
                    | go_big_skip
                    | (show wpList _ _ _ (⟨some 49, .indexAddr _ _ _, _, _, _, _⟩ :: _) _ _; refine wpList_val rfl (op_indexAddr slInt rfl (v := ve) (xs := E.map fun z => [I64 z]) rfl (k := j) rfl (by exact hS.rd he) hjl) ?_; go_frame)
                    | (show wpList _ _ _ (⟨some 50, .load _ _, _, _, _, _⟩ :: _) _ _; refine wpList_val rfl (op_loadE1 oneInt rfl (v := ve) (k := j) rfl (f := I64) (us := E) (by exact hS.rd he) hje) ?_; rw [HZ.out]; go_frame)
                    | (show wpList _ _ _ (⟨some 55, .load _ _, _, _, _, _⟩ :: _) _ _; refine wpList_val rfl (op_load1S (b := nb) (T := 39) oneInt ((hS.bring (by repeat (first | exact t0 | apply tS)))) rfl rfl rfl) ?_; go_frame)
                    | (show wpList _ _ _ (⟨some 56, .binOp _ _ _ _ _, _, _, _, _⟩ :: _) _ _; refine wpList_val rfl (op_eqI' rfl rfl rfl HZE.out) ?_; go_frame)
                    )
                  go_roundw
                  case rel => exact ⟨j + 1, true, by go_num, rfl, HTN, by omega, hS.sel (by repeat (first | exact Sel.refl | refine Sel.take (by repeat (first | exact t0 | apply tS)) ?_ | apply Sel.drop))⟩
                  case measure => simp [intOf]; omega
              · have hj2 : j = E.length := by omega
                subst hj2
                have hth := HTH.out
                rw [List.take_length, HIN.out] at hth
                subst hth
                go_wp2_with fail
                refine wp_region_ord (by kernel_rfl) [10] [[0, 1, 2, 3, 6, 4, 5, 7, 8, 9, 11, 10, 12, 13, 14, 15, 16, 17, 18, 21, 22, 19, 20, 23, 24, 25]] (by kernel_rfl) (by kernel_rfl) (fun w' => Blk w' nh 33 ((sumT S).map B8)) Up.blk ((hS.bring (by repeat (first | exact t0 | apply tS))).getBlk) (by repeat (first | exact Clean.body | refine Clean.then ?_ | refine Clean.inBlock ?_ | refine SegQ.clean ?_ | refine FinC.clean ?_)) ?_
                replace hS := hS.drew
                refine ord_seg (by repeat (first | exact Clean.body | refine Clean.then ?_ | refine Clean.inBlock ?_ | refine SegQ.clean ?_ | refine FinC.clean ?_)) (n := 20) (rest := [[5, 7, 8, 9, 11, 10, 12, 13, 14, 15, 16, 17, 18, 21, 22, 19, 20, 23, 24, 25]]) [0, 1, 2, 3, 6, 4] [⟨_, _, _, _, _, _⟩, ⟨_, _, _, _, _, _⟩, ⟨_, _, _, _, _, _⟩, ⟨_, _, _, _, _, _⟩, ⟨_, _, _, _, _, _⟩, ⟨_, _, _, _, _, _⟩] rfl (by kernel_rfl) (by simp) _ _ ?_
                go_wp2_with (first
                  | go_big_skip
                  | (go_at_call 15; (refine Ret.calls (all_s (p := p2) (E := E) (S := S1) (hS.bring (by repeat (first | exact t0 | apply tS))) HSO1.out) ?_); clear hS; rintro q3v w ⟨q3, hq, hS⟩; have HQL3 := hide (qlen2 hq); clear hq)
                  | (show wpList _ _ _ (⟨_, .call ⟨.builtin .len, _, _⟩, _, _, _, _⟩ :: _) _ _; refine wpList_val rfl (op_len slSight rfl rfl (v := q3v) (xs := q3.map sC) rfl (hG_srd ((hS.bring (by repeat (first | exact t0 | apply tS))))).rd) ?_; rw [HQL3.out]; go_frame)
                  | (show wpList _ _ _ (⟨some 66, .binOp _ _ _ _ _, _, _, _, _⟩ :: _) _ _; refine wpList_val rfl (op_ineI rfl rfl rfl HN1.out) ?_; go_frame)
                  | (go_at_call 16; (refine Ret.calls (sumW_s (p := p2) (E := E) (S := S1) (hS.bring (by repeat (first | exact t0 | apply tS)))) ?_); clear hS; rintro r1 w ⟨rfl, hS⟩)
                  | (show wpList _ _ _ (⟨some 70, .load _ _, _, _, _, _⟩ :: _) _ _; refine wpList_val rfl (op_load agg32b rfl rfl (SepL.getBlk (b := nh) (T := 33) ((hS.bring (by repeat (first | exact t0 | apply tS))))).cells HSL.out) ?_; go_frame)
                  | (show wpList _ _ _ (⟨some 71, .binOp _ _ _ _ _, _, _, _, _⟩ :: _) _ _; refine wpList_val rfl (op_neHash rfl rfl rfl (sumT_len S1) HSE.out) ?_; go_frame)
                  | (show wpList _ _ _ (⟨some 81, .binOp _ _ _ _ _, _, _, _, _⟩ :: _) _ _; refine wpList_val rfl (op_iaddN rfl rfl rfl (S.length + 1) (by omega) (by omega)) ?_; go_frame)
                  | (show wpList _ _ _ (⟨some 82, .binOp _ _ _ _ _, _, _, _, _⟩ :: _) _ _; refine wpList_val rfl (op_ineI rfl rfl rfl HN2.out) ?_; go_frame)
                  )
                refine segQ_mk (((hS.bring (by repeat (first | exact t0 | apply tS))).getBlk) : Blk _ nh 33 ((sumT S).map B8)) ?_
                refine ord_seg (by repeat (first | exact Clean.body | refine Clean.then ?_ | refine Clean.inBlock ?_ | refine SegQ.clean ?_ | refine FinC.clean ?_)) (n := 14) (rest := [[12, 13, 14, 15, 16, 17, 18, 21, 22, 19, 20, 23, 24, 25]]) [5, 7, 8, 9, 11, 10] [⟨_, _, _, _, _, _⟩, ⟨_, _, _, _, _, _⟩, ⟨_, _, _, _, _, _⟩, ⟨_, _, _, _, _, _⟩, ⟨_, _, _, _, _, _⟩, ⟨_, _, _, _, _, _⟩] rfl (by kernel_rfl) (by simp) _ _ ?_
                go_wp2_with (first
                  | go_big_skip
                  | (go_at_call 15; (refine Ret.calls (all_s (p := p2) (E := E) (S := S1) (hS.bring (by repeat (first | exact t0 | apply tS))) HSO1.out) ?_); clear hS; rintro q3v w ⟨q3, hq, hS⟩; have HQL3 := hide (qlen2 hq); clear hq)
                  | (show wpList _ _ _ (⟨_, .call ⟨.builtin .len, _, _⟩, _, _, _, _⟩ :: _) _ _; refine wpList_val rfl (op_len slSight rfl rfl (v := q3v) (xs := q3.map sC) rfl (hG_srd ((hS.bring (by repeat (first | exact t0 | apply tS))))).rd) ?_; rw [HQL3.out]; go_frame)
                  | (show wpList _ _ _ (⟨some 66, .binOp _ _ _ _ _, _, _, _, _⟩ :: _) _ _; refine wpList_val rfl (op_ineI rfl rfl rfl HN1.out) ?_; go_frame)
                  | (go_at_call 16; (refine Ret.calls (sumW_s (p := p2) (E := E) (S := S1) (hS.bring (by repeat (first | exact t0 | apply tS)))) ?_); clear hS; rintro r1 w ⟨rfl, hS⟩)
                  | (show wpList _ _ _ (⟨some 70, .load _ _, _, _, _, _⟩ :: _) _ _; refine wpList_val rfl (op_load agg32b rfl rfl (SepL.getBlk (b := nh) (T := 33) ((hS.bring (by repeat (first | exact t0 | apply tS))))).cells HSL.out) ?_; go_frame)
                  | (show wpList _ _ _ (⟨some 71, .binOp _ _ _ _ _, _, _, _, _⟩ :: _) _ _; refine wpList_val rfl (op_neHash rfl rfl rfl (sumT_len S1) HSE.out) ?_; go_frame)
                  | (show wpList _ _ _ (⟨some 81, .binOp _ _ _ _ _, _, _, _, _⟩ :: _) _ _; refine wpList_val rfl (op_iaddN rfl rfl rfl (S.length + 1) (by omega) (by omega)) ?_; go_frame)
                  | (show wpList _ _ _ (⟨some 82, .binOp _ _ _ _ _, _, _, _, _⟩ :: _) _ _; refine wpList_val rfl (op_ineI rfl rfl rfl HN2.out) ?_; go_frame)
                  )
                refine segQ_mk (((hS.bring (by repeat (first | exact t0 | apply tS))).getBlk) : Blk _ nh 33 ((sumT S).map B8)) ?_
                refine ord_seg (by repeat (first | exact Clean.body | refine Clean.then ?_ | refine Clean.inBlock ?_ | refine SegQ.clean ?_ | refine FinC.clean ?_)) (n := 13) (rest := [[13, 14, 15, 16, 17, 18, 21, 22, 19, 20, 23, 24, 25]]) [12] [⟨_, _, _, _, _, _⟩] rfl (by kernel_rfl) (by simp) _ _ ?_
                go_wp2_with (first
                  | go_big_skip
                  | (go_at_call 15; (refine Ret.calls (all_s (p := p2) (E := E) (S := S1) (hS.bring (by repeat (first | exact t0 | apply tS))) HSO1.out) ?_); clear hS; rintro q3v w ⟨q3, hq, hS⟩; have HQL3 := hide (qlen2 hq); clear hq)
                  | (show wpList _ _ _ (⟨_, .call ⟨.builtin .len, _, _⟩, _, _, _, _⟩ :: _) _ _; refine wpList_val rfl (op_len slSight rfl rfl (v := q3v) (xs := q3.map sC) rfl (hG_srd ((hS.bring (by repeat (first | exact t0 | apply tS))))).rd) ?_; rw [HQL3.out]; go_frame)
                  | (show wpList _ _ _ (⟨some 66, .binOp _ _ _ _ _, _, _, _, _⟩ :: _) _ _; refine wpList_val rfl (op_ineI rfl rfl rfl HN1.out) ?_; go_frame)
                  | (go_at_call 16; (refine Ret.calls (sumW_s (p := p2) (E := E) (S := S1) (hS.bring (by repeat (first | exact t0 | apply tS)))) ?_); clear hS; rintro r1 w ⟨rfl, hS⟩)
                  | (show wpList _ _ _ (⟨some 70, .load _ _, _, _, _, _⟩ :: _) _ _; refine wpList_val rfl (op_load agg32b rfl rfl (SepL.getBlk (b := nh) (T := 33) ((hS.bring (by repeat (first | exact t0 | apply tS))))).cells HSL.out) ?_; go_frame)
                  | (show wpList _ _ _ (⟨some 71, .binOp _ _ _ _ _, _, _, _, _⟩ :: _) _ _; refine wpList_val rfl (op_neHash rfl rfl rfl (sumT_len S1) HSE.out) ?_; go_frame)
                  | (show wpList _ _ _ (⟨some 81, .binOp _ _ _ _ _, _, _, _, _⟩ :: _) _ _; refine wpList_val rfl (op_iaddN rfl rfl rfl (S.length + 1) (by omega) (by omega)) ?_; go_frame)
                  | (show wpList _ _ _ (⟨some 82, .binOp _ _ _ _ _, _, _, _, _⟩ :: _) _ _; refine wpList_val rfl (op_ineI rfl rfl rfl HN2.out) ?_; go_frame)
                  )
                refine segQ_mk (((hS.bring (by repeat (first | exact t0 | apply tS))).getBlk) : Blk _ nh 33 ((sumT S).map B8)) ?_
                refine ord_seg (by repeat (first | exact Clean.body | refine Clean.then ?_ | refine Clean.inBlock ?_ | refine SegQ.clean ?_ | refine FinC.clean ?_)) (n := 4) (rest := [[20, 23, 24, 25]]) [13, 14, 15, 16, 17, 18, 21, 22, 19] [⟨_, _, _, _, _, _⟩, ⟨_, _, _, _, _, _⟩, ⟨_, _, _, _, _, _⟩, ⟨_, _, _, _, _, _⟩, ⟨_, _, _, _, _, _⟩, ⟨_, _, _, _, _, _⟩, ⟨_, _, _, _, _, _⟩, ⟨_, _, _, _, _, _⟩, ⟨_, _, _, _, _, _⟩] rfl (by kernel_rfl) (by simp) _ _ ?_
                go_wp2_with (first
                  | go_big_skip
                  | (go_at_call 15; (refine Ret.calls (all_s (p := p2) (E := E) (S := S1) (hS.bring (by repeat (first | exact t0 | apply tS))) HSO1.out) ?_); clear hS; rintro q3v w ⟨q3, hq, hS⟩; have HQL3 := hide (qlen2 hq); clear hq)
                  | (show wpList _ _ _ (⟨_, .call ⟨.builtin .len, _, _⟩, _, _, _, _⟩ :: _) _ _; refine wpList_val rfl (op_len slSight rfl rfl (v := q3v) (xs := q3.map sC) rfl (hG_srd ((hS.bring (by repeat (first | exact t0 | apply tS))))).rd) ?_; rw [HQL3.out]; go_frame)
                  | (show wpList _ _ _ (⟨some 66, .binOp _ _ _ _ _, _, _, _, _⟩ :: _) _ _; refine wpList_val rfl (op_ineI rfl rfl rfl HN1.out) ?_; go_frame)
                  | (go_at_call 16; (refine Ret.calls (sumW_s (p := p2) (E := E) (S := S1) (hS.bring (by repeat (first | exact t0 | apply tS)))) ?_); clear hS; rintro r1 w ⟨rfl, hS⟩)
                  | (show wpList _ _ _ (⟨some 70, .load _ _, _, _, _, _⟩ :: _) _ _; refine wpList_val rfl (op_load agg32b rfl rfl (SepL.getBlk (b := nh) (T := 33) ((hS.bring (by repeat (first | exact t0 | apply tS))))).cells HSL.out) ?_; go_frame)
                  | (show wpList _ _ _ (⟨some 71, .binOp _ _ _ _ _, _, _, _, _⟩ :: _) _ _; refine wpList_val rfl (op_neHash rfl rfl rfl (sumT_len S1) HSE.out) ?_; go_frame)
                  | (show wpList _ _ _ (⟨some 81, .binOp _ _ _ _ _, _, _, _, _⟩ :: _) _ _; refine wpList_val rfl (op_iaddN rfl rfl rfl (S.length + 1) (by omega) (by omega)) ?_; go_frame)
                  | (show wpList _ _ _ (⟨some 82, .binOp _ _ _ _ _, _, _, _, _⟩ :: _) _ _; refine wpList_val rfl (op_ineI rfl rfl rfl HN2.out) ?_; go_frame)
                  )
                refine segQ_mk (((hS.bring (by repeat (first | exact t0 | apply tS))).getBlk) : Blk _ nh 33 ((sumT S).map B8)) ?_
                refine ord_seg (by repeat (first | exact Clean.body | refine Clean.then ?_ | refine Clean.inBlock ?_ | refine SegQ.clean ?_ | refine FinC.clean ?_)) (n := 0) (rest := [[]]) [20, 23, 24, 25] [⟨_, _, _, _, _, _⟩, ⟨_, _, _, _, _, _⟩, ⟨_, _, _, _, _, _⟩, ⟨_, _, _, _, _, _⟩] rfl (by kernel_rfl) (by simp) _ _ ?_
                go_wp2_with (first
                  | go_big_skip
                  | (go_at_call 15; (refine Ret.calls (all_s (p := p2) (E := E) (S := S1) (hS.bring (by repeat (first | exact t0 | apply tS))) HSO1.out) ?_); clear hS; rintro q3v w ⟨q3, hq, hS⟩; have HQL3 := hide (qlen2 hq); clear hq)
                  | (show wpList _ _ _ (⟨_, .call ⟨.builtin .len, _, _⟩, _, _, _, _⟩ :: _) _ _; refine wpList_val rfl (op_len slSight rfl rfl (v := q3v) (xs := q3.map sC) rfl (hG_srd ((hS.bring (by repeat (first | exact t0 | apply tS))))).rd) ?_; rw [HQL3.out]; go_frame)
                  | (show wpList _ _ _ (⟨some 66, .binOp _ _ _ _ _, _, _, _, _⟩ :: _) _ _; refine wpList_val rfl (op_ineI rfl rfl rfl HN1.out) ?_; go_frame)
                  | (go_at_call 16; (refine Ret.calls (sumW_s (p := p2) (E := E) (S := S1) (hS.bring (by repeat (first | exact t0 | apply tS)))) ?_); clear hS; rintro r1 w ⟨rfl, hS⟩)
                  | (show wpList _ _ _ (⟨some 70, .load _ _, _, _, _, _⟩ :: _) _ _; refine wpList_val rfl (op_load agg32b rfl rfl (SepL.getBlk (b := nh) (T := 33) ((hS.bring (by repeat (first | exact t0 | apply tS))))).cells HSL.out) ?_; go_frame)
                  | (show wpList _ _ _ (⟨some 71, .binOp _ _ _ _ _, _, _, _, _⟩ :: _) _ _; refine wpList_val rfl (op_neHash rfl rfl rfl (sumT_len S1) HSE.out) ?_; go_frame)
                  | (show wpList _ _ _ (⟨some 81, .binOp _ _ _ _ _, _, _, _, _⟩ :: _) _ _; refine wpList_val rfl (op_iaddN rfl rfl rfl (S.length + 1) (by omega) (by omega)) ?_; go_frame)
                  | (show wpList _ _ _ (⟨some 82, .binOp _ _ _ _ _, _, _, _, _⟩ :: _) _ _; refine wpList_val rfl (op_ineI rfl rfl rfl HN2.out) ?_; go_frame)
                  )
                refine segQ_mk (((hS.bring (by repeat (first | exact t0 | apply tS))).getBlk) : Blk _ nh 33 ((sumT S).map B8)) ?_
                refine finC_mk (by kernel_rfl) (by
                  intro t ht
                  simp only [List.mem_cons, List.not_mem_nil, or_false] at ht
                  rcases ht with rfl
                  exact stab_blk (b := nh) (fun w h => h) _ none) ?_
                go_wp2_with fail
                go_roundw
                case rel => exact ⟨k + 1, S1, by go_num, by omega, HSN, hS.sel (by repeat (first | exact Sel.refl | refine Sel.take (by repeat (first | exact t0 | apply tS)) ?_ | apply Sel.drop))⟩
                case measure => simp [intOf]; omega
          · rw [if_neg hmem, List.append_nil] at hS1
            have HIN : Hid (decide (s.to ∈ E) = false) := decF hmem
            have HN1 : Hid (((S1.length : Int) != (S.length : Int)) = false) := neF (by rw [← hS1])
            have HSE : Hid (sumT S1 = sumT S) := by rw [← hS1]; rfl
            clear hS1 hmem hktl
            go_wp2_with (first
              | (show wpList _ _ _ (⟨some 34, .indexAddr _ _ _, _, _, _, _⟩ :: _) _ _; refine wpList_val rfl (op_indexAddr slSight rfl (v := vl) (xs := L.map sC) rfl (k := k) rfl (by exact hS.rd hl.rd) hlk) ?_; go_frame)
              | (show wpList _ _ _ (⟨some 35, .load _ _, _, _, _, _⟩ :: _) _ _; refine wpList_val rfl (op_loadE aggSight rfl (v := vl) (xs := L.map sC) (k := k) rfl (by exact hS.rd hl.rd) hlk) ?_; rw [HX.out]; go_frame)
              | (show wpList _ _ _ (⟨some 8, .alloc _, _, _, _, _⟩ :: _) _ _; refine wpS_alloc hS rfl rfl Tryd.zeroValue39 (zs := [.int .i64 0, .int .i64 0, .int .i64 0, .slice none 0 0]) rfl ?_; clear hS; intro nb w hS; go_frame)
              | (show wpList _ _ _ (⟨_, .store 39 _ _, _, _, _, _⟩ :: _) _ _; (refine wpS_storeAll (b := nb) aggSight (hS.bring (by repeat (first | exact t0 | apply tS))) rfl rfl rfl (vs := sC (u, s)) rfl rfl HUF.out rfl ?_); clear hS; intro w hS; go_frame)
              | (go_at_call 15; (refine Ret.calls (all_s (p := p2) (E := E) (S := S) (hS.bring (by repeat (first | exact t0 | apply tS))) HSO.out) ?_); clear hS; rintro qv w ⟨q, hq, hS⟩; have HQL := hide (qlen2 hq); clear hq)
              | (show wpList _ _ _ (⟨some 38, .call _, _, _, _, _⟩ :: _) _ _; refine wpList_val rfl (op_len slSight rfl rfl (v := qv) (xs := q.map sC) rfl (hG_srd ((hS.bring (by repeat (first | exact t0 | apply tS))))).rd) ?_; rw [HQL.out]; go_frame)
              | (go_at_call 16; (refine Ret.calls (sumW_s (p := p2) (E := E) (S := S) (hS.bring (by repeat (first | exact t0 | apply tS)))) ?_); clear hS; rintro r1 w ⟨rfl, hS⟩)
              | (show wpList _ _ _ (⟨some 10, .alloc _, _, _, _, _⟩ :: _) _ _; refine wpS_alloc hS rfl rfl zero32b (zs := (List.replicate 32 (0 : Byte)).map B8) rfl ?_; clear hS; intro nh w hS; go_frame)
              | (show wpList _ _ _ (⟨_, .store 33 _ _, _, _, _, _⟩ :: _) _ _; (refine wpS_storeAll (b := nh) agg32b (hS.bring (by repeat (first | exact t0 | apply tS))) rfl rfl rfl (vs := (sumT S).map B8) rfl HSL.out (B8_one _) (by rw [List.length_map, List.length_replicate]) ?_); clear hS; intro w hS; go_frame)
              | (show wpList _ _ _ (⟨some 42, .load _ _, _, _, _, _⟩ :: _) _ _; refine wpList_val rfl (op_load aggSight rfl rfl (SepL.getBlk (b := nb) (T := 39) ((hS.bring (by repeat (first | exact t0 | apply tS))))).cells rfl) ?_; go_frame)
              | (show wpList _ _ _ (⟨_, .buildSlice 23 1 _, _, _, _, _⟩ :: _) _ _; refine wpS_build1A slSight (by omega) hS rfl rfl (cs := sC (u, s)) rfl rfl ?_; clear hS; intro v43 w hS; go_frame)
              | (go_at_call 12; refine Ret.calls (see_list (p := p2) (E := E) (S0 := S) (v := v43) (l := [(u, s)]) (F := [.blk nh 33 ((sumT S).map B8), .blk nb 39 (sC (u, s)), hW p1 E ST]) (hS.sel (by repeat (first | exact Sel.refl | refine Sel.take (by repeat (first | exact t0 | apply tS)) ?_ | apply Sel.drop))) hK hF HAT1.out HLO1.out HLS1.out) ?_; clear hS; rintro r w hS; rw [HS1.out] at hS)
              | (show wpList _ _ _ (⟨some 46, .call _, _, _, _, _⟩ :: _) _ _; refine wpList_val rfl (op_len slInt rfl rfl (v := ve) (xs := E.map fun z => [I64 z]) rfl (by exact hS.rd he)) ?_; rw [HEL.out]; go_frame)
              )
            go_loopw [11, 47] (fun tv jv wr => ∃ (j : Nat) (th : Bool), jv = .int .i64 j ∧ tv = .bool th ∧ Hid (decide (s.to ∈ E.take j) = th) ∧ j ≤ E.length ∧ SepL All W wr [.blk nh 33 ((sumT S).map B8), .blk nb 39 (sC (u, s)), hW p2 E S1, hW p1 E ST]) (fun _ jv _ => E.length - (intOf jv).toNat)
            case atStart => exact ⟨0, false, rfl, rfl, decide_eq_false (by simp), by omega, hS.sel (by repeat (first | exact Sel.refl | refine Sel.take (by repeat (first | exact t0 | apply tS)) ?_ | apply Sel.drop))⟩
            case round =>
              clear hS
              obtain ⟨j, th, rfl, rfl, HTH, hj, hS⟩ := hrel
              by_cases hje : j < E.length
              · have hjl : j < (E.map fun z => [I64 z]).length := by rw [HEL.out]; exact hje
                obtain ⟨z, hz⟩ : ∃ z, E[j] = z := ⟨_, rfl⟩
                have HZ := hide hz
                obtain ⟨be, hbe⟩ : ∃ b, (z == s.to) = b := ⟨_, rfl⟩
                have HZE := hide hbe
                have HTN : Hid (decide (s.to ∈ E.take (j + 1)) = (th || be)) := by
                  unfold Hid
                  rw [mem_take_next hje, HTH.out, hz, hbe]
                clear hz hbe
                cases th
                · go_wp2_with (first
                    | go_big_skip
                    | (show wpList _ _ _ (⟨some 49, .indexAddr _ _ _, _, _, _, _⟩ :: _) _ _; refine wpList_val rfl (op_indexAddr slInt rfl (v := ve) (xs := E.map fun z => [I64 z]) rfl (k := j) rfl (by exact hS.rd he) hjl) ?_; go_frame)
                    | (show wpList _ _ _ (⟨some 50, .load _ _, _, _, _, _⟩ :: _) _ _; refine wpList_val rfl (op_loadE1 oneInt rfl (v := ve) (k := j) rfl (f := I64) (us := E) (by exact hS.rd he) hje) ?_; rw [HZ.out]; go_frame)
                    | (show wpList _ _ _ (⟨some 55, .load _ _, _, _, _, _⟩ :: _) _ _; refine wpList_val rfl (op_load1S (b := nb) (T := 39) oneInt ((hS.bring (by repeat (first | exact t0 | apply tS)))) rfl rfl rfl) ?_; go_frame)
                    | (show wpList _ _ _ (⟨some 56, .binOp _ _ _ _ _, _, _, _, _⟩ :: _) _ _; refine wpList_val rfl (op_eqI' rfl rfl rfl HZE.out) ?_; go_frame)
                    )
                  go_roundw
                  case rel => exact ⟨j + 1, _, by go_num, rfl, HTN, by omega, hS.sel (by repeat (first | exact Sel.refl | refine Sel.take (by repeat (first | exact t0 | apply tS)) ?_ | apply Sel.drop))⟩
                  case measure => simp [intOf]; omega
                · go_wp2_with (first
                    | go_big_skip
                    | (show wpList _ _ _ (⟨some 49, .indexAddr _ _ _, _, _, _, _⟩ :: _) _ _; refine wpList_val rfl (op_indexAddr slInt rfl (v := ve) (xs := E.map fun z => [I64 z]) rfl (k := j) rfl (by exact hS.rd he) hjl) ?_; go_frame)
                    | (show wpList _ _ _ (⟨some 50, .load _ _, _, _, _, _⟩ :: _) _ _; refine wpList_val rfl (op_loadE1 oneInt rfl (v := ve) (k := j) rfl (f := I64) (us := E) (by exact hS.rd he) hje) ?_; rw [HZ.out]; go_frame)
                    | (show wpList _ _ _ (⟨some 55, .load _ _, _, _, _, _⟩ :: _) _ _; refine wpList_val rfl (op_load1S (b := nb) (T := 39) oneInt ((hS.bring (by repeat (first | exact t0 | apply tS)))) rfl rfl rfl) ?_; go_frame)
                    | (show wpList _ _ _ (⟨some 56, .binOp _ _ _ _ _, _, _, _, _⟩ :: _) _ _; refine wpList_val rfl (op_eqI' rfl rfl rfl HZE.out) ?_; go_frame)
                    )
                  go_roundw
                  case rel => exact ⟨j + 1, true, by go_num, rfl, HTN, by omega, hS.sel (by repeat (first | exact Sel.refl | refine Sel.take (by repeat (first | exact t0 | apply tS)) ?_ | apply Sel.drop))⟩
                  case measure => simp [intOf]; omega
              · have hj2 : j = E.length := by omega
                subst hj2
                have hth := HTH.out
                rw [List.take_length, HIN.out] at hth
                subst hth
                go_wp2_with fail
                refine wp_region_ord (by kernel_rfl) [10] [[0, 1, 2, 3, 6, 4, 5, 7, 8, 9, 11, 10, 12, 13, 14, 15, 16, 17, 18, 21, 22, 19, 20, 23, 24, 25]] (by kernel_rfl) (by kernel_rfl) (fun w' => Blk w' nh 33 ((sumT S).map B8)) Up.blk ((hS.bring (by repeat (first | exact t0 | apply tS))).getBlk) (by repeat (first | exact Clean.body | refine Clean.then ?_ | refine Clean.inBlock ?_ | refine SegQ.clean ?_ | refine FinC.clean ?_)) ?_
                replace hS := hS.drew
                refine ord_seg (by repeat (first | exact Clean.body | refine Clean.then ?_ | refine Clean.inBlock ?_ | refine SegQ.clean ?_ | refine FinC.clean ?_)) (n := 20) (rest := [[5, 7, 8, 9, 11, 10, 12, 13, 14, 15, 16, 17, 18, 21, 22, 19, 20, 23, 24, 25]]) [0, 1, 2, 3, 6, 4] [⟨_, _, _, _, _, _⟩, ⟨_, _, _, _, _, _⟩, ⟨_, _, _, _, _, _⟩, ⟨_, _, _, _, _, _⟩, ⟨_, _, _, _, _, _⟩, ⟨_, _, _, _, _, _⟩] rfl (by kernel_rfl) (by simp) _ _ ?_
                go_wp2_with (first
                  | go_big_skip
                  | (go_at_call 15; (refine Ret.calls (all_s (p := p2) (E := E) (S := S1) (hS.bring (by repeat (first | exact t0 | apply tS))) HSO1.out) ?_); clear hS; rintro q3v w ⟨q3, hq, hS⟩; have HQL3 := hide (qlen2 hq); clear hq)
                  | (show wpList _ _ _ (⟨_, .call ⟨.builtin .len, _, _⟩, _, _, _, _⟩ :: _) _ _; refine wpList_val rfl (op_len slSight rfl rfl (v := q3v) (xs := q3.map sC) rfl (hG_srd ((hS.bring (by repeat (first | exact t0 | apply tS))))).rd) ?_; rw [HQL3.out]; go_frame)
                  | (show wpList _ _ _ (⟨some 66, .binOp _ _ _ _ _, _, _, _, _⟩ :: _) _ _; refine wpList_val rfl (op_ineI rfl rfl rfl HN1.out) ?_; go_frame)
                  | (go_at_call 16; (refine Ret.calls (sumW_s (p := p2) (E := E) (S := S1) (hS.bring (by repeat (first | exact t0 | apply tS)))) ?_); clear hS; rintro r1 w ⟨rfl, hS⟩)
                  | (show wpList _ _ _ (⟨some 70, .load _ _, _, _, _, _⟩ :: _) _ _; refine wpList_val rfl (op_load agg32b rfl rfl (SepL.getBlk (b := nh) (T := 33) ((hS.bring (by repeat (first | exact t0 | apply tS))))).cells HSL.out) ?_; go_frame)
                  | (show wpList _ _ _ (⟨some 71, .binOp _ _ _ _ _, _, _, _, _⟩ :: _) _ _; refine wpList_val rfl (op_neHash rfl rfl rfl (sumT_len S1) HSE.out) ?_; go_frame)
                  | (show wpList _ _ _ (⟨some 81, .binOp _ _ _ _ _, _, _, _, _⟩ :: _) _ _; refine wpList_val rfl (op_iaddN rfl rfl rfl (S.length + 1) (by omega) (by omega)) ?_; go_frame)
                  | (show wpList _ _ _ (⟨some 82, .binOp _ _ _ _ _, _, _, _, _⟩ :: _) _ _; refine wpList_val rfl (op_ineI rfl rfl rfl HN2.out) ?_; go_frame)
                  )
                refine segQ_mk (((hS.bring (by repeat (first | exact t0 | apply tS))).getBlk) : Blk _ nh 33 ((sumT S).map B8)) ?_
                refine ord_seg (by repeat (first | exact Clean.body | refine Clean.then ?_ | refine Clean.inBlock ?_ | refine SegQ.clean ?_ | refine FinC.clean ?_)) (n := 14) (rest := [[12, 13, 14, 15, 16, 17, 18, 21, 22, 19, 20, 23, 24, 25]]) [5, 7, 8, 9, 11, 10] [⟨_, _, _, _, _, _⟩, ⟨_, _, _, _, _, _⟩, ⟨_, _, _, _, _, _⟩, ⟨_, _, _, _, _, _⟩, ⟨_, _, _, _, _, _⟩, ⟨_, _, _, _, _, _⟩] rfl (by kernel_rfl) (by simp) _ _ ?_
                go_wp2_with (first
                  | go_big_skip
                  | (go_at_call 15; (refine Ret.calls (all_s (p := p2) (E := E) (S := S1) (hS.bring (by repeat (first | exact t0 | apply tS))) HSO1.out) ?_); clear hS; rintro q3v w ⟨q3, hq, hS⟩; have HQL3 := hide (qlen2 hq); clear hq)
                  | (show wpList _ _ _ (⟨_, .call ⟨.builtin .len, _, _⟩, _, _, _, _⟩ :: _) _ _; refine wpList_val rfl (op_len slSight rfl rfl (v := q3v) (xs := q3.map sC) rfl (hG_srd ((hS.bring (by repeat (first | exact t0 | apply tS))))).rd) ?_; rw [HQL3.out]; go_frame)
                  | (show wpList _ _ _ (⟨some 66, .binOp _ _ _ _ _, _, _, _, _⟩ :: _) _ _; refine wpList_val rfl (op_ineI rfl rfl rfl HN1.out) ?_; go_frame)
                  | (go_at_call 16; (refine Ret.calls (sumW_s (p := p2) (E := E) (S := S1) (hS.bring (by repeat (first | exact t0 | apply tS)))) ?_); clear hS; rintro r1 w ⟨rfl, hS⟩)
                  | (show wpList _ _ _ (⟨some 70, .load _ _, _, _, _, _⟩ :: _) _ _; refine wpList_val rfl (op_load agg32b rfl rfl (SepL.getBlk (b := nh) (T := 33) ((hS.bring (by repeat (first | exact t0 | apply tS))))).cells HSL.out) ?_; go_frame)
                  | (show wpList _ _ _ (⟨some 71, .binOp _ _ _ _ _, _, _, _, _⟩ :: _) _ _; refine wpList_val rfl (op_neHash rfl rfl rfl (sumT_len S1) HSE.out) ?_; go_frame)
                  | (show wpList _ _ _ (⟨some 81, .binOp _ _ _ _ _, _, _, _, _⟩ :: _) _ _; refine wpList_val rfl (op_iaddN rfl rfl rfl (S.length + 1) (by omega) (by omega)) ?_; go_frame)
                  | (show wpList _ _ _ (⟨some 82, .binOp _ _ _ _ _, _, _, _, _⟩ :: _) _ _; refine wpList_val rfl (op_ineI rfl rfl rfl HN2.out) ?_; go_frame)
                  )
                refine segQ_mk (((hS.bring (by repeat (first | exact t0 | apply tS))).getBlk) : Blk _ nh 33 ((sumT S).map B8)) ?_
                refine ord_seg (by repeat (first | exact Clean.body | refine Clean.then ?_ | refine Clean.inBlock ?_ | refine SegQ.clean ?_ | refine FinC.clean ?_)) (n := 13) (rest := [[13, 14, 15, 16, 17, 18, 21, 22, 19, 20, 23, 24, 25]]) [12] [⟨_, _, _, _, _, _⟩] rfl (by kernel_rfl) (by simp) _ _ ?_
                go_wp2_with (first
                  | go_big_skip
                  | (go_at_call 15; (refine Ret.calls (all_s (p := p2) (E := E) (S := S1) (hS.bring (by repeat (first | exact t0 | apply tS))) HSO1.out) ?_); clear hS; rintro q3v w ⟨q3, hq, hS⟩; have HQL3 := hide (qlen2 hq); clear hq)
                  | (show wpList _ _ _ (⟨_, .call ⟨.builtin .len, _, _⟩, _, _, _, _⟩ :: _) _ _; refine wpList_val rfl (op_len slSight rfl rfl (v := q3v) (xs := q3.map sC) rfl (hG_srd ((hS.bring (by repeat (first | exact t0 | apply tS))))).rd) ?_; rw [HQL3.out]; go_frame)
                  | (show wpList _ _ _ (⟨some 66, .binOp _ _ _ _ _, _, _, _, _⟩ :: _) _ _; refine wpList_val rfl (op_ineI rfl rfl rfl HN1.out) ?_; go_frame)
                  | (go_at_call 16; (refine Ret.calls (sumW_s (p := p2) (E := E) (S := S1) (hS.bring (by repeat (first | exact t0 | apply tS)))) ?_); clear hS; rintro r1 w ⟨rfl, hS⟩)
                  | (show wpList _ _ _ (⟨some 70, .load _ _, _, _, _, _⟩ :: _) _ _; refine wpList_val rfl (op_load agg32b rfl rfl (SepL.getBlk (b := nh) (T := 33) ((hS.bring (by repeat (first | exact t0 | apply tS))))).cells HSL.out) ?_; go_frame)
                  | (show wpList _ _ _ (⟨some 71, .binOp _ _ _ _ _, _, _, _, _⟩ :: _) _ _; refine wpList_val rfl (op_neHash rfl rfl rfl (sumT_len S1) HSE.out) ?_; go_frame)
                  | (show wpList _ _ _ (⟨some 81, .binOp _ _ _ _ _, _, _, _, _⟩ :: _) _ _; refine wpList_val rfl (op_iaddN rfl rfl rfl (S.length + 1) (by omega) (by omega)) ?_; go_frame)
                  | (show wpList _ _ _ (⟨some 82, .binOp _ _ _ _ _, _, _, _, _⟩ :: _) _ _; refine wpList_val rfl (op_ineI rfl rfl rfl HN2.out) ?_; go_frame)
                  )
                refine segQ_mk (((hS.bring (by repeat (first | exact t0 | apply tS))).getBlk) : Blk _ nh 33 ((sumT S).map B8)) ?_
                refine ord_seg (by repeat (first | exact Clean.body | refine Clean.then ?_ | refine Clean.inBlock ?_ | refine SegQ.clean ?_ | refine FinC.clean ?_)) (n := 4) (rest := [[20, 23, 24, 25]]) [13, 14, 15, 16, 17, 18, 21, 22, 19] [⟨_, _, _, _, _, _⟩, ⟨_, _, _, _, _, _⟩, ⟨_, _, _, _, _, _⟩, ⟨_, _, _, _, _, _⟩, ⟨_, _, _, _, _, _⟩, ⟨_, _, _, _, _, _⟩, ⟨_, _, _, _, _, _⟩, ⟨_, _, _, _, _, _⟩, ⟨_, _, _, _, _, _⟩] rfl (by kernel_rfl) (by simp) _ _ ?_
                go_wp2_with (first
                  | go_big_skip
                  | (go_at_call 15; (refine Ret.calls (all_s (p := p2) (E := E) (S := S1) (hS.bring (by repeat (first | exact t0 | apply tS))) HSO1.out) ?_); clear hS; rintro q3v w ⟨q3, hq, hS⟩; have HQL3 := hide (qlen2 hq); clear hq)
                  | (show wpList _ _ _ (⟨_, .call ⟨.builtin .len, _, _⟩, _, _, _, _⟩ :: _) _ _; refine wpList_val rfl (op_len slSight rfl rfl (v := q3v) (xs := q3.map sC) rfl (hG_srd ((hS.bring (by repeat (first | exact t0 | apply tS))))).rd) ?_; rw [HQL3.out]; go_frame)
                  | (show wpList _ _ _ (⟨some 66, .binOp _ _ _ _ _, _, _, _, _⟩ :: _) _ _; refine wpList_val rfl (op_ineI rfl rfl rfl HN1.out) ?_; go_frame)
                  | (go_at_call 16; (refine Ret.calls (sumW_s (p := p2) (E := E) (S := S1) (hS.bring (by repeat (first | exact t0 | apply tS)))) ?_); clear hS; rintro r1 w ⟨rfl, hS⟩)
                  | (show wpList _ _ _ (⟨some 70, .load _ _, _, _, _, _⟩ :: _) _ _; refine wpList_val rfl (op_load agg32b rfl rfl (SepL.getBlk (b := nh) (T := 33) ((hS.bring (by repeat (first | exact t0 | apply tS))))).cells HSL.out) ?_; go_frame)
                  | (show wpList _ _ _ (⟨some 71, .binOp _ _ _ _ _, _, _, _, _⟩ :: _) _ _; refine wpList_val rfl (op_neHash rfl rfl rfl (sumT_len S1) HSE.out) ?_; go_frame)
                  | (show wpList _ _ _ (⟨some 81, .binOp _ _ _ _ _, _, _, _, _⟩ :: _) _ _; refine wpList_val rfl (op_iaddN rfl rfl rfl (S.length + 1) (by omega) (by omega)) ?_; go_frame)
                  | (show wpList _ _ _ (⟨some 82, .binOp _ _ _ _ _, _, _, _, _⟩ :: _) _ _; refine wpList_val rfl (op_ineI rfl rfl rfl HN2.out) ?_; go_frame)
                  )
                refine segQ_mk (((hS.bring (by repeat (first | exact t0 | apply tS))).getBlk) : Blk _ nh 33 ((sumT S).map B8)) ?_
                refine ord_seg (by repeat (first | exact Clean.body | refine Clean.then ?_ | refine Clean.inBlock ?_ | refine SegQ.clean ?_ | refine FinC.clean ?_)) (n := 0) (rest := [[]]) [20, 23, 24, 25] [⟨_, _, _, _, _, _⟩, ⟨_, _, _, _, _, _⟩, ⟨_, _, _, _, _, _⟩, ⟨_, _, _, _, _, _⟩] rfl (by kernel_rfl) (by simp) _ _ ?_
                go_wp2_with (first
                  | go_big_skip
                  | (go_at_call 15; (refine Ret.calls (all_s (p := p2) (E := E) (S := S1) (hS.bring (by repeat (first | exact t0 | apply tS))) HSO1.out) ?_); clear hS; rintro q3v w ⟨q3, hq, hS⟩; have HQL3 := hide (qlen2 hq); clear hq)
                  | (show wpList _ _ _ (⟨_, .call ⟨.builtin .len, _, _⟩, _, _, _, _⟩ :: _) _ _; refine wpList_val rfl (op_len slSight rfl rfl (v := q3v) (xs := q3.map sC) rfl (hG_srd ((hS.bring (by repeat (first | exact t0 | apply tS))))).rd) ?_; rw [HQL3.out]; go_frame)
                  | (show wpList _ _ _ (⟨some 66, .binOp _ _ _ _ _, _, _, _, _⟩ :: _) _ _; refine wpList_val rfl (op_ineI rfl rfl rfl HN1.out) ?_; go_frame)
                  | (go_at_call 16; (refine Ret.calls (sumW_s (p := p2) (E := E) (S := S1) (hS.bring (by repeat (first | exact t0 | apply tS)))) ?_); clear hS; rintro r1 w ⟨rfl, hS⟩)
                  | (show wpList _ _ _ (⟨some 70, .load _ _, _, _, _, _⟩ :: _) _ _; refine wpList_val rfl (op_load agg32b rfl rfl (SepL.getBlk (b := nh) (T := 33) ((hS.bring (by repeat (first | exact t0 | apply tS))))).cells HSL.out) ?_; go_frame)
                  | (show wpList _ _ _ (⟨some 71, .binOp _ _ _ _ _, _, _, _, _⟩ :: _) _ _; refine wpList_val rfl (op_neHash rfl rfl rfl (sumT_len S1) HSE.out) ?_; go_frame)
                  | (show wpList _ _ _ (⟨some 81, .binOp _ _ _ _ _, _, _, _, _⟩ :: _) _ _; refine wpList_val rfl (op_iaddN rfl rfl rfl (S.length + 1) (by omega) (by omega)) ?_; go_frame)
                  | (show wpList _ _ _ (⟨some 82, .binOp _ _ _ _ _, _, _, _, _⟩ :: _) _ _; refine wpList_val rfl (op_ineI rfl rfl rfl HN2.out) ?_; go_frame)
                  )
                refine segQ_mk (((hS.bring (by repeat (first | exact t0 | apply tS))).getBlk) : Blk _ nh 33 ((sumT S).map B8)) ?_
                refine finC_mk (by kernel_rfl) (by
                  intro t ht
                  simp only [List.mem_cons, List.not_mem_nil, or_false] at ht
                  rcases ht with rfl
                  exact stab_blk (b := nh) (fun w h => h) _ none) ?_
                go_wp2_with fail
                go_roundw
                case rel => exact ⟨k + 1, S1, by go_num, by omega, HSN, hS.sel (by repeat (first | exact Sel.refl | refine Sel.take (by repeat (first | exact t0 | apply tS)) ?_ | apply Sel.drop))⟩
                case measure => simp [intOf]; omega
        · have hk2 : k = L.length := by omega
          subst hk2
          have hs := HS.out
          rw [List.take_of_length_le (by rw [HTL.out]; exact Nat.le_refl _), HST.out] at hs
          subst hs
          obtain ⟨M1, hM1⟩ : ∃ m : Nat, m = 0 := ⟨0, rfl⟩
          obtain ⟨M2, hM2⟩ : ∃ m : Nat, m = 0 := ⟨0, rfl⟩
          clear hM1 hM2
          go_wp2_with (first
            | go_big_skip
            | (have m1 := M1; clear m1; go_at_call 15; (refine Ret.calls (all_s (p := p1) (E := E) (S := S) (hS.bring (by repeat (first | exact t0 | apply tS))) HSTO.out) ?_); clear hS M1; rintro q1v w ⟨q1, hq1, hS⟩; have HQ1 := hide hq1; clear hq1)
            | (go_at_call 15; (refine Ret.calls (all_s (p := p2) (E := E) (S := S) (hS.bring (by repeat (first | exact t0 | apply tS))) HSTO.out) ?_); clear hS; rintro q2v w ⟨q2, hq2, hS⟩; have HQ2 := hide hq2; clear hq2)
            | (go_at_call 14; refine Ret.calls (hS.callNo (sameSeen_s (v := q1v) (u := q2v) (l := q1) (m := q2) (b := true) (hG_srd ((hS.bring (by repeat (first | exact t0 | apply tS))))) (hG_srd ((hS.bring (by repeat (first | exact t0 | apply tS))))) (qlen HQ1.out HSTO.out) (qfew HQ1.out HSTO.out) (by simp [HQ1.out, HQ2.out]))) ?_; clear hS; rintro r w ⟨rfl, hS⟩)
            | (have m2 := M2; clear m2; go_at_call 16; (refine Ret.calls (sumW_s (p := p1) (E := E) (S := S) (hS.bring (by repeat (first | exact t0 | apply tS)))) ?_); clear hS M2; rintro r1 w ⟨rfl, hS⟩)
            | (go_at_call 16; (refine Ret.calls (sumW_s (p := p2) (E := E) (S := S) (hS.bring (by repeat (first | exact t0 | apply tS)))) ?_); clear hS; rintro r1 w ⟨rfl, hS⟩)
            | (show wpList _ _ _ (⟨some 96, .binOp _ _ _ _ _, _, _, _, _⟩ :: _) _ _; refine wpList_val rfl (op_eqHash rfl rfl rfl (sumT_len S) rfl) ?_; go_frame)
            )
          go_ret
          exact ⟨rfl, hS.chg⟩
end Go.Proofs.YtnjeoaplohlgkaaDoor
