/- Whatever is done to a book, it answers as the document's: the law returns true. Conditions: those that stand ahead of each theorem. -/
import Derived.Test.YtafpdpcbckpkjaaGActs
import Derived.Deep.DeepCutAuto
namespace Go.Proofs.Ytafpdpcbckpkjaa
open Go.RowKit Go.Px
theorem buildRB (w : World) : (Instr.build 38 #[]).run Try.prog w = .ok (.agg #[.slice none 0 0]) w := run_build w 38 _ _ (by kernel_rfl)
theorem rB_new {R : Nat → Prop} {base w : World} {F : List Hp} {q : Nat} (hS : SepL R base w (.blk q 38 [.slice none 0 0] :: F)) : SepL R base w (rB q [] :: F) := by
  have h := hS.nilOwn 79 34
  exact rB_close (l := []) [] (h.perm (.swap _ _ _))
section
set_option maxRecDepth 100000 in
set_option maxHeartbeats 8000000 in
theorem askActs_w {W : World} {v : Value} {L : List PAct} (hv0 : Rd 35 W v (L.map actC)) (ha : ∀ a ∈ L, AOk a) :
    Calls Try.prog 4 #[v] W (Ret fun r w' => r = .bool true ∧ Chg No W w') := by
  have hS := SepL.start W
  have hv := RdIn.of hv0
  have HL : Hid ((L.map actC).length = L.length) := by simp [Hid]
  have HA := hide ha
  clear hv0 ha
  by_cases h120 : 120 < L.length
  · have HG : Hid (decide ((120 : Int) < (L.length : Int)) = true) := decT (by omega)
    clear h120
    go_enter Try.func4, Try.ntmps4
    go_wp2_with (first
      | (show wpList _ _ _ (⟨some 12, .call _, _, _, _, _⟩ :: _) _ _; refine wpList_val rfl (op_len slAct rfl rfl (v := v) (xs := L.map actC) rfl (by exact hS.rd hv)) ?_; rw [HL.out]; go_frame)
      | (show wpList _ _ _ (⟨some 13, .binOp _ _ _ _ _, _, _, _, _⟩ :: _) _ _; refine wpList_val rfl (op_igtr rfl rfl rfl HG.out) ?_; go_frame)
      | (go_at_call 9; refine Ret.calls (alive_s hS) ?_; clear hS; rintro r w ⟨rfl, hS⟩)
      )
    go_ret
    exact ⟨rfl, hS.chg⟩
  · have HG : Hid (decide ((120 : Int) < (L.length : Int)) = false) := decF (by omega)
    go_enter Try.func4, Try.ntmps4
    go_wp2_with (first
      | (show wpList _ _ _ (⟨some 12, .call _, _, _, _, _⟩ :: _) _ _; refine wpList_val rfl (op_len slAct rfl rfl (v := v) (xs := L.map actC) rfl (by exact hS.rd hv)) ?_; rw [HL.out]; go_frame)
      | (show wpList _ _ _ (⟨some 18, .call _, _, _, _, _⟩ :: _) _ _; refine wpList_val rfl (op_len slAct rfl rfl (v := v) (xs := L.map actC) rfl (by exact hS.rd hv)) ?_; rw [HL.out]; go_frame)
      | (show wpList _ _ _ (⟨some 13, .binOp _ _ _ _ _, _, _, _, _⟩ :: _) _ _; refine wpList_val rfl (op_igtr rfl rfl rfl HG.out) ?_; go_frame)
      | (go_at_call 9; refine Ret.calls (alive_s hS) ?_; clear hS; rintro r w ⟨rfl, hS⟩)
      | (go_at_call 10; refine Ret.calls (new_s hS) ?_; clear hS; rintro r w ⟨p, rfl, hS⟩)
      | (show wpList _ _ _ (⟨_, .box 38 _, _, _, _, _⟩ :: _) _ _; refine wpS_boxA (cs := [.slice none 0 0]) hS rfl rfl rfl ?_; clear hS; intro q w hS; go_frame)
      )
    have hS2 := rB_new hS
    clear hS
    have hS := hS2
    clear hS2
    go_loopw [19] (fun iv wr => ∃ (k : Nat) (B : List Ent), iv = .int .i64 k ∧ k ≤ L.length ∧ Hid (BOk B) ∧ Hid (BIn B) ∧ SepL All W wr [hB p B, rB q B]) (fun iv _ => L.length - (intOf iv).toNat)
    case atStart => exact ⟨0, [], rfl, by omega, BOk.nil, (show BIn [] from fun _ h => by cases h), hS.sel (by repeat (first | exact Sel.refl | refine Sel.take (by repeat (first | exact t0 | apply tS)) ?_ | apply Sel.drop))⟩
    case round =>
      clear hS
      obtain ⟨k, B, rfl, hk, HOK, HIN, hS⟩ := hrel
      by_cases hlt : k < L.length
      · have hlk : k < (L.map actC).length := by rw [HL.out]; exact hlt
        obtain ⟨x, hx⟩ : ∃ x, L[k] = x := ⟨_, rfl⟩
        have hxa := HA.out x (by rw [← hx]; exact List.getElem_mem hlt)
        have HXK : Hid ((L.map actC)[k] = actC x) := by unfold Hid; rw [List.getElem_map, hx]
        have HXL := hide (actC_len hxa.id)
        have HXI := hide (actC_id hxa.id)
        have HXI32 : Hid ((x.id.map B8).length = 32) := by simp [Hid, hxa.id]
        have HX32 := hide hxa.id
        have HAX := hide hxa
        obtain ⟨B2, hB2⟩ : ∃ B2, actB x B = B2 := ⟨_, rfl⟩
        obtain ⟨b, hb⟩ : ∃ b, ansOk x B = b := ⟨_, rfl⟩
        obtain ⟨z, hz⟩ : ∃ z, ansPeer x B = z := ⟨_, rfl⟩
        obtain ⟨AW, hAW⟩ : ∃ AW, ansW x B = AW := ⟨_, rfl⟩
        have do0 := fun (w : World) (F : List Hp) (hS : SepL All W w (hB p B :: F)) => do_s (a := x) hS HOK.out HAX.out
        have model0 := fun (w : World) (F : List Hp) (hS : SepL All W w (rB q B :: F)) => model_s (a := x) hS HOK.out HAX.out
        rw [hB2, hb, hz, hAW] at do0 model0
        have CD := hide do0
        have CM := hide model0
        have HOK2 := hide (act_ok HOK.out hxa)
        have HIN2 := hide (act_in HIN.out hxa)
        have HAW := hide (ansW_ok (a := x) HIN.out HOK.out)
        rw [hB2] at HOK2 HIN2
        rw [hAW] at HAW
        have HZ : Hid ((z != z) = false) := by simp [Hid]
        have HAL3 : Hid (∀ y ∈ allB B2, y.1.length = 32) := hide fun y hy => (allB_ok HIN2.out HOK2.out y hy).1
        have HALF : Hid ((allB B2).length ≤ 1000) := by
          have := HOK2.out.few
          unfold Hid
          simp [allB]
          omega
        have HALW := hide (allB_ok HIN2.out HOK2.out)
        clear hx hxa do0 model0 hB2 hb hz hAW
        go_upto_region 10 with (first
          | (show wpList _ _ _ (⟨some 21, .indexAddr _ _ _, _, _, _, _⟩ :: _) _ _; refine wpList_val rfl (op_indexAddr slAct rfl (v := v) (xs := L.map actC) rfl (k := k) rfl (by exact hS.rd hv) hlk) ?_; go_frame)
          | (show wpList _ _ _ (⟨some 22, .load _ _, _, _, _, _⟩ :: _) _ _; refine wpList_val rfl (op_loadE aggAct rfl (v := v) (xs := L.map actC) (k := k) rfl (by exact hS.rd hv) hlk) ?_; rw [HXK.out]; go_frame)
          | (show wpList _ _ _ (⟨_, .alloc 40, _, _, _, _⟩ :: _) _ _; refine wpS_alloc hS rfl rfl Try.zeroValue40 (zs := zAct) rfl ?_; clear hS; intro na w hS; go_frame)
          | (show wpList _ _ _ (⟨_, .store 40 _ _, _, _, _, _⟩ :: _) _ _; (refine wpS_storeAll aggAct (hS.bring (by repeat (first | exact t0 | apply tS))) rfl rfl rfl (vs := actC x) rfl HXL.out (actC_one x) rfl ?_); clear hS; intro w hS; go_frame)
          )
        go_cut [7, 8] (fun s7 s8 wx => ∃ (n7 n8 : Nat) (v1 v2 : Value), s7 = .pointer (some ⟨n7, 0, none⟩) ∧ s8 = .pointer (some ⟨n8, 0, none⟩) ∧ SepL All W wx [.blk n7 43 [.bool b, I64 z, v1], .blk n8 43 [.bool b, I64 z, v2], .own 57 33 v1 (AW.map wC), .own 57 33 v2 (AW.map wC), .blk na 40 (actC x), hB p B2, rB q B2])
        case first =>
          refine wp_region_ord (by kernel_rfl) [6] [[0, 1, 3, 4, 2, 5, 6, 7, 8, 9], [0, 1, 3, 4, 2, 5, 7, 6, 8, 9], [0, 1, 3, 4, 2, 6, 5, 7, 8, 9], [0, 1, 3, 4, 2, 6, 7, 5, 8, 9], [0, 1, 3, 4, 2, 7, 5, 6, 8, 9], [0, 1, 3, 4, 2, 7, 6, 5, 8, 9], [0, 1, 3, 4, 6, 2, 5, 7, 8, 9], [0, 1, 3, 4, 6, 2, 7, 5, 8, 9], [0, 1, 3, 4, 6, 7, 2, 5, 8, 9], [0, 1, 3, 4, 7, 2, 5, 6, 8, 9], [0, 1, 3, 4, 7, 2, 6, 5, 8, 9], [0, 1, 3, 4, 7, 6, 2, 5, 8, 9]] (by kernel_rfl) (by kernel_rfl) (fun w' => Blk w' na 40 (actC x)) Up.blk ((hS.bring (by repeat (first | exact t0 | apply tS))).getBlk) (by repeat (first | exact Clean.body | refine Clean.then ?_ | refine Clean.inBlock ?_ | refine SegQ.clean ?_ | refine FinC.clean ?_)) ?_
          replace hS := hS.drew
          refine ord_seg (by repeat (first | exact Clean.body | refine Clean.then ?_ | refine Clean.inBlock ?_ | refine SegQ.clean ?_ | refine FinC.clean ?_)) (n := 6) (rest := [[2, 5, 6, 7, 8, 9], [2, 5, 7, 6, 8, 9], [2, 6, 5, 7, 8, 9], [2, 6, 7, 5, 8, 9], [2, 7, 5, 6, 8, 9], [2, 7, 6, 5, 8, 9], [6, 2, 5, 7, 8, 9], [6, 2, 7, 5, 8, 9], [6, 7, 2, 5, 8, 9], [7, 2, 5, 6, 8, 9], [7, 2, 6, 5, 8, 9], [7, 6, 2, 5, 8, 9]]) [0, 1, 3, 4] [⟨_, _, _, _, _, _⟩, ⟨_, _, _, _, _, _⟩, ⟨_, _, _, _, _, _⟩, ⟨_, _, _, _, _, _⟩] rfl (by kernel_rfl) (by simp) _ _ ?_
          go_wp2_with (first
            | (show wpList _ _ _ (⟨_, .load 40 _, _, _, _, _⟩ :: _) _ _; refine wpList_val rfl (op_load aggAct rfl rfl (SepL.getBlk (b := na) (T := 40) ((hS.bring (by repeat (first | exact t0 | apply tS))))).cells HXL.out) ?_; go_frame)
            )
          refine segQ_mk (((hS.bring (by repeat (first | exact t0 | apply tS))).getBlk) : Blk _ na 40 (actC x)) ?_
          refine ord_fork (n := 5) (os1 := [[2, 5, 6, 7, 8, 9], [2, 5, 7, 6, 8, 9], [2, 6, 5, 7, 8, 9], [2, 6, 7, 5, 8, 9], [2, 7, 5, 6, 8, 9], [2, 7, 6, 5, 8, 9]]) (os2 := [[6, 2, 5, 7, 8, 9], [6, 2, 7, 5, 8, 9], [6, 7, 2, 5, 8, 9], [7, 2, 5, 6, 8, 9], [7, 2, 6, 5, 8, 9], [7, 6, 2, 5, 8, 9]]) (by decide) ?_ ?_
          ·
            refine ord_seg (by repeat (first | exact Clean.body | refine Clean.then ?_ | refine Clean.inBlock ?_ | refine SegQ.clean ?_ | refine FinC.clean ?_)) (n := 5) (rest := [[5, 6, 7, 8, 9], [5, 7, 6, 8, 9], [6, 5, 7, 8, 9], [6, 7, 5, 8, 9], [7, 5, 6, 8, 9], [7, 6, 5, 8, 9]]) [2] [⟨_, _, _, _, _, _⟩] rfl (by kernel_rfl) (by simp) _ _ ?_
            go_wp2_with (first
              | (go_at_call 14; (refine Ret.calls (CD.out _ _ (hS.bring (by repeat (first | exact t0 | apply tS)))) ?_); clear hS; rintro r w ⟨v1, rfl, hS⟩; have HV1 := hide hS.getOwn.rd.one1)
              )
            refine segQ_mk (((hS.bring (by repeat (first | exact t0 | apply tS))).getBlk) : Blk _ na 40 (actC x)) ?_
            refine ord_fork (n := 4) (os1 := [[5, 6, 7, 8, 9], [5, 7, 6, 8, 9]]) (os2 := [[6, 5, 7, 8, 9], [6, 7, 5, 8, 9], [7, 5, 6, 8, 9], [7, 6, 5, 8, 9]]) (by decide) ?_ ?_
            ·
              refine ord_seg (by repeat (first | exact Clean.body | refine Clean.then ?_ | refine Clean.inBlock ?_ | refine SegQ.clean ?_ | refine FinC.clean ?_)) (n := 4) (rest := [[6, 7, 8, 9], [7, 6, 8, 9]]) [5] [⟨_, _, _, _, _, _⟩] rfl (by kernel_rfl) (by simp) _ _ ?_
              go_wp2_with (first
                | (go_at_call 15; (refine Ret.calls (CM.out _ _ (hS.bring (by repeat (first | exact t0 | apply tS)))) ?_); clear hS; rintro r w ⟨v2, rfl, hS⟩; have HV2 := hide hS.getOwn.rd.one1)
                )
              refine segQ_mk (((hS.bring (by repeat (first | exact t0 | apply tS))).getBlk) : Blk _ na 40 (actC x)) ?_
              refine ord_fork (n := 3) (os1 := [[6, 7, 8, 9]]) (os2 := [[7, 6, 8, 9]]) (by decide) ?_ ?_
              ·
                refine ord_seg (by repeat (first | exact Clean.body | refine Clean.then ?_ | refine Clean.inBlock ?_ | refine SegQ.clean ?_ | refine FinC.clean ?_)) (n := 1) (rest := [[9]]) [6, 7, 8] [⟨_, _, _, _, _, _⟩, ⟨_, _, _, _, _, _⟩, ⟨_, _, _, _, _, _⟩] rfl (by kernel_rfl) (by simp) _ _ ?_
                go_wp2_with (first
                  | (show wpList _ _ _ (⟨some 7, .alloc _, _, _, _, _⟩ :: _) _ _; refine wpS_alloc hS rfl rfl Try.zeroValue43 (zs := [.bool false, .int .i64 0, .slice none 0 0]) rfl ?_; clear hS; intro n7 w hS; go_frame)
                  | (show wpList _ _ _ (⟨some 8, .alloc _, _, _, _, _⟩ :: _) _ _; refine wpS_alloc hS rfl rfl Try.zeroValue43 (zs := [.bool false, .int .i64 0, .slice none 0 0]) rfl ?_; clear hS; intro n8 w hS; go_frame)
                  | (show wpList _ _ _ (⟨_, .store 43 (.tmp 7) _, _, _, _, _⟩ :: _) _ _; (refine wpS_storeAll (b := n7) aggAns (hS.bring (by repeat (first | exact t0 | apply tS))) rfl rfl rfl (vs := [.bool b, I64 z, v1]) rfl rfl (ans_one _ _ HV1.out).out (by simp) ?_); clear hS; intro w hS; go_frame)
                  )
                refine segQ_mk (((hS.bring (by repeat (first | exact t0 | apply tS))).getBlk) : Blk _ na 40 (actC x)) ?_
                refine ord_seg (by repeat (first | exact Clean.body | refine Clean.then ?_ | refine Clean.inBlock ?_ | refine SegQ.clean ?_ | refine FinC.clean ?_)) (n := 0) (rest := [[]]) [9] [⟨_, _, _, _, _, _⟩] rfl (by kernel_rfl) (by simp) _ _ ?_
                go_wp2_with (first
                  | (show wpList _ _ _ (⟨_, .store 43 (.tmp 8) _, _, _, _, _⟩ :: _) _ _; (refine wpS_storeAll (b := n8) aggAns (hS.bring (by repeat (first | exact t0 | apply tS))) rfl rfl rfl (vs := [.bool b, I64 z, v2]) rfl rfl (ans_one _ _ HV2.out).out (by simp) ?_); clear hS; intro w hS; go_frame)
                  )
                refine segQ_mk (((hS.bring (by repeat (first | exact t0 | apply tS))).getBlk) : Blk _ na 40 (actC x)) ?_
                refine finC_mk (by kernel_rfl) (by
                  intro t ht
                  simp only [List.mem_cons, List.not_mem_nil, or_false] at ht
                  subst ht
                  exact stab_blk (b := na) (fun w h => h) _ none) ?_
                go_wp2_with fail
                go_meet
                exact ⟨n7, n8, v1, v2, rfl, rfl, hS.sel (by repeat (first | exact Sel.refl | refine Sel.take (by repeat (first | exact t0 | apply tS)) ?_ | apply Sel.drop))⟩
              ·
                refine ord_seg (by repeat (first | exact Clean.body | refine Clean.then ?_ | refine Clean.inBlock ?_ | refine SegQ.clean ?_ | refine FinC.clean ?_)) (n := 1) (rest := [[9]]) [7, 6, 8] [⟨_, _, _, _, _, _⟩, ⟨_, _, _, _, _, _⟩, ⟨_, _, _, _, _, _⟩] rfl (by kernel_rfl) (by simp) _ _ ?_
                go_wp2_with (first
                  | (show wpList _ _ _ (⟨some 7, .alloc _, _, _, _, _⟩ :: _) _ _; refine wpS_alloc hS rfl rfl Try.zeroValue43 (zs := [.bool false, .int .i64 0, .slice none 0 0]) rfl ?_; clear hS; intro n7 w hS; go_frame)
                  | (show wpList _ _ _ (⟨some 8, .alloc _, _, _, _, _⟩ :: _) _ _; refine wpS_alloc hS rfl rfl Try.zeroValue43 (zs := [.bool false, .int .i64 0, .slice none 0 0]) rfl ?_; clear hS; intro n8 w hS; go_frame)
                  | (show wpList _ _ _ (⟨_, .store 43 (.tmp 7) _, _, _, _, _⟩ :: _) _ _; (refine wpS_storeAll (b := n7) aggAns (hS.bring (by repeat (first | exact t0 | apply tS))) rfl rfl rfl (vs := [.bool b, I64 z, v1]) rfl rfl (ans_one _ _ HV1.out).out (by simp) ?_); clear hS; intro w hS; go_frame)
                  )
                refine segQ_mk (((hS.bring (by repeat (first | exact t0 | apply tS))).getBlk) : Blk _ na 40 (actC x)) ?_
                refine ord_seg (by repeat (first | exact Clean.body | refine Clean.then ?_ | refine Clean.inBlock ?_ | refine SegQ.clean ?_ | refine FinC.clean ?_)) (n := 0) (rest := [[]]) [9] [⟨_, _, _, _, _, _⟩] rfl (by kernel_rfl) (by simp) _ _ ?_
                go_wp2_with (first
                  | (show wpList _ _ _ (⟨_, .store 43 (.tmp 8) _, _, _, _, _⟩ :: _) _ _; (refine wpS_storeAll (b := n8) aggAns (hS.bring (by repeat (first | exact t0 | apply tS))) rfl rfl rfl (vs := [.bool b, I64 z, v2]) rfl rfl (ans_one _ _ HV2.out).out (by simp) ?_); clear hS; intro w hS; go_frame)
                  )
                refine segQ_mk (((hS.bring (by repeat (first | exact t0 | apply tS))).getBlk) : Blk _ na 40 (actC x)) ?_
                refine finC_mk (by kernel_rfl) (by
                  intro t ht
                  simp only [List.mem_cons, List.not_mem_nil, or_false] at ht
                  subst ht
                  exact stab_blk (b := na) (fun w h => h) _ none) ?_
                go_wp2_with fail
                go_meet
                exact ⟨n7, n8, v1, v2, rfl, rfl, hS.sel (by repeat (first | exact Sel.refl | refine Sel.take (by repeat (first | exact t0 | apply tS)) ?_ | apply Sel.drop))⟩
            ·
              refine ord_fork (n := 4) (os1 := [[6, 5, 7, 8, 9], [6, 7, 5, 8, 9]]) (os2 := [[7, 5, 6, 8, 9], [7, 6, 5, 8, 9]]) (by decide) ?_ ?_
              ·
                refine ord_seg (by repeat (first | exact Clean.body | refine Clean.then ?_ | refine Clean.inBlock ?_ | refine SegQ.clean ?_ | refine FinC.clean ?_)) (n := 4) (rest := [[5, 7, 8, 9], [7, 5, 8, 9]]) [6] [⟨_, _, _, _, _, _⟩] rfl (by kernel_rfl) (by simp) _ _ ?_
                go_wp2_with (first
                  | (show wpList _ _ _ (⟨some 7, .alloc _, _, _, _, _⟩ :: _) _ _; refine wpS_alloc hS rfl rfl Try.zeroValue43 (zs := [.bool false, .int .i64 0, .slice none 0 0]) rfl ?_; clear hS; intro n7 w hS; go_frame)
                  )
                refine segQ_mk (((hS.bring (by repeat (first | exact t0 | apply tS))).getBlk) : Blk _ na 40 (actC x)) ?_
                refine ord_fork (n := 3) (os1 := [[5, 7, 8, 9]]) (os2 := [[7, 5, 8, 9]]) (by decide) ?_ ?_
                ·
                  refine ord_seg (by repeat (first | exact Clean.body | refine Clean.then ?_ | refine Clean.inBlock ?_ | refine SegQ.clean ?_ | refine FinC.clean ?_)) (n := 3) (rest := [[7, 8, 9]]) [5] [⟨_, _, _, _, _, _⟩] rfl (by kernel_rfl) (by simp) _ _ ?_
                  go_wp2_with (first
                    | (go_at_call 15; (refine Ret.calls (CM.out _ _ (hS.bring (by repeat (first | exact t0 | apply tS)))) ?_); clear hS; rintro r w ⟨v2, rfl, hS⟩; have HV2 := hide hS.getOwn.rd.one1)
                    )
                  refine segQ_mk (((hS.bring (by repeat (first | exact t0 | apply tS))).getBlk) : Blk _ na 40 (actC x)) ?_
                  refine ord_seg (by repeat (first | exact Clean.body | refine Clean.then ?_ | refine Clean.inBlock ?_ | refine SegQ.clean ?_ | refine FinC.clean ?_)) (n := 1) (rest := [[9]]) [7, 8] [⟨_, _, _, _, _, _⟩, ⟨_, _, _, _, _, _⟩] rfl (by kernel_rfl) (by simp) _ _ ?_
                  go_wp2_with (first
                    | (show wpList _ _ _ (⟨some 8, .alloc _, _, _, _, _⟩ :: _) _ _; refine wpS_alloc hS rfl rfl Try.zeroValue43 (zs := [.bool false, .int .i64 0, .slice none 0 0]) rfl ?_; clear hS; intro n8 w hS; go_frame)
                    | (show wpList _ _ _ (⟨_, .store 43 (.tmp 7) _, _, _, _, _⟩ :: _) _ _; (refine wpS_storeAll (b := n7) aggAns (hS.bring (by repeat (first | exact t0 | apply tS))) rfl rfl rfl (vs := [.bool b, I64 z, v1]) rfl rfl (ans_one _ _ HV1.out).out (by simp) ?_); clear hS; intro w hS; go_frame)
                    )
                  refine segQ_mk (((hS.bring (by repeat (first | exact t0 | apply tS))).getBlk) : Blk _ na 40 (actC x)) ?_
                  refine ord_seg (by repeat (first | exact Clean.body | refine Clean.then ?_ | refine Clean.inBlock ?_ | refine SegQ.clean ?_ | refine FinC.clean ?_)) (n := 0) (rest := [[]]) [9] [⟨_, _, _, _, _, _⟩] rfl (by kernel_rfl) (by simp) _ _ ?_
                  go_wp2_with (first
                    | (show wpList _ _ _ (⟨_, .store 43 (.tmp 8) _, _, _, _, _⟩ :: _) _ _; (refine wpS_storeAll (b := n8) aggAns (hS.bring (by repeat (first | exact t0 | apply tS))) rfl rfl rfl (vs := [.bool b, I64 z, v2]) rfl rfl (ans_one _ _ HV2.out).out (by simp) ?_); clear hS; intro w hS; go_frame)
                    )
                  refine segQ_mk (((hS.bring (by repeat (first | exact t0 | apply tS))).getBlk) : Blk _ na 40 (actC x)) ?_
                  refine finC_mk (by kernel_rfl) (by
                    intro t ht
                    simp only [List.mem_cons, List.not_mem_nil, or_false] at ht
                    subst ht
                    exact stab_blk (b := na) (fun w h => h) _ none) ?_
                  go_wp2_with fail
                  go_meet
                  exact ⟨n7, n8, v1, v2, rfl, rfl, hS.sel (by repeat (first | exact Sel.refl | refine Sel.take (by repeat (first | exact t0 | apply tS)) ?_ | apply Sel.drop))⟩
                ·
                  refine ord_seg (by repeat (first | exact Clean.body | refine Clean.then ?_ | refine Clean.inBlock ?_ | refine SegQ.clean ?_ | refine FinC.clean ?_)) (n := 2) (rest := [[8, 9]]) [7, 5] [⟨_, _, _, _, _, _⟩, ⟨_, _, _, _, _, _⟩] rfl (by kernel_rfl) (by simp) _ _ ?_
                  go_wp2_with (first
                    | (go_at_call 15; (refine Ret.calls (CM.out _ _ (hS.bring (by repeat (first | exact t0 | apply tS)))) ?_); clear hS; rintro r w ⟨v2, rfl, hS⟩; have HV2 := hide hS.getOwn.rd.one1)
                    | (show wpList _ _ _ (⟨some 8, .alloc _, _, _, _, _⟩ :: _) _ _; refine wpS_alloc hS rfl rfl Try.zeroValue43 (zs := [.bool false, .int .i64 0, .slice none 0 0]) rfl ?_; clear hS; intro n8 w hS; go_frame)
                    )
                  refine segQ_mk (((hS.bring (by repeat (first | exact t0 | apply tS))).getBlk) : Blk _ na 40 (actC x)) ?_
                  refine ord_seg (by repeat (first | exact Clean.body | refine Clean.then ?_ | refine Clean.inBlock ?_ | refine SegQ.clean ?_ | refine FinC.clean ?_)) (n := 1) (rest := [[9]]) [8] [⟨_, _, _, _, _, _⟩] rfl (by kernel_rfl) (by simp) _ _ ?_
                  go_wp2_with (first
                    | (show wpList _ _ _ (⟨_, .store 43 (.tmp 7) _, _, _, _, _⟩ :: _) _ _; (refine wpS_storeAll (b := n7) aggAns (hS.bring (by repeat (first | exact t0 | apply tS))) rfl rfl rfl (vs := [.bool b, I64 z, v1]) rfl rfl (ans_one _ _ HV1.out).out (by simp) ?_); clear hS; intro w hS; go_frame)
                    )
                  refine segQ_mk (((hS.bring (by repeat (first | exact t0 | apply tS))).getBlk) : Blk _ na 40 (actC x)) ?_
                  refine ord_seg (by repeat (first | exact Clean.body | refine Clean.then ?_ | refine Clean.inBlock ?_ | refine SegQ.clean ?_ | refine FinC.clean ?_)) (n := 0) (rest := [[]]) [9] [⟨_, _, _, _, _, _⟩] rfl (by kernel_rfl) (by simp) _ _ ?_
                  go_wp2_with (first
                    | (show wpList _ _ _ (⟨_, .store 43 (.tmp 8) _, _, _, _, _⟩ :: _) _ _; (refine wpS_storeAll (b := n8) aggAns (hS.bring (by repeat (first | exact t0 | apply tS))) rfl rfl rfl (vs := [.bool b, I64 z, v2]) rfl rfl (ans_one _ _ HV2.out).out (by simp) ?_); clear hS; intro w hS; go_frame)
                    )
                  refine segQ_mk (((hS.bring (by repeat (first | exact t0 | apply tS))).getBlk) : Blk _ na 40 (actC x)) ?_
                  refine finC_mk (by kernel_rfl) (by
                    intro t ht
                    simp only [List.mem_cons, List.not_mem_nil, or_false] at ht
                    subst ht
                    exact stab_blk (b := na) (fun w h => h) _ none) ?_
                  go_wp2_with fail
                  go_meet
                  exact ⟨n7, n8, v1, v2, rfl, rfl, hS.sel (by repeat (first | exact Sel.refl | refine Sel.take (by repeat (first | exact t0 | apply tS)) ?_ | apply Sel.drop))⟩
              ·
                refine ord_seg (by repeat (first | exact Clean.body | refine Clean.then ?_ | refine Clean.inBlock ?_ | refine SegQ.clean ?_ | refine FinC.clean ?_)) (n := 4) (rest := [[5, 6, 8, 9], [6, 5, 8, 9]]) [7] [⟨_, _, _, _, _, _⟩] rfl (by kernel_rfl) (by simp) _ _ ?_
                go_wp2_with (first
                  | (show wpList _ _ _ (⟨some 8, .alloc _, _, _, _, _⟩ :: _) _ _; refine wpS_alloc hS rfl rfl Try.zeroValue43 (zs := [.bool false, .int .i64 0, .slice none 0 0]) rfl ?_; clear hS; intro n8 w hS; go_frame)
                  )
                refine segQ_mk (((hS.bring (by repeat (first | exact t0 | apply tS))).getBlk) : Blk _ na 40 (actC x)) ?_
                refine ord_fork (n := 3) (os1 := [[5, 6, 8, 9]]) (os2 := [[6, 5, 8, 9]]) (by decide) ?_ ?_
                ·
                  refine ord_seg (by repeat (first | exact Clean.body | refine Clean.then ?_ | refine Clean.inBlock ?_ | refine SegQ.clean ?_ | refine FinC.clean ?_)) (n := 3) (rest := [[6, 8, 9]]) [5] [⟨_, _, _, _, _, _⟩] rfl (by kernel_rfl) (by simp) _ _ ?_
                  go_wp2_with (first
                    | (go_at_call 15; (refine Ret.calls (CM.out _ _ (hS.bring (by repeat (first | exact t0 | apply tS)))) ?_); clear hS; rintro r w ⟨v2, rfl, hS⟩; have HV2 := hide hS.getOwn.rd.one1)
                    )
                  refine segQ_mk (((hS.bring (by repeat (first | exact t0 | apply tS))).getBlk) : Blk _ na 40 (actC x)) ?_
                  refine ord_seg (by repeat (first | exact Clean.body | refine Clean.then ?_ | refine Clean.inBlock ?_ | refine SegQ.clean ?_ | refine FinC.clean ?_)) (n := 1) (rest := [[9]]) [6, 8] [⟨_, _, _, _, _, _⟩, ⟨_, _, _, _, _, _⟩] rfl (by kernel_rfl) (by simp) _ _ ?_
                  go_wp2_with (first
                    | (show wpList _ _ _ (⟨some 7, .alloc _, _, _, _, _⟩ :: _) _ _; refine wpS_alloc hS rfl rfl Try.zeroValue43 (zs := [.bool false, .int .i64 0, .slice none 0 0]) rfl ?_; clear hS; intro n7 w hS; go_frame)
                    | (show wpList _ _ _ (⟨_, .store 43 (.tmp 7) _, _, _, _, _⟩ :: _) _ _; (refine wpS_storeAll (b := n7) aggAns (hS.bring (by repeat (first | exact t0 | apply tS))) rfl rfl rfl (vs := [.bool b, I64 z, v1]) rfl rfl (ans_one _ _ HV1.out).out (by simp) ?_); clear hS; intro w hS; go_frame)
                    )
                  refine segQ_mk (((hS.bring (by repeat (first | exact t0 | apply tS))).getBlk) : Blk _ na 40 (actC x)) ?_
                  refine ord_seg (by repeat (first | exact Clean.body | refine Clean.then ?_ | refine Clean.inBlock ?_ | refine SegQ.clean ?_ | refine FinC.clean ?_)) (n := 0) (rest := [[]]) [9] [⟨_, _, _, _, _, _⟩] rfl (by kernel_rfl) (by simp) _ _ ?_
                  go_wp2_with (first
                    | (show wpList _ _ _ (⟨_, .store 43 (.tmp 8) _, _, _, _, _⟩ :: _) _ _; (refine wpS_storeAll (b := n8) aggAns (hS.bring (by repeat (first | exact t0 | apply tS))) rfl rfl rfl (vs := [.bool b, I64 z, v2]) rfl rfl (ans_one _ _ HV2.out).out (by simp) ?_); clear hS; intro w hS; go_frame)
                    )
                  refine segQ_mk (((hS.bring (by repeat (first | exact t0 | apply tS))).getBlk) : Blk _ na 40 (actC x)) ?_
                  refine finC_mk (by kernel_rfl) (by
                    intro t ht
                    simp only [List.mem_cons, List.not_mem_nil, or_false] at ht
                    subst ht
                    exact stab_blk (b := na) (fun w h => h) _ none) ?_
                  go_wp2_with fail
                  go_meet
                  exact ⟨n7, n8, v1, v2, rfl, rfl, hS.sel (by repeat (first | exact Sel.refl | refine Sel.take (by repeat (first | exact t0 | apply tS)) ?_ | apply Sel.drop))⟩
                ·
                  refine ord_seg (by repeat (first | exact Clean.body | refine Clean.then ?_ | refine Clean.inBlock ?_ | refine SegQ.clean ?_ | refine FinC.clean ?_)) (n := 2) (rest := [[8, 9]]) [6, 5] [⟨_, _, _, _, _, _⟩, ⟨_, _, _, _, _, _⟩] rfl (by kernel_rfl) (by simp) _ _ ?_
                  go_wp2_with (first
                    | (go_at_call 15; (refine Ret.calls (CM.out _ _ (hS.bring (by repeat (first | exact t0 | apply tS)))) ?_); clear hS; rintro r w ⟨v2, rfl, hS⟩; have HV2 := hide hS.getOwn.rd.one1)
                    | (show wpList _ _ _ (⟨some 7, .alloc _, _, _, _, _⟩ :: _) _ _; refine wpS_alloc hS rfl rfl Try.zeroValue43 (zs := [.bool false, .int .i64 0, .slice none 0 0]) rfl ?_; clear hS; intro n7 w hS; go_frame)
                    )
                  refine segQ_mk (((hS.bring (by repeat (first | exact t0 | apply tS))).getBlk) : Blk _ na 40 (actC x)) ?_
                  refine ord_seg (by repeat (first | exact Clean.body | refine Clean.then ?_ | refine Clean.inBlock ?_ | refine SegQ.clean ?_ | refine FinC.clean ?_)) (n := 1) (rest := [[9]]) [8] [⟨_, _, _, _, _, _⟩] rfl (by kernel_rfl) (by simp) _ _ ?_
                  go_wp2_with (first
                    | (show wpList _ _ _ (⟨_, .store 43 (.tmp 7) _, _, _, _, _⟩ :: _) _ _; (refine wpS_storeAll (b := n7) aggAns (hS.bring (by repeat (first | exact t0 | apply tS))) rfl rfl rfl (vs := [.bool b, I64 z, v1]) rfl rfl (ans_one _ _ HV1.out).out (by simp) ?_); clear hS; intro w hS; go_frame)
                    )
                  refine segQ_mk (((hS.bring (by repeat (first | exact t0 | apply tS))).getBlk) : Blk _ na 40 (actC x)) ?_
                  refine ord_seg (by repeat (first | exact Clean.body | refine Clean.then ?_ | refine Clean.inBlock ?_ | refine SegQ.clean ?_ | refine FinC.clean ?_)) (n := 0) (rest := [[]]) [9] [⟨_, _, _, _, _, _⟩] rfl (by kernel_rfl) (by simp) _ _ ?_
                  go_wp2_with (first
                    | (show wpList _ _ _ (⟨_, .store 43 (.tmp 8) _, _, _, _, _⟩ :: _) _ _; (refine wpS_storeAll (b := n8) aggAns (hS.bring (by repeat (first | exact t0 | apply tS))) rfl rfl rfl (vs := [.bool b, I64 z, v2]) rfl rfl (ans_one _ _ HV2.out).out (by simp) ?_); clear hS; intro w hS; go_frame)
                    )
                  refine segQ_mk (((hS.bring (by repeat (first | exact t0 | apply tS))).getBlk) : Blk _ na 40 (actC x)) ?_
                  refine finC_mk (by kernel_rfl) (by
                    intro t ht
                    simp only [List.mem_cons, List.not_mem_nil, or_false] at ht
                    subst ht
                    exact stab_blk (b := na) (fun w h => h) _ none) ?_
                  go_wp2_with fail
                  go_meet
                  exact ⟨n7, n8, v1, v2, rfl, rfl, hS.sel (by repeat (first | exact Sel.refl | refine Sel.take (by repeat (first | exact t0 | apply tS)) ?_ | apply Sel.drop))⟩
          ·
            refine ord_fork (n := 5) (os1 := [[6, 2, 5, 7, 8, 9], [6, 2, 7, 5, 8, 9], [6, 7, 2, 5, 8, 9]]) (os2 := [[7, 2, 5, 6, 8, 9], [7, 2, 6, 5, 8, 9], [7, 6, 2, 5, 8, 9]]) (by decide) ?_ ?_
            ·
              refine ord_seg (by repeat (first | exact Clean.body | refine Clean.then ?_ | refine Clean.inBlock ?_ | refine SegQ.clean ?_ | refine FinC.clean ?_)) (n := 5) (rest := [[2, 5, 7, 8, 9], [2, 7, 5, 8, 9], [7, 2, 5, 8, 9]]) [6] [⟨_, _, _, _, _, _⟩] rfl (by kernel_rfl) (by simp) _ _ ?_
              go_wp2_with (first
                | (show wpList _ _ _ (⟨some 7, .alloc _, _, _, _, _⟩ :: _) _ _; refine wpS_alloc hS rfl rfl Try.zeroValue43 (zs := [.bool false, .int .i64 0, .slice none 0 0]) rfl ?_; clear hS; intro n7 w hS; go_frame)
                )
              refine segQ_mk (((hS.bring (by repeat (first | exact t0 | apply tS))).getBlk) : Blk _ na 40 (actC x)) ?_
              refine ord_fork (n := 4) (os1 := [[2, 5, 7, 8, 9], [2, 7, 5, 8, 9]]) (os2 := [[7, 2, 5, 8, 9]]) (by decide) ?_ ?_
              ·
                refine ord_seg (by repeat (first | exact Clean.body | refine Clean.then ?_ | refine Clean.inBlock ?_ | refine SegQ.clean ?_ | refine FinC.clean ?_)) (n := 4) (rest := [[5, 7, 8, 9], [7, 5, 8, 9]]) [2] [⟨_, _, _, _, _, _⟩] rfl (by kernel_rfl) (by simp) _ _ ?_
                go_wp2_with (first
                  | (go_at_call 14; (refine Ret.calls (CD.out _ _ (hS.bring (by repeat (first | exact t0 | apply tS)))) ?_); clear hS; rintro r w ⟨v1, rfl, hS⟩; have HV1 := hide hS.getOwn.rd.one1)
                  )
                refine segQ_mk (((hS.bring (by repeat (first | exact t0 | apply tS))).getBlk) : Blk _ na 40 (actC x)) ?_
                refine ord_fork (n := 3) (os1 := [[5, 7, 8, 9]]) (os2 := [[7, 5, 8, 9]]) (by decide) ?_ ?_
                ·
                  refine ord_seg (by repeat (first | exact Clean.body | refine Clean.then ?_ | refine Clean.inBlock ?_ | refine SegQ.clean ?_ | refine FinC.clean ?_)) (n := 3) (rest := [[7, 8, 9]]) [5] [⟨_, _, _, _, _, _⟩] rfl (by kernel_rfl) (by simp) _ _ ?_
                  go_wp2_with (first
                    | (go_at_call 15; (refine Ret.calls (CM.out _ _ (hS.bring (by repeat (first | exact t0 | apply tS)))) ?_); clear hS; rintro r w ⟨v2, rfl, hS⟩; have HV2 := hide hS.getOwn.rd.one1)
                    )
                  refine segQ_mk (((hS.bring (by repeat (first | exact t0 | apply tS))).getBlk) : Blk _ na 40 (actC x)) ?_
                  refine ord_seg (by repeat (first | exact Clean.body | refine Clean.then ?_ | refine Clean.inBlock ?_ | refine SegQ.clean ?_ | refine FinC.clean ?_)) (n := 1) (rest := [[9]]) [7, 8] [⟨_, _, _, _, _, _⟩, ⟨_, _, _, _, _, _⟩] rfl (by kernel_rfl) (by simp) _ _ ?_
                  go_wp2_with (first
                    | (show wpList _ _ _ (⟨some 8, .alloc _, _, _, _, _⟩ :: _) _ _; refine wpS_alloc hS rfl rfl Try.zeroValue43 (zs := [.bool false, .int .i64 0, .slice none 0 0]) rfl ?_; clear hS; intro n8 w hS; go_frame)
                    | (show wpList _ _ _ (⟨_, .store 43 (.tmp 7) _, _, _, _, _⟩ :: _) _ _; (refine wpS_storeAll (b := n7) aggAns (hS.bring (by repeat (first | exact t0 | apply tS))) rfl rfl rfl (vs := [.bool b, I64 z, v1]) rfl rfl (ans_one _ _ HV1.out).out (by simp) ?_); clear hS; intro w hS; go_frame)
                    )
                  refine segQ_mk (((hS.bring (by repeat (first | exact t0 | apply tS))).getBlk) : Blk _ na 40 (actC x)) ?_
                  refine ord_seg (by repeat (first | exact Clean.body | refine Clean.then ?_ | refine Clean.inBlock ?_ | refine SegQ.clean ?_ | refine FinC.clean ?_)) (n := 0) (rest := [[]]) [9] [⟨_, _, _, _, _, _⟩] rfl (by kernel_rfl) (by simp) _ _ ?_
                  go_wp2_with (first
                    | (show wpList _ _ _ (⟨_, .store 43 (.tmp 8) _, _, _, _, _⟩ :: _) _ _; (refine wpS_storeAll (b := n8) aggAns (hS.bring (by repeat (first | exact t0 | apply tS))) rfl rfl rfl (vs := [.bool b, I64 z, v2]) rfl rfl (ans_one _ _ HV2.out).out (by simp) ?_); clear hS; intro w hS; go_frame)
                    )
                  refine segQ_mk (((hS.bring (by repeat (first | exact t0 | apply tS))).getBlk) : Blk _ na 40 (actC x)) ?_
                  refine finC_mk (by kernel_rfl) (by
                    intro t ht
                    simp only [List.mem_cons, List.not_mem_nil, or_false] at ht
                    subst ht
                    exact stab_blk (b := na) (fun w h => h) _ none) ?_
                  go_wp2_with fail
                  go_meet
                  exact ⟨n7, n8, v1, v2, rfl, rfl, hS.sel (by repeat (first | exact Sel.refl | refine Sel.take (by repeat (first | exact t0 | apply tS)) ?_ | apply Sel.drop))⟩
                ·
                  refine ord_seg (by repeat (first | exact Clean.body | refine Clean.then ?_ | refine Clean.inBlock ?_ | refine SegQ.clean ?_ | refine FinC.clean ?_)) (n := 2) (rest := [[8, 9]]) [7, 5] [⟨_, _, _, _, _, _⟩, ⟨_, _, _, _, _, _⟩] rfl (by kernel_rfl) (by simp) _ _ ?_
                  go_wp2_with (first
                    | (go_at_call 15; (refine Ret.calls (CM.out _ _ (hS.bring (by repeat (first | exact t0 | apply tS)))) ?_); clear hS; rintro r w ⟨v2, rfl, hS⟩; have HV2 := hide hS.getOwn.rd.one1)
                    | (show wpList _ _ _ (⟨some 8, .alloc _, _, _, _, _⟩ :: _) _ _; refine wpS_alloc hS rfl rfl Try.zeroValue43 (zs := [.bool false, .int .i64 0, .slice none 0 0]) rfl ?_; clear hS; intro n8 w hS; go_frame)
                    )
                  refine segQ_mk (((hS.bring (by repeat (first | exact t0 | apply tS))).getBlk) : Blk _ na 40 (actC x)) ?_
                  refine ord_seg (by repeat (first | exact Clean.body | refine Clean.then ?_ | refine Clean.inBlock ?_ | refine SegQ.clean ?_ | refine FinC.clean ?_)) (n := 1) (rest := [[9]]) [8] [⟨_, _, _, _, _, _⟩] rfl (by kernel_rfl) (by simp) _ _ ?_
                  go_wp2_with (first
                    | (show wpList _ _ _ (⟨_, .store 43 (.tmp 7) _, _, _, _, _⟩ :: _) _ _; (refine wpS_storeAll (b := n7) aggAns (hS.bring (by repeat (first | exact t0 | apply tS))) rfl rfl rfl (vs := [.bool b, I64 z, v1]) rfl rfl (ans_one _ _ HV1.out).out (by simp) ?_); clear hS; intro w hS; go_frame)
                    )
                  refine segQ_mk (((hS.bring (by repeat (first | exact t0 | apply tS))).getBlk) : Blk _ na 40 (actC x)) ?_
                  refine ord_seg (by repeat (first | exact Clean.body | refine Clean.then ?_ | refine Clean.inBlock ?_ | refine SegQ.clean ?_ | refine FinC.clean ?_)) (n := 0) (rest := [[]]) [9] [⟨_, _, _, _, _, _⟩] rfl (by kernel_rfl) (by simp) _ _ ?_
                  go_wp2_with (first
                    | (show wpList _ _ _ (⟨_, .store 43 (.tmp 8) _, _, _, _, _⟩ :: _) _ _; (refine wpS_storeAll (b := n8) aggAns (hS.bring (by repeat (first | exact t0 | apply tS))) rfl rfl rfl (vs := [.bool b, I64 z, v2]) rfl rfl (ans_one _ _ HV2.out).out (by simp) ?_); clear hS; intro w hS; go_frame)
                    )
                  refine segQ_mk (((hS.bring (by repeat (first | exact t0 | apply tS))).getBlk) : Blk _ na 40 (actC x)) ?_
                  refine finC_mk (by kernel_rfl) (by
                    intro t ht
                    simp only [List.mem_cons, List.not_mem_nil, or_false] at ht
                    subst ht
                    exact stab_blk (b := na) (fun w h => h) _ none) ?_
                  go_wp2_with fail
                  go_meet
                  exact ⟨n7, n8, v1, v2, rfl, rfl, hS.sel (by repeat (first | exact Sel.refl | refine Sel.take (by repeat (first | exact t0 | apply tS)) ?_ | apply Sel.drop))⟩
              ·
                refine ord_seg (by repeat (first | exact Clean.body | refine Clean.then ?_ | refine Clean.inBlock ?_ | refine SegQ.clean ?_ | refine FinC.clean ?_)) (n := 3) (rest := [[5, 8, 9]]) [7, 2] [⟨_, _, _, _, _, _⟩, ⟨_, _, _, _, _, _⟩] rfl (by kernel_rfl) (by simp) _ _ ?_
                go_wp2_with (first
                  | (go_at_call 14; (refine Ret.calls (CD.out _ _ (hS.bring (by repeat (first | exact t0 | apply tS)))) ?_); clear hS; rintro r w ⟨v1, rfl, hS⟩; have HV1 := hide hS.getOwn.rd.one1)
                  | (show wpList _ _ _ (⟨some 8, .alloc _, _, _, _, _⟩ :: _) _ _; refine wpS_alloc hS rfl rfl Try.zeroValue43 (zs := [.bool false, .int .i64 0, .slice none 0 0]) rfl ?_; clear hS; intro n8 w hS; go_frame)
                  )
                refine segQ_mk (((hS.bring (by repeat (first | exact t0 | apply tS))).getBlk) : Blk _ na 40 (actC x)) ?_
                refine ord_seg (by repeat (first | exact Clean.body | refine Clean.then ?_ | refine Clean.inBlock ?_ | refine SegQ.clean ?_ | refine FinC.clean ?_)) (n := 2) (rest := [[8, 9]]) [5] [⟨_, _, _, _, _, _⟩] rfl (by kernel_rfl) (by simp) _ _ ?_
                go_wp2_with (first
                  | (go_at_call 15; (refine Ret.calls (CM.out _ _ (hS.bring (by repeat (first | exact t0 | apply tS)))) ?_); clear hS; rintro r w ⟨v2, rfl, hS⟩; have HV2 := hide hS.getOwn.rd.one1)
                  )
                refine segQ_mk (((hS.bring (by repeat (first | exact t0 | apply tS))).getBlk) : Blk _ na 40 (actC x)) ?_
                refine ord_seg (by repeat (first | exact Clean.body | refine Clean.then ?_ | refine Clean.inBlock ?_ | refine SegQ.clean ?_ | refine FinC.clean ?_)) (n := 1) (rest := [[9]]) [8] [⟨_, _, _, _, _, _⟩] rfl (by kernel_rfl) (by simp) _ _ ?_
                go_wp2_with (first
                  | (show wpList _ _ _ (⟨_, .store 43 (.tmp 7) _, _, _, _, _⟩ :: _) _ _; (refine wpS_storeAll (b := n7) aggAns (hS.bring (by repeat (first | exact t0 | apply tS))) rfl rfl rfl (vs := [.bool b, I64 z, v1]) rfl rfl (ans_one _ _ HV1.out).out (by simp) ?_); clear hS; intro w hS; go_frame)
                  )
                refine segQ_mk (((hS.bring (by repeat (first | exact t0 | apply tS))).getBlk) : Blk _ na 40 (actC x)) ?_
                refine ord_seg (by repeat (first | exact Clean.body | refine Clean.then ?_ | refine Clean.inBlock ?_ | refine SegQ.clean ?_ | refine FinC.clean ?_)) (n := 0) (rest := [[]]) [9] [⟨_, _, _, _, _, _⟩] rfl (by kernel_rfl) (by simp) _ _ ?_
                go_wp2_with (first
                  | (show wpList _ _ _ (⟨_, .store 43 (.tmp 8) _, _, _, _, _⟩ :: _) _ _; (refine wpS_storeAll (b := n8) aggAns (hS.bring (by repeat (first | exact t0 | apply tS))) rfl rfl rfl (vs := [.bool b, I64 z, v2]) rfl rfl (ans_one _ _ HV2.out).out (by simp) ?_); clear hS; intro w hS; go_frame)
                  )
                refine segQ_mk (((hS.bring (by repeat (first | exact t0 | apply tS))).getBlk) : Blk _ na 40 (actC x)) ?_
                refine finC_mk (by kernel_rfl) (by
                  intro t ht
                  simp only [List.mem_cons, List.not_mem_nil, or_false] at ht
                  subst ht
                  exact stab_blk (b := na) (fun w h => h) _ none) ?_
                go_wp2_with fail
                go_meet
                exact ⟨n7, n8, v1, v2, rfl, rfl, hS.sel (by repeat (first | exact Sel.refl | refine Sel.take (by repeat (first | exact t0 | apply tS)) ?_ | apply Sel.drop))⟩
            ·
              refine ord_seg (by repeat (first | exact Clean.body | refine Clean.then ?_ | refine Clean.inBlock ?_ | refine SegQ.clean ?_ | refine FinC.clean ?_)) (n := 5) (rest := [[2, 5, 6, 8, 9], [2, 6, 5, 8, 9], [6, 2, 5, 8, 9]]) [7] [⟨_, _, _, _, _, _⟩] rfl (by kernel_rfl) (by simp) _ _ ?_
              go_wp2_with (first
                | (show wpList _ _ _ (⟨some 8, .alloc _, _, _, _, _⟩ :: _) _ _; refine wpS_alloc hS rfl rfl Try.zeroValue43 (zs := [.bool false, .int .i64 0, .slice none 0 0]) rfl ?_; clear hS; intro n8 w hS; go_frame)
                )
              refine segQ_mk (((hS.bring (by repeat (first | exact t0 | apply tS))).getBlk) : Blk _ na 40 (actC x)) ?_
              refine ord_fork (n := 4) (os1 := [[2, 5, 6, 8, 9], [2, 6, 5, 8, 9]]) (os2 := [[6, 2, 5, 8, 9]]) (by decide) ?_ ?_
              ·
                refine ord_seg (by repeat (first | exact Clean.body | refine Clean.then ?_ | refine Clean.inBlock ?_ | refine SegQ.clean ?_ | refine FinC.clean ?_)) (n := 4) (rest := [[5, 6, 8, 9], [6, 5, 8, 9]]) [2] [⟨_, _, _, _, _, _⟩] rfl (by kernel_rfl) (by simp) _ _ ?_
                go_wp2_with (first
                  | (go_at_call 14; (refine Ret.calls (CD.out _ _ (hS.bring (by repeat (first | exact t0 | apply tS)))) ?_); clear hS; rintro r w ⟨v1, rfl, hS⟩; have HV1 := hide hS.getOwn.rd.one1)
                  )
                refine segQ_mk (((hS.bring (by repeat (first | exact t0 | apply tS))).getBlk) : Blk _ na 40 (actC x)) ?_
                refine ord_fork (n := 3) (os1 := [[5, 6, 8, 9]]) (os2 := [[6, 5, 8, 9]]) (by decide) ?_ ?_
                ·
                  refine ord_seg (by repeat (first | exact Clean.body | refine Clean.then ?_ | refine Clean.inBlock ?_ | refine SegQ.clean ?_ | refine FinC.clean ?_)) (n := 3) (rest := [[6, 8, 9]]) [5] [⟨_, _, _, _, _, _⟩] rfl (by kernel_rfl) (by simp) _ _ ?_
                  go_wp2_with (first
                    | (go_at_call 15; (refine Ret.calls (CM.out _ _ (hS.bring (by repeat (first | exact t0 | apply tS)))) ?_); clear hS; rintro r w ⟨v2, rfl, hS⟩; have HV2 := hide hS.getOwn.rd.one1)
                    )
                  refine segQ_mk (((hS.bring (by repeat (first | exact t0 | apply tS))).getBlk) : Blk _ na 40 (actC x)) ?_
                  refine ord_seg (by repeat (first | exact Clean.body | refine Clean.then ?_ | refine Clean.inBlock ?_ | refine SegQ.clean ?_ | refine FinC.clean ?_)) (n := 1) (rest := [[9]]) [6, 8] [⟨_, _, _, _, _, _⟩, ⟨_, _, _, _, _, _⟩] rfl (by kernel_rfl) (by simp) _ _ ?_
                  go_wp2_with (first
                    | (show wpList _ _ _ (⟨some 7, .alloc _, _, _, _, _⟩ :: _) _ _; refine wpS_alloc hS rfl rfl Try.zeroValue43 (zs := [.bool false, .int .i64 0, .slice none 0 0]) rfl ?_; clear hS; intro n7 w hS; go_frame)
                    | (show wpList _ _ _ (⟨_, .store 43 (.tmp 7) _, _, _, _, _⟩ :: _) _ _; (refine wpS_storeAll (b := n7) aggAns (hS.bring (by repeat (first | exact t0 | apply tS))) rfl rfl rfl (vs := [.bool b, I64 z, v1]) rfl rfl (ans_one _ _ HV1.out).out (by simp) ?_); clear hS; intro w hS; go_frame)
                    )
                  refine segQ_mk (((hS.bring (by repeat (first | exact t0 | apply tS))).getBlk) : Blk _ na 40 (actC x)) ?_
                  refine ord_seg (by repeat (first | exact Clean.body | refine Clean.then ?_ | refine Clean.inBlock ?_ | refine SegQ.clean ?_ | refine FinC.clean ?_)) (n := 0) (rest := [[]]) [9] [⟨_, _, _, _, _, _⟩] rfl (by kernel_rfl) (by simp) _ _ ?_
                  go_wp2_with (first
                    | (show wpList _ _ _ (⟨_, .store 43 (.tmp 8) _, _, _, _, _⟩ :: _) _ _; (refine wpS_storeAll (b := n8) aggAns (hS.bring (by repeat (first | exact t0 | apply tS))) rfl rfl rfl (vs := [.bool b, I64 z, v2]) rfl rfl (ans_one _ _ HV2.out).out (by simp) ?_); clear hS; intro w hS; go_frame)
                    )
                  refine segQ_mk (((hS.bring (by repeat (first | exact t0 | apply tS))).getBlk) : Blk _ na 40 (actC x)) ?_
                  refine finC_mk (by kernel_rfl) (by
                    intro t ht
                    simp only [List.mem_cons, List.not_mem_nil, or_false] at ht
                    subst ht
                    exact stab_blk (b := na) (fun w h => h) _ none) ?_
                  go_wp2_with fail
                  go_meet
                  exact ⟨n7, n8, v1, v2, rfl, rfl, hS.sel (by repeat (first | exact Sel.refl | refine Sel.take (by repeat (first | exact t0 | apply tS)) ?_ | apply Sel.drop))⟩
                ·
                  refine ord_seg (by repeat (first | exact Clean.body | refine Clean.then ?_ | refine Clean.inBlock ?_ | refine SegQ.clean ?_ | refine FinC.clean ?_)) (n := 2) (rest := [[8, 9]]) [6, 5] [⟨_, _, _, _, _, _⟩, ⟨_, _, _, _, _, _⟩] rfl (by kernel_rfl) (by simp) _ _ ?_
                  go_wp2_with (first
                    | (go_at_call 15; (refine Ret.calls (CM.out _ _ (hS.bring (by repeat (first | exact t0 | apply tS)))) ?_); clear hS; rintro r w ⟨v2, rfl, hS⟩; have HV2 := hide hS.getOwn.rd.one1)
                    | (show wpList _ _ _ (⟨some 7, .alloc _, _, _, _, _⟩ :: _) _ _; refine wpS_alloc hS rfl rfl Try.zeroValue43 (zs := [.bool false, .int .i64 0, .slice none 0 0]) rfl ?_; clear hS; intro n7 w hS; go_frame)
                    )
                  refine segQ_mk (((hS.bring (by repeat (first | exact t0 | apply tS))).getBlk) : Blk _ na 40 (actC x)) ?_
                  refine ord_seg (by repeat (first | exact Clean.body | refine Clean.then ?_ | refine Clean.inBlock ?_ | refine SegQ.clean ?_ | refine FinC.clean ?_)) (n := 1) (rest := [[9]]) [8] [⟨_, _, _, _, _, _⟩] rfl (by kernel_rfl) (by simp) _ _ ?_
                  go_wp2_with (first
                    | (show wpList _ _ _ (⟨_, .store 43 (.tmp 7) _, _, _, _, _⟩ :: _) _ _; (refine wpS_storeAll (b := n7) aggAns (hS.bring (by repeat (first | exact t0 | apply tS))) rfl rfl rfl (vs := [.bool b, I64 z, v1]) rfl rfl (ans_one _ _ HV1.out).out (by simp) ?_); clear hS; intro w hS; go_frame)
                    )
                  refine segQ_mk (((hS.bring (by repeat (first | exact t0 | apply tS))).getBlk) : Blk _ na 40 (actC x)) ?_
                  refine ord_seg (by repeat (first | exact Clean.body | refine Clean.then ?_ | refine Clean.inBlock ?_ | refine SegQ.clean ?_ | refine FinC.clean ?_)) (n := 0) (rest := [[]]) [9] [⟨_, _, _, _, _, _⟩] rfl (by kernel_rfl) (by simp) _ _ ?_
                  go_wp2_with (first
                    | (show wpList _ _ _ (⟨_, .store 43 (.tmp 8) _, _, _, _, _⟩ :: _) _ _; (refine wpS_storeAll (b := n8) aggAns (hS.bring (by repeat (first | exact t0 | apply tS))) rfl rfl rfl (vs := [.bool b, I64 z, v2]) rfl rfl (ans_one _ _ HV2.out).out (by simp) ?_); clear hS; intro w hS; go_frame)
                    )
                  refine segQ_mk (((hS.bring (by repeat (first | exact t0 | apply tS))).getBlk) : Blk _ na 40 (actC x)) ?_
                  refine finC_mk (by kernel_rfl) (by
                    intro t ht
                    simp only [List.mem_cons, List.not_mem_nil, or_false] at ht
                    subst ht
                    exact stab_blk (b := na) (fun w h => h) _ none) ?_
                  go_wp2_with fail
                  go_meet
                  exact ⟨n7, n8, v1, v2, rfl, rfl, hS.sel (by repeat (first | exact Sel.refl | refine Sel.take (by repeat (first | exact t0 | apply tS)) ?_ | apply Sel.drop))⟩
              ·
                refine ord_seg (by repeat (first | exact Clean.body | refine Clean.then ?_ | refine Clean.inBlock ?_ | refine SegQ.clean ?_ | refine FinC.clean ?_)) (n := 3) (rest := [[5, 8, 9]]) [6, 2] [⟨_, _, _, _, _, _⟩, ⟨_, _, _, _, _, _⟩] rfl (by kernel_rfl) (by simp) _ _ ?_
                go_wp2_with (first
                  | (go_at_call 14; (refine Ret.calls (CD.out _ _ (hS.bring (by repeat (first | exact t0 | apply tS)))) ?_); clear hS; rintro r w ⟨v1, rfl, hS⟩; have HV1 := hide hS.getOwn.rd.one1)
                  | (show wpList _ _ _ (⟨some 7, .alloc _, _, _, _, _⟩ :: _) _ _; refine wpS_alloc hS rfl rfl Try.zeroValue43 (zs := [.bool false, .int .i64 0, .slice none 0 0]) rfl ?_; clear hS; intro n7 w hS; go_frame)
                  )
                refine segQ_mk (((hS.bring (by repeat (first | exact t0 | apply tS))).getBlk) : Blk _ na 40 (actC x)) ?_
                refine ord_seg (by repeat (first | exact Clean.body | refine Clean.then ?_ | refine Clean.inBlock ?_ | refine SegQ.clean ?_ | refine FinC.clean ?_)) (n := 2) (rest := [[8, 9]]) [5] [⟨_, _, _, _, _, _⟩] rfl (by kernel_rfl) (by simp) _ _ ?_
                go_wp2_with (first
                  | (go_at_call 15; (refine Ret.calls (CM.out _ _ (hS.bring (by repeat (first | exact t0 | apply tS)))) ?_); clear hS; rintro r w ⟨v2, rfl, hS⟩; have HV2 := hide hS.getOwn.rd.one1)
                  )
                refine segQ_mk (((hS.bring (by repeat (first | exact t0 | apply tS))).getBlk) : Blk _ na 40 (actC x)) ?_
                refine ord_seg (by repeat (first | exact Clean.body | refine Clean.then ?_ | refine Clean.inBlock ?_ | refine SegQ.clean ?_ | refine FinC.clean ?_)) (n := 1) (rest := [[9]]) [8] [⟨_, _, _, _, _, _⟩] rfl (by kernel_rfl) (by simp) _ _ ?_
                go_wp2_with (first
                  | (show wpList _ _ _ (⟨_, .store 43 (.tmp 7) _, _, _, _, _⟩ :: _) _ _; (refine wpS_storeAll (b := n7) aggAns (hS.bring (by repeat (first | exact t0 | apply tS))) rfl rfl rfl (vs := [.bool b, I64 z, v1]) rfl rfl (ans_one _ _ HV1.out).out (by simp) ?_); clear hS; intro w hS; go_frame)
                  )
                refine segQ_mk (((hS.bring (by repeat (first | exact t0 | apply tS))).getBlk) : Blk _ na 40 (actC x)) ?_
                refine ord_seg (by repeat (first | exact Clean.body | refine Clean.then ?_ | refine Clean.inBlock ?_ | refine SegQ.clean ?_ | refine FinC.clean ?_)) (n := 0) (rest := [[]]) [9] [⟨_, _, _, _, _, _⟩] rfl (by kernel_rfl) (by simp) _ _ ?_
                go_wp2_with (first
                  | (show wpList _ _ _ (⟨_, .store 43 (.tmp 8) _, _, _, _, _⟩ :: _) _ _; (refine wpS_storeAll (b := n8) aggAns (hS.bring (by repeat (first | exact t0 | apply tS))) rfl rfl rfl (vs := [.bool b, I64 z, v2]) rfl rfl (ans_one _ _ HV2.out).out (by simp) ?_); clear hS; intro w hS; go_frame)
                  )
                refine segQ_mk (((hS.bring (by repeat (first | exact t0 | apply tS))).getBlk) : Blk _ na 40 (actC x)) ?_
                refine finC_mk (by kernel_rfl) (by
                  intro t ht
                  simp only [List.mem_cons, List.not_mem_nil, or_false] at ht
                  subst ht
                  exact stab_blk (b := na) (fun w h => h) _ none) ?_
                go_wp2_with fail
                go_meet
                exact ⟨n7, n8, v1, v2, rfl, rfl, hS.sel (by repeat (first | exact Sel.refl | refine Sel.take (by repeat (first | exact t0 | apply tS)) ?_ | apply Sel.drop))⟩
        case rest =>
          clear hS
          obtain ⟨n7, n8, v1, v2, rfl, rfl, hS⟩ := hcut
          go_upto_region 11 with fail
          refine wp_region_ord (by kernel_rfl) [64] [[0, 1, 2, 3, 4, 5, 6, 7, 8, 9, 10, 11, 12, 13, 14, 15, 16, 17, 18, 19, 20, 21, 24, 22, 23, 25, 26, 27, 28, 29, 30, 31, 32, 34, 35, 36, 33, 37, 38, 39, 40]] (by kernel_rfl) (by kernel_rfl) (fun w' => Blk w' na 40 (actC x)) Up.blk ((hS.bring (by repeat (first | exact t0 | apply tS))).getBlk) (by repeat (first | exact Clean.body | refine Clean.then ?_ | refine Clean.inBlock ?_ | refine SegQ.clean ?_ | refine FinC.clean ?_)) ?_
          replace hS := hS.drew
          refine ord_seg (by repeat (first | exact Clean.body | refine Clean.then ?_ | refine Clean.inBlock ?_ | refine SegQ.clean ?_ | refine FinC.clean ?_)) (n := 32) (rest := [[9, 10, 11, 12, 13, 14, 15, 16, 17, 18, 19, 20, 21, 24, 22, 23, 25, 26, 27, 28, 29, 30, 31, 32, 34, 35, 36, 33, 37, 38, 39, 40]]) [0, 1, 2, 3, 4, 5, 6, 7, 8] [⟨_, _, _, _, _, _⟩, ⟨_, _, _, _, _, _⟩, ⟨_, _, _, _, _, _⟩, ⟨_, _, _, _, _, _⟩, ⟨_, _, _, _, _, _⟩, ⟨_, _, _, _, _, _⟩, ⟨_, _, _, _, _, _⟩, ⟨_, _, _, _, _, _⟩, ⟨_, _, _, _, _, _⟩] rfl (by kernel_rfl) (by simp) _ _ ?_
          go_wp2_with (first
            | (show wpList _ _ _ (⟨some 30, .load _ _, _, _, _, _⟩ :: _) _ _; refine wpList_val rfl (op_load1S (b := n7) (T := 43) oneBool ((hS.bring (by repeat (first | exact t0 | apply tS)))) rfl rfl rfl) ?_; go_frame)
            | (show wpList _ _ _ (⟨some 32, .load _ _, _, _, _, _⟩ :: _) _ _; refine wpList_val rfl (op_load1S (b := n8) (T := 43) oneBool ((hS.bring (by repeat (first | exact t0 | apply tS)))) rfl rfl rfl) ?_; go_frame)
            | (show wpList _ _ _ (⟨some 36, .load _ _, _, _, _, _⟩ :: _) _ _; refine wpList_val rfl (op_load1S (b := n7) (T := 43) oneInt ((hS.bring (by repeat (first | exact t0 | apply tS)))) rfl rfl rfl) ?_; go_frame)
            )
          refine segQ_mk (((hS.bring (by repeat (first | exact t0 | apply tS))).getBlk) : Blk _ na 40 (actC x)) ?_
          refine ord_seg (by repeat (first | exact Clean.body | refine Clean.then ?_ | refine Clean.inBlock ?_ | refine SegQ.clean ?_ | refine FinC.clean ?_)) (n := 23) (rest := [[18, 19, 20, 21, 24, 22, 23, 25, 26, 27, 28, 29, 30, 31, 32, 34, 35, 36, 33, 37, 38, 39, 40]]) [9, 10, 11, 12, 13, 14, 15, 16, 17] [⟨_, _, _, _, _, _⟩, ⟨_, _, _, _, _, _⟩, ⟨_, _, _, _, _, _⟩, ⟨_, _, _, _, _, _⟩, ⟨_, _, _, _, _, _⟩, ⟨_, _, _, _, _, _⟩, ⟨_, _, _, _, _, _⟩, ⟨_, _, _, _, _, _⟩, ⟨_, _, _, _, _, _⟩] rfl (by kernel_rfl) (by simp) _ _ ?_
          go_wp2_with (first
            | (show wpList _ _ _ (⟨some 38, .load _ _, _, _, _, _⟩ :: _) _ _; refine wpList_val rfl (op_load1S (b := n8) (T := 43) oneInt ((hS.bring (by repeat (first | exact t0 | apply tS)))) rfl rfl rfl) ?_; go_frame)
            | (show wpList _ _ _ (⟨some 39, .binOp _ _ _ _ _, _, _, _, _⟩ :: _) _ _; refine wpList_val rfl (op_ineI rfl rfl rfl HZ.out) ?_; go_frame)
            | (show wpList _ _ _ (⟨some 43, .load _ _, _, _, _, _⟩ :: _) _ _; refine wpList_val rfl (op_load1S (b := n7) (T := 43) oneRWants ((hS.bring (by repeat (first | exact t0 | apply tS)))) rfl rfl rfl) ?_; go_frame)
            | (show wpList _ _ _ (⟨some 45, .load _ _, _, _, _, _⟩ :: _) _ _; refine wpList_val rfl (op_load1S (b := n8) (T := 43) oneRWants ((hS.bring (by repeat (first | exact t0 | apply tS)))) rfl rfl rfl) ?_; go_frame)
            | (go_at_call 16; with_reducible refine Ret.calls (hS.callNo (same_s (v := v1) (u := v2) (L := AW) (M := AW) ((hS.bring (by repeat (first | exact t0 | apply tS))).getOwn.rd) ((hS.bring (by repeat (first | exact t0 | apply tS))).getOwn.rd) HAW.out HAW.out)) ?_; clear hS; rw [decide_eq_true (rfl : AW = AW)]; rintro r w ⟨rfl, hS⟩)
            )
          refine segQ_mk (((hS.bring (by repeat (first | exact t0 | apply tS))).getBlk) : Blk _ na 40 (actC x)) ?_
          refine ord_seg (by repeat (first | exact Clean.body | refine Clean.then ?_ | refine Clean.inBlock ?_ | refine SegQ.clean ?_ | refine FinC.clean ?_)) (n := 17) (rest := [[23, 25, 26, 27, 28, 29, 30, 31, 32, 34, 35, 36, 33, 37, 38, 39, 40]]) [18, 19, 20, 21, 24, 22] [⟨_, _, _, _, _, _⟩, ⟨_, _, _, _, _, _⟩, ⟨_, _, _, _, _, _⟩, ⟨_, _, _, _, _, _⟩, ⟨_, _, _, _, _, _⟩, ⟨_, _, _, _, _, _⟩] rfl (by kernel_rfl) (by simp) _ _ ?_
          go_wp2_with (first
            | (go_at_call 12; (refine Ret.calls (all_s (hS.bring (by repeat (first | exact t0 | apply tS))) HOK2.out) ?_); clear hS; rintro r3 w hS)
            )
          refine segQ_mk (((hS.bring (by repeat (first | exact t0 | apply tS))).getBlk) : Blk _ na 40 (actC x)) ?_
          refine ord_seg (by repeat (first | exact Clean.body | refine Clean.then ?_ | refine Clean.inBlock ?_ | refine SegQ.clean ?_ | refine FinC.clean ?_)) (n := 16) (rest := [[25, 26, 27, 28, 29, 30, 31, 32, 34, 35, 36, 33, 37, 38, 39, 40]]) [23] [⟨_, _, _, _, _, _⟩] rfl (by kernel_rfl) (by simp) _ _ ?_
          go_wp2_with (first
            | (go_at_call 17; refine Ret.calls (plain_s hS HAL3.out HALF.out) ?_; clear hS; rintro r4 w hS)
            )
          refine segQ_mk (((hS.bring (by repeat (first | exact t0 | apply tS))).getBlk) : Blk _ na 40 (actC x)) ?_
          refine ord_seg (by repeat (first | exact Clean.body | refine Clean.then ?_ | refine Clean.inBlock ?_ | refine SegQ.clean ?_ | refine FinC.clean ?_)) (n := 15) (rest := [[26, 27, 28, 29, 30, 31, 32, 34, 35, 36, 33, 37, 38, 39, 40]]) [25] [⟨_, _, _, _, _, _⟩] rfl (by kernel_rfl) (by simp) _ _ ?_
          go_wp2_with (first
            | (go_at_call 18; (refine Ret.calls (rall_s (hS.bring (by repeat (first | exact t0 | apply tS))) HOK2.out) ?_); clear hS; rintro r5 w hS)
            )
          refine segQ_mk (((hS.bring (by repeat (first | exact t0 | apply tS))).getBlk) : Blk _ na 40 (actC x)) ?_
          refine ord_seg (by repeat (first | exact Clean.body | refine Clean.then ?_ | refine Clean.inBlock ?_ | refine SegQ.clean ?_ | refine FinC.clean ?_)) (n := 14) (rest := [[27, 28, 29, 30, 31, 32, 34, 35, 36, 33, 37, 38, 39, 40]]) [26] [⟨_, _, _, _, _, _⟩] rfl (by kernel_rfl) (by simp) _ _ ?_
          go_wp2_with (first
            | (go_at_call 16; with_reducible refine Ret.calls (hS.callNo (same_s (v := r4) (u := r5) (L := allB B2) (M := allB B2) ((hS.bring (by repeat (first | exact t0 | apply tS))).getOwn.rd) ((hS.bring (by repeat (first | exact t0 | apply tS))).getOwn.rd) HALW.out HALW.out)) ?_; clear hS; rw [decide_eq_true (rfl : allB B2 = allB B2)]; rintro r w ⟨rfl, hS⟩)
            )
          refine segQ_mk (((hS.bring (by repeat (first | exact t0 | apply tS))).getBlk) : Blk _ na 40 (actC x)) ?_
          refine ord_seg (by repeat (first | exact Clean.body | refine Clean.then ?_ | refine Clean.inBlock ?_ | refine SegQ.clean ?_ | refine FinC.clean ?_)) (n := 5) (rest := [[33, 37, 38, 39, 40]]) [27, 28, 29, 30, 31, 32, 34, 35, 36] [⟨_, _, _, _, _, _⟩, ⟨_, _, _, _, _, _⟩, ⟨_, _, _, _, _, _⟩, ⟨_, _, _, _, _, _⟩, ⟨_, _, _, _, _, _⟩, ⟨_, _, _, _, _, _⟩, ⟨_, _, _, _, _, _⟩, ⟨_, _, _, _, _, _⟩, ⟨_, _, _, _, _, _⟩] rfl (by kernel_rfl) (by simp) _ _ ?_
          go_wp2_with (first
            | (show wpList _ _ _ (⟨_, .load 28 _, _, _, _, _⟩ :: _) _ _; refine wpList_val rfl (op_load aggHash rfl rfl ((SepL.getBlk (b := na) (T := 40) ((hS.bring (by repeat (first | exact t0 | apply tS))))).cells.subN 2 32 HXI.out) HXI32.out) ?_; go_frame)
            )
          refine segQ_mk (((hS.bring (by repeat (first | exact t0 | apply tS))).getBlk) : Blk _ na 40 (actC x)) ?_
          refine ord_seg (by repeat (first | exact Clean.body | refine Clean.then ?_ | refine Clean.inBlock ?_ | refine SegQ.clean ?_ | refine FinC.clean ?_)) (n := 4) (rest := [[37, 38, 39, 40]]) [33] [⟨_, _, _, _, _, _⟩] rfl (by kernel_rfl) (by simp) _ _ ?_
          go_wp2_with (first
            | (go_at_call 20; (refine Ret.calls (peers_any (i := x.id) (hS.bring (by repeat (first | exact t0 | apply tS))) HOK2.out HX32.out) ?_); clear hS; rintro r6 w hS)
            )
          refine segQ_mk (((hS.bring (by repeat (first | exact t0 | apply tS))).getBlk) : Blk _ na 40 (actC x)) ?_
          refine ord_seg (by repeat (first | exact Clean.body | refine Clean.then ?_ | refine Clean.inBlock ?_ | refine SegQ.clean ?_ | refine FinC.clean ?_)) (n := 3) (rest := [[38, 39, 40]]) [37] [⟨_, _, _, _, _, _⟩] rfl (by kernel_rfl) (by simp) _ _ ?_
          go_wp2_with (first
            | (go_at_call 21; (refine Ret.calls (rpeers_any (i := x.id) (hS.bring (by repeat (first | exact t0 | apply tS))) HOK2.out HX32.out) ?_); clear hS; rintro r7 w hS)
            )
          refine segQ_mk (((hS.bring (by repeat (first | exact t0 | apply tS))).getBlk) : Blk _ na 40 (actC x)) ?_
          refine ord_seg (by repeat (first | exact Clean.body | refine Clean.then ?_ | refine Clean.inBlock ?_ | refine SegQ.clean ?_ | refine FinC.clean ?_)) (n := 2) (rest := [[39, 40]]) [38] [⟨_, _, _, _, _, _⟩] rfl (by kernel_rfl) (by simp) _ _ ?_
          go_wp2_with (first
            | (go_at_call 19; refine Ret.calls (hS.callNo (sameInts_s r6 r7 (peersL x.id B2) (peersL x.id B2) _ ((hS.bring (by repeat (first | exact t0 | apply tS))).getOwn.rd) ((hS.bring (by repeat (first | exact t0 | apply tS))).getOwn.rd))) ?_; clear hS; rw [decide_eq_true (rfl : peersL x.id B2 = peersL x.id B2)]; rintro r w ⟨rfl, hS⟩)
            )
          refine segQ_mk (((hS.bring (by repeat (first | exact t0 | apply tS))).getBlk) : Blk _ na 40 (actC x)) ?_
          refine ord_seg (by repeat (first | exact Clean.body | refine Clean.then ?_ | refine Clean.inBlock ?_ | refine SegQ.clean ?_ | refine FinC.clean ?_)) (n := 0) (rest := [[]]) [39, 40] [⟨_, _, _, _, _, _⟩, ⟨_, _, _, _, _, _⟩] rfl (by kernel_rfl) (by simp) _ _ ?_
          go_wp2_with fail
          refine segQ_mk (((hS.bring (by repeat (first | exact t0 | apply tS))).getBlk) : Blk _ na 40 (actC x)) ?_
          refine finC_mk (by kernel_rfl) (by
            intro t ht
            simp only [List.mem_cons, List.not_mem_nil, or_false] at ht
            subst ht
            exact stab_blk (b := na) (fun w h => h) _ none) ?_
          go_wp2_with fail
          go_roundw
          case rel => exact ⟨k + 1, B2, by go_num, by omega, HOK2, HIN2, hS.sel (by repeat (first | exact Sel.refl | refine Sel.take (by repeat (first | exact t0 | apply tS)) ?_ | apply Sel.drop))⟩
          case measure => simp [intOf]; omega
      · go_wp2_with fail
        go_ret
        exact ⟨rfl, hS.chg⟩
end
end Go.Proofs.Ytafpdpcbckpkjaa
