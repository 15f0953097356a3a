/- What is secret, what leaks and what is aside, of anything, is the document's: the law returns true. Conditions: those that stand ahead of each theorem. -/
import Derived.Test.YtnjeoaplohlgkaaDoorTHid
namespace Go.Proofs.YtnjeoaplohlgkaaDoor
open Go.RowKit Go.Px Go.Sha
theorem op_neBool {o : Oper} {w : World} {ρ : Operand → Value} {t' : TypeId} {x y : Operand} {a : Bool} (ho : o.op = .binOp .neq 4 x y t') (hx : ρ x = .bool a) (hy : ρ y = .bool a) : (execOp ρ o).run Tryd.prog w = .ok (.value (.bool false)) w := by
  have h : (binOp .neq 4 (.bool a) (.bool a)).run Tryd.prog w = .ok (.bool false) w := by cases a <;> kernel_rfl
  have h2 : (eqGuard .neq 4 x y (.bool a) (.bool a)).run Tryd.prog w = .ok () w := by cases a <;> rfl
  unfold execOp
  simp only [ho, hx, hy, Sem.run_bind, h, h2, Result.andThen_ok, Sem.run_pure]
theorem op_eqBool {o : Oper} {w : World} {ρ : Operand → Value} {t' : TypeId} {x y : Operand} {a : Bool} (ho : o.op = .binOp .eql 4 x y t') (hx : ρ x = .bool a) (hy : ρ y = .bool a) : (execOp ρ o).run Tryd.prog w = .ok (.value (.bool true)) w := by
  have h : (binOp .eql 4 (.bool a) (.bool a)).run Tryd.prog w = .ok (.bool true) w := by cases a <;> kernel_rfl
  have h2 : (eqGuard .eql 4 x y (.bool a) (.bool a)).run Tryd.prog w = .ok () w := by cases a <;> rfl
  unfold execOp
  simp only [ho, hx, hy, Sem.run_bind, h, h2, Result.andThen_ok, Sem.run_pure]
set_option maxRecDepth 100000 in
set_option maxHeartbeats 8000000 in
theorem traceHidden_w {W : World} (hK : CIn All W 1 (kTab.map W32)) (hF : CIn All W 0 (first.map W32)) {ve vn : Value} {E : List Int} {L : List PN} {k a b l : Int} {c : List Value} (he0 : Rd 1 W ve (E.map fun z => [I64 z])) (hE : ∀ z ∈ E, In64 z) (hn0 : Rd 35 W vn (L.map nC)) (hN : ∀ n ∈ L, NOk n) (hc : In64 a ∧ In64 b ∧ List.length c = 42) :
    Calls Tryd.prog 8 #[ve, vn, .agg (actC k a b l c).toArray] W (Ret fun r w' => r = .bool true ∧ Chg No W w') := by
  have hS := SepL.start W
  have he := RdIn.of he0
  have hn := RdIn.of hn0
  have HEL : Hid ((E.map fun z => [I64 z]).length = E.length) := by simp [Hid]
  have HLN : Hid ((L.map nC).length = L.length) := by simp [Hid]
  have HE := hide hE
  have HNI := hide (fun n (h : n ∈ L) => (hN n h).id)
  have HAI := hide hc.1
  have HBI := hide hc.2.1
  have HCL : Hid ((actC k a b l c).length = 46) := by
    unfold Hid actC
    simp only [List.length_cons, hc.2.2]
  obtain ⟨lq, hlq⟩ : ∃ q, leaksB a L E = q := ⟨_, rfl⟩
  obtain ⟨aq, haq⟩ : ∃ q, asideP k a b l E = q := ⟨_, rfl⟩
  have HLQ := hide hlq
  have HAQ := hide haq
  clear he0 hn0 hE hc hlq haq hN
  by_cases hel : 100 < E.length
  · have HG : Hid (decide ((100 : Int) < (E.length : Int)) = true) := decT (by omega)
    clear hel
    go_enter Tryd.func8, Tryd.ntmps8
    go_wp2_with (first
      | (go_at_call 9; refine Ret.calls (alive_s hS hK hF) ?_; clear hS; rintro r w ⟨rfl, hS⟩)
      | (show wpList _ _ _ (⟨_, .box _ _, _, _, _, _⟩ :: _) _ _; refine wpS_boxA (cs := actC k a b l c) hS rfl rfl rfl ?_; clear hS; intro na w hS; go_frame)
      | (show wpList _ _ _ (⟨some 12, .call _, _, _, _, _⟩ :: _) _ _; refine wpList_val rfl (op_len slInt rfl rfl (v := ve) (xs := E.map fun z => [I64 z]) rfl (by exact hS.rd he)) ?_; rw [HEL.out]; go_frame)
      | (show wpList _ _ _ (⟨some 13, .binOp _ _ _ _ _, _, _, _, _⟩ :: _) _ _; refine wpList_val rfl (op_igtr rfl rfl rfl HG.out) ?_; go_frame)
      )
    go_ret
    exact ⟨rfl, hS.chg⟩
  · have HG : Hid (decide ((100 : Int) < (E.length : Int)) = false) := decF (by omega)
    clear hel
    by_cases hnl : 100 < L.length
    · have HG2 : Hid (decide ((100 : Int) < (L.length : Int)) = true) := decT (by omega)
      clear hnl
      go_enter Tryd.func8, Tryd.ntmps8
      go_wp2_with (first
        | (go_at_call 9; refine Ret.calls (alive_s hS hK hF) ?_; clear hS; rintro r w ⟨rfl, hS⟩)
        | (show wpList _ _ _ (⟨_, .box _ _, _, _, _, _⟩ :: _) _ _; refine wpS_boxA (cs := actC k a b l c) hS rfl rfl rfl ?_; clear hS; intro na w hS; go_frame)
        | (show wpList _ _ _ (⟨some 12, .call _, _, _, _, _⟩ :: _) _ _; refine wpList_val rfl (op_len slInt rfl rfl (v := ve) (xs := E.map fun z => [I64 z]) rfl (by exact hS.rd he)) ?_; rw [HEL.out]; go_frame)
        | (show wpList _ _ _ (⟨some 13, .binOp _ _ _ _ _, _, _, _, _⟩ :: _) _ _; refine wpList_val rfl (op_igtr rfl rfl rfl HG.out) ?_; go_frame)
        | (show wpList _ _ _ (⟨some 16, .call _, _, _, _, _⟩ :: _) _ _; refine wpList_val rfl (op_len slNote rfl rfl (v := vn) (xs := L.map nC) rfl (by exact hS.rd hn)) ?_; rw [HLN.out]; go_frame)
        | (show wpList _ _ _ (⟨some 17, .binOp _ _ _ _ _, _, _, _, _⟩ :: _) _ _; refine wpList_val rfl (op_igtr rfl rfl rfl HG2.out) ?_; go_frame)
        )
      go_ret
      exact ⟨rfl, hS.chg⟩
    · have HG2 : Hid (decide ((100 : Int) < (L.length : Int)) = false) := decF (by omega)
      have hll : L.length ≤ 100 := by omega
      clear hnl
      go_enter Tryd.func8, Tryd.ntmps8
      go_wp2_with (first
        | (go_at_call 9; refine Ret.calls (alive_s hS hK hF) ?_; clear hS; rintro r w ⟨rfl, hS⟩)
        | (show wpList _ _ _ (⟨_, .box _ _, _, _, _, _⟩ :: _) _ _; refine wpS_boxA (cs := actC k a b l c) hS rfl rfl rfl ?_; clear hS; intro na w hS; go_frame)
        | (show wpList _ _ _ (⟨some 12, .call _, _, _, _, _⟩ :: _) _ _; refine wpList_val rfl (op_len slInt rfl rfl (v := ve) (xs := E.map fun z => [I64 z]) rfl (by exact hS.rd he)) ?_; rw [HEL.out]; go_frame)
        | (show wpList _ _ _ (⟨some 13, .binOp _ _ _ _ _, _, _, _, _⟩ :: _) _ _; refine wpList_val rfl (op_igtr rfl rfl rfl HG.out) ?_; go_frame)
        | (show wpList _ _ _ (⟨some 16, .call _, _, _, _, _⟩ :: _) _ _; refine wpList_val rfl (op_len slNote rfl rfl (v := vn) (xs := L.map nC) rfl (by exact hS.rd hn)) ?_; rw [HLN.out]; go_frame)
        | (show wpList _ _ _ (⟨some 17, .binOp _ _ _ _ _, _, _, _, _⟩ :: _) _ _; refine wpList_val rfl (op_igtr rfl rfl rfl HG2.out) ?_; go_frame)
        | (show wpList _ _ _ (⟨some 20, .call _, _, _, _, _⟩ :: _) _ _; refine wpList_val rfl (op_len slNote rfl rfl (v := vn) (xs := L.map nC) rfl (by exact hS.rd hn)) ?_; rw [HLN.out]; go_frame)
        )
      go_loopw [21] (fun iv wr => ∃ (i : Nat), iv = .int .i64 i ∧ i ≤ L.length ∧ SepL All W wr [.blk na 52 (actC k a b l c)]) (fun iv _ => L.length - (intOf iv).toNat)
      case atStart => exact ⟨0, rfl, by omega, hS.sel (by repeat (first | exact Sel.refl | refine Sel.take (by repeat (first | exact t0 | apply tS)) ?_ | apply Sel.drop))⟩
      case round =>
        clear hS
        obtain ⟨i, rfl, hi, hS⟩ := hrel
        by_cases hlt : i < L.length
        · have hlk : i < (L.map nC).length := by rw [HLN.out]; exact hlt
          obtain ⟨n, hx⟩ : ∃ n, L[i] = n := ⟨_, rfl⟩
          have HX : Hid ((L.map nC)[i] = nC n) := by
            unfold Hid
            rw [List.getElem_map, hx]
          have HNL := hide (nC_len (HNI.out n (by rw [← hx]; exact List.getElem_mem hlt)))
          obtain ⟨sc, hsc⟩ : ∃ q, secretB n.src E = q := ⟨_, rfl⟩
          have HSC := hide hsc
          clear hx hsc
          go_wp2_with (first
            | (show wpList _ _ _ (⟨some 23, .indexAddr _ _ _, _, _, _, _⟩ :: _) _ _; refine wpList_val rfl (op_indexAddr slNote rfl (v := vn) (xs := L.map nC) rfl (k := i) rfl (by exact hS.rd hn) hlk) ?_; go_frame)
            | (show wpList _ _ _ (⟨some 24, .load _ _, _, _, _, _⟩ :: _) _ _; refine wpList_val rfl (op_loadE aggNote rfl (v := vn) (xs := L.map nC) (k := i) rfl (by exact hS.rd hn) hlk) ?_; rw [HX.out]; go_frame)
            | (show wpList _ _ _ (⟨_, .alloc 60, _, _, _, _⟩ :: _) _ _; refine wpS_alloc hS rfl rfl Tryd.zeroValue60 (zs := zNote) rfl ?_; clear hS; intro nb w hS; go_frame)
            | (show wpList _ _ _ (⟨_, .store 60 _ _, _, _, _, _⟩ :: _) _ _; (refine wpS_storeAll (b := nb) aggNote (hS.bring (by repeat (first | exact t0 | apply tS))) rfl rfl rfl (vs := nC n) rfl HNL.out (nC_one n) rfl ?_); clear hS; intro w hS; go_frame)
            )
          go_wp2_with fail
          refine wp_region_ord (by kernel_rfl) [25, 29] [[0, 1, 2, 4, 5, 6, 3, 7, 8]] (by kernel_rfl) (by kernel_rfl) (fun w' => Blk w' nb 60 (nC n)) Up.blk ((hS.bring (by repeat (first | exact t0 | apply tS))).getBlk) (by repeat (first | exact Clean.body | refine Clean.then ?_ | refine Clean.inBlock ?_ | refine SegQ.clean ?_ | refine FinC.clean ?_)) ?_
          replace hS := hS.drew
          refine ord_seg (by repeat (first | exact Clean.body | refine Clean.then ?_ | refine Clean.inBlock ?_ | refine SegQ.clean ?_ | refine FinC.clean ?_)) (n := 2) (rest := [[7, 8]]) [0, 1, 2, 4, 5, 6, 3] [⟨_, _, _, _, _, _⟩, ⟨_, _, _, _, _, _⟩, ⟨_, _, _, _, _, _⟩, ⟨_, _, _, _, _, _⟩, ⟨_, _, _, _, _, _⟩, ⟨_, _, _, _, _, _⟩, ⟨_, _, _, _, _, _⟩] rfl (by kernel_rfl) (by simp) _ _ ?_
          go_wp2_with (first
            | (show wpList _ _ _ (⟨_, .load 3 _, _, _, _, _⟩ :: _) _ _; refine wpList_val rfl (op_load1S (b := nb) (T := 60) oneInt ((hS.bring (by repeat (first | exact t0 | apply tS)))) rfl rfl rfl) ?_; go_frame)
            | (go_at_call 18; refine Ret.calls (secret_s ve E n.src _ (by exact hS.rd he) HSC.out) ?_; rintro r1 w' ⟨rfl, rfl⟩)
            )
          refine segQ_mk (((hS.bring (by repeat (first | exact t0 | apply tS))).getBlk) : Blk _ nb 60 (nC n)) ?_
          refine ord_seg (by repeat (first | exact Clean.body | refine Clean.then ?_ | refine Clean.inBlock ?_ | refine SegQ.clean ?_ | refine FinC.clean ?_)) (n := 1) (rest := [[8]]) [7] [⟨_, _, _, _, _, _⟩] rfl (by kernel_rfl) (by simp) _ _ ?_
          go_wp2_with (first
            | (go_at_call 20; refine Ret.calls (rsecret_s hS he HSC.out) ?_; clear hS; rintro r1 w ⟨rfl, hS⟩)
            )
          refine segQ_mk (((hS.bring (by repeat (first | exact t0 | apply tS))).getBlk) : Blk _ nb 60 (nC n)) ?_
          refine ord_seg (by repeat (first | exact Clean.body | refine Clean.then ?_ | refine Clean.inBlock ?_ | refine SegQ.clean ?_ | refine FinC.clean ?_)) (n := 0) (rest := [[]]) [8] [⟨_, _, _, _, _, _⟩] rfl (by kernel_rfl) (by simp) _ _ ?_
          go_wp2_with (first
            | (show wpList _ _ _ (⟨some 33, .binOp _ _ _ _ _, _, _, _, _⟩ :: _) _ _; refine wpList_val rfl (op_neBool rfl rfl rfl) ?_; go_frame)
            )
          refine segQ_mk (((hS.bring (by repeat (first | exact t0 | apply tS))).getBlk) : Blk _ nb 60 (nC n)) ?_
          refine finC_mk (by kernel_rfl) (by
            intro t ht
            simp only [List.mem_cons, List.not_mem_nil, or_false] at ht
            rcases ht with rfl | rfl <;> exact stab_blk (b := nb) (fun w h => h) _ none) ?_
          go_wp2_with fail
          go_roundw
          case rel => exact ⟨i + 1, by go_num, by omega, hS.sel (by repeat (first | exact Sel.refl | refine Sel.take (by repeat (first | exact t0 | apply tS)) ?_ | apply Sel.drop))⟩
          case measure => simp [intOf]; omega
        · go_wp2_with fail
          refine wp_region_ord (by kernel_rfl) [5, 35, 40] [[0, 1, 2, 3, 5, 6, 7, 8, 4, 9, 10, 11, 12, 13, 15, 16, 14, 17, 18, 19, 20]] (by kernel_rfl) (by kernel_rfl) (fun w' => Blk w' na 52 (actC k a b l c)) Up.blk ((hS.bring (by repeat (first | exact t0 | apply tS))).getBlk) (by repeat (first | exact Clean.body | refine Clean.then ?_ | refine Clean.inBlock ?_ | refine SegQ.clean ?_ | refine FinC.clean ?_)) ?_
          replace hS := hS.drew
          refine ord_seg (by repeat (first | exact Clean.body | refine Clean.then ?_ | refine Clean.inBlock ?_ | refine SegQ.clean ?_ | refine FinC.clean ?_)) (n := 12) (rest := [[9, 10, 11, 12, 13, 15, 16, 14, 17, 18, 19, 20]]) [0, 1, 2, 3, 5, 6, 7, 8, 4] [⟨_, _, _, _, _, _⟩, ⟨_, _, _, _, _, _⟩, ⟨_, _, _, _, _, _⟩, ⟨_, _, _, _, _, _⟩, ⟨_, _, _, _, _, _⟩, ⟨_, _, _, _, _, _⟩, ⟨_, _, _, _, _, _⟩, ⟨_, _, _, _, _, _⟩, ⟨_, _, _, _, _, _⟩] rfl (by kernel_rfl) (by simp) _ _ ?_
          go_wp2_with (first
            | (show wpList _ _ _ (⟨_, .load 3 _, _, _, _, _⟩ :: _) _ _; refine wpList_val rfl (op_load1S (b := na) (T := 52) oneInt ((hS.bring (by repeat (first | exact t0 | apply tS)))) rfl rfl rfl) ?_; go_frame)
            | (go_at_call 21; refine Ret.calls (leaks_s hS he hn HLQ.out) ?_; clear hS; rintro r1 w ⟨rfl, hS⟩)
            )
          refine segQ_mk (((hS.bring (by repeat (first | exact t0 | apply tS))).getBlk) : Blk _ na 52 (actC k a b l c)) ?_
          refine ord_seg (by repeat (first | exact Clean.body | refine Clean.then ?_ | refine Clean.inBlock ?_ | refine SegQ.clean ?_ | refine FinC.clean ?_)) (n := 11) (rest := [[10, 11, 12, 13, 15, 16, 14, 17, 18, 19, 20]]) [9] [⟨_, _, _, _, _, _⟩] rfl (by kernel_rfl) (by simp) _ _ ?_
          go_wp2_with (first
            | (go_at_call 22; refine Ret.calls (rleaks_s hS he hn HNI.out HLQ.out) ?_; clear hS; rintro r1 w ⟨rfl, hS⟩)
            )
          refine segQ_mk (((hS.bring (by repeat (first | exact t0 | apply tS))).getBlk) : Blk _ na 52 (actC k a b l c)) ?_
          refine ord_seg (by repeat (first | exact Clean.body | refine Clean.then ?_ | refine Clean.inBlock ?_ | refine SegQ.clean ?_ | refine FinC.clean ?_)) (n := 4) (rest := [[17, 18, 19, 20]]) [10, 11, 12, 13, 15, 16, 14] [⟨_, _, _, _, _, _⟩, ⟨_, _, _, _, _, _⟩, ⟨_, _, _, _, _, _⟩, ⟨_, _, _, _, _, _⟩, ⟨_, _, _, _, _, _⟩, ⟨_, _, _, _, _, _⟩, ⟨_, _, _, _, _, _⟩] rfl (by kernel_rfl) (by simp) _ _ ?_
          go_wp2_with (first
            | (show wpList _ _ _ (⟨_, .load 52 _, _, _, _, _⟩ :: _) _ _; refine wpList_val rfl (op_load aggAct rfl rfl (SepL.getBlk (b := na) (T := 52) ((hS.bring (by repeat (first | exact t0 | apply tS))))).cells HCL.out) ?_; go_frame)
            | (go_at_call 19; refine Ret.calls (aside_s (k := k) (a := a) (b := b) (l := l) (r := c) hS he HE.out HAI.out HBI.out HAQ.out) ?_; clear hS; rintro r1 w ⟨rfl, hS⟩)
            | (show wpList _ _ _ (⟨_, .binOp .eql _ _ _ _, _, _, _, _⟩ :: _) _ _; refine wpList_val rfl (op_eqBool rfl rfl rfl) ?_; go_frame)
            )
          refine segQ_mk (((hS.bring (by repeat (first | exact t0 | apply tS))).getBlk) : Blk _ na 52 (actC k a b l c)) ?_
          refine ord_seg (by repeat (first | exact Clean.body | refine Clean.then ?_ | refine Clean.inBlock ?_ | refine SegQ.clean ?_ | refine FinC.clean ?_)) (n := 3) (rest := [[18, 19, 20]]) [17] [⟨_, _, _, _, _, _⟩] rfl (by kernel_rfl) (by simp) _ _ ?_
          go_wp2_with (first
            | (go_at_call 23; refine Ret.calls (raside_s (k := k) (a := a) (b := b) (l := l) (r := c) hS he HAQ.out) ?_; clear hS; rintro r1 w ⟨rfl, hS⟩)
            )
          refine segQ_mk (((hS.bring (by repeat (first | exact t0 | apply tS))).getBlk) : Blk _ na 52 (actC k a b l c)) ?_
          refine ord_seg (by repeat (first | exact Clean.body | refine Clean.then ?_ | refine Clean.inBlock ?_ | refine SegQ.clean ?_ | refine FinC.clean ?_)) (n := 0) (rest := [[]]) [18, 19, 20] [⟨_, _, _, _, _, _⟩, ⟨_, _, _, _, _, _⟩, ⟨_, _, _, _, _, _⟩] rfl (by kernel_rfl) (by simp) _ _ ?_
          go_wp2_with (first
            | (show wpList _ _ _ (⟨_, .binOp .eql _ _ _ _, _, _, _, _⟩ :: _) _ _; refine wpList_val rfl (op_eqBool rfl rfl rfl) ?_; go_frame)
            )
          refine segQ_mk (((hS.bring (by repeat (first | exact t0 | apply tS))).getBlk) : Blk _ na 52 (actC k a b l c)) ?_
          refine finC_mk (by kernel_rfl) (by
            intro t ht
            simp only [List.mem_cons, List.not_mem_nil, or_false] at ht
            rcases ht with rfl | rfl | rfl <;> exact stab_blk (b := na) (fun w h => h) _ none) ?_
          go_wp2_with fail
          go_ret
          exact ⟨rfl, hS.chg⟩
end Go.Proofs.YtnjeoaplohlgkaaDoor
