/- Whatever is put, learned and told, each answer, what waits and what is known are the document's: the law returns true. Conditions: those that stand ahead of each theorem. -/
import Derived.Test.YtffagjkjeojaaaaLAl
namespace Go.Proofs.Ytffagjkjeojaaaa
open Go.RowKit Go.Px
theorem op_neBool {o : Oper} {w : World} {ρ : Operand → Value} {t' : TypeId} {x y : Operand} {a : Bool} (ho : o.op = .binOp .neq 4 x y t') (hx : ρ x = .bool a) (hy : ρ y = .bool a) : (execOp ρ o).run Try.prog w = .ok (.value (.bool false)) w := by
  have h : (binOp .neq 4 (.bool a) (.bool a)).run Try.prog w = .ok (.bool false) w := by cases a <;> kernel_rfl
  have h2 : (eqGuard .neq 4 x y (.bool a) (.bool a)).run Try.prog w = .ok () w := by cases a <;> rfl
  unfold execOp
  simp only [ho, hx, hy, Sem.run_bind, h, h2, Result.andThen_ok, Sem.run_pure]
set_option maxRecDepth 100000 in
set_option maxHeartbeats 8000000 in
theorem trickleActs_w {W : World} {v : Value} {L : List (Value × PA)} {i : Id} (hv : AIn All W v L) (h32 : ∀ x ∈ L, Is32 x.2.ids) (hi : i.length = 32) :
    Calls Try.prog 3 #[v, .agg (i.map B8).toArray] W (Ret fun r w' => r = .bool true ∧ Chg No W w') := by
  have hS := SepL.start W
  have HL : Hid ((L.map aC).length = L.length) := by simp [Hid]
  have H32 := hide h32
  have HI0 := hide hi
  have HI32 : Hid ((i.map B8).length = 32) := by simp [Hid, hi]
  clear hi
  cases hg : greatA (L.map (·.2)) with
  | true =>
    have HGR := hide hg
    clear hg h32
    go_enter Try.func3, Try.ntmps3
    go_wp2_with (first
      | (show wpList _ _ _ (⟨_, .box 24 _, _, _, _, _⟩ :: _) _ _; refine wpS_boxA (cs := i.map B8) hS rfl rfl rfl ?_; clear hS; intro n3 w hS; go_frame)
      | go_big_skip
      | (go_at_call 9; refine Ret.calls (alive_s hS) ?_; clear hS; rintro r w ⟨rfl, hS⟩)
      | (go_at_call 10; refine Ret.calls (great_s hS hv HGR.out) ?_; clear hS; rintro r w ⟨rfl, hS⟩)
      )
    go_ret
    exact ⟨rfl, hS.chg⟩
  | false =>
    have HGR := hide hg
    have hfw := few_le hg
    rw [List.length_map] at hfw
    have hll := hfw.1
    have HFW := hide hfw.2
    obtain ⟨T, hT⟩ : ∃ T, L.map (·.2) = T := ⟨_, rfl⟩
    have HTL : Hid (T.length = L.length) := by unfold Hid; rw [← hT, List.length_map]
    have HT := hide hT
    have HTK : Hid (∀ a ∈ T, Is32 a.ids) := by
      intro a ha
      rw [← hT] at ha
      obtain ⟨x, hx, rfl⟩ := List.mem_map.1 ha
      exact h32 x hx
    clear hg hfw h32 hT
    go_enter Try.func3, Try.ntmps3
    go_wp2_with (first
      | (show wpList _ _ _ (⟨_, .box 24 _, _, _, _, _⟩ :: _) _ _; refine wpS_boxA (cs := i.map B8) hS rfl rfl rfl ?_; clear hS; intro n3 w hS; go_frame)
      | go_big_skip
      | (go_at_call 9; refine Ret.calls (alive_s hS) ?_; clear hS; rintro r w ⟨rfl, hS⟩)
      | (go_at_call 10; refine Ret.calls (great_s hS hv HGR.out) ?_; clear hS; rintro r w ⟨rfl, hS⟩)
      | (go_at_call 11; refine Ret.calls (qnew_s hS) ?_; clear hS; rintro r w ⟨p, rfl, hS⟩)
      | (go_at_call 12; refine Ret.calls (rqnew_s hS) ?_; clear hS; rintro r w ⟨m, rfl, hS⟩)
      | (show wpList _ _ _ (⟨some 16, .call _, _, _, _, _⟩ :: _) _ _; refine wpList_val rfl (op_len slAct rfl rfl (v := v) (xs := L.map aC) rfl (by exact hS.rd hv.rd)) ?_; rw [HL.out]; go_frame)
      )
    go_loopw [17] (fun iv wr => ∃ k : Nat, iv = .int .i64 k ∧ k ≤ L.length ∧ SepL All W wr [hR m (runs (T.take k)), hQ p (runs (T.take k)), .blk n3 24 (i.map B8)]) (fun iv _ => L.length - (intOf iv).toNat)
    case atStart => exact ⟨0, rfl, by omega, hS.sel (by repeat (first | exact Sel.refl | refine Sel.take (by repeat (first | exact t0 | apply tS)) ?_ | apply Sel.drop))⟩
    case round =>
      clear hS
      obtain ⟨k, rfl, hk, hS⟩ := hrel
      by_cases hlt : k < L.length
      · have hkt : k < T.length := by rw [HTL.out]; exact hlt
        have hlk : k < (L.map aC).length := by rw [HL.out]; exact hlt
        obtain ⟨⟨u, s⟩, hx⟩ : ∃ x, L[k] = x := ⟨_, rfl⟩
        have hxm : (u, s) ∈ L := by rw [← hx]; exact List.getElem_mem hlt
        have HX : Hid ((L.map aC)[k] = aC (u, s)) := by
          unfold Hid
          rw [List.getElem_map, hx]
        have HUR := hide (hv.at_ _ hxm)
        have HUF := hide (aC_flat (x := (u, s)) (hS.rd HUR.out).one1)
        have hsk : T[k] = s := by simp only [← HT.out, List.getElem_map, hx]
        have HS32 := hide (H32.out _ hxm)
        have HFEW : Hid (s.ids.length ≤ 100000) := by
          have := HFW.out s (List.mem_map.2 ⟨(u, s), hxm, rfl⟩)
          unfold Hid
          omega
        have hqo : QOk (runs (T.take k)) := QOk.nil.runs fun a ha => HTK.out a (List.mem_of_mem_take ha)
        have hsn := runs_next hkt
        rw [hsk] at hsn
        obtain ⟨q, hq⟩ : ∃ q, runs (T.take k) = q := ⟨_, rfl⟩
        rw [hq] at hS hqo hsn
        have HQO := hide hqo
        obtain ⟨q1, hq1⟩ : ∃ q1, runA q s = q1 := ⟨_, rfl⟩
        have HQ1E := hide hq1
        have HQ1 : Hid (QOk q1) := by unfold Hid; rw [← hq1]; exact hqo.run HS32.out
        rw [hq1] at hsn
        have HSN := hide hsn
        obtain ⟨bb, hbb⟩ : ∃ b, decide (i ∈ q1.known) = b := ⟨_, rfl⟩
        have HBB : Hid (decide (i ∈ q1.known) = bb) := hbb
        clear hx hxm hsk hqo hsn hq hkt hq1 hbb
        by_cases h0 : s.kind = 0
        · have HK0 := eqT h0
          have HRA := hide (run_0 (q := q) h0)
          clear h0
          go_wp2_with (first
            | (show wpList _ _ _ (⟨some 19, .indexAddr _ _ _, _, _, _, _⟩ :: _) _ _; refine wpList_val rfl (op_indexAddr slAct rfl (v := v) (xs := L.map aC) rfl (k := k) rfl (by exact hS.rd hv.rd) hlk) ?_; go_frame)
            | (show wpList _ _ _ (⟨some 20, .load _ _, _, _, _, _⟩ :: _) _ _; refine wpList_val rfl (op_loadE aggAct rfl (v := v) (xs := L.map aC) (k := k) rfl (by exact hS.rd hv.rd) hlk) ?_; rw [HX.out]; go_frame)
            | (show wpList _ _ _ (⟨_, .alloc 33, _, _, _, _⟩ :: _) _ _; refine wpS_alloc hS rfl rfl Try.zeroValue33 (zs := [.int .i64 0, .slice none 0 0]) rfl ?_; clear hS; intro nb w hS; go_frame)
            | (show wpList _ _ _ (⟨_, .store 33 _ _, _, _, _, _⟩ :: _) _ _; (refine wpS_storeAll (b := nb) aggAct (hS.bring (by repeat (first | exact t0 | apply tS))) rfl rfl rfl (vs := aC (u, s)) rfl rfl HUF.out rfl ?_); clear hS; intro w hS; go_frame)
            | (show wpList _ _ _ (⟨_, .load 3 _, _, _, _, _⟩ :: _) _ _; refine wpList_val rfl (op_load1S (b := nb) (T := 33) oneInt ((hS.bring (by repeat (first | exact t0 | apply tS)))) rfl rfl rfl) ?_; go_frame)
            | (show wpList _ _ _ (⟨_, .load 31 _, _, _, _, _⟩ :: _) _ _; refine wpList_val rfl (op_load1S (b := nb) (T := 33) oneHashes ((hS.bring (by repeat (first | exact t0 | apply tS)))) rfl rfl rfl) ?_; go_frame)
            | (show wpList _ _ _ (⟨some 24, .binOp _ _ _ _ _, _, _, _, _⟩ :: _) _ _; refine wpList_val rfl (op_eqI' rfl rfl rfl HK0.out) ?_; go_frame)
            | (show wpList _ _ _ (⟨some 34, .binOp _ _ _ _ _, _, _, _, _⟩ :: _) _ _; refine wpList_val rfl (op_eqI' rfl rfl rfl HK1.out) ?_; go_frame)
            | (show wpList _ _ _ (⟨some 44, .binOp _ _ _ _ _, _, _, _, _⟩ :: _) _ _; refine wpList_val rfl (op_eqI' rfl rfl rfl HK2.out) ?_; go_frame)
            | (go_at_call 13; (refine Ret.calls (qput_s (p := p) (q0 := q) (hS.bring (by repeat (first | exact t0 | apply tS))) HQO.out HUR.out HS32.out) ?_); clear hS; rintro r1 w hS)
            | (go_at_call 14; (refine Ret.calls (rqput_s (p := m) (q0 := q) (hS.bring (by repeat (first | exact t0 | apply tS))) HQO.out HUR.out HS32.out) ?_); clear hS; rintro r1 w hS)
            | (go_at_call 15; (refine Ret.calls (qlearn_s (p := p) (q := q) (hS.bring (by repeat (first | exact t0 | apply tS))) HQO.out HUR.out HS32.out HFEW.out) ?_); clear hS; rintro r1 w hS)
            | (go_at_call 16; (refine Ret.calls (rqlearn_s (p := m) (q0 := q) (hS.bring (by repeat (first | exact t0 | apply tS))) HQO.out HUR.out HS32.out) ?_); clear hS; rintro r1 w hS)
            )
          rw [← HRA.out, HQ1E.out] at hS
          obtain ⟨M1, hM1⟩ : ∃ m : Nat, m = 0 := ⟨0, rfl⟩
          clear hM1
          obtain ⟨rlv, rwv, hS9⟩ := hR_open (hS.sel (by repeat (first | exact Sel.refl | refine Sel.take (by repeat (first | exact t0 | apply tS)) ?_ | apply Sel.drop)) : SepL All W _ [hR m q1, hQ p q1, .blk n3 24 (i.map B8)])
          clear hS
          have hS := hS9
          clear hS9
          go_wp2_with fail
          refine wp_region_ord (by kernel_rfl) [3, 59, 69] [[0, 2, 3, 4, 5, 1, 6, 7, 8, 9, 11, 12, 13, 14, 15, 10, 16, 17, 18, 19, 20, 21, 23, 24, 25, 26, 22, 27, 28, 29]] (by kernel_rfl) (by kernel_rfl) (fun w' => Blk w' n3 24 (i.map B8) ∧ Blk w' m 42 [I64 64, rlv, rwv]) (Up.and Up.blk Up.blk) ⟨((hS.bring (by repeat (first | exact t0 | apply tS))).getBlk), ((hS.bring (by repeat (first | exact t0 | apply tS))).getBlk)⟩ (by repeat (first | exact Clean.body | refine Clean.then ?_ | refine Clean.inBlock ?_ | refine SegQ.clean ?_ | refine FinC.clean ?_)) ?_
          replace hS := hS.drew
          refine ord_seg (by repeat (first | exact Clean.body | refine Clean.then ?_ | refine Clean.inBlock ?_ | refine SegQ.clean ?_ | refine FinC.clean ?_)) (n := 24) (rest := [[6, 7, 8, 9, 11, 12, 13, 14, 15, 10, 16, 17, 18, 19, 20, 21, 23, 24, 25, 26, 22, 27, 28, 29]]) [0, 2, 3, 4, 5, 1] [⟨_, _, _, _, _, _⟩, ⟨_, _, _, _, _, _⟩, ⟨_, _, _, _, _, _⟩, ⟨_, _, _, _, _, _⟩, ⟨_, _, _, _, _, _⟩, ⟨_, _, _, _, _, _⟩] rfl (by kernel_rfl) (by simp) _ _ ?_
          go_wp2_with (first
            | go_big_skip
            | (go_at_call 20; (refine Ret.calls (qwaits_s (p := p) (q := q1) (hS.bring (by repeat (first | exact t0 | apply tS))) HQ1.out) ?_); clear hS; rintro wv w hS)
            | (go_at_call 21; (refine Ret.calls (qall_s (p := p) (q := q1) (hS.bring (by repeat (first | exact t0 | apply tS)))) ?_); clear hS; rintro av w hS)
            | (show wpList _ _ _ (⟨_, .load 31 _, _, _, _, _⟩ :: _) _ _; refine wpList_val rfl (op_load1S (b := m) (T := 42) oneHashes ((hS.bring (by repeat (first | exact t0 | apply tS)))) rfl rfl rfl) ?_; go_frame)
            | (show wpList _ _ _ (⟨_, .load 24 _, _, _, _, _⟩ :: _) _ _; refine wpList_val rfl (op_load aggHash rfl rfl (SepL.getBlk (b := n3) (T := 24) ((hS.bring (by repeat (first | exact t0 | apply tS))))).cells HI32.out) ?_; go_frame)
            | (have m1 := M1; clear m1; go_at_call 17; refine Ret.calls (hS.callNo (sameIds_w (v := wv) (u := rwv) (l := q1.waits) (m := q1.waits) ((hS.bring (by repeat (first | exact t0 | apply tS))).getOwn.rd) ((hS.bring (by repeat (first | exact t0 | apply tS))).getOwn.rd) HQ1.out.w32 HQ1.out.w32 (b := true) (decide_eq_true (Eq.refl q1.waits)))) ?_; clear hS M1; rintro r1 w ⟨rfl, hS⟩)
            | (go_at_call 17; refine Ret.calls (hS.callNo (sameIds_w (v := av) (u := rlv) (l := q1.known) (m := q1.known) ((hS.bring (by repeat (first | exact t0 | apply tS))).getOwn.rd) ((hS.bring (by repeat (first | exact t0 | apply tS))).getOwn.rd) HQ1.out.k32 HQ1.out.k32 (b := true) (decide_eq_true (Eq.refl q1.known)))) ?_; clear hS; rintro r1 w ⟨rfl, hS⟩)
            | (go_at_call 22; (refine Ret.calls (qhas_s (p := p) (q := q1) (x := i) (hS.bring (by repeat (first | exact t0 | apply tS))) HI0.out (b := bb) HBB) ?_); clear hS; rintro r1 w ⟨rfl, hS⟩)
            | (go_at_call 23; refine Ret.calls (rhas_s (p := m) (lv := rlv) (wv := rwv) (L := q1.known) (x := i) (F := [.own 24 32 rwv (bys q1.waits), hQ p q1, .blk n3 24 (i.map B8)]) (hS.sel (by repeat (first | exact Sel.refl | refine Sel.take (by repeat (first | exact t0 | apply tS)) ?_ | apply Sel.drop))) HQ1.out.k32 HI0.out (b := bb) HBB) ?_; clear hS; rintro r1 w ⟨rfl, hS⟩)
            | (show wpList _ _ _ (⟨some 83, .binOp _ _ _ _ _, _, _, _, _⟩ :: _) _ _; refine wpList_val rfl (op_neBool rfl rfl rfl) ?_; go_frame)
            )
          refine segQ_mk (⟨((hS.bring (by repeat (first | exact t0 | apply tS))).getBlk), ((hS.bring (by repeat (first | exact t0 | apply tS))).getBlk)⟩ : Blk _ n3 24 (i.map B8) ∧ Blk _ m 42 [I64 64, rlv, rwv]) ?_
          refine ord_seg (by repeat (first | exact Clean.body | refine Clean.then ?_ | refine Clean.inBlock ?_ | refine SegQ.clean ?_ | refine FinC.clean ?_)) (n := 23) (rest := [[7, 8, 9, 11, 12, 13, 14, 15, 10, 16, 17, 18, 19, 20, 21, 23, 24, 25, 26, 22, 27, 28, 29]]) [6] [⟨_, _, _, _, _, _⟩] rfl (by kernel_rfl) (by simp) _ _ ?_
          go_wp2_with (first
            | go_big_skip
            | (go_at_call 20; (refine Ret.calls (qwaits_s (p := p) (q := q1) (hS.bring (by repeat (first | exact t0 | apply tS))) HQ1.out) ?_); clear hS; rintro wv w hS)
            | (go_at_call 21; (refine Ret.calls (qall_s (p := p) (q := q1) (hS.bring (by repeat (first | exact t0 | apply tS)))) ?_); clear hS; rintro av w hS)
            | (show wpList _ _ _ (⟨_, .load 31 _, _, _, _, _⟩ :: _) _ _; refine wpList_val rfl (op_load1S (b := m) (T := 42) oneHashes ((hS.bring (by repeat (first | exact t0 | apply tS)))) rfl rfl rfl) ?_; go_frame)
            | (show wpList _ _ _ (⟨_, .load 24 _, _, _, _, _⟩ :: _) _ _; refine wpList_val rfl (op_load aggHash rfl rfl (SepL.getBlk (b := n3) (T := 24) ((hS.bring (by repeat (first | exact t0 | apply tS))))).cells HI32.out) ?_; go_frame)
            | (have m1 := M1; clear m1; go_at_call 17; refine Ret.calls (hS.callNo (sameIds_w (v := wv) (u := rwv) (l := q1.waits) (m := q1.waits) ((hS.bring (by repeat (first | exact t0 | apply tS))).getOwn.rd) ((hS.bring (by repeat (first | exact t0 | apply tS))).getOwn.rd) HQ1.out.w32 HQ1.out.w32 (b := true) (decide_eq_true (Eq.refl q1.waits)))) ?_; clear hS M1; rintro r1 w ⟨rfl, hS⟩)
            | (go_at_call 17; refine Ret.calls (hS.callNo (sameIds_w (v := av) (u := rlv) (l := q1.known) (m := q1.known) ((hS.bring (by repeat (first | exact t0 | apply tS))).getOwn.rd) ((hS.bring (by repeat (first | exact t0 | apply tS))).getOwn.rd) HQ1.out.k32 HQ1.out.k32 (b := true) (decide_eq_true (Eq.refl q1.known)))) ?_; clear hS; rintro r1 w ⟨rfl, hS⟩)
            | (go_at_call 22; (refine Ret.calls (qhas_s (p := p) (q := q1) (x := i) (hS.bring (by repeat (first | exact t0 | apply tS))) HI0.out (b := bb) HBB) ?_); clear hS; rintro r1 w ⟨rfl, hS⟩)
            | (go_at_call 23; refine Ret.calls (rhas_s (p := m) (lv := rlv) (wv := rwv) (L := q1.known) (x := i) (F := [.own 24 32 rwv (bys q1.waits), hQ p q1, .blk n3 24 (i.map B8)]) (hS.sel (by repeat (first | exact Sel.refl | refine Sel.take (by repeat (first | exact t0 | apply tS)) ?_ | apply Sel.drop))) HQ1.out.k32 HI0.out (b := bb) HBB) ?_; clear hS; rintro r1 w ⟨rfl, hS⟩)
            | (show wpList _ _ _ (⟨some 83, .binOp _ _ _ _ _, _, _, _, _⟩ :: _) _ _; refine wpList_val rfl (op_neBool rfl rfl rfl) ?_; go_frame)
            )
          refine segQ_mk (⟨((hS.bring (by repeat (first | exact t0 | apply tS))).getBlk), ((hS.bring (by repeat (first | exact t0 | apply tS))).getBlk)⟩ : Blk _ n3 24 (i.map B8) ∧ Blk _ m 42 [I64 64, rlv, rwv]) ?_
          refine ord_seg (by repeat (first | exact Clean.body | refine Clean.then ?_ | refine Clean.inBlock ?_ | refine SegQ.clean ?_ | refine FinC.clean ?_)) (n := 14) (rest := [[16, 17, 18, 19, 20, 21, 23, 24, 25, 26, 22, 27, 28, 29]]) [7, 8, 9, 11, 12, 13, 14, 15, 10] [⟨_, _, _, _, _, _⟩, ⟨_, _, _, _, _, _⟩, ⟨_, _, _, _, _, _⟩, ⟨_, _, _, _, _, _⟩, ⟨_, _, _, _, _, _⟩, ⟨_, _, _, _, _, _⟩, ⟨_, _, _, _, _, _⟩, ⟨_, _, _, _, _, _⟩, ⟨_, _, _, _, _, _⟩] rfl (by kernel_rfl) (by simp) _ _ ?_
          go_wp2_with (first
            | go_big_skip
            | (go_at_call 20; (refine Ret.calls (qwaits_s (p := p) (q := q1) (hS.bring (by repeat (first | exact t0 | apply tS))) HQ1.out) ?_); clear hS; rintro wv w hS)
            | (go_at_call 21; (refine Ret.calls (qall_s (p := p) (q := q1) (hS.bring (by repeat (first | exact t0 | apply tS)))) ?_); clear hS; rintro av w hS)
            | (show wpList _ _ _ (⟨_, .load 31 _, _, _, _, _⟩ :: _) _ _; refine wpList_val rfl (op_load1S (b := m) (T := 42) oneHashes ((hS.bring (by repeat (first | exact t0 | apply tS)))) rfl rfl rfl) ?_; go_frame)
            | (show wpList _ _ _ (⟨_, .load 24 _, _, _, _, _⟩ :: _) _ _; refine wpList_val rfl (op_load aggHash rfl rfl (SepL.getBlk (b := n3) (T := 24) ((hS.bring (by repeat (first | exact t0 | apply tS))))).cells HI32.out) ?_; go_frame)
            | (have m1 := M1; clear m1; go_at_call 17; refine Ret.calls (hS.callNo (sameIds_w (v := wv) (u := rwv) (l := q1.waits) (m := q1.waits) ((hS.bring (by repeat (first | exact t0 | apply tS))).getOwn.rd) ((hS.bring (by repeat (first | exact t0 | apply tS))).getOwn.rd) HQ1.out.w32 HQ1.out.w32 (b := true) (decide_eq_true (Eq.refl q1.waits)))) ?_; clear hS M1; rintro r1 w ⟨rfl, hS⟩)
            | (go_at_call 17; refine Ret.calls (hS.callNo (sameIds_w (v := av) (u := rlv) (l := q1.known) (m := q1.known) ((hS.bring (by repeat (first | exact t0 | apply tS))).getOwn.rd) ((hS.bring (by repeat (first | exact t0 | apply tS))).getOwn.rd) HQ1.out.k32 HQ1.out.k32 (b := true) (decide_eq_true (Eq.refl q1.known)))) ?_; clear hS; rintro r1 w ⟨rfl, hS⟩)
            | (go_at_call 22; (refine Ret.calls (qhas_s (p := p) (q := q1) (x := i) (hS.bring (by repeat (first | exact t0 | apply tS))) HI0.out (b := bb) HBB) ?_); clear hS; rintro r1 w ⟨rfl, hS⟩)
            | (go_at_call 23; refine Ret.calls (rhas_s (p := m) (lv := rlv) (wv := rwv) (L := q1.known) (x := i) (F := [.own 24 32 rwv (bys q1.waits), hQ p q1, .blk n3 24 (i.map B8)]) (hS.sel (by repeat (first | exact Sel.refl | refine Sel.take (by repeat (first | exact t0 | apply tS)) ?_ | apply Sel.drop))) HQ1.out.k32 HI0.out (b := bb) HBB) ?_; clear hS; rintro r1 w ⟨rfl, hS⟩)
            | (show wpList _ _ _ (⟨some 83, .binOp _ _ _ _ _, _, _, _, _⟩ :: _) _ _; refine wpList_val rfl (op_neBool rfl rfl rfl) ?_; go_frame)
            )
          refine segQ_mk (⟨((hS.bring (by repeat (first | exact t0 | apply tS))).getBlk), ((hS.bring (by repeat (first | exact t0 | apply tS))).getBlk)⟩ : Blk _ n3 24 (i.map B8) ∧ Blk _ m 42 [I64 64, rlv, rwv]) ?_
          refine ord_seg (by repeat (first | exact Clean.body | refine Clean.then ?_ | refine Clean.inBlock ?_ | refine SegQ.clean ?_ | refine FinC.clean ?_)) (n := 13) (rest := [[17, 18, 19, 20, 21, 23, 24, 25, 26, 22, 27, 28, 29]]) [16] [⟨_, _, _, _, _, _⟩] rfl (by kernel_rfl) (by simp) _ _ ?_
          go_wp2_with (first
            | go_big_skip
            | (go_at_call 20; (refine Ret.calls (qwaits_s (p := p) (q := q1) (hS.bring (by repeat (first | exact t0 | apply tS))) HQ1.out) ?_); clear hS; rintro wv w hS)
            | (go_at_call 21; (refine Ret.calls (qall_s (p := p) (q := q1) (hS.bring (by repeat (first | exact t0 | apply tS)))) ?_); clear hS; rintro av w hS)
            | (show wpList _ _ _ (⟨_, .load 31 _, _, _, _, _⟩ :: _) _ _; refine wpList_val rfl (op_load1S (b := m) (T := 42) oneHashes ((hS.bring (by repeat (first | exact t0 | apply tS)))) rfl rfl rfl) ?_; go_frame)
            | (show wpList _ _ _ (⟨_, .load 24 _, _, _, _, _⟩ :: _) _ _; refine wpList_val rfl (op_load aggHash rfl rfl (SepL.getBlk (b := n3) (T := 24) ((hS.bring (by repeat (first | exact t0 | apply tS))))).cells HI32.out) ?_; go_frame)
            | (have m1 := M1; clear m1; go_at_call 17; refine Ret.calls (hS.callNo (sameIds_w (v := wv) (u := rwv) (l := q1.waits) (m := q1.waits) ((hS.bring (by repeat (first | exact t0 | apply tS))).getOwn.rd) ((hS.bring (by repeat (first | exact t0 | apply tS))).getOwn.rd) HQ1.out.w32 HQ1.out.w32 (b := true) (decide_eq_true (Eq.refl q1.waits)))) ?_; clear hS M1; rintro r1 w ⟨rfl, hS⟩)
            | (go_at_call 17; refine Ret.calls (hS.callNo (sameIds_w (v := av) (u := rlv) (l := q1.known) (m := q1.known) ((hS.bring (by repeat (first | exact t0 | apply tS))).getOwn.rd) ((hS.bring (by repeat (first | exact t0 | apply tS))).getOwn.rd) HQ1.out.k32 HQ1.out.k32 (b := true) (decide_eq_true (Eq.refl q1.known)))) ?_; clear hS; rintro r1 w ⟨rfl, hS⟩)
            | (go_at_call 22; (refine Ret.calls (qhas_s (p := p) (q := q1) (x := i) (hS.bring (by repeat (first | exact t0 | apply tS))) HI0.out (b := bb) HBB) ?_); clear hS; rintro r1 w ⟨rfl, hS⟩)
            | (go_at_call 23; refine Ret.calls (rhas_s (p := m) (lv := rlv) (wv := rwv) (L := q1.known) (x := i) (F := [.own 24 32 rwv (bys q1.waits), hQ p q1, .blk n3 24 (i.map B8)]) (hS.sel (by repeat (first | exact Sel.refl | refine Sel.take (by repeat (first | exact t0 | apply tS)) ?_ | apply Sel.drop))) HQ1.out.k32 HI0.out (b := bb) HBB) ?_; clear hS; rintro r1 w ⟨rfl, hS⟩)
            | (show wpList _ _ _ (⟨some 83, .binOp _ _ _ _ _, _, _, _, _⟩ :: _) _ _; refine wpList_val rfl (op_neBool rfl rfl rfl) ?_; go_frame)
            )
          refine segQ_mk (⟨((hS.bring (by repeat (first | exact t0 | apply tS))).getBlk), ((hS.bring (by repeat (first | exact t0 | apply tS))).getBlk)⟩ : Blk _ n3 24 (i.map B8) ∧ Blk _ m 42 [I64 64, rlv, rwv]) ?_
          refine ord_seg (by repeat (first | exact Clean.body | refine Clean.then ?_ | refine Clean.inBlock ?_ | refine SegQ.clean ?_ | refine FinC.clean ?_)) (n := 3) (rest := [[27, 28, 29]]) [17, 18, 19, 20, 21, 23, 24, 25, 26, 22] [⟨_, _, _, _, _, _⟩, ⟨_, _, _, _, _, _⟩, ⟨_, _, _, _, _, _⟩, ⟨_, _, _, _, _, _⟩, ⟨_, _, _, _, _, _⟩, ⟨_, _, _, _, _, _⟩, ⟨_, _, _, _, _, _⟩, ⟨_, _, _, _, _, _⟩, ⟨_, _, _, _, _, _⟩, ⟨_, _, _, _, _, _⟩] rfl (by kernel_rfl) (by simp) _ _ ?_
          go_wp2_with (first
            | go_big_skip
            | (go_at_call 20; (refine Ret.calls (qwaits_s (p := p) (q := q1) (hS.bring (by repeat (first | exact t0 | apply tS))) HQ1.out) ?_); clear hS; rintro wv w hS)
            | (go_at_call 21; (refine Ret.calls (qall_s (p := p) (q := q1) (hS.bring (by repeat (first | exact t0 | apply tS)))) ?_); clear hS; rintro av w hS)
            | (show wpList _ _ _ (⟨_, .load 31 _, _, _, _, _⟩ :: _) _ _; refine wpList_val rfl (op_load1S (b := m) (T := 42) oneHashes ((hS.bring (by repeat (first | exact t0 | apply tS)))) rfl rfl rfl) ?_; go_frame)
            | (show wpList _ _ _ (⟨_, .load 24 _, _, _, _, _⟩ :: _) _ _; refine wpList_val rfl (op_load aggHash rfl rfl (SepL.getBlk (b := n3) (T := 24) ((hS.bring (by repeat (first | exact t0 | apply tS))))).cells HI32.out) ?_; go_frame)
            | (have m1 := M1; clear m1; go_at_call 17; refine Ret.calls (hS.callNo (sameIds_w (v := wv) (u := rwv) (l := q1.waits) (m := q1.waits) ((hS.bring (by repeat (first | exact t0 | apply tS))).getOwn.rd) ((hS.bring (by repeat (first | exact t0 | apply tS))).getOwn.rd) HQ1.out.w32 HQ1.out.w32 (b := true) (decide_eq_true (Eq.refl q1.waits)))) ?_; clear hS M1; rintro r1 w ⟨rfl, hS⟩)
            | (go_at_call 17; refine Ret.calls (hS.callNo (sameIds_w (v := av) (u := rlv) (l := q1.known) (m := q1.known) ((hS.bring (by repeat (first | exact t0 | apply tS))).getOwn.rd) ((hS.bring (by repeat (first | exact t0 | apply tS))).getOwn.rd) HQ1.out.k32 HQ1.out.k32 (b := true) (decide_eq_true (Eq.refl q1.known)))) ?_; clear hS; rintro r1 w ⟨rfl, hS⟩)
            | (go_at_call 22; (refine Ret.calls (qhas_s (p := p) (q := q1) (x := i) (hS.bring (by repeat (first | exact t0 | apply tS))) HI0.out (b := bb) HBB) ?_); clear hS; rintro r1 w ⟨rfl, hS⟩)
            | (go_at_call 23; refine Ret.calls (rhas_s (p := m) (lv := rlv) (wv := rwv) (L := q1.known) (x := i) (F := [.own 24 32 rwv (bys q1.waits), hQ p q1, .blk n3 24 (i.map B8)]) (hS.sel (by repeat (first | exact Sel.refl | refine Sel.take (by repeat (first | exact t0 | apply tS)) ?_ | apply Sel.drop))) HQ1.out.k32 HI0.out (b := bb) HBB) ?_; clear hS; rintro r1 w ⟨rfl, hS⟩)
            | (show wpList _ _ _ (⟨some 83, .binOp _ _ _ _ _, _, _, _, _⟩ :: _) _ _; refine wpList_val rfl (op_neBool rfl rfl rfl) ?_; go_frame)
            )
          refine segQ_mk (⟨((hS.bring (by repeat (first | exact t0 | apply tS))).getBlk), ((hS.bring (by repeat (first | exact t0 | apply tS))).getBlk)⟩ : Blk _ n3 24 (i.map B8) ∧ Blk _ m 42 [I64 64, rlv, rwv]) ?_
          refine ord_seg (by repeat (first | exact Clean.body | refine Clean.then ?_ | refine Clean.inBlock ?_ | refine SegQ.clean ?_ | refine FinC.clean ?_)) (n := 2) (rest := [[28, 29]]) [27] [⟨_, _, _, _, _, _⟩] rfl (by kernel_rfl) (by simp) _ _ ?_
          go_wp2_with (first
            | go_big_skip
            | (go_at_call 20; (refine Ret.calls (qwaits_s (p := p) (q := q1) (hS.bring (by repeat (first | exact t0 | apply tS))) HQ1.out) ?_); clear hS; rintro wv w hS)
            | (go_at_call 21; (refine Ret.calls (qall_s (p := p) (q := q1) (hS.bring (by repeat (first | exact t0 | apply tS)))) ?_); clear hS; rintro av w hS)
            | (show wpList _ _ _ (⟨_, .load 31 _, _, _, _, _⟩ :: _) _ _; refine wpList_val rfl (op_load1S (b := m) (T := 42) oneHashes ((hS.bring (by repeat (first | exact t0 | apply tS)))) rfl rfl rfl) ?_; go_frame)
            | (show wpList _ _ _ (⟨_, .load 24 _, _, _, _, _⟩ :: _) _ _; refine wpList_val rfl (op_load aggHash rfl rfl (SepL.getBlk (b := n3) (T := 24) ((hS.bring (by repeat (first | exact t0 | apply tS))))).cells HI32.out) ?_; go_frame)
            | (have m1 := M1; clear m1; go_at_call 17; refine Ret.calls (hS.callNo (sameIds_w (v := wv) (u := rwv) (l := q1.waits) (m := q1.waits) ((hS.bring (by repeat (first | exact t0 | apply tS))).getOwn.rd) ((hS.bring (by repeat (first | exact t0 | apply tS))).getOwn.rd) HQ1.out.w32 HQ1.out.w32 (b := true) (decide_eq_true (Eq.refl q1.waits)))) ?_; clear hS M1; rintro r1 w ⟨rfl, hS⟩)
            | (go_at_call 17; refine Ret.calls (hS.callNo (sameIds_w (v := av) (u := rlv) (l := q1.known) (m := q1.known) ((hS.bring (by repeat (first | exact t0 | apply tS))).getOwn.rd) ((hS.bring (by repeat (first | exact t0 | apply tS))).getOwn.rd) HQ1.out.k32 HQ1.out.k32 (b := true) (decide_eq_true (Eq.refl q1.known)))) ?_; clear hS; rintro r1 w ⟨rfl, hS⟩)
            | (go_at_call 22; (refine Ret.calls (qhas_s (p := p) (q := q1) (x := i) (hS.bring (by repeat (first | exact t0 | apply tS))) HI0.out (b := bb) HBB) ?_); clear hS; rintro r1 w ⟨rfl, hS⟩)
            | (go_at_call 23; refine Ret.calls (rhas_s (p := m) (lv := rlv) (wv := rwv) (L := q1.known) (x := i) (F := [.own 24 32 rwv (bys q1.waits), hQ p q1, .blk n3 24 (i.map B8)]) (hS.sel (by repeat (first | exact Sel.refl | refine Sel.take (by repeat (first | exact t0 | apply tS)) ?_ | apply Sel.drop))) HQ1.out.k32 HI0.out (b := bb) HBB) ?_; clear hS; rintro r1 w ⟨rfl, hS⟩)
            | (show wpList _ _ _ (⟨some 83, .binOp _ _ _ _ _, _, _, _, _⟩ :: _) _ _; refine wpList_val rfl (op_neBool rfl rfl rfl) ?_; go_frame)
            )
          refine segQ_mk (⟨((hS.bring (by repeat (first | exact t0 | apply tS))).getBlk), ((hS.bring (by repeat (first | exact t0 | apply tS))).getBlk)⟩ : Blk _ n3 24 (i.map B8) ∧ Blk _ m 42 [I64 64, rlv, rwv]) ?_
          refine ord_seg (by repeat (first | exact Clean.body | refine Clean.then ?_ | refine Clean.inBlock ?_ | refine SegQ.clean ?_ | refine FinC.clean ?_)) (n := 0) (rest := [[]]) [28, 29] [⟨_, _, _, _, _, _⟩, ⟨_, _, _, _, _, _⟩] rfl (by kernel_rfl) (by simp) _ _ ?_
          go_wp2_with (first
            | go_big_skip
            | (go_at_call 20; (refine Ret.calls (qwaits_s (p := p) (q := q1) (hS.bring (by repeat (first | exact t0 | apply tS))) HQ1.out) ?_); clear hS; rintro wv w hS)
            | (go_at_call 21; (refine Ret.calls (qall_s (p := p) (q := q1) (hS.bring (by repeat (first | exact t0 | apply tS)))) ?_); clear hS; rintro av w hS)
            | (show wpList _ _ _ (⟨_, .load 31 _, _, _, _, _⟩ :: _) _ _; refine wpList_val rfl (op_load1S (b := m) (T := 42) oneHashes ((hS.bring (by repeat (first | exact t0 | apply tS)))) rfl rfl rfl) ?_; go_frame)
            | (show wpList _ _ _ (⟨_, .load 24 _, _, _, _, _⟩ :: _) _ _; refine wpList_val rfl (op_load aggHash rfl rfl (SepL.getBlk (b := n3) (T := 24) ((hS.bring (by repeat (first | exact t0 | apply tS))))).cells HI32.out) ?_; go_frame)
            | (have m1 := M1; clear m1; go_at_call 17; refine Ret.calls (hS.callNo (sameIds_w (v := wv) (u := rwv) (l := q1.waits) (m := q1.waits) ((hS.bring (by repeat (first | exact t0 | apply tS))).getOwn.rd) ((hS.bring (by repeat (first | exact t0 | apply tS))).getOwn.rd) HQ1.out.w32 HQ1.out.w32 (b := true) (decide_eq_true (Eq.refl q1.waits)))) ?_; clear hS M1; rintro r1 w ⟨rfl, hS⟩)
            | (go_at_call 17; refine Ret.calls (hS.callNo (sameIds_w (v := av) (u := rlv) (l := q1.known) (m := q1.known) ((hS.bring (by repeat (first | exact t0 | apply tS))).getOwn.rd) ((hS.bring (by repeat (first | exact t0 | apply tS))).getOwn.rd) HQ1.out.k32 HQ1.out.k32 (b := true) (decide_eq_true (Eq.refl q1.known)))) ?_; clear hS; rintro r1 w ⟨rfl, hS⟩)
            | (go_at_call 22; (refine Ret.calls (qhas_s (p := p) (q := q1) (x := i) (hS.bring (by repeat (first | exact t0 | apply tS))) HI0.out (b := bb) HBB) ?_); clear hS; rintro r1 w ⟨rfl, hS⟩)
            | (go_at_call 23; refine Ret.calls (rhas_s (p := m) (lv := rlv) (wv := rwv) (L := q1.known) (x := i) (F := [.own 24 32 rwv (bys q1.waits), hQ p q1, .blk n3 24 (i.map B8)]) (hS.sel (by repeat (first | exact Sel.refl | refine Sel.take (by repeat (first | exact t0 | apply tS)) ?_ | apply Sel.drop))) HQ1.out.k32 HI0.out (b := bb) HBB) ?_; clear hS; rintro r1 w ⟨rfl, hS⟩)
            | (show wpList _ _ _ (⟨some 83, .binOp _ _ _ _ _, _, _, _, _⟩ :: _) _ _; refine wpList_val rfl (op_neBool rfl rfl rfl) ?_; go_frame)
            )
          refine segQ_mk (⟨((hS.bring (by repeat (first | exact t0 | apply tS))).getBlk), ((hS.bring (by repeat (first | exact t0 | apply tS))).getBlk)⟩ : Blk _ n3 24 (i.map B8) ∧ Blk _ m 42 [I64 64, rlv, rwv]) ?_
          refine finC_mk (by kernel_rfl) (by
            intro t ht
            simp only [List.mem_cons, List.not_mem_nil, or_false] at ht
            rcases ht with rfl | rfl | rfl
            · exact stab_blk (b := n3) (fun w h => h.1) _ none
            · exact stab_blk (b := m) (fun w h => h.2) _ none
            · exact stab_blk (b := m) (fun w h => h.2) _ none) ?_
          go_wp2_with fail
          go_roundw
          case rel =>
            have h1 := hR_close (q := q1) (hS.sel (by repeat (first | exact Sel.refl | refine Sel.take (by repeat (first | exact t0 | apply tS)) ?_ | apply Sel.drop)) : SepL All W _ (.blk m 42 [I64 64, rlv, rwv] :: .own 24 32 rlv (bys q1.known) :: .own 24 32 rwv (bys q1.waits) :: [hQ p q1, .blk n3 24 (i.map B8)]))
            refine ⟨k + 1, by go_num, by omega, ?_⟩
            rw [HSN.out]
            exact h1.sel (by repeat (first | exact Sel.refl | refine Sel.take (by repeat (first | exact t0 | apply tS)) ?_ | apply Sel.drop))
          case measure => simp [intOf]; omega
        · have HK0 := eqF h0
          by_cases h1 : s.kind = 1
          · have HK1 := eqT h1
            have HRA := hide (run_1 (q := q) h0 h1)
            clear h0 h1
            go_wp2_with (first
              | (show wpList _ _ _ (⟨some 19, .indexAddr _ _ _, _, _, _, _⟩ :: _) _ _; refine wpList_val rfl (op_indexAddr slAct rfl (v := v) (xs := L.map aC) rfl (k := k) rfl (by exact hS.rd hv.rd) hlk) ?_; go_frame)
              | (show wpList _ _ _ (⟨some 20, .load _ _, _, _, _, _⟩ :: _) _ _; refine wpList_val rfl (op_loadE aggAct rfl (v := v) (xs := L.map aC) (k := k) rfl (by exact hS.rd hv.rd) hlk) ?_; rw [HX.out]; go_frame)
              | (show wpList _ _ _ (⟨_, .alloc 33, _, _, _, _⟩ :: _) _ _; refine wpS_alloc hS rfl rfl Try.zeroValue33 (zs := [.int .i64 0, .slice none 0 0]) rfl ?_; clear hS; intro nb w hS; go_frame)
              | (show wpList _ _ _ (⟨_, .store 33 _ _, _, _, _, _⟩ :: _) _ _; (refine wpS_storeAll (b := nb) aggAct (hS.bring (by repeat (first | exact t0 | apply tS))) rfl rfl rfl (vs := aC (u, s)) rfl rfl HUF.out rfl ?_); clear hS; intro w hS; go_frame)
              | (show wpList _ _ _ (⟨_, .load 3 _, _, _, _, _⟩ :: _) _ _; refine wpList_val rfl (op_load1S (b := nb) (T := 33) oneInt ((hS.bring (by repeat (first | exact t0 | apply tS)))) rfl rfl rfl) ?_; go_frame)
              | (show wpList _ _ _ (⟨_, .load 31 _, _, _, _, _⟩ :: _) _ _; refine wpList_val rfl (op_load1S (b := nb) (T := 33) oneHashes ((hS.bring (by repeat (first | exact t0 | apply tS)))) rfl rfl rfl) ?_; go_frame)
              | (show wpList _ _ _ (⟨some 24, .binOp _ _ _ _ _, _, _, _, _⟩ :: _) _ _; refine wpList_val rfl (op_eqI' rfl rfl rfl HK0.out) ?_; go_frame)
              | (show wpList _ _ _ (⟨some 34, .binOp _ _ _ _ _, _, _, _, _⟩ :: _) _ _; refine wpList_val rfl (op_eqI' rfl rfl rfl HK1.out) ?_; go_frame)
              | (show wpList _ _ _ (⟨some 44, .binOp _ _ _ _ _, _, _, _, _⟩ :: _) _ _; refine wpList_val rfl (op_eqI' rfl rfl rfl HK2.out) ?_; go_frame)
              | (go_at_call 13; (refine Ret.calls (qput_s (p := p) (q0 := q) (hS.bring (by repeat (first | exact t0 | apply tS))) HQO.out HUR.out HS32.out) ?_); clear hS; rintro r1 w hS)
              | (go_at_call 14; (refine Ret.calls (rqput_s (p := m) (q0 := q) (hS.bring (by repeat (first | exact t0 | apply tS))) HQO.out HUR.out HS32.out) ?_); clear hS; rintro r1 w hS)
              | (go_at_call 15; (refine Ret.calls (qlearn_s (p := p) (q := q) (hS.bring (by repeat (first | exact t0 | apply tS))) HQO.out HUR.out HS32.out HFEW.out) ?_); clear hS; rintro r1 w hS)
              | (go_at_call 16; (refine Ret.calls (rqlearn_s (p := m) (q0 := q) (hS.bring (by repeat (first | exact t0 | apply tS))) HQO.out HUR.out HS32.out) ?_); clear hS; rintro r1 w hS)
              )
            rw [← HRA.out, HQ1E.out] at hS
            obtain ⟨M1, hM1⟩ : ∃ m : Nat, m = 0 := ⟨0, rfl⟩
            clear hM1
            obtain ⟨rlv, rwv, hS9⟩ := hR_open (hS.sel (by repeat (first | exact Sel.refl | refine Sel.take (by repeat (first | exact t0 | apply tS)) ?_ | apply Sel.drop)) : SepL All W _ [hR m q1, hQ p q1, .blk n3 24 (i.map B8)])
            clear hS
            have hS := hS9
            clear hS9
            go_wp2_with fail
            refine wp_region_ord (by kernel_rfl) [3, 59, 69] [[0, 2, 3, 4, 5, 1, 6, 7, 8, 9, 11, 12, 13, 14, 15, 10, 16, 17, 18, 19, 20, 21, 23, 24, 25, 26, 22, 27, 28, 29]] (by kernel_rfl) (by kernel_rfl) (fun w' => Blk w' n3 24 (i.map B8) ∧ Blk w' m 42 [I64 64, rlv, rwv]) (Up.and Up.blk Up.blk) ⟨((hS.bring (by repeat (first | exact t0 | apply tS))).getBlk), ((hS.bring (by repeat (first | exact t0 | apply tS))).getBlk)⟩ (by repeat (first | exact Clean.body | refine Clean.then ?_ | refine Clean.inBlock ?_ | refine SegQ.clean ?_ | refine FinC.clean ?_)) ?_
            replace hS := hS.drew
            refine ord_seg (by repeat (first | exact Clean.body | refine Clean.then ?_ | refine Clean.inBlock ?_ | refine SegQ.clean ?_ | refine FinC.clean ?_)) (n := 24) (rest := [[6, 7, 8, 9, 11, 12, 13, 14, 15, 10, 16, 17, 18, 19, 20, 21, 23, 24, 25, 26, 22, 27, 28, 29]]) [0, 2, 3, 4, 5, 1] [⟨_, _, _, _, _, _⟩, ⟨_, _, _, _, _, _⟩, ⟨_, _, _, _, _, _⟩, ⟨_, _, _, _, _, _⟩, ⟨_, _, _, _, _, _⟩, ⟨_, _, _, _, _, _⟩] rfl (by kernel_rfl) (by simp) _ _ ?_
            go_wp2_with (first
              | go_big_skip
              | (go_at_call 20; (refine Ret.calls (qwaits_s (p := p) (q := q1) (hS.bring (by repeat (first | exact t0 | apply tS))) HQ1.out) ?_); clear hS; rintro wv w hS)
              | (go_at_call 21; (refine Ret.calls (qall_s (p := p) (q := q1) (hS.bring (by repeat (first | exact t0 | apply tS)))) ?_); clear hS; rintro av w hS)
              | (show wpList _ _ _ (⟨_, .load 31 _, _, _, _, _⟩ :: _) _ _; refine wpList_val rfl (op_load1S (b := m) (T := 42) oneHashes ((hS.bring (by repeat (first | exact t0 | apply tS)))) rfl rfl rfl) ?_; go_frame)
              | (show wpList _ _ _ (⟨_, .load 24 _, _, _, _, _⟩ :: _) _ _; refine wpList_val rfl (op_load aggHash rfl rfl (SepL.getBlk (b := n3) (T := 24) ((hS.bring (by repeat (first | exact t0 | apply tS))))).cells HI32.out) ?_; go_frame)
              | (have m1 := M1; clear m1; go_at_call 17; refine Ret.calls (hS.callNo (sameIds_w (v := wv) (u := rwv) (l := q1.waits) (m := q1.waits) ((hS.bring (by repeat (first | exact t0 | apply tS))).getOwn.rd) ((hS.bring (by repeat (first | exact t0 | apply tS))).getOwn.rd) HQ1.out.w32 HQ1.out.w32 (b := true) (decide_eq_true (Eq.refl q1.waits)))) ?_; clear hS M1; rintro r1 w ⟨rfl, hS⟩)
              | (go_at_call 17; refine Ret.calls (hS.callNo (sameIds_w (v := av) (u := rlv) (l := q1.known) (m := q1.known) ((hS.bring (by repeat (first | exact t0 | apply tS))).getOwn.rd) ((hS.bring (by repeat (first | exact t0 | apply tS))).getOwn.rd) HQ1.out.k32 HQ1.out.k32 (b := true) (decide_eq_true (Eq.refl q1.known)))) ?_; clear hS; rintro r1 w ⟨rfl, hS⟩)
              | (go_at_call 22; (refine Ret.calls (qhas_s (p := p) (q := q1) (x := i) (hS.bring (by repeat (first | exact t0 | apply tS))) HI0.out (b := bb) HBB) ?_); clear hS; rintro r1 w ⟨rfl, hS⟩)
              | (go_at_call 23; refine Ret.calls (rhas_s (p := m) (lv := rlv) (wv := rwv) (L := q1.known) (x := i) (F := [.own 24 32 rwv (bys q1.waits), hQ p q1, .blk n3 24 (i.map B8)]) (hS.sel (by repeat (first | exact Sel.refl | refine Sel.take (by repeat (first | exact t0 | apply tS)) ?_ | apply Sel.drop))) HQ1.out.k32 HI0.out (b := bb) HBB) ?_; clear hS; rintro r1 w ⟨rfl, hS⟩)
              | (show wpList _ _ _ (⟨some 83, .binOp _ _ _ _ _, _, _, _, _⟩ :: _) _ _; refine wpList_val rfl (op_neBool rfl rfl rfl) ?_; go_frame)
              )
            refine segQ_mk (⟨((hS.bring (by repeat (first | exact t0 | apply tS))).getBlk), ((hS.bring (by repeat (first | exact t0 | apply tS))).getBlk)⟩ : Blk _ n3 24 (i.map B8) ∧ Blk _ m 42 [I64 64, rlv, rwv]) ?_
            refine ord_seg (by repeat (first | exact Clean.body | refine Clean.then ?_ | refine Clean.inBlock ?_ | refine SegQ.clean ?_ | refine FinC.clean ?_)) (n := 23) (rest := [[7, 8, 9, 11, 12, 13, 14, 15, 10, 16, 17, 18, 19, 20, 21, 23, 24, 25, 26, 22, 27, 28, 29]]) [6] [⟨_, _, _, _, _, _⟩] rfl (by kernel_rfl) (by simp) _ _ ?_
            go_wp2_with (first
              | go_big_skip
              | (go_at_call 20; (refine Ret.calls (qwaits_s (p := p) (q := q1) (hS.bring (by repeat (first | exact t0 | apply tS))) HQ1.out) ?_); clear hS; rintro wv w hS)
              | (go_at_call 21; (refine Ret.calls (qall_s (p := p) (q := q1) (hS.bring (by repeat (first | exact t0 | apply tS)))) ?_); clear hS; rintro av w hS)
              | (show wpList _ _ _ (⟨_, .load 31 _, _, _, _, _⟩ :: _) _ _; refine wpList_val rfl (op_load1S (b := m) (T := 42) oneHashes ((hS.bring (by repeat (first | exact t0 | apply tS)))) rfl rfl rfl) ?_; go_frame)
              | (show wpList _ _ _ (⟨_, .load 24 _, _, _, _, _⟩ :: _) _ _; refine wpList_val rfl (op_load aggHash rfl rfl (SepL.getBlk (b := n3) (T := 24) ((hS.bring (by repeat (first | exact t0 | apply tS))))).cells HI32.out) ?_; go_frame)
              | (have m1 := M1; clear m1; go_at_call 17; refine Ret.calls (hS.callNo (sameIds_w (v := wv) (u := rwv) (l := q1.waits) (m := q1.waits) ((hS.bring (by repeat (first | exact t0 | apply tS))).getOwn.rd) ((hS.bring (by repeat (first | exact t0 | apply tS))).getOwn.rd) HQ1.out.w32 HQ1.out.w32 (b := true) (decide_eq_true (Eq.refl q1.waits)))) ?_; clear hS M1; rintro r1 w ⟨rfl, hS⟩)
              | (go_at_call 17; refine Ret.calls (hS.callNo (sameIds_w (v := av) (u := rlv) (l := q1.known) (m := q1.known) ((hS.bring (by repeat (first | exact t0 | apply tS))).getOwn.rd) ((hS.bring (by repeat (first | exact t0 | apply tS))).getOwn.rd) HQ1.out.k32 HQ1.out.k32 (b := true) (decide_eq_true (Eq.refl q1.known)))) ?_; clear hS; rintro r1 w ⟨rfl, hS⟩)
              | (go_at_call 22; (refine Ret.calls (qhas_s (p := p) (q := q1) (x := i) (hS.bring (by repeat (first | exact t0 | apply tS))) HI0.out (b := bb) HBB) ?_); clear hS; rintro r1 w ⟨rfl, hS⟩)
              | (go_at_call 23; refine Ret.calls (rhas_s (p := m) (lv := rlv) (wv := rwv) (L := q1.known) (x := i) (F := [.own 24 32 rwv (bys q1.waits), hQ p q1, .blk n3 24 (i.map B8)]) (hS.sel (by repeat (first | exact Sel.refl | refine Sel.take (by repeat (first | exact t0 | apply tS)) ?_ | apply Sel.drop))) HQ1.out.k32 HI0.out (b := bb) HBB) ?_; clear hS; rintro r1 w ⟨rfl, hS⟩)
              | (show wpList _ _ _ (⟨some 83, .binOp _ _ _ _ _, _, _, _, _⟩ :: _) _ _; refine wpList_val rfl (op_neBool rfl rfl rfl) ?_; go_frame)
              )
            refine segQ_mk (⟨((hS.bring (by repeat (first | exact t0 | apply tS))).getBlk), ((hS.bring (by repeat (first | exact t0 | apply tS))).getBlk)⟩ : Blk _ n3 24 (i.map B8) ∧ Blk _ m 42 [I64 64, rlv, rwv]) ?_
            refine ord_seg (by repeat (first | exact Clean.body | refine Clean.then ?_ | refine Clean.inBlock ?_ | refine SegQ.clean ?_ | refine FinC.clean ?_)) (n := 14) (rest := [[16, 17, 18, 19, 20, 21, 23, 24, 25, 26, 22, 27, 28, 29]]) [7, 8, 9, 11, 12, 13, 14, 15, 10] [⟨_, _, _, _, _, _⟩, ⟨_, _, _, _, _, _⟩, ⟨_, _, _, _, _, _⟩, ⟨_, _, _, _, _, _⟩, ⟨_, _, _, _, _, _⟩, ⟨_, _, _, _, _, _⟩, ⟨_, _, _, _, _, _⟩, ⟨_, _, _, _, _, _⟩, ⟨_, _, _, _, _, _⟩] rfl (by kernel_rfl) (by simp) _ _ ?_
            go_wp2_with (first
              | go_big_skip
              | (go_at_call 20; (refine Ret.calls (qwaits_s (p := p) (q := q1) (hS.bring (by repeat (first | exact t0 | apply tS))) HQ1.out) ?_); clear hS; rintro wv w hS)
              | (go_at_call 21; (refine Ret.calls (qall_s (p := p) (q := q1) (hS.bring (by repeat (first | exact t0 | apply tS)))) ?_); clear hS; rintro av w hS)
              | (show wpList _ _ _ (⟨_, .load 31 _, _, _, _, _⟩ :: _) _ _; refine wpList_val rfl (op_load1S (b := m) (T := 42) oneHashes ((hS.bring (by repeat (first | exact t0 | apply tS)))) rfl rfl rfl) ?_; go_frame)
              | (show wpList _ _ _ (⟨_, .load 24 _, _, _, _, _⟩ :: _) _ _; refine wpList_val rfl (op_load aggHash rfl rfl (SepL.getBlk (b := n3) (T := 24) ((hS.bring (by repeat (first | exact t0 | apply tS))))).cells HI32.out) ?_; go_frame)
              | (have m1 := M1; clear m1; go_at_call 17; refine Ret.calls (hS.callNo (sameIds_w (v := wv) (u := rwv) (l := q1.waits) (m := q1.waits) ((hS.bring (by repeat (first | exact t0 | apply tS))).getOwn.rd) ((hS.bring (by repeat (first | exact t0 | apply tS))).getOwn.rd) HQ1.out.w32 HQ1.out.w32 (b := true) (decide_eq_true (Eq.refl q1.waits)))) ?_; clear hS M1; rintro r1 w ⟨rfl, hS⟩)
              | (go_at_call 17; refine Ret.calls (hS.callNo (sameIds_w (v := av) (u := rlv) (l := q1.known) (m := q1.known) ((hS.bring (by repeat (first | exact t0 | apply tS))).getOwn.rd) ((hS.bring (by repeat (first | exact t0 | apply tS))).getOwn.rd) HQ1.out.k32 HQ1.out.k32 (b := true) (decide_eq_true (Eq.refl q1.known)))) ?_; clear hS; rintro r1 w ⟨rfl, hS⟩)
              | (go_at_call 22; (refine Ret.calls (qhas_s (p := p) (q := q1) (x := i) (hS.bring (by repeat (first | exact t0 | apply tS))) HI0.out (b := bb) HBB) ?_); clear hS; rintro r1 w ⟨rfl, hS⟩)
              | (go_at_call 23; refine Ret.calls (rhas_s (p := m) (lv := rlv) (wv := rwv) (L := q1.known) (x := i) (F := [.own 24 32 rwv (bys q1.waits), hQ p q1, .blk n3 24 (i.map B8)]) (hS.sel (by repeat (first | exact Sel.refl | refine Sel.take (by repeat (first | exact t0 | apply tS)) ?_ | apply Sel.drop))) HQ1.out.k32 HI0.out (b := bb) HBB) ?_; clear hS; rintro r1 w ⟨rfl, hS⟩)
              | (show wpList _ _ _ (⟨some 83, .binOp _ _ _ _ _, _, _, _, _⟩ :: _) _ _; refine wpList_val rfl (op_neBool rfl rfl rfl) ?_; go_frame)
              )
            refine segQ_mk (⟨((hS.bring (by repeat (first | exact t0 | apply tS))).getBlk), ((hS.bring (by repeat (first | exact t0 | apply tS))).getBlk)⟩ : Blk _ n3 24 (i.map B8) ∧ Blk _ m 42 [I64 64, rlv, rwv]) ?_
            refine ord_seg (by repeat (first | exact Clean.body | refine Clean.then ?_ | refine Clean.inBlock ?_ | refine SegQ.clean ?_ | refine FinC.clean ?_)) (n := 13) (rest := [[17, 18, 19, 20, 21, 23, 24, 25, 26, 22, 27, 28, 29]]) [16] [⟨_, _, _, _, _, _⟩] rfl (by kernel_rfl) (by simp) _ _ ?_
            go_wp2_with (first
              | go_big_skip
              | (go_at_call 20; (refine Ret.calls (qwaits_s (p := p) (q := q1) (hS.bring (by repeat (first | exact t0 | apply tS))) HQ1.out) ?_); clear hS; rintro wv w hS)
              | (go_at_call 21; (refine Ret.calls (qall_s (p := p) (q := q1) (hS.bring (by repeat (first | exact t0 | apply tS)))) ?_); clear hS; rintro av w hS)
              | (show wpList _ _ _ (⟨_, .load 31 _, _, _, _, _⟩ :: _) _ _; refine wpList_val rfl (op_load1S (b := m) (T := 42) oneHashes ((hS.bring (by repeat (first | exact t0 | apply tS)))) rfl rfl rfl) ?_; go_frame)
              | (show wpList _ _ _ (⟨_, .load 24 _, _, _, _, _⟩ :: _) _ _; refine wpList_val rfl (op_load aggHash rfl rfl (SepL.getBlk (b := n3) (T := 24) ((hS.bring (by repeat (first | exact t0 | apply tS))))).cells HI32.out) ?_; go_frame)
              | (have m1 := M1; clear m1; go_at_call 17; refine Ret.calls (hS.callNo (sameIds_w (v := wv) (u := rwv) (l := q1.waits) (m := q1.waits) ((hS.bring (by repeat (first | exact t0 | apply tS))).getOwn.rd) ((hS.bring (by repeat (first | exact t0 | apply tS))).getOwn.rd) HQ1.out.w32 HQ1.out.w32 (b := true) (decide_eq_true (Eq.refl q1.waits)))) ?_; clear hS M1; rintro r1 w ⟨rfl, hS⟩)
              | (go_at_call 17; refine Ret.calls (hS.callNo (sameIds_w (v := av) (u := rlv) (l := q1.known) (m := q1.known) ((hS.bring (by repeat (first | exact t0 | apply tS))).getOwn.rd) ((hS.bring (by repeat (first | exact t0 | apply tS))).getOwn.rd) HQ1.out.k32 HQ1.out.k32 (b := true) (decide_eq_true (Eq.refl q1.known)))) ?_; clear hS; rintro r1 w ⟨rfl, hS⟩)
              | (go_at_call 22; (refine Ret.calls (qhas_s (p := p) (q := q1) (x := i) (hS.bring (by repeat (first | exact t0 | apply tS))) HI0.out (b := bb) HBB) ?_); clear hS; rintro r1 w ⟨rfl, hS⟩)
              | (go_at_call 23; refine Ret.calls (rhas_s (p := m) (lv := rlv) (wv := rwv) (L := q1.known) (x := i) (F := [.own 24 32 rwv (bys q1.waits), hQ p q1, .blk n3 24 (i.map B8)]) (hS.sel (by repeat (first | exact Sel.refl | refine Sel.take (by repeat (first | exact t0 | apply tS)) ?_ | apply Sel.drop))) HQ1.out.k32 HI0.out (b := bb) HBB) ?_; clear hS; rintro r1 w ⟨rfl, hS⟩)
              | (show wpList _ _ _ (⟨some 83, .binOp _ _ _ _ _, _, _, _, _⟩ :: _) _ _; refine wpList_val rfl (op_neBool rfl rfl rfl) ?_; go_frame)
              )
            refine segQ_mk (⟨((hS.bring (by repeat (first | exact t0 | apply tS))).getBlk), ((hS.bring (by repeat (first | exact t0 | apply tS))).getBlk)⟩ : Blk _ n3 24 (i.map B8) ∧ Blk _ m 42 [I64 64, rlv, rwv]) ?_
            refine ord_seg (by repeat (first | exact Clean.body | refine Clean.then ?_ | refine Clean.inBlock ?_ | refine SegQ.clean ?_ | refine FinC.clean ?_)) (n := 3) (rest := [[27, 28, 29]]) [17, 18, 19, 20, 21, 23, 24, 25, 26, 22] [⟨_, _, _, _, _, _⟩, ⟨_, _, _, _, _, _⟩, ⟨_, _, _, _, _, _⟩, ⟨_, _, _, _, _, _⟩, ⟨_, _, _, _, _, _⟩, ⟨_, _, _, _, _, _⟩, ⟨_, _, _, _, _, _⟩, ⟨_, _, _, _, _, _⟩, ⟨_, _, _, _, _, _⟩, ⟨_, _, _, _, _, _⟩] rfl (by kernel_rfl) (by simp) _ _ ?_
            go_wp2_with (first
              | go_big_skip
              | (go_at_call 20; (refine Ret.calls (qwaits_s (p := p) (q := q1) (hS.bring (by repeat (first | exact t0 | apply tS))) HQ1.out) ?_); clear hS; rintro wv w hS)
              | (go_at_call 21; (refine Ret.calls (qall_s (p := p) (q := q1) (hS.bring (by repeat (first | exact t0 | apply tS)))) ?_); clear hS; rintro av w hS)
              | (show wpList _ _ _ (⟨_, .load 31 _, _, _, _, _⟩ :: _) _ _; refine wpList_val rfl (op_load1S (b := m) (T := 42) oneHashes ((hS.bring (by repeat (first | exact t0 | apply tS)))) rfl rfl rfl) ?_; go_frame)
              | (show wpList _ _ _ (⟨_, .load 24 _, _, _, _, _⟩ :: _) _ _; refine wpList_val rfl (op_load aggHash rfl rfl (SepL.getBlk (b := n3) (T := 24) ((hS.bring (by repeat (first | exact t0 | apply tS))))).cells HI32.out) ?_; go_frame)
              | (have m1 := M1; clear m1; go_at_call 17; refine Ret.calls (hS.callNo (sameIds_w (v := wv) (u := rwv) (l := q1.waits) (m := q1.waits) ((hS.bring (by repeat (first | exact t0 | apply tS))).getOwn.rd) ((hS.bring (by repeat (first | exact t0 | apply tS))).getOwn.rd) HQ1.out.w32 HQ1.out.w32 (b := true) (decide_eq_true (Eq.refl q1.waits)))) ?_; clear hS M1; rintro r1 w ⟨rfl, hS⟩)
              | (go_at_call 17; refine Ret.calls (hS.callNo (sameIds_w (v := av) (u := rlv) (l := q1.known) (m := q1.known) ((hS.bring (by repeat (first | exact t0 | apply tS))).getOwn.rd) ((hS.bring (by repeat (first | exact t0 | apply tS))).getOwn.rd) HQ1.out.k32 HQ1.out.k32 (b := true) (decide_eq_true (Eq.refl q1.known)))) ?_; clear hS; rintro r1 w ⟨rfl, hS⟩)
              | (go_at_call 22; (refine Ret.calls (qhas_s (p := p) (q := q1) (x := i) (hS.bring (by repeat (first | exact t0 | apply tS))) HI0.out (b := bb) HBB) ?_); clear hS; rintro r1 w ⟨rfl, hS⟩)
              | (go_at_call 23; refine Ret.calls (rhas_s (p := m) (lv := rlv) (wv := rwv) (L := q1.known) (x := i) (F := [.own 24 32 rwv (bys q1.waits), hQ p q1, .blk n3 24 (i.map B8)]) (hS.sel (by repeat (first | exact Sel.refl | refine Sel.take (by repeat (first | exact t0 | apply tS)) ?_ | apply Sel.drop))) HQ1.out.k32 HI0.out (b := bb) HBB) ?_; clear hS; rintro r1 w ⟨rfl, hS⟩)
              | (show wpList _ _ _ (⟨some 83, .binOp _ _ _ _ _, _, _, _, _⟩ :: _) _ _; refine wpList_val rfl (op_neBool rfl rfl rfl) ?_; go_frame)
              )
            refine segQ_mk (⟨((hS.bring (by repeat (first | exact t0 | apply tS))).getBlk), ((hS.bring (by repeat (first | exact t0 | apply tS))).getBlk)⟩ : Blk _ n3 24 (i.map B8) ∧ Blk _ m 42 [I64 64, rlv, rwv]) ?_
            refine ord_seg (by repeat (first | exact Clean.body | refine Clean.then ?_ | refine Clean.inBlock ?_ | refine SegQ.clean ?_ | refine FinC.clean ?_)) (n := 2) (rest := [[28, 29]]) [27] [⟨_, _, _, _, _, _⟩] rfl (by kernel_rfl) (by simp) _ _ ?_
            go_wp2_with (first
              | go_big_skip
              | (go_at_call 20; (refine Ret.calls (qwaits_s (p := p) (q := q1) (hS.bring (by repeat (first | exact t0 | apply tS))) HQ1.out) ?_); clear hS; rintro wv w hS)
              | (go_at_call 21; (refine Ret.calls (qall_s (p := p) (q := q1) (hS.bring (by repeat (first | exact t0 | apply tS)))) ?_); clear hS; rintro av w hS)
              | (show wpList _ _ _ (⟨_, .load 31 _, _, _, _, _⟩ :: _) _ _; refine wpList_val rfl (op_load1S (b := m) (T := 42) oneHashes ((hS.bring (by repeat (first | exact t0 | apply tS)))) rfl rfl rfl) ?_; go_frame)
              | (show wpList _ _ _ (⟨_, .load 24 _, _, _, _, _⟩ :: _) _ _; refine wpList_val rfl (op_load aggHash rfl rfl (SepL.getBlk (b := n3) (T := 24) ((hS.bring (by repeat (first | exact t0 | apply tS))))).cells HI32.out) ?_; go_frame)
              | (have m1 := M1; clear m1; go_at_call 17; refine Ret.calls (hS.callNo (sameIds_w (v := wv) (u := rwv) (l := q1.waits) (m := q1.waits) ((hS.bring (by repeat (first | exact t0 | apply tS))).getOwn.rd) ((hS.bring (by repeat (first | exact t0 | apply tS))).getOwn.rd) HQ1.out.w32 HQ1.out.w32 (b := true) (decide_eq_true (Eq.refl q1.waits)))) ?_; clear hS M1; rintro r1 w ⟨rfl, hS⟩)
              | (go_at_call 17; refine Ret.calls (hS.callNo (sameIds_w (v := av) (u := rlv) (l := q1.known) (m := q1.known) ((hS.bring (by repeat (first | exact t0 | apply tS))).getOwn.rd) ((hS.bring (by repeat (first | exact t0 | apply tS))).getOwn.rd) HQ1.out.k32 HQ1.out.k32 (b := true) (decide_eq_true (Eq.refl q1.known)))) ?_; clear hS; rintro r1 w ⟨rfl, hS⟩)
              | (go_at_call 22; (refine Ret.calls (qhas_s (p := p) (q := q1) (x := i) (hS.bring (by repeat (first | exact t0 | apply tS))) HI0.out (b := bb) HBB) ?_); clear hS; rintro r1 w ⟨rfl, hS⟩)
              | (go_at_call 23; refine Ret.calls (rhas_s (p := m) (lv := rlv) (wv := rwv) (L := q1.known) (x := i) (F := [.own 24 32 rwv (bys q1.waits), hQ p q1, .blk n3 24 (i.map B8)]) (hS.sel (by repeat (first | exact Sel.refl | refine Sel.take (by repeat (first | exact t0 | apply tS)) ?_ | apply Sel.drop))) HQ1.out.k32 HI0.out (b := bb) HBB) ?_; clear hS; rintro r1 w ⟨rfl, hS⟩)
              | (show wpList _ _ _ (⟨some 83, .binOp _ _ _ _ _, _, _, _, _⟩ :: _) _ _; refine wpList_val rfl (op_neBool rfl rfl rfl) ?_; go_frame)
              )
            refine segQ_mk (⟨((hS.bring (by repeat (first | exact t0 | apply tS))).getBlk), ((hS.bring (by repeat (first | exact t0 | apply tS))).getBlk)⟩ : Blk _ n3 24 (i.map B8) ∧ Blk _ m 42 [I64 64, rlv, rwv]) ?_
            refine ord_seg (by repeat (first | exact Clean.body | refine Clean.then ?_ | refine Clean.inBlock ?_ | refine SegQ.clean ?_ | refine FinC.clean ?_)) (n := 0) (rest := [[]]) [28, 29] [⟨_, _, _, _, _, _⟩, ⟨_, _, _, _, _, _⟩] rfl (by kernel_rfl) (by simp) _ _ ?_
            go_wp2_with (first
              | go_big_skip
              | (go_at_call 20; (refine Ret.calls (qwaits_s (p := p) (q := q1) (hS.bring (by repeat (first | exact t0 | apply tS))) HQ1.out) ?_); clear hS; rintro wv w hS)
              | (go_at_call 21; (refine Ret.calls (qall_s (p := p) (q := q1) (hS.bring (by repeat (first | exact t0 | apply tS)))) ?_); clear hS; rintro av w hS)
              | (show wpList _ _ _ (⟨_, .load 31 _, _, _, _, _⟩ :: _) _ _; refine wpList_val rfl (op_load1S (b := m) (T := 42) oneHashes ((hS.bring (by repeat (first | exact t0 | apply tS)))) rfl rfl rfl) ?_; go_frame)
              | (show wpList _ _ _ (⟨_, .load 24 _, _, _, _, _⟩ :: _) _ _; refine wpList_val rfl (op_load aggHash rfl rfl (SepL.getBlk (b := n3) (T := 24) ((hS.bring (by repeat (first | exact t0 | apply tS))))).cells HI32.out) ?_; go_frame)
              | (have m1 := M1; clear m1; go_at_call 17; refine Ret.calls (hS.callNo (sameIds_w (v := wv) (u := rwv) (l := q1.waits) (m := q1.waits) ((hS.bring (by repeat (first | exact t0 | apply tS))).getOwn.rd) ((hS.bring (by repeat (first | exact t0 | apply tS))).getOwn.rd) HQ1.out.w32 HQ1.out.w32 (b := true) (decide_eq_true (Eq.refl q1.waits)))) ?_; clear hS M1; rintro r1 w ⟨rfl, hS⟩)
              | (go_at_call 17; refine Ret.calls (hS.callNo (sameIds_w (v := av) (u := rlv) (l := q1.known) (m := q1.known) ((hS.bring (by repeat (first | exact t0 | apply tS))).getOwn.rd) ((hS.bring (by repeat (first | exact t0 | apply tS))).getOwn.rd) HQ1.out.k32 HQ1.out.k32 (b := true) (decide_eq_true (Eq.refl q1.known)))) ?_; clear hS; rintro r1 w ⟨rfl, hS⟩)
              | (go_at_call 22; (refine Ret.calls (qhas_s (p := p) (q := q1) (x := i) (hS.bring (by repeat (first | exact t0 | apply tS))) HI0.out (b := bb) HBB) ?_); clear hS; rintro r1 w ⟨rfl, hS⟩)
              | (go_at_call 23; refine Ret.calls (rhas_s (p := m) (lv := rlv) (wv := rwv) (L := q1.known) (x := i) (F := [.own 24 32 rwv (bys q1.waits), hQ p q1, .blk n3 24 (i.map B8)]) (hS.sel (by repeat (first | exact Sel.refl | refine Sel.take (by repeat (first | exact t0 | apply tS)) ?_ | apply Sel.drop))) HQ1.out.k32 HI0.out (b := bb) HBB) ?_; clear hS; rintro r1 w ⟨rfl, hS⟩)
              | (show wpList _ _ _ (⟨some 83, .binOp _ _ _ _ _, _, _, _, _⟩ :: _) _ _; refine wpList_val rfl (op_neBool rfl rfl rfl) ?_; go_frame)
              )
            refine segQ_mk (⟨((hS.bring (by repeat (first | exact t0 | apply tS))).getBlk), ((hS.bring (by repeat (first | exact t0 | apply tS))).getBlk)⟩ : Blk _ n3 24 (i.map B8) ∧ Blk _ m 42 [I64 64, rlv, rwv]) ?_
            refine finC_mk (by kernel_rfl) (by
              intro t ht
              simp only [List.mem_cons, List.not_mem_nil, or_false] at ht
              rcases ht with rfl | rfl | rfl
              · exact stab_blk (b := n3) (fun w h => h.1) _ none
              · exact stab_blk (b := m) (fun w h => h.2) _ none
              · exact stab_blk (b := m) (fun w h => h.2) _ none) ?_
            go_wp2_with fail
            go_roundw
            case rel =>
              have h1 := hR_close (q := q1) (hS.sel (by repeat (first | exact Sel.refl | refine Sel.take (by repeat (first | exact t0 | apply tS)) ?_ | apply Sel.drop)) : SepL All W _ (.blk m 42 [I64 64, rlv, rwv] :: .own 24 32 rlv (bys q1.known) :: .own 24 32 rwv (bys q1.waits) :: [hQ p q1, .blk n3 24 (i.map B8)]))
              refine ⟨k + 1, by go_num, by omega, ?_⟩
              rw [HSN.out]
              exact h1.sel (by repeat (first | exact Sel.refl | refine Sel.take (by repeat (first | exact t0 | apply tS)) ?_ | apply Sel.drop))
            case measure => simp [intOf]; omega
          · have HK1 := eqF h1
            by_cases h2 : s.kind = 2
            · have HK2 := eqT h2
              have HRA := hide (run_2 (q := q) h0 h1 h2)
              clear h0 h1 h2
              go_wp2_with (first
                | (show wpList _ _ _ (⟨some 19, .indexAddr _ _ _, _, _, _, _⟩ :: _) _ _; refine wpList_val rfl (op_indexAddr slAct rfl (v := v) (xs := L.map aC) rfl (k := k) rfl (by exact hS.rd hv.rd) hlk) ?_; go_frame)
                | (show wpList _ _ _ (⟨some 20, .load _ _, _, _, _, _⟩ :: _) _ _; refine wpList_val rfl (op_loadE aggAct rfl (v := v) (xs := L.map aC) (k := k) rfl (by exact hS.rd hv.rd) hlk) ?_; rw [HX.out]; go_frame)
                | (show wpList _ _ _ (⟨_, .alloc 33, _, _, _, _⟩ :: _) _ _; refine wpS_alloc hS rfl rfl Try.zeroValue33 (zs := [.int .i64 0, .slice none 0 0]) rfl ?_; clear hS; intro nb w hS; go_frame)
                | (show wpList _ _ _ (⟨_, .store 33 _ _, _, _, _, _⟩ :: _) _ _; (refine wpS_storeAll (b := nb) aggAct (hS.bring (by repeat (first | exact t0 | apply tS))) rfl rfl rfl (vs := aC (u, s)) rfl rfl HUF.out rfl ?_); clear hS; intro w hS; go_frame)
                | (show wpList _ _ _ (⟨_, .load 3 _, _, _, _, _⟩ :: _) _ _; refine wpList_val rfl (op_load1S (b := nb) (T := 33) oneInt ((hS.bring (by repeat (first | exact t0 | apply tS)))) rfl rfl rfl) ?_; go_frame)
                | (show wpList _ _ _ (⟨_, .load 31 _, _, _, _, _⟩ :: _) _ _; refine wpList_val rfl (op_load1S (b := nb) (T := 33) oneHashes ((hS.bring (by repeat (first | exact t0 | apply tS)))) rfl rfl rfl) ?_; go_frame)
                | (show wpList _ _ _ (⟨some 24, .binOp _ _ _ _ _, _, _, _, _⟩ :: _) _ _; refine wpList_val rfl (op_eqI' rfl rfl rfl HK0.out) ?_; go_frame)
                | (show wpList _ _ _ (⟨some 34, .binOp _ _ _ _ _, _, _, _, _⟩ :: _) _ _; refine wpList_val rfl (op_eqI' rfl rfl rfl HK1.out) ?_; go_frame)
                | (show wpList _ _ _ (⟨some 44, .binOp _ _ _ _ _, _, _, _, _⟩ :: _) _ _; refine wpList_val rfl (op_eqI' rfl rfl rfl HK2.out) ?_; go_frame)
                | (go_at_call 13; (refine Ret.calls (qput_s (p := p) (q0 := q) (hS.bring (by repeat (first | exact t0 | apply tS))) HQO.out HUR.out HS32.out) ?_); clear hS; rintro r1 w hS)
                | (go_at_call 14; (refine Ret.calls (rqput_s (p := m) (q0 := q) (hS.bring (by repeat (first | exact t0 | apply tS))) HQO.out HUR.out HS32.out) ?_); clear hS; rintro r1 w hS)
                | (go_at_call 15; (refine Ret.calls (qlearn_s (p := p) (q := q) (hS.bring (by repeat (first | exact t0 | apply tS))) HQO.out HUR.out HS32.out HFEW.out) ?_); clear hS; rintro r1 w hS)
                | (go_at_call 16; (refine Ret.calls (rqlearn_s (p := m) (q0 := q) (hS.bring (by repeat (first | exact t0 | apply tS))) HQO.out HUR.out HS32.out) ?_); clear hS; rintro r1 w hS)
                )
              go_wp2_with fail
              refine wp_region_ord (by kernel_rfl) [46, 50] [[0, 1, 2, 4, 5, 6, 3, 7, 8, 9]] (by kernel_rfl) (by kernel_rfl) (fun w' => Blk w' nb 33 (aC (u, s))) Up.blk ((hS.bring (by repeat (first | exact t0 | apply tS))).getBlk) (by repeat (first | exact Clean.body | refine Clean.then ?_ | refine Clean.inBlock ?_ | refine SegQ.clean ?_ | refine FinC.clean ?_)) ?_
              replace hS := hS.drew
              refine ord_seg (by repeat (first | exact Clean.body | refine Clean.then ?_ | refine Clean.inBlock ?_ | refine SegQ.clean ?_ | refine FinC.clean ?_)) (n := 3) (rest := [[7, 8, 9]]) [0, 1, 2, 4, 5, 6, 3] [⟨_, _, _, _, _, _⟩, ⟨_, _, _, _, _, _⟩, ⟨_, _, _, _, _, _⟩, ⟨_, _, _, _, _, _⟩, ⟨_, _, _, _, _, _⟩, ⟨_, _, _, _, _, _⟩, ⟨_, _, _, _, _, _⟩] rfl (by kernel_rfl) (by simp) _ _ ?_
              go_wp2_with (first
                | (show wpList _ _ _ (⟨_, .load 31 _, _, _, _, _⟩ :: _) _ _; refine wpList_val rfl (op_load1S (b := nb) (T := 33) oneHashes ((hS.bring (by repeat (first | exact t0 | apply tS)))) rfl rfl rfl) ?_; go_frame)
                | (go_at_call 18; (refine Ret.calls (qflush_s (p := p) (q := q) (hS.bring (by repeat (first | exact t0 | apply tS))) HQO.out HUR.out HS32.out) ?_); clear hS; rintro tv w hS)
                | (go_at_call 19; (refine Ret.calls (rqflush_s (p := m) (q := q) (hS.bring (by repeat (first | exact t0 | apply tS))) HQO.out HUR.out HS32.out) ?_); clear hS; rintro uv w hS)
                | (go_at_call 17; refine Ret.calls (hS.callNo (sameIds_w (v := tv) (u := uv) (l := told q s.ids) (m := told q s.ids) ((hS.bring (by repeat (first | exact t0 | apply tS))).getOwn.rd) ((hS.bring (by repeat (first | exact t0 | apply tS))).getOwn.rd) HQO.out.told HQO.out.told (b := true) (decide_eq_true (Eq.refl (told q s.ids))))) ?_; clear hS; rintro r1 w ⟨rfl, hS⟩)
                )
              refine segQ_mk (((hS.bring (by repeat (first | exact t0 | apply tS))).getBlk) : Blk _ nb 33 (aC (u, s))) ?_
              refine ord_seg (by repeat (first | exact Clean.body | refine Clean.then ?_ | refine Clean.inBlock ?_ | refine SegQ.clean ?_ | refine FinC.clean ?_)) (n := 2) (rest := [[8, 9]]) [7] [⟨_, _, _, _, _, _⟩] rfl (by kernel_rfl) (by simp) _ _ ?_
              go_wp2_with (first
                | (show wpList _ _ _ (⟨_, .load 31 _, _, _, _, _⟩ :: _) _ _; refine wpList_val rfl (op_load1S (b := nb) (T := 33) oneHashes ((hS.bring (by repeat (first | exact t0 | apply tS)))) rfl rfl rfl) ?_; go_frame)
                | (go_at_call 18; (refine Ret.calls (qflush_s (p := p) (q := q) (hS.bring (by repeat (first | exact t0 | apply tS))) HQO.out HUR.out HS32.out) ?_); clear hS; rintro tv w hS)
                | (go_at_call 19; (refine Ret.calls (rqflush_s (p := m) (q := q) (hS.bring (by repeat (first | exact t0 | apply tS))) HQO.out HUR.out HS32.out) ?_); clear hS; rintro uv w hS)
                | (go_at_call 17; refine Ret.calls (hS.callNo (sameIds_w (v := tv) (u := uv) (l := told q s.ids) (m := told q s.ids) ((hS.bring (by repeat (first | exact t0 | apply tS))).getOwn.rd) ((hS.bring (by repeat (first | exact t0 | apply tS))).getOwn.rd) HQO.out.told HQO.out.told (b := true) (decide_eq_true (Eq.refl (told q s.ids))))) ?_; clear hS; rintro r1 w ⟨rfl, hS⟩)
                )
              refine segQ_mk (((hS.bring (by repeat (first | exact t0 | apply tS))).getBlk) : Blk _ nb 33 (aC (u, s))) ?_
              refine ord_seg (by repeat (first | exact Clean.body | refine Clean.then ?_ | refine Clean.inBlock ?_ | refine SegQ.clean ?_ | refine FinC.clean ?_)) (n := 1) (rest := [[9]]) [8] [⟨_, _, _, _, _, _⟩] rfl (by kernel_rfl) (by simp) _ _ ?_
              go_wp2_with (first
                | (show wpList _ _ _ (⟨_, .load 31 _, _, _, _, _⟩ :: _) _ _; refine wpList_val rfl (op_load1S (b := nb) (T := 33) oneHashes ((hS.bring (by repeat (first | exact t0 | apply tS)))) rfl rfl rfl) ?_; go_frame)
                | (go_at_call 18; (refine Ret.calls (qflush_s (p := p) (q := q) (hS.bring (by repeat (first | exact t0 | apply tS))) HQO.out HUR.out HS32.out) ?_); clear hS; rintro tv w hS)
                | (go_at_call 19; (refine Ret.calls (rqflush_s (p := m) (q := q) (hS.bring (by repeat (first | exact t0 | apply tS))) HQO.out HUR.out HS32.out) ?_); clear hS; rintro uv w hS)
                | (go_at_call 17; refine Ret.calls (hS.callNo (sameIds_w (v := tv) (u := uv) (l := told q s.ids) (m := told q s.ids) ((hS.bring (by repeat (first | exact t0 | apply tS))).getOwn.rd) ((hS.bring (by repeat (first | exact t0 | apply tS))).getOwn.rd) HQO.out.told HQO.out.told (b := true) (decide_eq_true (Eq.refl (told q s.ids))))) ?_; clear hS; rintro r1 w ⟨rfl, hS⟩)
                )
              refine segQ_mk (((hS.bring (by repeat (first | exact t0 | apply tS))).getBlk) : Blk _ nb 33 (aC (u, s))) ?_
              refine ord_seg (by repeat (first | exact Clean.body | refine Clean.then ?_ | refine Clean.inBlock ?_ | refine SegQ.clean ?_ | refine FinC.clean ?_)) (n := 0) (rest := [[]]) [9] [⟨_, _, _, _, _, _⟩] rfl (by kernel_rfl) (by simp) _ _ ?_
              go_wp2_with (first
                | (show wpList _ _ _ (⟨_, .load 31 _, _, _, _, _⟩ :: _) _ _; refine wpList_val rfl (op_load1S (b := nb) (T := 33) oneHashes ((hS.bring (by repeat (first | exact t0 | apply tS)))) rfl rfl rfl) ?_; go_frame)
                | (go_at_call 18; (refine Ret.calls (qflush_s (p := p) (q := q) (hS.bring (by repeat (first | exact t0 | apply tS))) HQO.out HUR.out HS32.out) ?_); clear hS; rintro tv w hS)
                | (go_at_call 19; (refine Ret.calls (rqflush_s (p := m) (q := q) (hS.bring (by repeat (first | exact t0 | apply tS))) HQO.out HUR.out HS32.out) ?_); clear hS; rintro uv w hS)
                | (go_at_call 17; refine Ret.calls (hS.callNo (sameIds_w (v := tv) (u := uv) (l := told q s.ids) (m := told q s.ids) ((hS.bring (by repeat (first | exact t0 | apply tS))).getOwn.rd) ((hS.bring (by repeat (first | exact t0 | apply tS))).getOwn.rd) HQO.out.told HQO.out.told (b := true) (decide_eq_true (Eq.refl (told q s.ids))))) ?_; clear hS; rintro r1 w ⟨rfl, hS⟩)
                )
              refine segQ_mk (((hS.bring (by repeat (first | exact t0 | apply tS))).getBlk) : Blk _ nb 33 (aC (u, s))) ?_
              refine finC_mk (by kernel_rfl) (by
                intro t ht
                simp only [List.mem_cons, List.not_mem_nil, or_false] at ht
                rcases ht with rfl | rfl <;> exact stab_blk (b := nb) (fun w h => h) _ none) ?_
              rw [← HRA.out, HQ1E.out] at hS
              obtain ⟨M1, hM1⟩ : ∃ m : Nat, m = 0 := ⟨0, rfl⟩
              clear hM1
              obtain ⟨rlv, rwv, hS9⟩ := hR_open (hS.sel (by repeat (first | exact Sel.refl | refine Sel.take (by repeat (first | exact t0 | apply tS)) ?_ | apply Sel.drop)) : SepL All W _ [hR m q1, hQ p q1, .blk n3 24 (i.map B8)])
              clear hS
              have hS := hS9
              clear hS9
              go_wp2_with fail
              refine wp_region_ord (by kernel_rfl) [3, 59, 69] [[0, 2, 3, 4, 5, 1, 6, 7, 8, 9, 11, 12, 13, 14, 15, 10, 16, 17, 18, 19, 20, 21, 23, 24, 25, 26, 22, 27, 28, 29]] (by kernel_rfl) (by kernel_rfl) (fun w' => Blk w' n3 24 (i.map B8) ∧ Blk w' m 42 [I64 64, rlv, rwv]) (Up.and Up.blk Up.blk) ⟨((hS.bring (by repeat (first | exact t0 | apply tS))).getBlk), ((hS.bring (by repeat (first | exact t0 | apply tS))).getBlk)⟩ (by repeat (first | exact Clean.body | refine Clean.then ?_ | refine Clean.inBlock ?_ | refine SegQ.clean ?_ | refine FinC.clean ?_)) ?_
              replace hS := hS.drew
              refine ord_seg (by repeat (first | exact Clean.body | refine Clean.then ?_ | refine Clean.inBlock ?_ | refine SegQ.clean ?_ | refine FinC.clean ?_)) (n := 24) (rest := [[6, 7, 8, 9, 11, 12, 13, 14, 15, 10, 16, 17, 18, 19, 20, 21, 23, 24, 25, 26, 22, 27, 28, 29]]) [0, 2, 3, 4, 5, 1] [⟨_, _, _, _, _, _⟩, ⟨_, _, _, _, _, _⟩, ⟨_, _, _, _, _, _⟩, ⟨_, _, _, _, _, _⟩, ⟨_, _, _, _, _, _⟩, ⟨_, _, _, _, _, _⟩] rfl (by kernel_rfl) (by simp) _ _ ?_
              go_wp2_with (first
                | go_big_skip
                | (go_at_call 20; (refine Ret.calls (qwaits_s (p := p) (q := q1) (hS.bring (by repeat (first | exact t0 | apply tS))) HQ1.out) ?_); clear hS; rintro wv w hS)
                | (go_at_call 21; (refine Ret.calls (qall_s (p := p) (q := q1) (hS.bring (by repeat (first | exact t0 | apply tS)))) ?_); clear hS; rintro av w hS)
                | (show wpList _ _ _ (⟨_, .load 31 _, _, _, _, _⟩ :: _) _ _; refine wpList_val rfl (op_load1S (b := m) (T := 42) oneHashes ((hS.bring (by repeat (first | exact t0 | apply tS)))) rfl rfl rfl) ?_; go_frame)
                | (show wpList _ _ _ (⟨_, .load 24 _, _, _, _, _⟩ :: _) _ _; refine wpList_val rfl (op_load aggHash rfl rfl (SepL.getBlk (b := n3) (T := 24) ((hS.bring (by repeat (first | exact t0 | apply tS))))).cells HI32.out) ?_; go_frame)
                | (have m1 := M1; clear m1; go_at_call 17; refine Ret.calls (hS.callNo (sameIds_w (v := wv) (u := rwv) (l := q1.waits) (m := q1.waits) ((hS.bring (by repeat (first | exact t0 | apply tS))).getOwn.rd) ((hS.bring (by repeat (first | exact t0 | apply tS))).getOwn.rd) HQ1.out.w32 HQ1.out.w32 (b := true) (decide_eq_true (Eq.refl q1.waits)))) ?_; clear hS M1; rintro r1 w ⟨rfl, hS⟩)
                | (go_at_call 17; refine Ret.calls (hS.callNo (sameIds_w (v := av) (u := rlv) (l := q1.known) (m := q1.known) ((hS.bring (by repeat (first | exact t0 | apply tS))).getOwn.rd) ((hS.bring (by repeat (first | exact t0 | apply tS))).getOwn.rd) HQ1.out.k32 HQ1.out.k32 (b := true) (decide_eq_true (Eq.refl q1.known)))) ?_; clear hS; rintro r1 w ⟨rfl, hS⟩)
                | (go_at_call 22; (refine Ret.calls (qhas_s (p := p) (q := q1) (x := i) (hS.bring (by repeat (first | exact t0 | apply tS))) HI0.out (b := bb) HBB) ?_); clear hS; rintro r1 w ⟨rfl, hS⟩)
                | (go_at_call 23; refine Ret.calls (rhas_s (p := m) (lv := rlv) (wv := rwv) (L := q1.known) (x := i) (F := [.own 24 32 rwv (bys q1.waits), hQ p q1, .blk n3 24 (i.map B8)]) (hS.sel (by repeat (first | exact Sel.refl | refine Sel.take (by repeat (first | exact t0 | apply tS)) ?_ | apply Sel.drop))) HQ1.out.k32 HI0.out (b := bb) HBB) ?_; clear hS; rintro r1 w ⟨rfl, hS⟩)
                | (show wpList _ _ _ (⟨some 83, .binOp _ _ _ _ _, _, _, _, _⟩ :: _) _ _; refine wpList_val rfl (op_neBool rfl rfl rfl) ?_; go_frame)
                )
              refine segQ_mk (⟨((hS.bring (by repeat (first | exact t0 | apply tS))).getBlk), ((hS.bring (by repeat (first | exact t0 | apply tS))).getBlk)⟩ : Blk _ n3 24 (i.map B8) ∧ Blk _ m 42 [I64 64, rlv, rwv]) ?_
              refine ord_seg (by repeat (first | exact Clean.body | refine Clean.then ?_ | refine Clean.inBlock ?_ | refine SegQ.clean ?_ | refine FinC.clean ?_)) (n := 23) (rest := [[7, 8, 9, 11, 12, 13, 14, 15, 10, 16, 17, 18, 19, 20, 21, 23, 24, 25, 26, 22, 27, 28, 29]]) [6] [⟨_, _, _, _, _, _⟩] rfl (by kernel_rfl) (by simp) _ _ ?_
              go_wp2_with (first
                | go_big_skip
                | (go_at_call 20; (refine Ret.calls (qwaits_s (p := p) (q := q1) (hS.bring (by repeat (first | exact t0 | apply tS))) HQ1.out) ?_); clear hS; rintro wv w hS)
                | (go_at_call 21; (refine Ret.calls (qall_s (p := p) (q := q1) (hS.bring (by repeat (first | exact t0 | apply tS)))) ?_); clear hS; rintro av w hS)
                | (show wpList _ _ _ (⟨_, .load 31 _, _, _, _, _⟩ :: _) _ _; refine wpList_val rfl (op_load1S (b := m) (T := 42) oneHashes ((hS.bring (by repeat (first | exact t0 | apply tS)))) rfl rfl rfl) ?_; go_frame)
                | (show wpList _ _ _ (⟨_, .load 24 _, _, _, _, _⟩ :: _) _ _; refine wpList_val rfl (op_load aggHash rfl rfl (SepL.getBlk (b := n3) (T := 24) ((hS.bring (by repeat (first | exact t0 | apply tS))))).cells HI32.out) ?_; go_frame)
                | (have m1 := M1; clear m1; go_at_call 17; refine Ret.calls (hS.callNo (sameIds_w (v := wv) (u := rwv) (l := q1.waits) (m := q1.waits) ((hS.bring (by repeat (first | exact t0 | apply tS))).getOwn.rd) ((hS.bring (by repeat (first | exact t0 | apply tS))).getOwn.rd) HQ1.out.w32 HQ1.out.w32 (b := true) (decide_eq_true (Eq.refl q1.waits)))) ?_; clear hS M1; rintro r1 w ⟨rfl, hS⟩)
                | (go_at_call 17; refine Ret.calls (hS.callNo (sameIds_w (v := av) (u := rlv) (l := q1.known) (m := q1.known) ((hS.bring (by repeat (first | exact t0 | apply tS))).getOwn.rd) ((hS.bring (by repeat (first | exact t0 | apply tS))).getOwn.rd) HQ1.out.k32 HQ1.out.k32 (b := true) (decide_eq_true (Eq.refl q1.known)))) ?_; clear hS; rintro r1 w ⟨rfl, hS⟩)
                | (go_at_call 22; (refine Ret.calls (qhas_s (p := p) (q := q1) (x := i) (hS.bring (by repeat (first | exact t0 | apply tS))) HI0.out (b := bb) HBB) ?_); clear hS; rintro r1 w ⟨rfl, hS⟩)
                | (go_at_call 23; refine Ret.calls (rhas_s (p := m) (lv := rlv) (wv := rwv) (L := q1.known) (x := i) (F := [.own 24 32 rwv (bys q1.waits), hQ p q1, .blk n3 24 (i.map B8)]) (hS.sel (by repeat (first | exact Sel.refl | refine Sel.take (by repeat (first | exact t0 | apply tS)) ?_ | apply Sel.drop))) HQ1.out.k32 HI0.out (b := bb) HBB) ?_; clear hS; rintro r1 w ⟨rfl, hS⟩)
                | (show wpList _ _ _ (⟨some 83, .binOp _ _ _ _ _, _, _, _, _⟩ :: _) _ _; refine wpList_val rfl (op_neBool rfl rfl rfl) ?_; go_frame)
                )
              refine segQ_mk (⟨((hS.bring (by repeat (first | exact t0 | apply tS))).getBlk), ((hS.bring (by repeat (first | exact t0 | apply tS))).getBlk)⟩ : Blk _ n3 24 (i.map B8) ∧ Blk _ m 42 [I64 64, rlv, rwv]) ?_
              refine ord_seg (by repeat (first | exact Clean.body | refine Clean.then ?_ | refine Clean.inBlock ?_ | refine SegQ.clean ?_ | refine FinC.clean ?_)) (n := 14) (rest := [[16, 17, 18, 19, 20, 21, 23, 24, 25, 26, 22, 27, 28, 29]]) [7, 8, 9, 11, 12, 13, 14, 15, 10] [⟨_, _, _, _, _, _⟩, ⟨_, _, _, _, _, _⟩, ⟨_, _, _, _, _, _⟩, ⟨_, _, _, _, _, _⟩, ⟨_, _, _, _, _, _⟩, ⟨_, _, _, _, _, _⟩, ⟨_, _, _, _, _, _⟩, ⟨_, _, _, _, _, _⟩, ⟨_, _, _, _, _, _⟩] rfl (by kernel_rfl) (by simp) _ _ ?_
              go_wp2_with (first
                | go_big_skip
                | (go_at_call 20; (refine Ret.calls (qwaits_s (p := p) (q := q1) (hS.bring (by repeat (first | exact t0 | apply tS))) HQ1.out) ?_); clear hS; rintro wv w hS)
                | (go_at_call 21; (refine Ret.calls (qall_s (p := p) (q := q1) (hS.bring (by repeat (first | exact t0 | apply tS)))) ?_); clear hS; rintro av w hS)
                | (show wpList _ _ _ (⟨_, .load 31 _, _, _, _, _⟩ :: _) _ _; refine wpList_val rfl (op_load1S (b := m) (T := 42) oneHashes ((hS.bring (by repeat (first | exact t0 | apply tS)))) rfl rfl rfl) ?_; go_frame)
                | (show wpList _ _ _ (⟨_, .load 24 _, _, _, _, _⟩ :: _) _ _; refine wpList_val rfl (op_load aggHash rfl rfl (SepL.getBlk (b := n3) (T := 24) ((hS.bring (by repeat (first | exact t0 | apply tS))))).cells HI32.out) ?_; go_frame)
                | (have m1 := M1; clear m1; go_at_call 17; refine Ret.calls (hS.callNo (sameIds_w (v := wv) (u := rwv) (l := q1.waits) (m := q1.waits) ((hS.bring (by repeat (first | exact t0 | apply tS))).getOwn.rd) ((hS.bring (by repeat (first | exact t0 | apply tS))).getOwn.rd) HQ1.out.w32 HQ1.out.w32 (b := true) (decide_eq_true (Eq.refl q1.waits)))) ?_; clear hS M1; rintro r1 w ⟨rfl, hS⟩)
                | (go_at_call 17; refine Ret.calls (hS.callNo (sameIds_w (v := av) (u := rlv) (l := q1.known) (m := q1.known) ((hS.bring (by repeat (first | exact t0 | apply tS))).getOwn.rd) ((hS.bring (by repeat (first | exact t0 | apply tS))).getOwn.rd) HQ1.out.k32 HQ1.out.k32 (b := true) (decide_eq_true (Eq.refl q1.known)))) ?_; clear hS; rintro r1 w ⟨rfl, hS⟩)
                | (go_at_call 22; (refine Ret.calls (qhas_s (p := p) (q := q1) (x := i) (hS.bring (by repeat (first | exact t0 | apply tS))) HI0.out (b := bb) HBB) ?_); clear hS; rintro r1 w ⟨rfl, hS⟩)
                | (go_at_call 23; refine Ret.calls (rhas_s (p := m) (lv := rlv) (wv := rwv) (L := q1.known) (x := i) (F := [.own 24 32 rwv (bys q1.waits), hQ p q1, .blk n3 24 (i.map B8)]) (hS.sel (by repeat (first | exact Sel.refl | refine Sel.take (by repeat (first | exact t0 | apply tS)) ?_ | apply Sel.drop))) HQ1.out.k32 HI0.out (b := bb) HBB) ?_; clear hS; rintro r1 w ⟨rfl, hS⟩)
                | (show wpList _ _ _ (⟨some 83, .binOp _ _ _ _ _, _, _, _, _⟩ :: _) _ _; refine wpList_val rfl (op_neBool rfl rfl rfl) ?_; go_frame)
                )
              refine segQ_mk (⟨((hS.bring (by repeat (first | exact t0 | apply tS))).getBlk), ((hS.bring (by repeat (first | exact t0 | apply tS))).getBlk)⟩ : Blk _ n3 24 (i.map B8) ∧ Blk _ m 42 [I64 64, rlv, rwv]) ?_
              refine ord_seg (by repeat (first | exact Clean.body | refine Clean.then ?_ | refine Clean.inBlock ?_ | refine SegQ.clean ?_ | refine FinC.clean ?_)) (n := 13) (rest := [[17, 18, 19, 20, 21, 23, 24, 25, 26, 22, 27, 28, 29]]) [16] [⟨_, _, _, _, _, _⟩] rfl (by kernel_rfl) (by simp) _ _ ?_
              go_wp2_with (first
                | go_big_skip
                | (go_at_call 20; (refine Ret.calls (qwaits_s (p := p) (q := q1) (hS.bring (by repeat (first | exact t0 | apply tS))) HQ1.out) ?_); clear hS; rintro wv w hS)
                | (go_at_call 21; (refine Ret.calls (qall_s (p := p) (q := q1) (hS.bring (by repeat (first | exact t0 | apply tS)))) ?_); clear hS; rintro av w hS)
                | (show wpList _ _ _ (⟨_, .load 31 _, _, _, _, _⟩ :: _) _ _; refine wpList_val rfl (op_load1S (b := m) (T := 42) oneHashes ((hS.bring (by repeat (first | exact t0 | apply tS)))) rfl rfl rfl) ?_; go_frame)
                | (show wpList _ _ _ (⟨_, .load 24 _, _, _, _, _⟩ :: _) _ _; refine wpList_val rfl (op_load aggHash rfl rfl (SepL.getBlk (b := n3) (T := 24) ((hS.bring (by repeat (first | exact t0 | apply tS))))).cells HI32.out) ?_; go_frame)
                | (have m1 := M1; clear m1; go_at_call 17; refine Ret.calls (hS.callNo (sameIds_w (v := wv) (u := rwv) (l := q1.waits) (m := q1.waits) ((hS.bring (by repeat (first | exact t0 | apply tS))).getOwn.rd) ((hS.bring (by repeat (first | exact t0 | apply tS))).getOwn.rd) HQ1.out.w32 HQ1.out.w32 (b := true) (decide_eq_true (Eq.refl q1.waits)))) ?_; clear hS M1; rintro r1 w ⟨rfl, hS⟩)
                | (go_at_call 17; refine Ret.calls (hS.callNo (sameIds_w (v := av) (u := rlv) (l := q1.known) (m := q1.known) ((hS.bring (by repeat (first | exact t0 | apply tS))).getOwn.rd) ((hS.bring (by repeat (first | exact t0 | apply tS))).getOwn.rd) HQ1.out.k32 HQ1.out.k32 (b := true) (decide_eq_true (Eq.refl q1.known)))) ?_; clear hS; rintro r1 w ⟨rfl, hS⟩)
                | (go_at_call 22; (refine Ret.calls (qhas_s (p := p) (q := q1) (x := i) (hS.bring (by repeat (first | exact t0 | apply tS))) HI0.out (b := bb) HBB) ?_); clear hS; rintro r1 w ⟨rfl, hS⟩)
                | (go_at_call 23; refine Ret.calls (rhas_s (p := m) (lv := rlv) (wv := rwv) (L := q1.known) (x := i) (F := [.own 24 32 rwv (bys q1.waits), hQ p q1, .blk n3 24 (i.map B8)]) (hS.sel (by repeat (first | exact Sel.refl | refine Sel.take (by repeat (first | exact t0 | apply tS)) ?_ | apply Sel.drop))) HQ1.out.k32 HI0.out (b := bb) HBB) ?_; clear hS; rintro r1 w ⟨rfl, hS⟩)
                | (show wpList _ _ _ (⟨some 83, .binOp _ _ _ _ _, _, _, _, _⟩ :: _) _ _; refine wpList_val rfl (op_neBool rfl rfl rfl) ?_; go_frame)
                )
              refine segQ_mk (⟨((hS.bring (by repeat (first | exact t0 | apply tS))).getBlk), ((hS.bring (by repeat (first | exact t0 | apply tS))).getBlk)⟩ : Blk _ n3 24 (i.map B8) ∧ Blk _ m 42 [I64 64, rlv, rwv]) ?_
              refine ord_seg (by repeat (first | exact Clean.body | refine Clean.then ?_ | refine Clean.inBlock ?_ | refine SegQ.clean ?_ | refine FinC.clean ?_)) (n := 3) (rest := [[27, 28, 29]]) [17, 18, 19, 20, 21, 23, 24, 25, 26, 22] [⟨_, _, _, _, _, _⟩, ⟨_, _, _, _, _, _⟩, ⟨_, _, _, _, _, _⟩, ⟨_, _, _, _, _, _⟩, ⟨_, _, _, _, _, _⟩, ⟨_, _, _, _, _, _⟩, ⟨_, _, _, _, _, _⟩, ⟨_, _, _, _, _, _⟩, ⟨_, _, _, _, _, _⟩, ⟨_, _, _, _, _, _⟩] rfl (by kernel_rfl) (by simp) _ _ ?_
              go_wp2_with (first
                | go_big_skip
                | (go_at_call 20; (refine Ret.calls (qwaits_s (p := p) (q := q1) (hS.bring (by repeat (first | exact t0 | apply tS))) HQ1.out) ?_); clear hS; rintro wv w hS)
                | (go_at_call 21; (refine Ret.calls (qall_s (p := p) (q := q1) (hS.bring (by repeat (first | exact t0 | apply tS)))) ?_); clear hS; rintro av w hS)
                | (show wpList _ _ _ (⟨_, .load 31 _, _, _, _, _⟩ :: _) _ _; refine wpList_val rfl (op_load1S (b := m) (T := 42) oneHashes ((hS.bring (by repeat (first | exact t0 | apply tS)))) rfl rfl rfl) ?_; go_frame)
                | (show wpList _ _ _ (⟨_, .load 24 _, _, _, _, _⟩ :: _) _ _; refine wpList_val rfl (op_load aggHash rfl rfl (SepL.getBlk (b := n3) (T := 24) ((hS.bring (by repeat (first | exact t0 | apply tS))))).cells HI32.out) ?_; go_frame)
                | (have m1 := M1; clear m1; go_at_call 17; refine Ret.calls (hS.callNo (sameIds_w (v := wv) (u := rwv) (l := q1.waits) (m := q1.waits) ((hS.bring (by repeat (first | exact t0 | apply tS))).getOwn.rd) ((hS.bring (by repeat (first | exact t0 | apply tS))).getOwn.rd) HQ1.out.w32 HQ1.out.w32 (b := true) (decide_eq_true (Eq.refl q1.waits)))) ?_; clear hS M1; rintro r1 w ⟨rfl, hS⟩)
                | (go_at_call 17; refine Ret.calls (hS.callNo (sameIds_w (v := av) (u := rlv) (l := q1.known) (m := q1.known) ((hS.bring (by repeat (first | exact t0 | apply tS))).getOwn.rd) ((hS.bring (by repeat (first | exact t0 | apply tS))).getOwn.rd) HQ1.out.k32 HQ1.out.k32 (b := true) (decide_eq_true (Eq.refl q1.known)))) ?_; clear hS; rintro r1 w ⟨rfl, hS⟩)
                | (go_at_call 22; (refine Ret.calls (qhas_s (p := p) (q := q1) (x := i) (hS.bring (by repeat (first | exact t0 | apply tS))) HI0.out (b := bb) HBB) ?_); clear hS; rintro r1 w ⟨rfl, hS⟩)
                | (go_at_call 23; refine Ret.calls (rhas_s (p := m) (lv := rlv) (wv := rwv) (L := q1.known) (x := i) (F := [.own 24 32 rwv (bys q1.waits), hQ p q1, .blk n3 24 (i.map B8)]) (hS.sel (by repeat (first | exact Sel.refl | refine Sel.take (by repeat (first | exact t0 | apply tS)) ?_ | apply Sel.drop))) HQ1.out.k32 HI0.out (b := bb) HBB) ?_; clear hS; rintro r1 w ⟨rfl, hS⟩)
                | (show wpList _ _ _ (⟨some 83, .binOp _ _ _ _ _, _, _, _, _⟩ :: _) _ _; refine wpList_val rfl (op_neBool rfl rfl rfl) ?_; go_frame)
                )
              refine segQ_mk (⟨((hS.bring (by repeat (first | exact t0 | apply tS))).getBlk), ((hS.bring (by repeat (first | exact t0 | apply tS))).getBlk)⟩ : Blk _ n3 24 (i.map B8) ∧ Blk _ m 42 [I64 64, rlv, rwv]) ?_
              refine ord_seg (by repeat (first | exact Clean.body | refine Clean.then ?_ | refine Clean.inBlock ?_ | refine SegQ.clean ?_ | refine FinC.clean ?_)) (n := 2) (rest := [[28, 29]]) [27] [⟨_, _, _, _, _, _⟩] rfl (by kernel_rfl) (by simp) _ _ ?_
              go_wp2_with (first
                | go_big_skip
                | (go_at_call 20; (refine Ret.calls (qwaits_s (p := p) (q := q1) (hS.bring (by repeat (first | exact t0 | apply tS))) HQ1.out) ?_); clear hS; rintro wv w hS)
                | (go_at_call 21; (refine Ret.calls (qall_s (p := p) (q := q1) (hS.bring (by repeat (first | exact t0 | apply tS)))) ?_); clear hS; rintro av w hS)
                | (show wpList _ _ _ (⟨_, .load 31 _, _, _, _, _⟩ :: _) _ _; refine wpList_val rfl (op_load1S (b := m) (T := 42) oneHashes ((hS.bring (by repeat (first | exact t0 | apply tS)))) rfl rfl rfl) ?_; go_frame)
                | (show wpList _ _ _ (⟨_, .load 24 _, _, _, _, _⟩ :: _) _ _; refine wpList_val rfl (op_load aggHash rfl rfl (SepL.getBlk (b := n3) (T := 24) ((hS.bring (by repeat (first | exact t0 | apply tS))))).cells HI32.out) ?_; go_frame)
                | (have m1 := M1; clear m1; go_at_call 17; refine Ret.calls (hS.callNo (sameIds_w (v := wv) (u := rwv) (l := q1.waits) (m := q1.waits) ((hS.bring (by repeat (first | exact t0 | apply tS))).getOwn.rd) ((hS.bring (by repeat (first | exact t0 | apply tS))).getOwn.rd) HQ1.out.w32 HQ1.out.w32 (b := true) (decide_eq_true (Eq.refl q1.waits)))) ?_; clear hS M1; rintro r1 w ⟨rfl, hS⟩)
                | (go_at_call 17; refine Ret.calls (hS.callNo (sameIds_w (v := av) (u := rlv) (l := q1.known) (m := q1.known) ((hS.bring (by repeat (first | exact t0 | apply tS))).getOwn.rd) ((hS.bring (by repeat (first | exact t0 | apply tS))).getOwn.rd) HQ1.out.k32 HQ1.out.k32 (b := true) (decide_eq_true (Eq.refl q1.known)))) ?_; clear hS; rintro r1 w ⟨rfl, hS⟩)
                | (go_at_call 22; (refine Ret.calls (qhas_s (p := p) (q := q1) (x := i) (hS.bring (by repeat (first | exact t0 | apply tS))) HI0.out (b := bb) HBB) ?_); clear hS; rintro r1 w ⟨rfl, hS⟩)
                | (go_at_call 23; refine Ret.calls (rhas_s (p := m) (lv := rlv) (wv := rwv) (L := q1.known) (x := i) (F := [.own 24 32 rwv (bys q1.waits), hQ p q1, .blk n3 24 (i.map B8)]) (hS.sel (by repeat (first | exact Sel.refl | refine Sel.take (by repeat (first | exact t0 | apply tS)) ?_ | apply Sel.drop))) HQ1.out.k32 HI0.out (b := bb) HBB) ?_; clear hS; rintro r1 w ⟨rfl, hS⟩)
                | (show wpList _ _ _ (⟨some 83, .binOp _ _ _ _ _, _, _, _, _⟩ :: _) _ _; refine wpList_val rfl (op_neBool rfl rfl rfl) ?_; go_frame)
                )
              refine segQ_mk (⟨((hS.bring (by repeat (first | exact t0 | apply tS))).getBlk), ((hS.bring (by repeat (first | exact t0 | apply tS))).getBlk)⟩ : Blk _ n3 24 (i.map B8) ∧ Blk _ m 42 [I64 64, rlv, rwv]) ?_
              refine ord_seg (by repeat (first | exact Clean.body | refine Clean.then ?_ | refine Clean.inBlock ?_ | refine SegQ.clean ?_ | refine FinC.clean ?_)) (n := 0) (rest := [[]]) [28, 29] [⟨_, _, _, _, _, _⟩, ⟨_, _, _, _, _, _⟩] rfl (by kernel_rfl) (by simp) _ _ ?_
              go_wp2_with (first
                | go_big_skip
                | (go_at_call 20; (refine Ret.calls (qwaits_s (p := p) (q := q1) (hS.bring (by repeat (first | exact t0 | apply tS))) HQ1.out) ?_); clear hS; rintro wv w hS)
                | (go_at_call 21; (refine Ret.calls (qall_s (p := p) (q := q1) (hS.bring (by repeat (first | exact t0 | apply tS)))) ?_); clear hS; rintro av w hS)
                | (show wpList _ _ _ (⟨_, .load 31 _, _, _, _, _⟩ :: _) _ _; refine wpList_val rfl (op_load1S (b := m) (T := 42) oneHashes ((hS.bring (by repeat (first | exact t0 | apply tS)))) rfl rfl rfl) ?_; go_frame)
                | (show wpList _ _ _ (⟨_, .load 24 _, _, _, _, _⟩ :: _) _ _; refine wpList_val rfl (op_load aggHash rfl rfl (SepL.getBlk (b := n3) (T := 24) ((hS.bring (by repeat (first | exact t0 | apply tS))))).cells HI32.out) ?_; go_frame)
                | (have m1 := M1; clear m1; go_at_call 17; refine Ret.calls (hS.callNo (sameIds_w (v := wv) (u := rwv) (l := q1.waits) (m := q1.waits) ((hS.bring (by repeat (first | exact t0 | apply tS))).getOwn.rd) ((hS.bring (by repeat (first | exact t0 | apply tS))).getOwn.rd) HQ1.out.w32 HQ1.out.w32 (b := true) (decide_eq_true (Eq.refl q1.waits)))) ?_; clear hS M1; rintro r1 w ⟨rfl, hS⟩)
                | (go_at_call 17; refine Ret.calls (hS.callNo (sameIds_w (v := av) (u := rlv) (l := q1.known) (m := q1.known) ((hS.bring (by repeat (first | exact t0 | apply tS))).getOwn.rd) ((hS.bring (by repeat (first | exact t0 | apply tS))).getOwn.rd) HQ1.out.k32 HQ1.out.k32 (b := true) (decide_eq_true (Eq.refl q1.known)))) ?_; clear hS; rintro r1 w ⟨rfl, hS⟩)
                | (go_at_call 22; (refine Ret.calls (qhas_s (p := p) (q := q1) (x := i) (hS.bring (by repeat (first | exact t0 | apply tS))) HI0.out (b := bb) HBB) ?_); clear hS; rintro r1 w ⟨rfl, hS⟩)
                | (go_at_call 23; refine Ret.calls (rhas_s (p := m) (lv := rlv) (wv := rwv) (L := q1.known) (x := i) (F := [.own 24 32 rwv (bys q1.waits), hQ p q1, .blk n3 24 (i.map B8)]) (hS.sel (by repeat (first | exact Sel.refl | refine Sel.take (by repeat (first | exact t0 | apply tS)) ?_ | apply Sel.drop))) HQ1.out.k32 HI0.out (b := bb) HBB) ?_; clear hS; rintro r1 w ⟨rfl, hS⟩)
                | (show wpList _ _ _ (⟨some 83, .binOp _ _ _ _ _, _, _, _, _⟩ :: _) _ _; refine wpList_val rfl (op_neBool rfl rfl rfl) ?_; go_frame)
                )
              refine segQ_mk (⟨((hS.bring (by repeat (first | exact t0 | apply tS))).getBlk), ((hS.bring (by repeat (first | exact t0 | apply tS))).getBlk)⟩ : Blk _ n3 24 (i.map B8) ∧ Blk _ m 42 [I64 64, rlv, rwv]) ?_
              refine finC_mk (by kernel_rfl) (by
                intro t ht
                simp only [List.mem_cons, List.not_mem_nil, or_false] at ht
                rcases ht with rfl | rfl | rfl
                · exact stab_blk (b := n3) (fun w h => h.1) _ none
                · exact stab_blk (b := m) (fun w h => h.2) _ none
                · exact stab_blk (b := m) (fun w h => h.2) _ none) ?_
              go_wp2_with fail
              go_roundw
              case rel =>
                have h1 := hR_close (q := q1) (hS.sel (by repeat (first | exact Sel.refl | refine Sel.take (by repeat (first | exact t0 | apply tS)) ?_ | apply Sel.drop)) : SepL All W _ (.blk m 42 [I64 64, rlv, rwv] :: .own 24 32 rlv (bys q1.known) :: .own 24 32 rwv (bys q1.waits) :: [hQ p q1, .blk n3 24 (i.map B8)]))
                refine ⟨k + 1, by go_num, by omega, ?_⟩
                rw [HSN.out]
                exact h1.sel (by repeat (first | exact Sel.refl | refine Sel.take (by repeat (first | exact t0 | apply tS)) ?_ | apply Sel.drop))
              case measure => simp [intOf]; omega
            · have HK2 := eqF h2
              have HRA := hide (run_3 (q := q) h0 h1 h2)
              clear h0 h1 h2
              go_wp2_with (first
                | (show wpList _ _ _ (⟨some 19, .indexAddr _ _ _, _, _, _, _⟩ :: _) _ _; refine wpList_val rfl (op_indexAddr slAct rfl (v := v) (xs := L.map aC) rfl (k := k) rfl (by exact hS.rd hv.rd) hlk) ?_; go_frame)
                | (show wpList _ _ _ (⟨some 20, .load _ _, _, _, _, _⟩ :: _) _ _; refine wpList_val rfl (op_loadE aggAct rfl (v := v) (xs := L.map aC) (k := k) rfl (by exact hS.rd hv.rd) hlk) ?_; rw [HX.out]; go_frame)
                | (show wpList _ _ _ (⟨_, .alloc 33, _, _, _, _⟩ :: _) _ _; refine wpS_alloc hS rfl rfl Try.zeroValue33 (zs := [.int .i64 0, .slice none 0 0]) rfl ?_; clear hS; intro nb w hS; go_frame)
                | (show wpList _ _ _ (⟨_, .store 33 _ _, _, _, _, _⟩ :: _) _ _; (refine wpS_storeAll (b := nb) aggAct (hS.bring (by repeat (first | exact t0 | apply tS))) rfl rfl rfl (vs := aC (u, s)) rfl rfl HUF.out rfl ?_); clear hS; intro w hS; go_frame)
                | (show wpList _ _ _ (⟨_, .load 3 _, _, _, _, _⟩ :: _) _ _; refine wpList_val rfl (op_load1S (b := nb) (T := 33) oneInt ((hS.bring (by repeat (first | exact t0 | apply tS)))) rfl rfl rfl) ?_; go_frame)
                | (show wpList _ _ _ (⟨_, .load 31 _, _, _, _, _⟩ :: _) _ _; refine wpList_val rfl (op_load1S (b := nb) (T := 33) oneHashes ((hS.bring (by repeat (first | exact t0 | apply tS)))) rfl rfl rfl) ?_; go_frame)
                | (show wpList _ _ _ (⟨some 24, .binOp _ _ _ _ _, _, _, _, _⟩ :: _) _ _; refine wpList_val rfl (op_eqI' rfl rfl rfl HK0.out) ?_; go_frame)
                | (show wpList _ _ _ (⟨some 34, .binOp _ _ _ _ _, _, _, _, _⟩ :: _) _ _; refine wpList_val rfl (op_eqI' rfl rfl rfl HK1.out) ?_; go_frame)
                | (show wpList _ _ _ (⟨some 44, .binOp _ _ _ _ _, _, _, _, _⟩ :: _) _ _; refine wpList_val rfl (op_eqI' rfl rfl rfl HK2.out) ?_; go_frame)
                | (go_at_call 13; (refine Ret.calls (qput_s (p := p) (q0 := q) (hS.bring (by repeat (first | exact t0 | apply tS))) HQO.out HUR.out HS32.out) ?_); clear hS; rintro r1 w hS)
                | (go_at_call 14; (refine Ret.calls (rqput_s (p := m) (q0 := q) (hS.bring (by repeat (first | exact t0 | apply tS))) HQO.out HUR.out HS32.out) ?_); clear hS; rintro r1 w hS)
                | (go_at_call 15; (refine Ret.calls (qlearn_s (p := p) (q := q) (hS.bring (by repeat (first | exact t0 | apply tS))) HQO.out HUR.out HS32.out HFEW.out) ?_); clear hS; rintro r1 w hS)
                | (go_at_call 16; (refine Ret.calls (rqlearn_s (p := m) (q0 := q) (hS.bring (by repeat (first | exact t0 | apply tS))) HQO.out HUR.out HS32.out) ?_); clear hS; rintro r1 w hS)
                )
              rw [← HRA.out, HQ1E.out] at hS
              obtain ⟨M1, hM1⟩ : ∃ m : Nat, m = 0 := ⟨0, rfl⟩
              clear hM1
              obtain ⟨rlv, rwv, hS9⟩ := hR_open (hS.sel (by repeat (first | exact Sel.refl | refine Sel.take (by repeat (first | exact t0 | apply tS)) ?_ | apply Sel.drop)) : SepL All W _ [hR m q1, hQ p q1, .blk n3 24 (i.map B8)])
              clear hS
              have hS := hS9
              clear hS9
              go_wp2_with fail
              refine wp_region_ord (by kernel_rfl) [3, 59, 69] [[0, 2, 3, 4, 5, 1, 6, 7, 8, 9, 11, 12, 13, 14, 15, 10, 16, 17, 18, 19, 20, 21, 23, 24, 25, 26, 22, 27, 28, 29]] (by kernel_rfl) (by kernel_rfl) (fun w' => Blk w' n3 24 (i.map B8) ∧ Blk w' m 42 [I64 64, rlv, rwv]) (Up.and Up.blk Up.blk) ⟨((hS.bring (by repeat (first | exact t0 | apply tS))).getBlk), ((hS.bring (by repeat (first | exact t0 | apply tS))).getBlk)⟩ (by repeat (first | exact Clean.body | refine Clean.then ?_ | refine Clean.inBlock ?_ | refine SegQ.clean ?_ | refine FinC.clean ?_)) ?_
              replace hS := hS.drew
              refine ord_seg (by repeat (first | exact Clean.body | refine Clean.then ?_ | refine Clean.inBlock ?_ | refine SegQ.clean ?_ | refine FinC.clean ?_)) (n := 24) (rest := [[6, 7, 8, 9, 11, 12, 13, 14, 15, 10, 16, 17, 18, 19, 20, 21, 23, 24, 25, 26, 22, 27, 28, 29]]) [0, 2, 3, 4, 5, 1] [⟨_, _, _, _, _, _⟩, ⟨_, _, _, _, _, _⟩, ⟨_, _, _, _, _, _⟩, ⟨_, _, _, _, _, _⟩, ⟨_, _, _, _, _, _⟩, ⟨_, _, _, _, _, _⟩] rfl (by kernel_rfl) (by simp) _ _ ?_
              go_wp2_with (first
                | go_big_skip
                | (go_at_call 20; (refine Ret.calls (qwaits_s (p := p) (q := q1) (hS.bring (by repeat (first | exact t0 | apply tS))) HQ1.out) ?_); clear hS; rintro wv w hS)
                | (go_at_call 21; (refine Ret.calls (qall_s (p := p) (q := q1) (hS.bring (by repeat (first | exact t0 | apply tS)))) ?_); clear hS; rintro av w hS)
                | (show wpList _ _ _ (⟨_, .load 31 _, _, _, _, _⟩ :: _) _ _; refine wpList_val rfl (op_load1S (b := m) (T := 42) oneHashes ((hS.bring (by repeat (first | exact t0 | apply tS)))) rfl rfl rfl) ?_; go_frame)
                | (show wpList _ _ _ (⟨_, .load 24 _, _, _, _, _⟩ :: _) _ _; refine wpList_val rfl (op_load aggHash rfl rfl (SepL.getBlk (b := n3) (T := 24) ((hS.bring (by repeat (first | exact t0 | apply tS))))).cells HI32.out) ?_; go_frame)
                | (have m1 := M1; clear m1; go_at_call 17; refine Ret.calls (hS.callNo (sameIds_w (v := wv) (u := rwv) (l := q1.waits) (m := q1.waits) ((hS.bring (by repeat (first | exact t0 | apply tS))).getOwn.rd) ((hS.bring (by repeat (first | exact t0 | apply tS))).getOwn.rd) HQ1.out.w32 HQ1.out.w32 (b := true) (decide_eq_true (Eq.refl q1.waits)))) ?_; clear hS M1; rintro r1 w ⟨rfl, hS⟩)
                | (go_at_call 17; refine Ret.calls (hS.callNo (sameIds_w (v := av) (u := rlv) (l := q1.known) (m := q1.known) ((hS.bring (by repeat (first | exact t0 | apply tS))).getOwn.rd) ((hS.bring (by repeat (first | exact t0 | apply tS))).getOwn.rd) HQ1.out.k32 HQ1.out.k32 (b := true) (decide_eq_true (Eq.refl q1.known)))) ?_; clear hS; rintro r1 w ⟨rfl, hS⟩)
                | (go_at_call 22; (refine Ret.calls (qhas_s (p := p) (q := q1) (x := i) (hS.bring (by repeat (first | exact t0 | apply tS))) HI0.out (b := bb) HBB) ?_); clear hS; rintro r1 w ⟨rfl, hS⟩)
                | (go_at_call 23; refine Ret.calls (rhas_s (p := m) (lv := rlv) (wv := rwv) (L := q1.known) (x := i) (F := [.own 24 32 rwv (bys q1.waits), hQ p q1, .blk n3 24 (i.map B8)]) (hS.sel (by repeat (first | exact Sel.refl | refine Sel.take (by repeat (first | exact t0 | apply tS)) ?_ | apply Sel.drop))) HQ1.out.k32 HI0.out (b := bb) HBB) ?_; clear hS; rintro r1 w ⟨rfl, hS⟩)
                | (show wpList _ _ _ (⟨some 83, .binOp _ _ _ _ _, _, _, _, _⟩ :: _) _ _; refine wpList_val rfl (op_neBool rfl rfl rfl) ?_; go_frame)
                )
              refine segQ_mk (⟨((hS.bring (by repeat (first | exact t0 | apply tS))).getBlk), ((hS.bring (by repeat (first | exact t0 | apply tS))).getBlk)⟩ : Blk _ n3 24 (i.map B8) ∧ Blk _ m 42 [I64 64, rlv, rwv]) ?_
              refine ord_seg (by repeat (first | exact Clean.body | refine Clean.then ?_ | refine Clean.inBlock ?_ | refine SegQ.clean ?_ | refine FinC.clean ?_)) (n := 23) (rest := [[7, 8, 9, 11, 12, 13, 14, 15, 10, 16, 17, 18, 19, 20, 21, 23, 24, 25, 26, 22, 27, 28, 29]]) [6] [⟨_, _, _, _, _, _⟩] rfl (by kernel_rfl) (by simp) _ _ ?_
              go_wp2_with (first
                | go_big_skip
                | (go_at_call 20; (refine Ret.calls (qwaits_s (p := p) (q := q1) (hS.bring (by repeat (first | exact t0 | apply tS))) HQ1.out) ?_); clear hS; rintro wv w hS)
                | (go_at_call 21; (refine Ret.calls (qall_s (p := p) (q := q1) (hS.bring (by repeat (first | exact t0 | apply tS)))) ?_); clear hS; rintro av w hS)
                | (show wpList _ _ _ (⟨_, .load 31 _, _, _, _, _⟩ :: _) _ _; refine wpList_val rfl (op_load1S (b := m) (T := 42) oneHashes ((hS.bring (by repeat (first | exact t0 | apply tS)))) rfl rfl rfl) ?_; go_frame)
                | (show wpList _ _ _ (⟨_, .load 24 _, _, _, _, _⟩ :: _) _ _; refine wpList_val rfl (op_load aggHash rfl rfl (SepL.getBlk (b := n3) (T := 24) ((hS.bring (by repeat (first | exact t0 | apply tS))))).cells HI32.out) ?_; go_frame)
                | (have m1 := M1; clear m1; go_at_call 17; refine Ret.calls (hS.callNo (sameIds_w (v := wv) (u := rwv) (l := q1.waits) (m := q1.waits) ((hS.bring (by repeat (first | exact t0 | apply tS))).getOwn.rd) ((hS.bring (by repeat (first | exact t0 | apply tS))).getOwn.rd) HQ1.out.w32 HQ1.out.w32 (b := true) (decide_eq_true (Eq.refl q1.waits)))) ?_; clear hS M1; rintro r1 w ⟨rfl, hS⟩)
                | (go_at_call 17; refine Ret.calls (hS.callNo (sameIds_w (v := av) (u := rlv) (l := q1.known) (m := q1.known) ((hS.bring (by repeat (first | exact t0 | apply tS))).getOwn.rd) ((hS.bring (by repeat (first | exact t0 | apply tS))).getOwn.rd) HQ1.out.k32 HQ1.out.k32 (b := true) (decide_eq_true (Eq.refl q1.known)))) ?_; clear hS; rintro r1 w ⟨rfl, hS⟩)
                | (go_at_call 22; (refine Ret.calls (qhas_s (p := p) (q := q1) (x := i) (hS.bring (by repeat (first | exact t0 | apply tS))) HI0.out (b := bb) HBB) ?_); clear hS; rintro r1 w ⟨rfl, hS⟩)
                | (go_at_call 23; refine Ret.calls (rhas_s (p := m) (lv := rlv) (wv := rwv) (L := q1.known) (x := i) (F := [.own 24 32 rwv (bys q1.waits), hQ p q1, .blk n3 24 (i.map B8)]) (hS.sel (by repeat (first | exact Sel.refl | refine Sel.take (by repeat (first | exact t0 | apply tS)) ?_ | apply Sel.drop))) HQ1.out.k32 HI0.out (b := bb) HBB) ?_; clear hS; rintro r1 w ⟨rfl, hS⟩)
                | (show wpList _ _ _ (⟨some 83, .binOp _ _ _ _ _, _, _, _, _⟩ :: _) _ _; refine wpList_val rfl (op_neBool rfl rfl rfl) ?_; go_frame)
                )
              refine segQ_mk (⟨((hS.bring (by repeat (first | exact t0 | apply tS))).getBlk), ((hS.bring (by repeat (first | exact t0 | apply tS))).getBlk)⟩ : Blk _ n3 24 (i.map B8) ∧ Blk _ m 42 [I64 64, rlv, rwv]) ?_
              refine ord_seg (by repeat (first | exact Clean.body | refine Clean.then ?_ | refine Clean.inBlock ?_ | refine SegQ.clean ?_ | refine FinC.clean ?_)) (n := 14) (rest := [[16, 17, 18, 19, 20, 21, 23, 24, 25, 26, 22, 27, 28, 29]]) [7, 8, 9, 11, 12, 13, 14, 15, 10] [⟨_, _, _, _, _, _⟩, ⟨_, _, _, _, _, _⟩, ⟨_, _, _, _, _, _⟩, ⟨_, _, _, _, _, _⟩, ⟨_, _, _, _, _, _⟩, ⟨_, _, _, _, _, _⟩, ⟨_, _, _, _, _, _⟩, ⟨_, _, _, _, _, _⟩, ⟨_, _, _, _, _, _⟩] rfl (by kernel_rfl) (by simp) _ _ ?_
              go_wp2_with (first
                | go_big_skip
                | (go_at_call 20; (refine Ret.calls (qwaits_s (p := p) (q := q1) (hS.bring (by repeat (first | exact t0 | apply tS))) HQ1.out) ?_); clear hS; rintro wv w hS)
                | (go_at_call 21; (refine Ret.calls (qall_s (p := p) (q := q1) (hS.bring (by repeat (first | exact t0 | apply tS)))) ?_); clear hS; rintro av w hS)
                | (show wpList _ _ _ (⟨_, .load 31 _, _, _, _, _⟩ :: _) _ _; refine wpList_val rfl (op_load1S (b := m) (T := 42) oneHashes ((hS.bring (by repeat (first | exact t0 | apply tS)))) rfl rfl rfl) ?_; go_frame)
                | (show wpList _ _ _ (⟨_, .load 24 _, _, _, _, _⟩ :: _) _ _; refine wpList_val rfl (op_load aggHash rfl rfl (SepL.getBlk (b := n3) (T := 24) ((hS.bring (by repeat (first | exact t0 | apply tS))))).cells HI32.out) ?_; go_frame)
                | (have m1 := M1; clear m1; go_at_call 17; refine Ret.calls (hS.callNo (sameIds_w (v := wv) (u := rwv) (l := q1.waits) (m := q1.waits) ((hS.bring (by repeat (first | exact t0 | apply tS))).getOwn.rd) ((hS.bring (by repeat (first | exact t0 | apply tS))).getOwn.rd) HQ1.out.w32 HQ1.out.w32 (b := true) (decide_eq_true (Eq.refl q1.waits)))) ?_; clear hS M1; rintro r1 w ⟨rfl, hS⟩)
                | (go_at_call 17; refine Ret.calls (hS.callNo (sameIds_w (v := av) (u := rlv) (l := q1.known) (m := q1.known) ((hS.bring (by repeat (first | exact t0 | apply tS))).getOwn.rd) ((hS.bring (by repeat (first | exact t0 | apply tS))).getOwn.rd) HQ1.out.k32 HQ1.out.k32 (b := true) (decide_eq_true (Eq.refl q1.known)))) ?_; clear hS; rintro r1 w ⟨rfl, hS⟩)
                | (go_at_call 22; (refine Ret.calls (qhas_s (p := p) (q := q1) (x := i) (hS.bring (by repeat (first | exact t0 | apply tS))) HI0.out (b := bb) HBB) ?_); clear hS; rintro r1 w ⟨rfl, hS⟩)
                | (go_at_call 23; refine Ret.calls (rhas_s (p := m) (lv := rlv) (wv := rwv) (L := q1.known) (x := i) (F := [.own 24 32 rwv (bys q1.waits), hQ p q1, .blk n3 24 (i.map B8)]) (hS.sel (by repeat (first | exact Sel.refl | refine Sel.take (by repeat (first | exact t0 | apply tS)) ?_ | apply Sel.drop))) HQ1.out.k32 HI0.out (b := bb) HBB) ?_; clear hS; rintro r1 w ⟨rfl, hS⟩)
                | (show wpList _ _ _ (⟨some 83, .binOp _ _ _ _ _, _, _, _, _⟩ :: _) _ _; refine wpList_val rfl (op_neBool rfl rfl rfl) ?_; go_frame)
                )
              refine segQ_mk (⟨((hS.bring (by repeat (first | exact t0 | apply tS))).getBlk), ((hS.bring (by repeat (first | exact t0 | apply tS))).getBlk)⟩ : Blk _ n3 24 (i.map B8) ∧ Blk _ m 42 [I64 64, rlv, rwv]) ?_
              refine ord_seg (by repeat (first | exact Clean.body | refine Clean.then ?_ | refine Clean.inBlock ?_ | refine SegQ.clean ?_ | refine FinC.clean ?_)) (n := 13) (rest := [[17, 18, 19, 20, 21, 23, 24, 25, 26, 22, 27, 28, 29]]) [16] [⟨_, _, _, _, _, _⟩] rfl (by kernel_rfl) (by simp) _ _ ?_
              go_wp2_with (first
                | go_big_skip
                | (go_at_call 20; (refine Ret.calls (qwaits_s (p := p) (q := q1) (hS.bring (by repeat (first | exact t0 | apply tS))) HQ1.out) ?_); clear hS; rintro wv w hS)
                | (go_at_call 21; (refine Ret.calls (qall_s (p := p) (q := q1) (hS.bring (by repeat (first | exact t0 | apply tS)))) ?_); clear hS; rintro av w hS)
                | (show wpList _ _ _ (⟨_, .load 31 _, _, _, _, _⟩ :: _) _ _; refine wpList_val rfl (op_load1S (b := m) (T := 42) oneHashes ((hS.bring (by repeat (first | exact t0 | apply tS)))) rfl rfl rfl) ?_; go_frame)
                | (show wpList _ _ _ (⟨_, .load 24 _, _, _, _, _⟩ :: _) _ _; refine wpList_val rfl (op_load aggHash rfl rfl (SepL.getBlk (b := n3) (T := 24) ((hS.bring (by repeat (first | exact t0 | apply tS))))).cells HI32.out) ?_; go_frame)
                | (have m1 := M1; clear m1; go_at_call 17; refine Ret.calls (hS.callNo (sameIds_w (v := wv) (u := rwv) (l := q1.waits) (m := q1.waits) ((hS.bring (by repeat (first | exact t0 | apply tS))).getOwn.rd) ((hS.bring (by repeat (first | exact t0 | apply tS))).getOwn.rd) HQ1.out.w32 HQ1.out.w32 (b := true) (decide_eq_true (Eq.refl q1.waits)))) ?_; clear hS M1; rintro r1 w ⟨rfl, hS⟩)
                | (go_at_call 17; refine Ret.calls (hS.callNo (sameIds_w (v := av) (u := rlv) (l := q1.known) (m := q1.known) ((hS.bring (by repeat (first | exact t0 | apply tS))).getOwn.rd) ((hS.bring (by repeat (first | exact t0 | apply tS))).getOwn.rd) HQ1.out.k32 HQ1.out.k32 (b := true) (decide_eq_true (Eq.refl q1.known)))) ?_; clear hS; rintro r1 w ⟨rfl, hS⟩)
                | (go_at_call 22; (refine Ret.calls (qhas_s (p := p) (q := q1) (x := i) (hS.bring (by repeat (first | exact t0 | apply tS))) HI0.out (b := bb) HBB) ?_); clear hS; rintro r1 w ⟨rfl, hS⟩)
                | (go_at_call 23; refine Ret.calls (rhas_s (p := m) (lv := rlv) (wv := rwv) (L := q1.known) (x := i) (F := [.own 24 32 rwv (bys q1.waits), hQ p q1, .blk n3 24 (i.map B8)]) (hS.sel (by repeat (first | exact Sel.refl | refine Sel.take (by repeat (first | exact t0 | apply tS)) ?_ | apply Sel.drop))) HQ1.out.k32 HI0.out (b := bb) HBB) ?_; clear hS; rintro r1 w ⟨rfl, hS⟩)
                | (show wpList _ _ _ (⟨some 83, .binOp _ _ _ _ _, _, _, _, _⟩ :: _) _ _; refine wpList_val rfl (op_neBool rfl rfl rfl) ?_; go_frame)
                )
              refine segQ_mk (⟨((hS.bring (by repeat (first | exact t0 | apply tS))).getBlk), ((hS.bring (by repeat (first | exact t0 | apply tS))).getBlk)⟩ : Blk _ n3 24 (i.map B8) ∧ Blk _ m 42 [I64 64, rlv, rwv]) ?_
              refine ord_seg (by repeat (first | exact Clean.body | refine Clean.then ?_ | refine Clean.inBlock ?_ | refine SegQ.clean ?_ | refine FinC.clean ?_)) (n := 3) (rest := [[27, 28, 29]]) [17, 18, 19, 20, 21, 23, 24, 25, 26, 22] [⟨_, _, _, _, _, _⟩, ⟨_, _, _, _, _, _⟩, ⟨_, _, _, _, _, _⟩, ⟨_, _, _, _, _, _⟩, ⟨_, _, _, _, _, _⟩, ⟨_, _, _, _, _, _⟩, ⟨_, _, _, _, _, _⟩, ⟨_, _, _, _, _, _⟩, ⟨_, _, _, _, _, _⟩, ⟨_, _, _, _, _, _⟩] rfl (by kernel_rfl) (by simp) _ _ ?_
              go_wp2_with (first
                | go_big_skip
                | (go_at_call 20; (refine Ret.calls (qwaits_s (p := p) (q := q1) (hS.bring (by repeat (first | exact t0 | apply tS))) HQ1.out) ?_); clear hS; rintro wv w hS)
                | (go_at_call 21; (refine Ret.calls (qall_s (p := p) (q := q1) (hS.bring (by repeat (first | exact t0 | apply tS)))) ?_); clear hS; rintro av w hS)
                | (show wpList _ _ _ (⟨_, .load 31 _, _, _, _, _⟩ :: _) _ _; refine wpList_val rfl (op_load1S (b := m) (T := 42) oneHashes ((hS.bring (by repeat (first | exact t0 | apply tS)))) rfl rfl rfl) ?_; go_frame)
                | (show wpList _ _ _ (⟨_, .load 24 _, _, _, _, _⟩ :: _) _ _; refine wpList_val rfl (op_load aggHash rfl rfl (SepL.getBlk (b := n3) (T := 24) ((hS.bring (by repeat (first | exact t0 | apply tS))))).cells HI32.out) ?_; go_frame)
                | (have m1 := M1; clear m1; go_at_call 17; refine Ret.calls (hS.callNo (sameIds_w (v := wv) (u := rwv) (l := q1.waits) (m := q1.waits) ((hS.bring (by repeat (first | exact t0 | apply tS))).getOwn.rd) ((hS.bring (by repeat (first | exact t0 | apply tS))).getOwn.rd) HQ1.out.w32 HQ1.out.w32 (b := true) (decide_eq_true (Eq.refl q1.waits)))) ?_; clear hS M1; rintro r1 w ⟨rfl, hS⟩)
                | (go_at_call 17; refine Ret.calls (hS.callNo (sameIds_w (v := av) (u := rlv) (l := q1.known) (m := q1.known) ((hS.bring (by repeat (first | exact t0 | apply tS))).getOwn.rd) ((hS.bring (by repeat (first | exact t0 | apply tS))).getOwn.rd) HQ1.out.k32 HQ1.out.k32 (b := true) (decide_eq_true (Eq.refl q1.known)))) ?_; clear hS; rintro r1 w ⟨rfl, hS⟩)
                | (go_at_call 22; (refine Ret.calls (qhas_s (p := p) (q := q1) (x := i) (hS.bring (by repeat (first | exact t0 | apply tS))) HI0.out (b := bb) HBB) ?_); clear hS; rintro r1 w ⟨rfl, hS⟩)
                | (go_at_call 23; refine Ret.calls (rhas_s (p := m) (lv := rlv) (wv := rwv) (L := q1.known) (x := i) (F := [.own 24 32 rwv (bys q1.waits), hQ p q1, .blk n3 24 (i.map B8)]) (hS.sel (by repeat (first | exact Sel.refl | refine Sel.take (by repeat (first | exact t0 | apply tS)) ?_ | apply Sel.drop))) HQ1.out.k32 HI0.out (b := bb) HBB) ?_; clear hS; rintro r1 w ⟨rfl, hS⟩)
                | (show wpList _ _ _ (⟨some 83, .binOp _ _ _ _ _, _, _, _, _⟩ :: _) _ _; refine wpList_val rfl (op_neBool rfl rfl rfl) ?_; go_frame)
                )
              refine segQ_mk (⟨((hS.bring (by repeat (first | exact t0 | apply tS))).getBlk), ((hS.bring (by repeat (first | exact t0 | apply tS))).getBlk)⟩ : Blk _ n3 24 (i.map B8) ∧ Blk _ m 42 [I64 64, rlv, rwv]) ?_
              refine ord_seg (by repeat (first | exact Clean.body | refine Clean.then ?_ | refine Clean.inBlock ?_ | refine SegQ.clean ?_ | refine FinC.clean ?_)) (n := 2) (rest := [[28, 29]]) [27] [⟨_, _, _, _, _, _⟩] rfl (by kernel_rfl) (by simp) _ _ ?_
              go_wp2_with (first
                | go_big_skip
                | (go_at_call 20; (refine Ret.calls (qwaits_s (p := p) (q := q1) (hS.bring (by repeat (first | exact t0 | apply tS))) HQ1.out) ?_); clear hS; rintro wv w hS)
                | (go_at_call 21; (refine Ret.calls (qall_s (p := p) (q := q1) (hS.bring (by repeat (first | exact t0 | apply tS)))) ?_); clear hS; rintro av w hS)
                | (show wpList _ _ _ (⟨_, .load 31 _, _, _, _, _⟩ :: _) _ _; refine wpList_val rfl (op_load1S (b := m) (T := 42) oneHashes ((hS.bring (by repeat (first | exact t0 | apply tS)))) rfl rfl rfl) ?_; go_frame)
                | (show wpList _ _ _ (⟨_, .load 24 _, _, _, _, _⟩ :: _) _ _; refine wpList_val rfl (op_load aggHash rfl rfl (SepL.getBlk (b := n3) (T := 24) ((hS.bring (by repeat (first | exact t0 | apply tS))))).cells HI32.out) ?_; go_frame)
                | (have m1 := M1; clear m1; go_at_call 17; refine Ret.calls (hS.callNo (sameIds_w (v := wv) (u := rwv) (l := q1.waits) (m := q1.waits) ((hS.bring (by repeat (first | exact t0 | apply tS))).getOwn.rd) ((hS.bring (by repeat (first | exact t0 | apply tS))).getOwn.rd) HQ1.out.w32 HQ1.out.w32 (b := true) (decide_eq_true (Eq.refl q1.waits)))) ?_; clear hS M1; rintro r1 w ⟨rfl, hS⟩)
                | (go_at_call 17; refine Ret.calls (hS.callNo (sameIds_w (v := av) (u := rlv) (l := q1.known) (m := q1.known) ((hS.bring (by repeat (first | exact t0 | apply tS))).getOwn.rd) ((hS.bring (by repeat (first | exact t0 | apply tS))).getOwn.rd) HQ1.out.k32 HQ1.out.k32 (b := true) (decide_eq_true (Eq.refl q1.known)))) ?_; clear hS; rintro r1 w ⟨rfl, hS⟩)
                | (go_at_call 22; (refine Ret.calls (qhas_s (p := p) (q := q1) (x := i) (hS.bring (by repeat (first | exact t0 | apply tS))) HI0.out (b := bb) HBB) ?_); clear hS; rintro r1 w ⟨rfl, hS⟩)
                | (go_at_call 23; refine Ret.calls (rhas_s (p := m) (lv := rlv) (wv := rwv) (L := q1.known) (x := i) (F := [.own 24 32 rwv (bys q1.waits), hQ p q1, .blk n3 24 (i.map B8)]) (hS.sel (by repeat (first | exact Sel.refl | refine Sel.take (by repeat (first | exact t0 | apply tS)) ?_ | apply Sel.drop))) HQ1.out.k32 HI0.out (b := bb) HBB) ?_; clear hS; rintro r1 w ⟨rfl, hS⟩)
                | (show wpList _ _ _ (⟨some 83, .binOp _ _ _ _ _, _, _, _, _⟩ :: _) _ _; refine wpList_val rfl (op_neBool rfl rfl rfl) ?_; go_frame)
                )
              refine segQ_mk (⟨((hS.bring (by repeat (first | exact t0 | apply tS))).getBlk), ((hS.bring (by repeat (first | exact t0 | apply tS))).getBlk)⟩ : Blk _ n3 24 (i.map B8) ∧ Blk _ m 42 [I64 64, rlv, rwv]) ?_
              refine ord_seg (by repeat (first | exact Clean.body | refine Clean.then ?_ | refine Clean.inBlock ?_ | refine SegQ.clean ?_ | refine FinC.clean ?_)) (n := 0) (rest := [[]]) [28, 29] [⟨_, _, _, _, _, _⟩, ⟨_, _, _, _, _, _⟩] rfl (by kernel_rfl) (by simp) _ _ ?_
              go_wp2_with (first
                | go_big_skip
                | (go_at_call 20; (refine Ret.calls (qwaits_s (p := p) (q := q1) (hS.bring (by repeat (first | exact t0 | apply tS))) HQ1.out) ?_); clear hS; rintro wv w hS)
                | (go_at_call 21; (refine Ret.calls (qall_s (p := p) (q := q1) (hS.bring (by repeat (first | exact t0 | apply tS)))) ?_); clear hS; rintro av w hS)
                | (show wpList _ _ _ (⟨_, .load 31 _, _, _, _, _⟩ :: _) _ _; refine wpList_val rfl (op_load1S (b := m) (T := 42) oneHashes ((hS.bring (by repeat (first | exact t0 | apply tS)))) rfl rfl rfl) ?_; go_frame)
                | (show wpList _ _ _ (⟨_, .load 24 _, _, _, _, _⟩ :: _) _ _; refine wpList_val rfl (op_load aggHash rfl rfl (SepL.getBlk (b := n3) (T := 24) ((hS.bring (by repeat (first | exact t0 | apply tS))))).cells HI32.out) ?_; go_frame)
                | (have m1 := M1; clear m1; go_at_call 17; refine Ret.calls (hS.callNo (sameIds_w (v := wv) (u := rwv) (l := q1.waits) (m := q1.waits) ((hS.bring (by repeat (first | exact t0 | apply tS))).getOwn.rd) ((hS.bring (by repeat (first | exact t0 | apply tS))).getOwn.rd) HQ1.out.w32 HQ1.out.w32 (b := true) (decide_eq_true (Eq.refl q1.waits)))) ?_; clear hS M1; rintro r1 w ⟨rfl, hS⟩)
                | (go_at_call 17; refine Ret.calls (hS.callNo (sameIds_w (v := av) (u := rlv) (l := q1.known) (m := q1.known) ((hS.bring (by repeat (first | exact t0 | apply tS))).getOwn.rd) ((hS.bring (by repeat (first | exact t0 | apply tS))).getOwn.rd) HQ1.out.k32 HQ1.out.k32 (b := true) (decide_eq_true (Eq.refl q1.known)))) ?_; clear hS; rintro r1 w ⟨rfl, hS⟩)
                | (go_at_call 22; (refine Ret.calls (qhas_s (p := p) (q := q1) (x := i) (hS.bring (by repeat (first | exact t0 | apply tS))) HI0.out (b := bb) HBB) ?_); clear hS; rintro r1 w ⟨rfl, hS⟩)
                | (go_at_call 23; refine Ret.calls (rhas_s (p := m) (lv := rlv) (wv := rwv) (L := q1.known) (x := i) (F := [.own 24 32 rwv (bys q1.waits), hQ p q1, .blk n3 24 (i.map B8)]) (hS.sel (by repeat (first | exact Sel.refl | refine Sel.take (by repeat (first | exact t0 | apply tS)) ?_ | apply Sel.drop))) HQ1.out.k32 HI0.out (b := bb) HBB) ?_; clear hS; rintro r1 w ⟨rfl, hS⟩)
                | (show wpList _ _ _ (⟨some 83, .binOp _ _ _ _ _, _, _, _, _⟩ :: _) _ _; refine wpList_val rfl (op_neBool rfl rfl rfl) ?_; go_frame)
                )
              refine segQ_mk (⟨((hS.bring (by repeat (first | exact t0 | apply tS))).getBlk), ((hS.bring (by repeat (first | exact t0 | apply tS))).getBlk)⟩ : Blk _ n3 24 (i.map B8) ∧ Blk _ m 42 [I64 64, rlv, rwv]) ?_
              refine finC_mk (by kernel_rfl) (by
                intro t ht
                simp only [List.mem_cons, List.not_mem_nil, or_false] at ht
                rcases ht with rfl | rfl | rfl
                · exact stab_blk (b := n3) (fun w h => h.1) _ none
                · exact stab_blk (b := m) (fun w h => h.2) _ none
                · exact stab_blk (b := m) (fun w h => h.2) _ none) ?_
              go_wp2_with fail
              go_roundw
              case rel =>
                have h1 := hR_close (q := q1) (hS.sel (by repeat (first | exact Sel.refl | refine Sel.take (by repeat (first | exact t0 | apply tS)) ?_ | apply Sel.drop)) : SepL All W _ (.blk m 42 [I64 64, rlv, rwv] :: .own 24 32 rlv (bys q1.known) :: .own 24 32 rwv (bys q1.waits) :: [hQ p q1, .blk n3 24 (i.map B8)]))
                refine ⟨k + 1, by go_num, by omega, ?_⟩
                rw [HSN.out]
                exact h1.sel (by repeat (first | exact Sel.refl | refine Sel.take (by repeat (first | exact t0 | apply tS)) ?_ | apply Sel.drop))
              case measure => simp [intOf]; omega
      · go_wp2_with fail
        go_ret
        exact ⟨rfl, hS.chg⟩
end Go.Proofs.Ytffagjkjeojaaaa
