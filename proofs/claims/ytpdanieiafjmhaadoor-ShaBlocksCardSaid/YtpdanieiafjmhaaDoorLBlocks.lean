/- Any block, taken into any state, makes the document's state: the law returns true. Conditions: those that stand ahead of each theorem. -/
import Derived.Test.YtpdanieiafjmhaaDoorRBlk
namespace Go.Proofs.YtpdanieiafjmhaaDoor
open Go.RowKit Go.Px Go.Sha Go.WideMaps
theorem keySt : Key Tryd.prog 23 where
  law := Maps.Keyed.of_law (deep_law_laid Tryd.laidOut (m := 2) (by omega) (of_decide_eq_true (by kernel_rfl)) (by kernel_rfl) (by kernel_rfl))
  eq := fun w {x y lx ly} hx hy => run_equal_deep w (m := 2) (by omega) (by kernel_rfl) (by kernel_rfl) hx hy
  guard := by kernel_rfl
theorem arrSt : ArrKey Tryd.prog 23 22 8 := ⟨by kernel_rfl, by kernel_rfl, by kernel_rfl, by kernel_rfl⟩
theorem isKey_words {P : Program} {k e n : Nat} (A : ArrKey P k e n) (he : P.underlying e = some (.int .u32)) (hsz : ∃ m, P.types.size = m + 1) {l : List Word} (hl : l.length = n) : IsKey P k (.agg (l.map W32).toArray) := by
  have hkt := A.keyType hsz
  obtain ⟨m, hm⟩ := hsz
  unfold IsKey keyOf
  simp only [A.hu]
  rw [if_pos (by simp [hkt, Value.formed, A.hu, A.size, hl]), hm]
  unfold Program.keyLits
  simp only [A.hu, Value.cells]
  rw [if_pos (by rw [A.size]; simpa using hl)]
  rw [mapM_lits he (f := fun i => ((l.getD i 0).toNat : Int)) (by
    intro i
    have := (l.getD i 0).isLt
    simp [Lit.wf, IntKind.min, IntKind.max, IntKind.signed, IntKind.bits]
    omega) _ (by
    intro i hi
    have hi2 : i < l.length := by rw [hl]; exact List.mem_range.1 hi
    rw [A.one, Nat.mul_one, List.drop_eq_getElem_cons (by simpa using hi2), List.take_succ_cons, List.take_zero, List.getElem_map, List.getD_eq_getElem?_getD, List.getElem?_eq_getElem hi2]
    rfl)]
  exact ⟨_, rfl⟩
theorem op_eqSt {o : Oper} {ρ : Operand → Value} {w : World} {x y : Operand} {t : TypeId} (ho : o.op = .binOp .eql 23 x y t) {s : St} (hx : ρ x = ST s) (hy : ρ y = ST s) : (execOp ρ o).run Tryd.prog w = .ok (.value (.bool true)) w := by
  rw [op_eql keySt ho hx hy (isKey_words arrSt undU32 sizeT rfl) (isKey_words arrSt undU32 sizeT rfl), eqv_self]
set_option maxRecDepth 100000 in
set_option maxHeartbeats 4000000 in
theorem shaBlocks_w {W : World} (hK : CIn All W 0 (kTab.map W32)) (hF : CIn All W 1 (first.map W32)) (s : St) (bs : List Byte) (hbs : bs.length = 64) :
    Calls Tryd.prog 3 #[.agg (s.list.map W32).toArray, .agg (bs.map B8).toArray] W (Ret fun r w' => r = .bool true ∧ Chg No W w') := by
  have hS := SepL.start W
  have HB := hide hbs
  have HL : Hid ((bs.map B8).length = 64) := by
    unfold Hid
    rw [List.length_map, hbs]
  clear hbs
  go_enter Tryd.func3, Tryd.ntmps3
  go_wp2_with (first
    | (show wpList _ _ _ (⟨some 2, .box _ _, _, _, _, _⟩ :: _) _ _; refine wpS_boxA (cs := s.list.map W32) hS rfl rfl rfl ?_; clear hS; intro n2 w hS; go_frame)
    | (show wpList _ _ _ (⟨some 3, .box _ _, _, _, _, _⟩ :: _) _ _; refine wpS_boxA (cs := bs.map B8) hS rfl rfl rfl ?_; clear hS; intro n3 w hS; go_frame)
    )
  refine wp_region_ord (by kernel_rfl) [2, 3] [[0, 1, 2, 3, 5, 6, 4, 7, 8, 9, 10]] (by kernel_rfl) (by kernel_rfl) (fun w' => Blk w' n2 23 (s.list.map W32) ∧ Blk w' n3 24 (bs.map B8)) (Up.and Up.blk Up.blk) ⟨((hS.bring (by repeat (first | exact t0 | apply tS))).getBlk), ((hS.bring (by repeat (first | exact t0 | apply tS))).getBlk)⟩ (by repeat (first | exact Clean.body | refine Clean.then ?_ | refine Clean.inBlock ?_ | refine SegQ.clean ?_ | refine FinC.clean ?_)) ?_
  replace hS := hS.drew
  refine ord_seg (by repeat (first | exact Clean.body | refine Clean.then ?_ | refine Clean.inBlock ?_ | refine SegQ.clean ?_ | refine FinC.clean ?_)) (n := 10) (rest := [[1, 2, 3, 5, 6, 4, 7, 8, 9, 10]]) [0] [⟨_, _, _, _, _, _⟩] rfl (by kernel_rfl) (by simp) _ _ ?_
  go_wp2_with (first
    | (go_at_call 17; refine Ret.calls (alive_s hS hK hF) ?_; clear hS; rintro r w ⟨rfl, hS⟩)
    | (show wpList _ _ _ (⟨_, .load 23 _, _, _, _, _⟩ :: _) _ _; refine wpList_val rfl (op_load agg8w rfl rfl ((hS.bring (by repeat (first | exact t0 | apply tS))).getBlk.cells) rfl) ?_; go_frame)
    | (show wpList _ _ _ (⟨_, .load 24 _, _, _, _, _⟩ :: _) _ _; refine wpList_val rfl (op_load agg64b rfl rfl ((hS.bring (by repeat (first | exact t0 | apply tS))).getBlk.cells) HL.out) ?_; go_frame)
    | (go_at_call 18; refine Ret.calls (block_s hS hK s bs HB.out) ?_; clear hS; rintro r w ⟨rfl, hS⟩)
    | (go_at_call 19; refine Ret.calls (rblock_s hS s bs HB.out) ?_; clear hS; rintro r w ⟨rfl, hS⟩)
    | (show wpList _ _ _ (⟨_, .binOp .eql 23 _ _ _, _, _, _, _⟩ :: _) _ _; refine wpList_val rfl (op_eqSt rfl rfl rfl) ?_; go_frame)
    )
  refine segQ_mk ⟨((hS.bring (by repeat (first | exact t0 | apply tS))).getBlk), ((hS.bring (by repeat (first | exact t0 | apply tS))).getBlk)⟩ ?_
  refine ord_seg (by repeat (first | exact Clean.body | refine Clean.then ?_ | refine Clean.inBlock ?_ | refine SegQ.clean ?_ | refine FinC.clean ?_)) (n := 4) (rest := [[7, 8, 9, 10]]) [1, 2, 3, 5, 6, 4] [⟨_, _, _, _, _, _⟩, ⟨_, _, _, _, _, _⟩, ⟨_, _, _, _, _, _⟩, ⟨_, _, _, _, _, _⟩, ⟨_, _, _, _, _, _⟩, ⟨_, _, _, _, _, _⟩] rfl (by kernel_rfl) (by simp) _ _ ?_
  go_wp2_with (first
    | (go_at_call 17; refine Ret.calls (alive_s hS hK hF) ?_; clear hS; rintro r w ⟨rfl, hS⟩)
    | (show wpList _ _ _ (⟨_, .load 23 _, _, _, _, _⟩ :: _) _ _; refine wpList_val rfl (op_load agg8w rfl rfl ((hS.bring (by repeat (first | exact t0 | apply tS))).getBlk.cells) rfl) ?_; go_frame)
    | (show wpList _ _ _ (⟨_, .load 24 _, _, _, _, _⟩ :: _) _ _; refine wpList_val rfl (op_load agg64b rfl rfl ((hS.bring (by repeat (first | exact t0 | apply tS))).getBlk.cells) HL.out) ?_; go_frame)
    | (go_at_call 18; refine Ret.calls (block_s hS hK s bs HB.out) ?_; clear hS; rintro r w ⟨rfl, hS⟩)
    | (go_at_call 19; refine Ret.calls (rblock_s hS s bs HB.out) ?_; clear hS; rintro r w ⟨rfl, hS⟩)
    | (show wpList _ _ _ (⟨_, .binOp .eql 23 _ _ _, _, _, _, _⟩ :: _) _ _; refine wpList_val rfl (op_eqSt rfl rfl rfl) ?_; go_frame)
    )
  refine segQ_mk ⟨((hS.bring (by repeat (first | exact t0 | apply tS))).getBlk), ((hS.bring (by repeat (first | exact t0 | apply tS))).getBlk)⟩ ?_
  refine ord_seg (by repeat (first | exact Clean.body | refine Clean.then ?_ | refine Clean.inBlock ?_ | refine SegQ.clean ?_ | refine FinC.clean ?_)) (n := 3) (rest := [[8, 9, 10]]) [7] [⟨_, _, _, _, _, _⟩] rfl (by kernel_rfl) (by simp) _ _ ?_
  go_wp2_with (first
    | (go_at_call 17; refine Ret.calls (alive_s hS hK hF) ?_; clear hS; rintro r w ⟨rfl, hS⟩)
    | (show wpList _ _ _ (⟨_, .load 23 _, _, _, _, _⟩ :: _) _ _; refine wpList_val rfl (op_load agg8w rfl rfl ((hS.bring (by repeat (first | exact t0 | apply tS))).getBlk.cells) rfl) ?_; go_frame)
    | (show wpList _ _ _ (⟨_, .load 24 _, _, _, _, _⟩ :: _) _ _; refine wpList_val rfl (op_load agg64b rfl rfl ((hS.bring (by repeat (first | exact t0 | apply tS))).getBlk.cells) HL.out) ?_; go_frame)
    | (go_at_call 18; refine Ret.calls (block_s hS hK s bs HB.out) ?_; clear hS; rintro r w ⟨rfl, hS⟩)
    | (go_at_call 19; refine Ret.calls (rblock_s hS s bs HB.out) ?_; clear hS; rintro r w ⟨rfl, hS⟩)
    | (show wpList _ _ _ (⟨_, .binOp .eql 23 _ _ _, _, _, _, _⟩ :: _) _ _; refine wpList_val rfl (op_eqSt rfl rfl rfl) ?_; go_frame)
    )
  refine segQ_mk ⟨((hS.bring (by repeat (first | exact t0 | apply tS))).getBlk), ((hS.bring (by repeat (first | exact t0 | apply tS))).getBlk)⟩ ?_
  refine ord_seg (by repeat (first | exact Clean.body | refine Clean.then ?_ | refine Clean.inBlock ?_ | refine SegQ.clean ?_ | refine FinC.clean ?_)) (n := 2) (rest := [[9, 10]]) [8] [⟨_, _, _, _, _, _⟩] rfl (by kernel_rfl) (by simp) _ _ ?_
  go_wp2_with (first
    | (go_at_call 17; refine Ret.calls (alive_s hS hK hF) ?_; clear hS; rintro r w ⟨rfl, hS⟩)
    | (show wpList _ _ _ (⟨_, .load 23 _, _, _, _, _⟩ :: _) _ _; refine wpList_val rfl (op_load agg8w rfl rfl ((hS.bring (by repeat (first | exact t0 | apply tS))).getBlk.cells) rfl) ?_; go_frame)
    | (show wpList _ _ _ (⟨_, .load 24 _, _, _, _, _⟩ :: _) _ _; refine wpList_val rfl (op_load agg64b rfl rfl ((hS.bring (by repeat (first | exact t0 | apply tS))).getBlk.cells) HL.out) ?_; go_frame)
    | (go_at_call 18; refine Ret.calls (block_s hS hK s bs HB.out) ?_; clear hS; rintro r w ⟨rfl, hS⟩)
    | (go_at_call 19; refine Ret.calls (rblock_s hS s bs HB.out) ?_; clear hS; rintro r w ⟨rfl, hS⟩)
    | (show wpList _ _ _ (⟨_, .binOp .eql 23 _ _ _, _, _, _, _⟩ :: _) _ _; refine wpList_val rfl (op_eqSt rfl rfl rfl) ?_; go_frame)
    )
  refine segQ_mk ⟨((hS.bring (by repeat (first | exact t0 | apply tS))).getBlk), ((hS.bring (by repeat (first | exact t0 | apply tS))).getBlk)⟩ ?_
  refine ord_seg (by repeat (first | exact Clean.body | refine Clean.then ?_ | refine Clean.inBlock ?_ | refine SegQ.clean ?_ | refine FinC.clean ?_)) (n := 0) (rest := [[]]) [9, 10] [⟨_, _, _, _, _, _⟩, ⟨_, _, _, _, _, _⟩] rfl (by kernel_rfl) (by simp) _ _ ?_
  go_wp2_with (first
    | (go_at_call 17; refine Ret.calls (alive_s hS hK hF) ?_; clear hS; rintro r w ⟨rfl, hS⟩)
    | (show wpList _ _ _ (⟨_, .load 23 _, _, _, _, _⟩ :: _) _ _; refine wpList_val rfl (op_load agg8w rfl rfl ((hS.bring (by repeat (first | exact t0 | apply tS))).getBlk.cells) rfl) ?_; go_frame)
    | (show wpList _ _ _ (⟨_, .load 24 _, _, _, _, _⟩ :: _) _ _; refine wpList_val rfl (op_load agg64b rfl rfl ((hS.bring (by repeat (first | exact t0 | apply tS))).getBlk.cells) HL.out) ?_; go_frame)
    | (go_at_call 18; refine Ret.calls (block_s hS hK s bs HB.out) ?_; clear hS; rintro r w ⟨rfl, hS⟩)
    | (go_at_call 19; refine Ret.calls (rblock_s hS s bs HB.out) ?_; clear hS; rintro r w ⟨rfl, hS⟩)
    | (show wpList _ _ _ (⟨_, .binOp .eql 23 _ _ _, _, _, _, _⟩ :: _) _ _; refine wpList_val rfl (op_eqSt rfl rfl rfl) ?_; go_frame)
    )
  refine segQ_mk ⟨((hS.bring (by repeat (first | exact t0 | apply tS))).getBlk), ((hS.bring (by repeat (first | exact t0 | apply tS))).getBlk)⟩ ?_
  refine finC_mk (by kernel_rfl) (by
    intro t ht
    simp only [List.mem_cons, List.not_mem_nil, or_false] at ht
    rcases ht with rfl | rfl
    · exact stab_blk (b := n2) (fun w h => h.1) _ none
    · exact stab_blk (b := n3) (fun w h => h.2) _ none) ?_
  go_wp2_with fail
  go_ret
  exact ⟨rfl, hS.chg⟩
end Go.Proofs.YtpdanieiafjmhaaDoor
