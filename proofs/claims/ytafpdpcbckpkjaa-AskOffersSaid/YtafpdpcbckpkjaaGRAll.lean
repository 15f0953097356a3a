/- What offers make of the document's book. Conditions: those that stand ahead of each theorem. -/
import Derived.Test.YtafpdpcbckpkjaaGRMem
namespace Go.Proofs.Ytafpdpcbckpkjaa
open Go.RowKit Go.Px
theorem swapD (X Y F : List Hp) (a : Hp) : (X ++ (Y ++ a :: F)).Perm (a :: (X ++ (Y ++ F))) := by
  rw [← List.append_assoc, ← List.append_assoc]
  exact List.perm_middle
theorem buildREnt (i : List Byte) (hi : (i.map B8).length = 32) {v : Value} (hv : ∃ A l c, v = .slice A l c) (t : Nat) (w : World) : (Instr.build 79 #[(0, .agg (i.map B8).toArray), (1, v), (2, U t)]).run Try.prog w = .ok (.agg (i.map B8 ++ [v, U t]).toArray) w := by
  generalize i.map B8 = l at *
  obtain ⟨A, n, c, rfl⟩ := hv
  obtain ⟨a0, a1, a2, a3, a4, a5, a6, a7, a8, a9, a10, a11, a12, a13, a14, a15, a16, a17, a18, a19, a20, a21, a22, a23, a24, a25, a26, a27, a28, a29, a30, a31, rfl⟩ := list32 hi
  exact run_build w 79 _ _ (by kernel_rfl)
theorem flat_r1 {v : Value} {e : Ent} (h : v.oneCell' = true) : Flat [rC (v, e)] := by
  intro y hy
  rw [List.mem_singleton.1 hy]
  exact rC_one h
section
variable {R : Nat → Prop} {base w : World} {F : List Hp} {p : Nat} {B : List Ent}
theorem rlay_new {l : List RE} {v v3 : Value} {e : Ent} (hS : SepL R base w (.own 3 1 v3 [[I64 e.peer]] :: .blk p 38 [v] :: .own 79 34 v ([] ++ l.map rC ++ [rC (v3, { e with waits := [] })]) :: (rsP l ++ F))) : SepL R base w (rB p (relist l ++ [{ e with waits := [] }]) :: F) := by
  have h1 : rbP p v (l ++ (v3, { e with waits := [] }) :: []) = [.blk p 38 [v], .own 79 34 v ([] ++ l.map rC ++ [rC (v3, { e with waits := [] })])] := by
    simp [rbP]
  have h2 : SepL R base w (rP (v3, { e with waits := [] }) :: ([] ++ (rbP p v (l ++ (v3, { e with waits := [] }) :: []) ++ (rsP (l ++ []) ++ F)))) := by
    rw [h1, List.append_nil]
    exact hS
  have h3 := rB_close [] (rpush [] h2)
  have e3 : relist (l ++ [(v3, ({ e with waits := [] } : Ent))]) = relist l ++ [{ e with waits := [] }] := by simp [relist]
  rw [e3] at h3
  exact h3
set_option maxRecDepth 100000 in
set_option maxHeartbeats 8000000 in
theorem roffer_out {i : List Byte} {q : Int} {t : Nat} (hS : SepL R base w (rB p B :: F)) (ok : BOk B) (hi : i.length = 32) (hout : i ∉ ids B) :
    Calls Try.prog 30 #[.pointer (some ⟨p, 0, none⟩), HV i, I64 q, U t] w (Ret fun r w' => r = .bool (decide (B.length < 32)) ∧ SepL R base w' (rB p (offerB i q t B) :: F)) := by
  have hoff : offerB i q t B = if B.length < 32 then B ++ [⟨i, q, t, []⟩] else B := if_neg hout
  rw [hoff]
  clear hoff
  have HIX := hide (ix_none hout)
  obtain ⟨ov, l, hl, hS2⟩ := rB_open [] hS
  clear hS
  subst hl
  have HONE := rone hS2
  have HF := hide (flat_rC HONE)
  have HLEN := hide ok.len
  have HL : Hid ((l.map rC).length = (relist l).length) := by simp [Hid, relist]
  have hfew := ok.few
  have HI32 : Hid ((i.map B8).length = 32) := by simp [Hid, hi]
  have HN : Hid (decide ((-1 : Int) < 0) = true) := rfl
  have hll : (relist l).length = l.length := by simp [relist]
  have HC34 : ∀ {v : Value}, Hid ((rC (v, ⟨i, q, t, []⟩)).length = 34) := hide (rC_len hi)
  have hS : SepL R base w (rbP p ov l ++ (rsP l ++ F)) := hS2
  clear hS2 HONE ok hout
  unfold HV
  by_cases h : (relist l).length < 32
  · have HGE : Hid (decide ((32 : Int) ≤ ((relist l).length : Int)) = false) := decF (by omega)
    have HD : Hid (decide ((relist l).length < 32) = true) := decT h
    have HB1 : Hid ((([] : List (List Value)).length + (l.map rC).length) * 64 ≤ 140737488355328) := by
      unfold Hid
      simp
      omega
    have HB2 : Hid (([] : List (List Value)).length + (l.map rC).length ≤ maxLen) := by
      unfold Hid maxLen
      simp
      omega
    have HB3 : Hid (((([] : List (List Value)) ++ l.map rC).length + 1) * 64 ≤ 140737488355328) := by
      unfold Hid
      simp
      omega
    have HB4 : Hid ((([] : List (List Value)) ++ l.map rC).length + 1 ≤ maxLen) := by
      unfold Hid maxLen
      simp
      omega
    rw [if_pos h, HD.out]
    clear h HD hll
    go_enter Try.func30, Try.ntmps30
    go_wp2_with (first
      | (show wpList _ _ _ (⟨_, .box _ _, _, _, _, _⟩ :: _) _ _; refine wpS_boxA (cs := i.map B8) hS rfl rfl rfl ?_; clear hS; intro hb w hS; go_frame)
      | (show wpList _ _ _ (⟨_, .load 28 _, _, _, _, _⟩ :: _) _ _; refine wpList_val rfl (op_load aggHash rfl rfl ((hS.bring (by repeat (first | exact t0 | apply tS))).getBlk.cells) HI32.out) ?_; go_frame)
      | (go_at_call 35; refine Ret.calls (at_s (p := p) (ov := ov) (l := l) (F := .blk hb 28 (i.map B8) :: F) (by exact hS.perm (swapD (rbP p ov l) (rsP l) F (.blk hb 28 (i.map B8))).symm) hi HLEN.out) ?_; clear hS; rintro r w ⟨rfl, hS⟩; rw [HIX.out]; replace hS := hS.perm (swapD (rbP p ov l) (rsP l) F (.blk hb 28 (i.map B8))); unfold rbP at hS)
      | (show wpList _ _ _ (⟨some 15, .binOp _ _ _ _ _, _, _, _, _⟩ :: _) _ _; refine wpList_val rfl (op_ilss rfl rfl rfl HN.out) ?_; go_frame)
      | (show wpList _ _ _ (⟨_, .load 36 _, _, _, _, _⟩ :: _) _ _; refine wpList_val rfl (op_load1S (T := 38) oneREnts ((hS.bring (by repeat (first | exact t0 | apply tS)))) rfl rfl rfl) ?_; go_frame)
      | (show wpList _ _ _ (⟨_, .call ⟨.builtin .len, _, _⟩, _, _, _, _⟩ :: _) _ _; refine wpList_val rfl (op_len slREnt rfl rfl (v := ov) rfl ((hS.bring (by repeat (first | exact t0 | apply tS))).getOwn.rd)) ?_; rw [HL.out]; go_frame)
      | (show wpList _ _ _ (⟨some 21, .binOp _ _ _ _ _, _, _, _, _⟩ :: _) _ _; refine wpList_val rfl (op_igeq rfl rfl rfl HGE.out) ?_; go_frame)
      )
    refine wp_region_ord (by kernel_rfl) [5] [[0, 2, 3, 4, 5, 7, 8, 10, 1, 6, 9, 11, 12, 13, 14, 15, 16], [0, 2, 3, 4, 5, 7, 8, 10, 1, 9, 11, 6, 12, 13, 14, 15, 16], [0, 2, 3, 4, 5, 7, 8, 10, 1, 9, 11, 12, 6, 13, 14, 15, 16], [0, 2, 3, 4, 5, 7, 8, 10, 9, 11, 1, 6, 12, 13, 14, 15, 16], [0, 2, 3, 4, 5, 7, 8, 10, 9, 11, 1, 12, 6, 13, 14, 15, 16], [0, 2, 3, 4, 5, 7, 8, 10, 9, 11, 12, 1, 6, 13, 14, 15, 16]] (by kernel_rfl) (by kernel_rfl) (fun w' => Blk w' hb 28 (i.map B8)) Up.blk (((hS.bring (by repeat (first | exact t0 | apply tS))).getBlk) : Blk _ hb 28 (i.map B8)) (by repeat (first | exact Clean.body | refine Clean.then ?_ | refine Clean.inBlock ?_ | refine SegQ.clean ?_ | refine FinC.clean ?_)) ?_
    replace hS := hS.drew
    refine ord_seg (by repeat (first | exact Clean.body | refine Clean.then ?_ | refine Clean.inBlock ?_ | refine SegQ.clean ?_ | refine FinC.clean ?_)) (n := 9) (rest := [[1, 6, 9, 11, 12, 13, 14, 15, 16], [1, 9, 11, 6, 12, 13, 14, 15, 16], [1, 9, 11, 12, 6, 13, 14, 15, 16], [9, 11, 1, 6, 12, 13, 14, 15, 16], [9, 11, 1, 12, 6, 13, 14, 15, 16], [9, 11, 12, 1, 6, 13, 14, 15, 16]]) [0, 2, 3, 4, 5, 7, 8, 10] [⟨_, _, _, _, _, _⟩, ⟨_, _, _, _, _, _⟩, ⟨_, _, _, _, _, _⟩, ⟨_, _, _, _, _, _⟩, ⟨_, _, _, _, _, _⟩, ⟨_, _, _, _, _, _⟩, ⟨_, _, _, _, _, _⟩, ⟨_, _, _, _, _, _⟩] rfl (by kernel_rfl) (by simp) _ _ ?_
    go_wp2_with (first
      | (show wpList _ _ _ (⟨_, .load 36 _, _, _, _, _⟩ :: _) _ _; refine wpList_val rfl (op_load1S (T := 38) oneREnts ((hS.bring (by repeat (first | exact t0 | apply tS)))) rfl rfl rfl) ?_; go_frame)
      | (show wpList _ _ _ (⟨_, .load 28 _, _, _, _, _⟩ :: _) _ _; refine wpList_val rfl (op_load aggHash rfl rfl ((hS.bring (by repeat (first | exact t0 | apply tS))).getBlk.cells) HI32.out) ?_; go_frame)
      )
    refine segQ_mk (((hS.bring (by repeat (first | exact t0 | apply tS))).getBlk) : Blk _ hb 28 (i.map B8)) ?_
    refine ord_fork (n := 8) (os1 := [[1, 6, 9, 11, 12, 13, 14, 15, 16], [1, 9, 11, 6, 12, 13, 14, 15, 16], [1, 9, 11, 12, 6, 13, 14, 15, 16]]) (os2 := [[9, 11, 1, 6, 12, 13, 14, 15, 16], [9, 11, 1, 12, 6, 13, 14, 15, 16], [9, 11, 12, 1, 6, 13, 14, 15, 16]]) (by decide) ?_ ?_
    ·
      refine ord_seg (by repeat (first | exact Clean.body | refine Clean.then ?_ | refine Clean.inBlock ?_ | refine SegQ.clean ?_ | refine FinC.clean ?_)) (n := 8) (rest := [[6, 9, 11, 12, 13, 14, 15, 16], [9, 11, 6, 12, 13, 14, 15, 16], [9, 11, 12, 6, 13, 14, 15, 16]]) [1] [⟨_, _, _, _, _, _⟩] rfl (by kernel_rfl) (by simp) _ _ ?_
      go_wp2_with (first
        | (show wpList _ _ _ (⟨_, .buildSlice 36 0 _, _, _, _, _⟩ :: _) _ _; refine wpS_build0 slREnt hS rfl rfl ?_; clear hS; intro v1 w hS; go_frame)
        )
      refine segQ_mk (((hS.bring (by repeat (first | exact t0 | apply tS))).getBlk) : Blk _ hb 28 (i.map B8)) ?_
      refine ord_fork (n := 7) (os1 := [[6, 9, 11, 12, 13, 14, 15, 16]]) (os2 := [[9, 11, 6, 12, 13, 14, 15, 16], [9, 11, 12, 6, 13, 14, 15, 16]]) (by decide) ?_ ?_
      ·
        refine ord_seg (by repeat (first | exact Clean.body | refine Clean.then ?_ | refine Clean.inBlock ?_ | refine SegQ.clean ?_ | refine FinC.clean ?_)) (n := 7) (rest := [[9, 11, 12, 13, 14, 15, 16]]) [6] [⟨_, _, _, _, _, _⟩] rfl (by kernel_rfl) (by simp) _ _ ?_
        go_wp2_with (first
          | (show wpList _ _ _ (⟨some 28, .call _, _, _, _, _⟩ :: _) _ _; (refine wpS_append slREnt (hS.bring (by repeat (first | exact t0 | apply tS))) rfl rfl (sv := v1) rfl rfl (ys := l.map rC) ((hS.bring (by repeat (first | exact t0 | apply tS))).getOwn.rd) HF.out HB1.out HB2.out ?_); clear hS; intro v2 w hS; go_frame)
          )
        refine segQ_mk (((hS.bring (by repeat (first | exact t0 | apply tS))).getBlk) : Blk _ hb 28 (i.map B8)) ?_
        refine ord_seg (by repeat (first | exact Clean.body | refine Clean.then ?_ | refine Clean.inBlock ?_ | refine SegQ.clean ?_ | refine FinC.clean ?_)) (n := 3) (rest := [[14, 15, 16]]) [9, 11, 12, 13] [⟨_, _, _, _, _, _⟩, ⟨_, _, _, _, _, _⟩, ⟨_, _, _, _, _, _⟩, ⟨_, _, _, _, _, _⟩] rfl (by kernel_rfl) (by simp) _ _ ?_
        go_wp2_with (first
          | (show wpList _ _ _ (⟨_, .buildSlice 50 1 _, _, _, _, _⟩ :: _) _ _; refine wpS_build11 slInt hS rfl rfl (u := I64 q) rfl rfl ?_; clear hS; intro v3 w hS; have HSF := hide (isSl hS.getOwn.rd); have HO3 := hide hS.getOwn.rd.one1; go_frame)
          | (show wpList _ _ _ (⟨_, .build 79 _, _, _, _, _⟩ :: _) _ _; refine wpList_val rfl (op_build (ps := #[(0, .agg (i.map B8).toArray), (1, v3), (2, U t)]) rfl rfl (buildREnt i HI32.out HSF.out t) _) ?_; go_frame)
          | (show wpList _ _ _ (⟨_, .buildSlice 36 1 _, _, _, _, _⟩ :: _) _ _; refine wpS_build1A slREnt (by omega) hS rfl rfl (cs := rC (v3, ⟨i, q, t, []⟩)) rfl HC34.out ?_; clear hS; intro v4 w hS; go_frame)
          | (show wpList _ _ _ (⟨some 35, .call _, _, _, _, _⟩ :: _) _ _; (refine wpS_append slREnt (hS.bring (by repeat (first | exact t0 | apply tS))) rfl rfl (sv := v2) rfl rfl (ys := [rC (v3, ⟨i, q, t, []⟩)]) ((hS.bring (by repeat (first | exact t0 | apply tS))).getOwn.rd) (flat_r1 HO3.out) HB3.out HB4.out ?_); clear hS; intro v5 w hS; have HV2 := hide hS.getOwn.rd.cells1; have HV3 := hide hS.getOwn.rd.one1; go_frame)
          )
        refine segQ_mk (((hS.bring (by repeat (first | exact t0 | apply tS))).getBlk) : Blk _ hb 28 (i.map B8)) ?_
        refine ord_seg (by repeat (first | exact Clean.body | refine Clean.then ?_ | refine Clean.inBlock ?_ | refine SegQ.clean ?_ | refine FinC.clean ?_)) (n := 0) (rest := [[]]) [14, 15, 16] [⟨_, _, _, _, _, _⟩, ⟨_, _, _, _, _, _⟩, ⟨_, _, _, _, _, _⟩] rfl (by kernel_rfl) (by simp) _ _ ?_
        go_wp2_with (first
          | (show wpList _ _ _ (⟨_, .store 36 _ _, _, _, _, _⟩ :: _) _ _; (refine wpS_store1 (T := 38) (by kernel_rfl) (hS.bring (by repeat (first | exact t0 | apply tS))) rfl rfl rfl rfl HV2.out HV3.out (by simp) ?_); clear hS; intro w hS; go_frame)
          )
        refine segQ_mk (((hS.bring (by repeat (first | exact t0 | apply tS))).getBlk) : Blk _ hb 28 (i.map B8)) ?_
        refine finC_mk (by kernel_rfl) (by
          intro t ht
          simp only [List.mem_cons, List.not_mem_nil, or_false] at ht
          subst ht
          exact stab_blk (b := hb) (fun w h => h) _ none) ?_
        go_wp2_with fail
        go_ret
        exact ⟨rfl, rlay_new (e := ⟨i, q, t, []⟩) (l := l) (v := v5) (v3 := v3) (F := F) (by exact hS.sel (by repeat (first | exact Sel.refl | refine Sel.take (by repeat (first | exact t0 | apply tS)) ?_ | apply Sel.drop)))⟩
      ·
        refine ord_seg (by repeat (first | exact Clean.body | refine Clean.then ?_ | refine Clean.inBlock ?_ | refine SegQ.clean ?_ | refine FinC.clean ?_)) (n := 6) (rest := [[6, 12, 13, 14, 15, 16], [12, 6, 13, 14, 15, 16]]) [9, 11] [⟨_, _, _, _, _, _⟩, ⟨_, _, _, _, _, _⟩] rfl (by kernel_rfl) (by simp) _ _ ?_
        go_wp2_with (first
          | (show wpList _ _ _ (⟨_, .buildSlice 50 1 _, _, _, _, _⟩ :: _) _ _; refine wpS_build11 slInt hS rfl rfl (u := I64 q) rfl rfl ?_; clear hS; intro v3 w hS; have HSF := hide (isSl hS.getOwn.rd); have HO3 := hide hS.getOwn.rd.one1; go_frame)
          | (show wpList _ _ _ (⟨_, .build 79 _, _, _, _, _⟩ :: _) _ _; refine wpList_val rfl (op_build (ps := #[(0, .agg (i.map B8).toArray), (1, v3), (2, U t)]) rfl rfl (buildREnt i HI32.out HSF.out t) _) ?_; go_frame)
          )
        refine segQ_mk (((hS.bring (by repeat (first | exact t0 | apply tS))).getBlk) : Blk _ hb 28 (i.map B8)) ?_
        refine ord_fork (n := 5) (os1 := [[6, 12, 13, 14, 15, 16]]) (os2 := [[12, 6, 13, 14, 15, 16]]) (by decide) ?_ ?_
        ·
          refine ord_seg (by repeat (first | exact Clean.body | refine Clean.then ?_ | refine Clean.inBlock ?_ | refine SegQ.clean ?_ | refine FinC.clean ?_)) (n := 5) (rest := [[12, 13, 14, 15, 16]]) [6] [⟨_, _, _, _, _, _⟩] rfl (by kernel_rfl) (by simp) _ _ ?_
          go_wp2_with (first
            | (show wpList _ _ _ (⟨some 28, .call _, _, _, _, _⟩ :: _) _ _; (refine wpS_append slREnt (hS.bring (by repeat (first | exact t0 | apply tS))) rfl rfl (sv := v1) rfl rfl (ys := l.map rC) ((hS.bring (by repeat (first | exact t0 | apply tS))).getOwn.rd) HF.out HB1.out HB2.out ?_); clear hS; intro v2 w hS; go_frame)
            )
          refine segQ_mk (((hS.bring (by repeat (first | exact t0 | apply tS))).getBlk) : Blk _ hb 28 (i.map B8)) ?_
          refine ord_seg (by repeat (first | exact Clean.body | refine Clean.then ?_ | refine Clean.inBlock ?_ | refine SegQ.clean ?_ | refine FinC.clean ?_)) (n := 3) (rest := [[14, 15, 16]]) [12, 13] [⟨_, _, _, _, _, _⟩, ⟨_, _, _, _, _, _⟩] rfl (by kernel_rfl) (by simp) _ _ ?_
          go_wp2_with (first
            | (show wpList _ _ _ (⟨_, .buildSlice 36 1 _, _, _, _, _⟩ :: _) _ _; refine wpS_build1A slREnt (by omega) hS rfl rfl (cs := rC (v3, ⟨i, q, t, []⟩)) rfl HC34.out ?_; clear hS; intro v4 w hS; go_frame)
            | (show wpList _ _ _ (⟨some 35, .call _, _, _, _, _⟩ :: _) _ _; (refine wpS_append slREnt (hS.bring (by repeat (first | exact t0 | apply tS))) rfl rfl (sv := v2) rfl rfl (ys := [rC (v3, ⟨i, q, t, []⟩)]) ((hS.bring (by repeat (first | exact t0 | apply tS))).getOwn.rd) (flat_r1 HO3.out) HB3.out HB4.out ?_); clear hS; intro v5 w hS; have HV2 := hide hS.getOwn.rd.cells1; have HV3 := hide hS.getOwn.rd.one1; go_frame)
            )
          refine segQ_mk (((hS.bring (by repeat (first | exact t0 | apply tS))).getBlk) : Blk _ hb 28 (i.map B8)) ?_
          refine ord_seg (by repeat (first | exact Clean.body | refine Clean.then ?_ | refine Clean.inBlock ?_ | refine SegQ.clean ?_ | refine FinC.clean ?_)) (n := 0) (rest := [[]]) [14, 15, 16] [⟨_, _, _, _, _, _⟩, ⟨_, _, _, _, _, _⟩, ⟨_, _, _, _, _, _⟩] rfl (by kernel_rfl) (by simp) _ _ ?_
          go_wp2_with (first
            | (show wpList _ _ _ (⟨_, .store 36 _ _, _, _, _, _⟩ :: _) _ _; (refine wpS_store1 (T := 38) (by kernel_rfl) (hS.bring (by repeat (first | exact t0 | apply tS))) rfl rfl rfl rfl HV2.out HV3.out (by simp) ?_); clear hS; intro w hS; go_frame)
            )
          refine segQ_mk (((hS.bring (by repeat (first | exact t0 | apply tS))).getBlk) : Blk _ hb 28 (i.map B8)) ?_
          refine finC_mk (by kernel_rfl) (by
            intro t ht
            simp only [List.mem_cons, List.not_mem_nil, or_false] at ht
            subst ht
            exact stab_blk (b := hb) (fun w h => h) _ none) ?_
          go_wp2_with fail
          go_ret
          exact ⟨rfl, rlay_new (e := ⟨i, q, t, []⟩) (l := l) (v := v5) (v3 := v3) (F := F) (by exact hS.sel (by repeat (first | exact Sel.refl | refine Sel.take (by repeat (first | exact t0 | apply tS)) ?_ | apply Sel.drop)))⟩
        ·
          refine ord_seg (by repeat (first | exact Clean.body | refine Clean.then ?_ | refine Clean.inBlock ?_ | refine SegQ.clean ?_ | refine FinC.clean ?_)) (n := 4) (rest := [[13, 14, 15, 16]]) [12, 6] [⟨_, _, _, _, _, _⟩, ⟨_, _, _, _, _, _⟩] rfl (by kernel_rfl) (by simp) _ _ ?_
          go_wp2_with (first
            | (show wpList _ _ _ (⟨some 28, .call _, _, _, _, _⟩ :: _) _ _; (refine wpS_append slREnt (hS.bring (by repeat (first | exact t0 | apply tS))) rfl rfl (sv := v1) rfl rfl (ys := l.map rC) ((hS.bring (by repeat (first | exact t0 | apply tS))).getOwn.rd) HF.out HB1.out HB2.out ?_); clear hS; intro v2 w hS; go_frame)
            | (show wpList _ _ _ (⟨_, .buildSlice 36 1 _, _, _, _, _⟩ :: _) _ _; refine wpS_build1A slREnt (by omega) hS rfl rfl (cs := rC (v3, ⟨i, q, t, []⟩)) rfl HC34.out ?_; clear hS; intro v4 w hS; go_frame)
            )
          refine segQ_mk (((hS.bring (by repeat (first | exact t0 | apply tS))).getBlk) : Blk _ hb 28 (i.map B8)) ?_
          refine ord_seg (by repeat (first | exact Clean.body | refine Clean.then ?_ | refine Clean.inBlock ?_ | refine SegQ.clean ?_ | refine FinC.clean ?_)) (n := 3) (rest := [[14, 15, 16]]) [13] [⟨_, _, _, _, _, _⟩] rfl (by kernel_rfl) (by simp) _ _ ?_
          go_wp2_with (first
            | (show wpList _ _ _ (⟨some 35, .call _, _, _, _, _⟩ :: _) _ _; (refine wpS_append slREnt (hS.bring (by repeat (first | exact t0 | apply tS))) rfl rfl (sv := v2) rfl rfl (ys := [rC (v3, ⟨i, q, t, []⟩)]) ((hS.bring (by repeat (first | exact t0 | apply tS))).getOwn.rd) (flat_r1 HO3.out) HB3.out HB4.out ?_); clear hS; intro v5 w hS; have HV2 := hide hS.getOwn.rd.cells1; have HV3 := hide hS.getOwn.rd.one1; go_frame)
            )
          refine segQ_mk (((hS.bring (by repeat (first | exact t0 | apply tS))).getBlk) : Blk _ hb 28 (i.map B8)) ?_
          refine ord_seg (by repeat (first | exact Clean.body | refine Clean.then ?_ | refine Clean.inBlock ?_ | refine SegQ.clean ?_ | refine FinC.clean ?_)) (n := 0) (rest := [[]]) [14, 15, 16] [⟨_, _, _, _, _, _⟩, ⟨_, _, _, _, _, _⟩, ⟨_, _, _, _, _, _⟩] rfl (by kernel_rfl) (by simp) _ _ ?_
          go_wp2_with (first
            | (show wpList _ _ _ (⟨_, .store 36 _ _, _, _, _, _⟩ :: _) _ _; (refine wpS_store1 (T := 38) (by kernel_rfl) (hS.bring (by repeat (first | exact t0 | apply tS))) rfl rfl rfl rfl HV2.out HV3.out (by simp) ?_); clear hS; intro w hS; go_frame)
            )
          refine segQ_mk (((hS.bring (by repeat (first | exact t0 | apply tS))).getBlk) : Blk _ hb 28 (i.map B8)) ?_
          refine finC_mk (by kernel_rfl) (by
            intro t ht
            simp only [List.mem_cons, List.not_mem_nil, or_false] at ht
            subst ht
            exact stab_blk (b := hb) (fun w h => h) _ none) ?_
          go_wp2_with fail
          go_ret
          exact ⟨rfl, rlay_new (e := ⟨i, q, t, []⟩) (l := l) (v := v5) (v3 := v3) (F := F) (by exact hS.sel (by repeat (first | exact Sel.refl | refine Sel.take (by repeat (first | exact t0 | apply tS)) ?_ | apply Sel.drop)))⟩
    ·
      refine ord_seg (by repeat (first | exact Clean.body | refine Clean.then ?_ | refine Clean.inBlock ?_ | refine SegQ.clean ?_ | refine FinC.clean ?_)) (n := 7) (rest := [[1, 6, 12, 13, 14, 15, 16], [1, 12, 6, 13, 14, 15, 16], [12, 1, 6, 13, 14, 15, 16]]) [9, 11] [⟨_, _, _, _, _, _⟩, ⟨_, _, _, _, _, _⟩] rfl (by kernel_rfl) (by simp) _ _ ?_
      go_wp2_with (first
        | (show wpList _ _ _ (⟨_, .buildSlice 50 1 _, _, _, _, _⟩ :: _) _ _; refine wpS_build11 slInt hS rfl rfl (u := I64 q) rfl rfl ?_; clear hS; intro v3 w hS; have HSF := hide (isSl hS.getOwn.rd); have HO3 := hide hS.getOwn.rd.one1; go_frame)
        | (show wpList _ _ _ (⟨_, .build 79 _, _, _, _, _⟩ :: _) _ _; refine wpList_val rfl (op_build (ps := #[(0, .agg (i.map B8).toArray), (1, v3), (2, U t)]) rfl rfl (buildREnt i HI32.out HSF.out t) _) ?_; go_frame)
        )
      refine segQ_mk (((hS.bring (by repeat (first | exact t0 | apply tS))).getBlk) : Blk _ hb 28 (i.map B8)) ?_
      refine ord_fork (n := 6) (os1 := [[1, 6, 12, 13, 14, 15, 16], [1, 12, 6, 13, 14, 15, 16]]) (os2 := [[12, 1, 6, 13, 14, 15, 16]]) (by decide) ?_ ?_
      ·
        refine ord_seg (by repeat (first | exact Clean.body | refine Clean.then ?_ | refine Clean.inBlock ?_ | refine SegQ.clean ?_ | refine FinC.clean ?_)) (n := 6) (rest := [[6, 12, 13, 14, 15, 16], [12, 6, 13, 14, 15, 16]]) [1] [⟨_, _, _, _, _, _⟩] rfl (by kernel_rfl) (by simp) _ _ ?_
        go_wp2_with (first
          | (show wpList _ _ _ (⟨_, .buildSlice 36 0 _, _, _, _, _⟩ :: _) _ _; refine wpS_build0 slREnt hS rfl rfl ?_; clear hS; intro v1 w hS; go_frame)
          )
        refine segQ_mk (((hS.bring (by repeat (first | exact t0 | apply tS))).getBlk) : Blk _ hb 28 (i.map B8)) ?_
        refine ord_fork (n := 5) (os1 := [[6, 12, 13, 14, 15, 16]]) (os2 := [[12, 6, 13, 14, 15, 16]]) (by decide) ?_ ?_
        ·
          refine ord_seg (by repeat (first | exact Clean.body | refine Clean.then ?_ | refine Clean.inBlock ?_ | refine SegQ.clean ?_ | refine FinC.clean ?_)) (n := 5) (rest := [[12, 13, 14, 15, 16]]) [6] [⟨_, _, _, _, _, _⟩] rfl (by kernel_rfl) (by simp) _ _ ?_
          go_wp2_with (first
            | (show wpList _ _ _ (⟨some 28, .call _, _, _, _, _⟩ :: _) _ _; (refine wpS_append slREnt (hS.bring (by repeat (first | exact t0 | apply tS))) rfl rfl (sv := v1) rfl rfl (ys := l.map rC) ((hS.bring (by repeat (first | exact t0 | apply tS))).getOwn.rd) HF.out HB1.out HB2.out ?_); clear hS; intro v2 w hS; go_frame)
            )
          refine segQ_mk (((hS.bring (by repeat (first | exact t0 | apply tS))).getBlk) : Blk _ hb 28 (i.map B8)) ?_
          refine ord_seg (by repeat (first | exact Clean.body | refine Clean.then ?_ | refine Clean.inBlock ?_ | refine SegQ.clean ?_ | refine FinC.clean ?_)) (n := 3) (rest := [[14, 15, 16]]) [12, 13] [⟨_, _, _, _, _, _⟩, ⟨_, _, _, _, _, _⟩] rfl (by kernel_rfl) (by simp) _ _ ?_
          go_wp2_with (first
            | (show wpList _ _ _ (⟨_, .buildSlice 36 1 _, _, _, _, _⟩ :: _) _ _; refine wpS_build1A slREnt (by omega) hS rfl rfl (cs := rC (v3, ⟨i, q, t, []⟩)) rfl HC34.out ?_; clear hS; intro v4 w hS; go_frame)
            | (show wpList _ _ _ (⟨some 35, .call _, _, _, _, _⟩ :: _) _ _; (refine wpS_append slREnt (hS.bring (by repeat (first | exact t0 | apply tS))) rfl rfl (sv := v2) rfl rfl (ys := [rC (v3, ⟨i, q, t, []⟩)]) ((hS.bring (by repeat (first | exact t0 | apply tS))).getOwn.rd) (flat_r1 HO3.out) HB3.out HB4.out ?_); clear hS; intro v5 w hS; have HV2 := hide hS.getOwn.rd.cells1; have HV3 := hide hS.getOwn.rd.one1; go_frame)
            )
          refine segQ_mk (((hS.bring (by repeat (first | exact t0 | apply tS))).getBlk) : Blk _ hb 28 (i.map B8)) ?_
          refine ord_seg (by repeat (first | exact Clean.body | refine Clean.then ?_ | refine Clean.inBlock ?_ | refine SegQ.clean ?_ | refine FinC.clean ?_)) (n := 0) (rest := [[]]) [14, 15, 16] [⟨_, _, _, _, _, _⟩, ⟨_, _, _, _, _, _⟩, ⟨_, _, _, _, _, _⟩] rfl (by kernel_rfl) (by simp) _ _ ?_
          go_wp2_with (first
            | (show wpList _ _ _ (⟨_, .store 36 _ _, _, _, _, _⟩ :: _) _ _; (refine wpS_store1 (T := 38) (by kernel_rfl) (hS.bring (by repeat (first | exact t0 | apply tS))) rfl rfl rfl rfl HV2.out HV3.out (by simp) ?_); clear hS; intro w hS; go_frame)
            )
          refine segQ_mk (((hS.bring (by repeat (first | exact t0 | apply tS))).getBlk) : Blk _ hb 28 (i.map B8)) ?_
          refine finC_mk (by kernel_rfl) (by
            intro t ht
            simp only [List.mem_cons, List.not_mem_nil, or_false] at ht
            subst ht
            exact stab_blk (b := hb) (fun w h => h) _ none) ?_
          go_wp2_with fail
          go_ret
          exact ⟨rfl, rlay_new (e := ⟨i, q, t, []⟩) (l := l) (v := v5) (v3 := v3) (F := F) (by exact hS.sel (by repeat (first | exact Sel.refl | refine Sel.take (by repeat (first | exact t0 | apply tS)) ?_ | apply Sel.drop)))⟩
        ·
          refine ord_seg (by repeat (first | exact Clean.body | refine Clean.then ?_ | refine Clean.inBlock ?_ | refine SegQ.clean ?_ | refine FinC.clean ?_)) (n := 4) (rest := [[13, 14, 15, 16]]) [12, 6] [⟨_, _, _, _, _, _⟩, ⟨_, _, _, _, _, _⟩] rfl (by kernel_rfl) (by simp) _ _ ?_
          go_wp2_with (first
            | (show wpList _ _ _ (⟨some 28, .call _, _, _, _, _⟩ :: _) _ _; (refine wpS_append slREnt (hS.bring (by repeat (first | exact t0 | apply tS))) rfl rfl (sv := v1) rfl rfl (ys := l.map rC) ((hS.bring (by repeat (first | exact t0 | apply tS))).getOwn.rd) HF.out HB1.out HB2.out ?_); clear hS; intro v2 w hS; go_frame)
            | (show wpList _ _ _ (⟨_, .buildSlice 36 1 _, _, _, _, _⟩ :: _) _ _; refine wpS_build1A slREnt (by omega) hS rfl rfl (cs := rC (v3, ⟨i, q, t, []⟩)) rfl HC34.out ?_; clear hS; intro v4 w hS; go_frame)
            )
          refine segQ_mk (((hS.bring (by repeat (first | exact t0 | apply tS))).getBlk) : Blk _ hb 28 (i.map B8)) ?_
          refine ord_seg (by repeat (first | exact Clean.body | refine Clean.then ?_ | refine Clean.inBlock ?_ | refine SegQ.clean ?_ | refine FinC.clean ?_)) (n := 3) (rest := [[14, 15, 16]]) [13] [⟨_, _, _, _, _, _⟩] rfl (by kernel_rfl) (by simp) _ _ ?_
          go_wp2_with (first
            | (show wpList _ _ _ (⟨some 35, .call _, _, _, _, _⟩ :: _) _ _; (refine wpS_append slREnt (hS.bring (by repeat (first | exact t0 | apply tS))) rfl rfl (sv := v2) rfl rfl (ys := [rC (v3, ⟨i, q, t, []⟩)]) ((hS.bring (by repeat (first | exact t0 | apply tS))).getOwn.rd) (flat_r1 HO3.out) HB3.out HB4.out ?_); clear hS; intro v5 w hS; have HV2 := hide hS.getOwn.rd.cells1; have HV3 := hide hS.getOwn.rd.one1; go_frame)
            )
          refine segQ_mk (((hS.bring (by repeat (first | exact t0 | apply tS))).getBlk) : Blk _ hb 28 (i.map B8)) ?_
          refine ord_seg (by repeat (first | exact Clean.body | refine Clean.then ?_ | refine Clean.inBlock ?_ | refine SegQ.clean ?_ | refine FinC.clean ?_)) (n := 0) (rest := [[]]) [14, 15, 16] [⟨_, _, _, _, _, _⟩, ⟨_, _, _, _, _, _⟩, ⟨_, _, _, _, _, _⟩] rfl (by kernel_rfl) (by simp) _ _ ?_
          go_wp2_with (first
            | (show wpList _ _ _ (⟨_, .store 36 _ _, _, _, _, _⟩ :: _) _ _; (refine wpS_store1 (T := 38) (by kernel_rfl) (hS.bring (by repeat (first | exact t0 | apply tS))) rfl rfl rfl rfl HV2.out HV3.out (by simp) ?_); clear hS; intro w hS; go_frame)
            )
          refine segQ_mk (((hS.bring (by repeat (first | exact t0 | apply tS))).getBlk) : Blk _ hb 28 (i.map B8)) ?_
          refine finC_mk (by kernel_rfl) (by
            intro t ht
            simp only [List.mem_cons, List.not_mem_nil, or_false] at ht
            subst ht
            exact stab_blk (b := hb) (fun w h => h) _ none) ?_
          go_wp2_with fail
          go_ret
          exact ⟨rfl, rlay_new (e := ⟨i, q, t, []⟩) (l := l) (v := v5) (v3 := v3) (F := F) (by exact hS.sel (by repeat (first | exact Sel.refl | refine Sel.take (by repeat (first | exact t0 | apply tS)) ?_ | apply Sel.drop)))⟩
      ·
        refine ord_seg (by repeat (first | exact Clean.body | refine Clean.then ?_ | refine Clean.inBlock ?_ | refine SegQ.clean ?_ | refine FinC.clean ?_)) (n := 4) (rest := [[13, 14, 15, 16]]) [12, 1, 6] [⟨_, _, _, _, _, _⟩, ⟨_, _, _, _, _, _⟩, ⟨_, _, _, _, _, _⟩] rfl (by kernel_rfl) (by simp) _ _ ?_
        go_wp2_with (first
          | (show wpList _ _ _ (⟨_, .buildSlice 36 0 _, _, _, _, _⟩ :: _) _ _; refine wpS_build0 slREnt hS rfl rfl ?_; clear hS; intro v1 w hS; go_frame)
          | (show wpList _ _ _ (⟨some 28, .call _, _, _, _, _⟩ :: _) _ _; (refine wpS_append slREnt (hS.bring (by repeat (first | exact t0 | apply tS))) rfl rfl (sv := v1) rfl rfl (ys := l.map rC) ((hS.bring (by repeat (first | exact t0 | apply tS))).getOwn.rd) HF.out HB1.out HB2.out ?_); clear hS; intro v2 w hS; go_frame)
          | (show wpList _ _ _ (⟨_, .buildSlice 36 1 _, _, _, _, _⟩ :: _) _ _; refine wpS_build1A slREnt (by omega) hS rfl rfl (cs := rC (v3, ⟨i, q, t, []⟩)) rfl HC34.out ?_; clear hS; intro v4 w hS; go_frame)
          )
        refine segQ_mk (((hS.bring (by repeat (first | exact t0 | apply tS))).getBlk) : Blk _ hb 28 (i.map B8)) ?_
        refine ord_seg (by repeat (first | exact Clean.body | refine Clean.then ?_ | refine Clean.inBlock ?_ | refine SegQ.clean ?_ | refine FinC.clean ?_)) (n := 3) (rest := [[14, 15, 16]]) [13] [⟨_, _, _, _, _, _⟩] rfl (by kernel_rfl) (by simp) _ _ ?_
        go_wp2_with (first
          | (show wpList _ _ _ (⟨some 35, .call _, _, _, _, _⟩ :: _) _ _; (refine wpS_append slREnt (hS.bring (by repeat (first | exact t0 | apply tS))) rfl rfl (sv := v2) rfl rfl (ys := [rC (v3, ⟨i, q, t, []⟩)]) ((hS.bring (by repeat (first | exact t0 | apply tS))).getOwn.rd) (flat_r1 HO3.out) HB3.out HB4.out ?_); clear hS; intro v5 w hS; have HV2 := hide hS.getOwn.rd.cells1; have HV3 := hide hS.getOwn.rd.one1; go_frame)
          )
        refine segQ_mk (((hS.bring (by repeat (first | exact t0 | apply tS))).getBlk) : Blk _ hb 28 (i.map B8)) ?_
        refine ord_seg (by repeat (first | exact Clean.body | refine Clean.then ?_ | refine Clean.inBlock ?_ | refine SegQ.clean ?_ | refine FinC.clean ?_)) (n := 0) (rest := [[]]) [14, 15, 16] [⟨_, _, _, _, _, _⟩, ⟨_, _, _, _, _, _⟩, ⟨_, _, _, _, _, _⟩] rfl (by kernel_rfl) (by simp) _ _ ?_
        go_wp2_with (first
          | (show wpList _ _ _ (⟨_, .store 36 _ _, _, _, _, _⟩ :: _) _ _; (refine wpS_store1 (T := 38) (by kernel_rfl) (hS.bring (by repeat (first | exact t0 | apply tS))) rfl rfl rfl rfl HV2.out HV3.out (by simp) ?_); clear hS; intro w hS; go_frame)
          )
        refine segQ_mk (((hS.bring (by repeat (first | exact t0 | apply tS))).getBlk) : Blk _ hb 28 (i.map B8)) ?_
        refine finC_mk (by kernel_rfl) (by
          intro t ht
          simp only [List.mem_cons, List.not_mem_nil, or_false] at ht
          subst ht
          exact stab_blk (b := hb) (fun w h => h) _ none) ?_
        go_wp2_with fail
        go_ret
        exact ⟨rfl, rlay_new (e := ⟨i, q, t, []⟩) (l := l) (v := v5) (v3 := v3) (F := F) (by exact hS.sel (by repeat (first | exact Sel.refl | refine Sel.take (by repeat (first | exact t0 | apply tS)) ?_ | apply Sel.drop)))⟩
  · have HGE : Hid (decide ((32 : Int) ≤ ((relist l).length : Int)) = true) := decT (by omega)
    have HD : Hid (decide ((relist l).length < 32) = false) := decF h
    rw [if_neg h, HD.out]
    clear h HD hll
    go_enter Try.func30, Try.ntmps30
    go_wp2_with (first
      | (show wpList _ _ _ (⟨_, .box _ _, _, _, _, _⟩ :: _) _ _; refine wpS_boxA (cs := i.map B8) hS rfl rfl rfl ?_; clear hS; intro hb w hS; go_frame)
      | (show wpList _ _ _ (⟨_, .load 28 _, _, _, _, _⟩ :: _) _ _; refine wpList_val rfl (op_load aggHash rfl rfl ((hS.bring (by repeat (first | exact t0 | apply tS))).getBlk.cells) HI32.out) ?_; go_frame)
      | (go_at_call 35; refine Ret.calls (at_s (p := p) (ov := ov) (l := l) (F := .blk hb 28 (i.map B8) :: F) (by exact hS.perm (swapD (rbP p ov l) (rsP l) F (.blk hb 28 (i.map B8))).symm) hi HLEN.out) ?_; clear hS; rintro r w ⟨rfl, hS⟩; rw [HIX.out]; replace hS := hS.perm (swapD (rbP p ov l) (rsP l) F (.blk hb 28 (i.map B8))); unfold rbP at hS)
      | (show wpList _ _ _ (⟨some 15, .binOp _ _ _ _ _, _, _, _, _⟩ :: _) _ _; refine wpList_val rfl (op_ilss rfl rfl rfl HN.out) ?_; go_frame)
      | (show wpList _ _ _ (⟨_, .load 36 _, _, _, _, _⟩ :: _) _ _; refine wpList_val rfl (op_load1S (T := 38) oneREnts ((hS.bring (by repeat (first | exact t0 | apply tS)))) rfl rfl rfl) ?_; go_frame)
      | (show wpList _ _ _ (⟨_, .call ⟨.builtin .len, _, _⟩, _, _, _, _⟩ :: _) _ _; refine wpList_val rfl (op_len slREnt rfl rfl (v := ov) rfl ((hS.bring (by repeat (first | exact t0 | apply tS))).getOwn.rd)) ?_; rw [HL.out]; go_frame)
      | (show wpList _ _ _ (⟨some 21, .binOp _ _ _ _ _, _, _, _, _⟩ :: _) _ _; refine wpList_val rfl (op_igeq rfl rfl rfl HGE.out) ?_; go_frame)
      )
    go_ret
    exact ⟨rfl, rB_close [] (ov := ov) (hS.sel (by repeat (first | exact Sel.refl | refine Sel.take (by repeat (first | exact t0 | apply tS)) ?_ | apply Sel.drop)))⟩
end
end Go.Proofs.Ytafpdpcbckpkjaa
namespace Go.Proofs.Ytafpdpcbckpkjaa
open Go.RowKit Go.Px
theorem wout_full {q : Int} {l : List Int} : (wout q l).length = l.length ↔ q ∉ l := by
  unfold wout
  rw [List.length_filter_eq_length_iff]
  constructor
  · intro h hq
    have := h q hq
    simp at this
  · intro h z hz
    simp only [bne_iff_ne, ne_eq]
    rintro rfl
    exact h hz
section
variable {R : Nat → Prop} {base w : World} {F : List Hp} {p : Nat} {B1 B2 : List Ent} {e : Ent}
theorem joinL {v : Value} {y : Int} {l : List Int} {q : Int} {L : List Hp} (h : SepL R base w (.own 3 1 v ([] ++ (y :: l).map (fun z => [I64 z]) ++ [[I64 q]]) :: L)) : SepL R base w (.own 3 1 v ((y :: (l ++ [q])).map fun z => [I64 z]) :: L) := by
  have e1 : ([] ++ (y :: l).map (fun z => [I64 z]) ++ [[I64 q]]) = (y :: (l ++ [q])).map fun z => [I64 z] := by simp
  rwa [e1] at h
set_option maxRecDepth 100000 in
set_option maxHeartbeats 8000000 in
theorem roffer_in {q : Int} {t : Nat} (hS : SepL R base w (rB p (B1 ++ e :: B2) :: F)) (ok : BOk (B1 ++ e :: B2)) :
    Calls Try.prog 30 #[.pointer (some ⟨p, 0, none⟩), HV e.id, I64 q, U t] w (Ret fun r w' => r = .bool false ∧ SepL R base w' (rB p (B1 ++ joinE q e :: B2) :: F)) := by
  have hi : e.id.length = 32 := ok.len e (by simp)
  have hw := ok.wait e (by simp)
  have HWL : Hid ((e.peer :: e.waits).length ≤ 1000000) := by
    unfold Hid
    simp
    omega
  have HPL : Hid (((e.peer :: e.waits).map fun z => [I64 z]).length = e.waits.length + 1) := by simp [Hid]
  have HWN : Hid (((wout q (e.peer :: e.waits)).map fun z => [I64 z]).length = (wout q (e.peer :: e.waits)).length) := by simp [Hid]
  have HB1 : Hid ((([] : List (List Value)).length + ((e.peer :: e.waits).map fun z => [I64 z]).length) * 8 ≤ 140737488355328) := by
    unfold Hid
    simp
    omega
  have HB2 : Hid (([] : List (List Value)).length + ((e.peer :: e.waits).map fun z => [I64 z]).length ≤ maxLen) := by
    unfold Hid maxLen
    simp
    omega
  have HB3 : Hid ((([] ++ (e.peer :: e.waits).map fun z => [I64 z]).length + [[I64 q]].length) * 8 ≤ 140737488355328) := by
    unfold Hid
    simp
    omega
  have HB4 : Hid (([] ++ (e.peer :: e.waits).map fun z => [I64 z]).length + [[I64 q]].length ≤ maxLen) := by
    unfold Hid maxLen
    simp
    omega
  have HIX := hide (ix_split ok)
  have HIL := hide hi
  obtain ⟨k, hk⟩ : ∃ k, B1.length = k := ⟨_, rfl⟩
  rw [hk] at HIX
  obtain ⟨i, hii⟩ : ∃ i, e.id = i := ⟨_, rfl⟩
  rw [hii] at hi HIX ⊢
  have HI32 : Hid ((i.map B8).length = 32) := by simp [Hid, hi]
  have HN := decNeg k
  unfold HV
  clear hw hii
  by_cases h4 : e.waits.length + 1 < 4
  · have HLT : Hid (decide (((e.waits.length + 1 : Nat) : Int) < 4) = true) := decT (by omega)
    by_cases hq : q ∈ e.peer :: e.waits
    · have HJ : Hid (joinE q e = e) := by
        unfold Hid joinE
        rw [if_neg]
        rintro ⟨h1, h2, _⟩
        rcases List.mem_cons.1 hq with h | h
        · exact h1 h.symm
        · exact h2 h
      have HEQ : Hid (((((wout q (e.peer :: e.waits)).length : Nat) : Int) == ((e.waits.length + 1 : Nat) : Int)) = false) := by
        unfold Hid
        rw [beq_eq_false_iff_ne]
        intro h
        exact wout_full.1 (by rw [List.length_cons]; omega) hq
      rw [HJ.out]
      clear h4 hq HJ
      go_enter Try.func30, Try.ntmps30
      go_wp2_with (first
        | (show wpList _ _ _ (⟨_, .box _ _, _, _, _, _⟩ :: _) _ _; refine wpS_boxA (cs := i.map B8) hS rfl rfl rfl ?_; clear hS; intro hb w hS; go_frame)
        | (show wpList _ _ _ (⟨_, .load 28 _, _, _, _, _⟩ :: _) _ _; refine wpList_val rfl (op_load aggHash rfl rfl ((hS.bring (by repeat (first | exact t0 | apply tS))).getBlk.cells) HI32.out) ?_; go_frame)
        | (go_at_call 35; refine Ret.calls (rat_s (F := .blk hb 28 (i.map B8) :: F) (by exact hS.sel (by repeat (first | exact Sel.refl | refine Sel.take (by repeat (first | exact t0 | apply tS)) ?_ | apply Sel.drop))) hi ok) ?_; clear hS; rintro r w ⟨rfl, hS⟩; rw [HIX.out]; obtain ⟨ov, pv, xs, G, hlk, HLN, HX, HC, HD, hS⟩ := rfocus [.blk hb 28 (i.map B8)] hS hk)
        | (show wpList _ _ _ (⟨some 15, .binOp _ _ _ _ _, _, _, _, _⟩ :: _) _ _; refine wpList_val rfl (op_ilss rfl rfl rfl HN.out) ?_; go_frame)
        | (show wpList _ _ _ (⟨_, .load 36 _, _, _, _, _⟩ :: _) _ _; refine wpList_val rfl (op_load1S (T := 38) oneREnts ((hS.bring (by repeat (first | exact t0 | apply tS)))) rfl rfl rfl) ?_; go_frame)
        | (show wpList _ _ _ (⟨_, .indexAddr 36 _ _, _, _, _, _⟩ :: _) _ _; refine wpList_val rfl (op_indexAddr slREnt rfl (v := ov) (k := k) rfl rfl (xs := xs) ((hS.bring (by repeat (first | exact t0 | apply tS))).getOwn.rd) hlk) ?_; go_frame)
        | (show wpList _ _ _ (⟨_, .fieldAddr 79 _ 1, _, _, _, _⟩ :: _) _ _; refine wpList_val rfl (op_fieldAddrE (j := 32) (by kernel_rfl) rfl (n := 34) (v := ov) (k := k) (xs := xs) rfl ((hS.bring (by repeat (first | exact t0 | apply tS))).getOwn.rd) hlk) ?_; go_frame)
        | (show wpList _ _ _ (⟨_, .load 50 _, _, _, _, _⟩ :: _) _ _; refine wpList_val rfl (op_loadF1 oneInts rfl (n := 34) (v := ov) (k := k) (j := 32) (xs := xs) rfl ((hS.bring (by repeat (first | exact t0 | apply tS))).getOwn.rd) hlk (u := pv) (g32 HX.out HIL.out)) ?_; go_frame)
        | (show wpList _ _ _ (⟨some 47, .call _, _, _, _, _⟩ :: _) _ _; refine wpList_val rfl (op_len slInt rfl rfl (v := pv) rfl ((hS.bring (by repeat (first | exact t0 | apply tS))).getOwn.rd)) ?_; rw [HPL.out]; go_frame)
        | (show wpList _ _ _ (⟨some 55, .call _, _, _, _, _⟩ :: _) _ _; refine wpList_val rfl (op_len slInt rfl rfl (v := pv) rfl ((hS.bring (by repeat (first | exact t0 | apply tS))).getOwn.rd)) ?_; rw [HPL.out]; go_frame)
        | (show wpList _ _ _ (⟨some 48, .binOp _ _ _ _ _, _, _, _, _⟩ :: _) _ _; refine wpList_val rfl (op_ilss rfl rfl rfl HLT.out) ?_; go_frame)
        | (go_at_call 44; refine Ret.calls (without_int pv (e.peer :: e.waits) q _ ((hS.bring (by repeat (first | exact t0 | apply tS))).getOwn.rd) HWL.out) ?_; rintro vw w2 hC; replace hS := hS.frameNew hC; clear hC)
        | (show wpList _ _ _ (⟨some 53, .call _, _, _, _, _⟩ :: _) _ _; refine wpList_val rfl (op_len slInt rfl rfl (v := vw) rfl ((hS.bring (by repeat (first | exact t0 | apply tS))).getOwn.rd)) ?_; rw [HWN.out]; go_frame)
        | (show wpList _ _ _ (⟨some 56, .binOp _ _ _ _ _, _, _, _, _⟩ :: _) _ _; refine wpList_val rfl (op_eqI' rfl rfl rfl HEQ.out) ?_; go_frame)
        )
      go_ret
      exact ⟨rfl, rtail1 rfl (HD [.blk hb 28 (i.map B8)] (by exact hS.sel (by repeat (first | exact Sel.refl | refine Sel.take (by repeat (first | exact t0 | apply tS)) ?_ | apply Sel.drop))))⟩
    · have HJ : Hid (joinE q e = { e with waits := e.waits ++ [q] }) := by
        unfold Hid joinE
        rw [if_pos]
        rw [List.mem_cons, not_or] at hq
        exact ⟨fun h => hq.1 h.symm, hq.2, by omega⟩
      have HEQ : Hid (((((wout q (e.peer :: e.waits)).length : Nat) : Int) == ((e.waits.length + 1 : Nat) : Int)) = true) := by
        unfold Hid
        rw [beq_iff_eq, wout_full.2 hq]
        simp
      rw [HJ.out]
      clear h4 hq HJ
      go_enter Try.func30, Try.ntmps30
      go_wp2_with (first
        | (show wpList _ _ _ (⟨_, .box _ _, _, _, _, _⟩ :: _) _ _; refine wpS_boxA (cs := i.map B8) hS rfl rfl rfl ?_; clear hS; intro hb w hS; go_frame)
        | (show wpList _ _ _ (⟨_, .load 28 _, _, _, _, _⟩ :: _) _ _; refine wpList_val rfl (op_load aggHash rfl rfl ((hS.bring (by repeat (first | exact t0 | apply tS))).getBlk.cells) HI32.out) ?_; go_frame)
        | (go_at_call 35; refine Ret.calls (rat_s (F := .blk hb 28 (i.map B8) :: F) (by exact hS.sel (by repeat (first | exact Sel.refl | refine Sel.take (by repeat (first | exact t0 | apply tS)) ?_ | apply Sel.drop))) hi ok) ?_; clear hS; rintro r w ⟨rfl, hS⟩; rw [HIX.out]; obtain ⟨ov, pv, xs, G, hlk, HLN, HX, HC, HD, hS⟩ := rfocus [.blk hb 28 (i.map B8)] hS hk)
        | (show wpList _ _ _ (⟨some 15, .binOp _ _ _ _ _, _, _, _, _⟩ :: _) _ _; refine wpList_val rfl (op_ilss rfl rfl rfl HN.out) ?_; go_frame)
        | (show wpList _ _ _ (⟨_, .load 36 _, _, _, _, _⟩ :: _) _ _; refine wpList_val rfl (op_load1S (T := 38) oneREnts ((hS.bring (by repeat (first | exact t0 | apply tS)))) rfl rfl rfl) ?_; go_frame)
        | (show wpList _ _ _ (⟨_, .indexAddr 36 _ _, _, _, _, _⟩ :: _) _ _; refine wpList_val rfl (op_indexAddr slREnt rfl (v := ov) (k := k) rfl rfl (xs := xs) ((hS.bring (by repeat (first | exact t0 | apply tS))).getOwn.rd) hlk) ?_; go_frame)
        | (show wpList _ _ _ (⟨_, .fieldAddr 79 _ 1, _, _, _, _⟩ :: _) _ _; refine wpList_val rfl (op_fieldAddrE (j := 32) (by kernel_rfl) rfl (n := 34) (v := ov) (k := k) (xs := xs) rfl ((hS.bring (by repeat (first | exact t0 | apply tS))).getOwn.rd) hlk) ?_; go_frame)
        | (show wpList _ _ _ (⟨_, .load 50 _, _, _, _, _⟩ :: _) _ _; refine wpList_val rfl (op_loadF1 oneInts rfl (n := 34) (v := ov) (k := k) (j := 32) (xs := xs) rfl ((hS.bring (by repeat (first | exact t0 | apply tS))).getOwn.rd) hlk (u := pv) (g32 HX.out HIL.out)) ?_; go_frame)
        | (show wpList _ _ _ (⟨some 47, .call _, _, _, _, _⟩ :: _) _ _; refine wpList_val rfl (op_len slInt rfl rfl (v := pv) rfl ((hS.bring (by repeat (first | exact t0 | apply tS))).getOwn.rd)) ?_; rw [HPL.out]; go_frame)
        | (show wpList _ _ _ (⟨some 55, .call _, _, _, _, _⟩ :: _) _ _; refine wpList_val rfl (op_len slInt rfl rfl (v := pv) rfl ((hS.bring (by repeat (first | exact t0 | apply tS))).getOwn.rd)) ?_; rw [HPL.out]; go_frame)
        | (show wpList _ _ _ (⟨some 48, .binOp _ _ _ _ _, _, _, _, _⟩ :: _) _ _; refine wpList_val rfl (op_ilss rfl rfl rfl HLT.out) ?_; go_frame)
        | (go_at_call 44; refine Ret.calls (without_int pv (e.peer :: e.waits) q _ ((hS.bring (by repeat (first | exact t0 | apply tS))).getOwn.rd) HWL.out) ?_; rintro vw w2 hC; replace hS := hS.frameNew hC; clear hC)
        | (show wpList _ _ _ (⟨some 53, .call _, _, _, _, _⟩ :: _) _ _; refine wpList_val rfl (op_len slInt rfl rfl (v := vw) rfl ((hS.bring (by repeat (first | exact t0 | apply tS))).getOwn.rd)) ?_; rw [HWN.out]; go_frame)
        | (show wpList _ _ _ (⟨some 56, .binOp _ _ _ _ _, _, _, _, _⟩ :: _) _ _; refine wpList_val rfl (op_eqI' rfl rfl rfl HEQ.out) ?_; go_frame)
        )
      refine wp_region_ord (by kernel_rfl) [] [[0, 1, 2, 4, 6, 8, 3, 5, 7, 9, 10, 11, 12, 13], [0, 1, 2, 4, 6, 8, 3, 5, 9, 7, 10, 11, 12, 13], [0, 1, 2, 4, 6, 8, 3, 9, 5, 7, 10, 11, 12, 13], [0, 1, 2, 4, 6, 8, 5, 3, 7, 9, 10, 11, 12, 13], [0, 1, 2, 4, 6, 8, 5, 3, 9, 7, 10, 11, 12, 13], [0, 1, 2, 4, 6, 8, 5, 7, 3, 9, 10, 11, 12, 13], [0, 1, 2, 4, 6, 8, 5, 7, 9, 3, 10, 11, 12, 13], [0, 1, 2, 4, 6, 8, 5, 7, 9, 10, 3, 11, 12, 13], [0, 1, 2, 4, 6, 8, 5, 9, 3, 7, 10, 11, 12, 13], [0, 1, 2, 4, 6, 8, 5, 9, 7, 3, 10, 11, 12, 13], [0, 1, 2, 4, 6, 8, 5, 9, 7, 10, 3, 11, 12, 13], [0, 1, 2, 4, 6, 8, 9, 3, 5, 7, 10, 11, 12, 13], [0, 1, 2, 4, 6, 8, 9, 5, 3, 7, 10, 11, 12, 13], [0, 1, 2, 4, 6, 8, 9, 5, 7, 3, 10, 11, 12, 13], [0, 1, 2, 4, 6, 8, 9, 5, 7, 10, 3, 11, 12, 13]] (by kernel_rfl) (by kernel_rfl) (fun _ => True) (fun _ _ _ _ => trivial) trivial (by repeat (first | exact Clean.body | refine Clean.then ?_ | refine Clean.inBlock ?_ | refine SegQ.clean ?_ | refine FinC.clean ?_)) ?_
      replace hS := hS.drew
      refine ord_seg (by repeat (first | exact Clean.body | refine Clean.then ?_ | refine Clean.inBlock ?_ | refine SegQ.clean ?_ | refine FinC.clean ?_)) (n := 8) (rest := [[3, 5, 7, 9, 10, 11, 12, 13], [3, 5, 9, 7, 10, 11, 12, 13], [3, 9, 5, 7, 10, 11, 12, 13], [5, 3, 7, 9, 10, 11, 12, 13], [5, 3, 9, 7, 10, 11, 12, 13], [5, 7, 3, 9, 10, 11, 12, 13], [5, 7, 9, 3, 10, 11, 12, 13], [5, 7, 9, 10, 3, 11, 12, 13], [5, 9, 3, 7, 10, 11, 12, 13], [5, 9, 7, 3, 10, 11, 12, 13], [5, 9, 7, 10, 3, 11, 12, 13], [9, 3, 5, 7, 10, 11, 12, 13], [9, 5, 3, 7, 10, 11, 12, 13], [9, 5, 7, 3, 10, 11, 12, 13], [9, 5, 7, 10, 3, 11, 12, 13]]) [0, 1, 2, 4, 6, 8] [⟨_, _, _, _, _, _⟩, ⟨_, _, _, _, _, _⟩, ⟨_, _, _, _, _, _⟩, ⟨_, _, _, _, _, _⟩, ⟨_, _, _, _, _, _⟩, ⟨_, _, _, _, _, _⟩] rfl (by kernel_rfl) (by simp) _ _ ?_
      go_wp2_with fail
      refine segQ_mk trivial ?_
      refine ord_fork (n := 7) (os1 := [[3, 5, 7, 9, 10, 11, 12, 13], [3, 5, 9, 7, 10, 11, 12, 13], [3, 9, 5, 7, 10, 11, 12, 13]]) (os2 := [[5, 3, 7, 9, 10, 11, 12, 13], [5, 3, 9, 7, 10, 11, 12, 13], [5, 7, 3, 9, 10, 11, 12, 13], [5, 7, 9, 3, 10, 11, 12, 13], [5, 7, 9, 10, 3, 11, 12, 13], [5, 9, 3, 7, 10, 11, 12, 13], [5, 9, 7, 3, 10, 11, 12, 13], [5, 9, 7, 10, 3, 11, 12, 13], [9, 3, 5, 7, 10, 11, 12, 13], [9, 5, 3, 7, 10, 11, 12, 13], [9, 5, 7, 3, 10, 11, 12, 13], [9, 5, 7, 10, 3, 11, 12, 13]]) (by decide) ?_ ?_
      ·
        refine ord_seg (by repeat (first | exact Clean.body | refine Clean.then ?_ | refine Clean.inBlock ?_ | refine SegQ.clean ?_ | refine FinC.clean ?_)) (n := 7) (rest := [[5, 7, 9, 10, 11, 12, 13], [5, 9, 7, 10, 11, 12, 13], [9, 5, 7, 10, 11, 12, 13]]) [3] [⟨_, _, _, _, _, _⟩] rfl (by kernel_rfl) (by simp) _ _ ?_
        go_wp2_with (first
          | (show wpList _ _ _ (⟨_, .load 36 _, _, _, _, _⟩ :: _) _ _; refine wpList_val rfl (op_load1S (T := 38) oneREnts ((hS.bring (by repeat (first | exact t0 | apply tS)))) rfl rfl rfl) ?_; go_frame)
          )
        refine segQ_mk trivial ?_
        refine ord_fork (n := 6) (os1 := [[5, 7, 9, 10, 11, 12, 13], [5, 9, 7, 10, 11, 12, 13]]) (os2 := [[9, 5, 7, 10, 11, 12, 13]]) (by decide) ?_ ?_
        ·
          refine ord_seg (by repeat (first | exact Clean.body | refine Clean.then ?_ | refine Clean.inBlock ?_ | refine SegQ.clean ?_ | refine FinC.clean ?_)) (n := 6) (rest := [[7, 9, 10, 11, 12, 13], [9, 7, 10, 11, 12, 13]]) [5] [⟨_, _, _, _, _, _⟩] rfl (by kernel_rfl) (by simp) _ _ ?_
          go_wp2_with (first
            | (show wpList _ _ _ (⟨_, .buildSlice 50 0 _, _, _, _, _⟩ :: _) _ _; refine wpS_build0 slInt hS rfl rfl ?_; clear hS; intro v1 w hS; go_frame)
            )
          refine segQ_mk trivial ?_
          refine ord_fork (n := 5) (os1 := [[7, 9, 10, 11, 12, 13]]) (os2 := [[9, 7, 10, 11, 12, 13]]) (by decide) ?_ ?_
          ·
            refine ord_seg (by repeat (first | exact Clean.body | refine Clean.then ?_ | refine Clean.inBlock ?_ | refine SegQ.clean ?_ | refine FinC.clean ?_)) (n := 5) (rest := [[9, 10, 11, 12, 13]]) [7] [⟨_, _, _, _, _, _⟩] rfl (by kernel_rfl) (by simp) _ _ ?_
            go_wp2_with (first
              | (show wpList _ _ _ (⟨some 65, .call _, _, _, _, _⟩ :: _) _ _; (refine wpS_append slInt (hS.bring (by repeat (first | exact t0 | apply tS))) rfl rfl (sv := v1) rfl rfl (ys := (e.peer :: e.waits).map fun z => [I64 z]) ((hS.bring (by repeat (first | exact t0 | apply tS))).getOwn.rd) (flat_ints _) HB1.out HB2.out ?_); clear hS; intro v2 w hS; go_frame)
              )
            refine segQ_mk trivial ?_
            refine ord_seg (by repeat (first | exact Clean.body | refine Clean.then ?_ | refine Clean.inBlock ?_ | refine SegQ.clean ?_ | refine FinC.clean ?_)) (n := 3) (rest := [[11, 12, 13]]) [9, 10] [⟨_, _, _, _, _, _⟩, ⟨_, _, _, _, _, _⟩] rfl (by kernel_rfl) (by simp) _ _ ?_
            go_wp2_with (first
              | (show wpList _ _ _ (⟨_, .buildSlice 50 1 _, _, _, _, _⟩ :: _) _ _; refine wpS_build11 slInt hS rfl rfl (u := I64 q) rfl rfl ?_; clear hS; intro v3 w hS; go_frame)
              | (show wpList _ _ _ (⟨some 68, .call _, _, _, _, _⟩ :: _) _ _; (refine wpS_append slInt (hS.bring (by repeat (first | exact t0 | apply tS))) rfl rfl (sv := v2) rfl rfl (ys := [[I64 q]]) ((hS.bring (by repeat (first | exact t0 | apply tS))).getOwn.rd) (flat_ints [q]) HB3.out HB4.out ?_); clear hS; intro v4 w hS; have HV2 := hide hS.getOwn.rd.cells1; have HV3 := hide hS.getOwn.rd.one1; go_frame)
              )
            refine segQ_mk trivial ?_
            refine ord_seg (by repeat (first | exact Clean.body | refine Clean.then ?_ | refine Clean.inBlock ?_ | refine SegQ.clean ?_ | refine FinC.clean ?_)) (n := 0) (rest := [[]]) [11, 12, 13] [⟨_, _, _, _, _, _⟩, ⟨_, _, _, _, _, _⟩, ⟨_, _, _, _, _, _⟩] rfl (by kernel_rfl) (by simp) _ _ ?_
            go_wp2_with (first
              | (show wpList _ _ _ (⟨_, .indexAddr 36 _ _, _, _, _, _⟩ :: _) _ _; refine wpList_val rfl (op_indexAddr slREnt rfl (v := ov) (k := k) rfl rfl (xs := xs) ((hS.bring (by repeat (first | exact t0 | apply tS))).getOwn.rd) hlk) ?_; go_frame)
              | (show wpList _ _ _ (⟨_, .fieldAddr 79 _ 1, _, _, _, _⟩ :: _) _ _; refine wpList_val rfl (op_fieldAddrE (j := 32) (by kernel_rfl) rfl (n := 34) (v := ov) (k := k) (xs := xs) rfl ((hS.bring (by repeat (first | exact t0 | apply tS))).getOwn.rd) hlk) ?_; go_frame)
              | (show wpList _ _ _ (⟨_, .store 50 _ _, _, _, _, _⟩ :: _) _ _; (refine wpS_storeF1 (by kernel_rfl) (hS.bring (by repeat (first | exact t0 | apply tS))) rfl rfl (k := k) (j := 32) rfl rfl HV2.out HV3.out hlk (by omega) ?_); clear hS; intro w hS; rw [s32 HX.out HIL.out] at hS; go_frame)
              )
            refine segQ_mk trivial ?_
            refine finC_mk (by kernel_rfl) (by
              intro t ht
              cases ht) ?_
            go_wp2_with fail
            go_ret
            exact ⟨rfl, rtail1 rfl (HC [.blk hb 28 (i.map B8)] (f := { e with waits := e.waits ++ [q] }) (v := v4) rfl (joinL (by exact hS.sel (by repeat (first | exact Sel.refl | refine Sel.take (by repeat (first | exact t0 | apply tS)) ?_ | apply Sel.drop)))))⟩
          ·
            refine ord_seg (by repeat (first | exact Clean.body | refine Clean.then ?_ | refine Clean.inBlock ?_ | refine SegQ.clean ?_ | refine FinC.clean ?_)) (n := 4) (rest := [[10, 11, 12, 13]]) [9, 7] [⟨_, _, _, _, _, _⟩, ⟨_, _, _, _, _, _⟩] rfl (by kernel_rfl) (by simp) _ _ ?_
            go_wp2_with (first
              | (show wpList _ _ _ (⟨some 65, .call _, _, _, _, _⟩ :: _) _ _; (refine wpS_append slInt (hS.bring (by repeat (first | exact t0 | apply tS))) rfl rfl (sv := v1) rfl rfl (ys := (e.peer :: e.waits).map fun z => [I64 z]) ((hS.bring (by repeat (first | exact t0 | apply tS))).getOwn.rd) (flat_ints _) HB1.out HB2.out ?_); clear hS; intro v2 w hS; go_frame)
              | (show wpList _ _ _ (⟨_, .buildSlice 50 1 _, _, _, _, _⟩ :: _) _ _; refine wpS_build11 slInt hS rfl rfl (u := I64 q) rfl rfl ?_; clear hS; intro v3 w hS; go_frame)
              )
            refine segQ_mk trivial ?_
            refine ord_seg (by repeat (first | exact Clean.body | refine Clean.then ?_ | refine Clean.inBlock ?_ | refine SegQ.clean ?_ | refine FinC.clean ?_)) (n := 3) (rest := [[11, 12, 13]]) [10] [⟨_, _, _, _, _, _⟩] rfl (by kernel_rfl) (by simp) _ _ ?_
            go_wp2_with (first
              | (show wpList _ _ _ (⟨some 68, .call _, _, _, _, _⟩ :: _) _ _; (refine wpS_append slInt (hS.bring (by repeat (first | exact t0 | apply tS))) rfl rfl (sv := v2) rfl rfl (ys := [[I64 q]]) ((hS.bring (by repeat (first | exact t0 | apply tS))).getOwn.rd) (flat_ints [q]) HB3.out HB4.out ?_); clear hS; intro v4 w hS; have HV2 := hide hS.getOwn.rd.cells1; have HV3 := hide hS.getOwn.rd.one1; go_frame)
              )
            refine segQ_mk trivial ?_
            refine ord_seg (by repeat (first | exact Clean.body | refine Clean.then ?_ | refine Clean.inBlock ?_ | refine SegQ.clean ?_ | refine FinC.clean ?_)) (n := 0) (rest := [[]]) [11, 12, 13] [⟨_, _, _, _, _, _⟩, ⟨_, _, _, _, _, _⟩, ⟨_, _, _, _, _, _⟩] rfl (by kernel_rfl) (by simp) _ _ ?_
            go_wp2_with (first
              | (show wpList _ _ _ (⟨_, .indexAddr 36 _ _, _, _, _, _⟩ :: _) _ _; refine wpList_val rfl (op_indexAddr slREnt rfl (v := ov) (k := k) rfl rfl (xs := xs) ((hS.bring (by repeat (first | exact t0 | apply tS))).getOwn.rd) hlk) ?_; go_frame)
              | (show wpList _ _ _ (⟨_, .fieldAddr 79 _ 1, _, _, _, _⟩ :: _) _ _; refine wpList_val rfl (op_fieldAddrE (j := 32) (by kernel_rfl) rfl (n := 34) (v := ov) (k := k) (xs := xs) rfl ((hS.bring (by repeat (first | exact t0 | apply tS))).getOwn.rd) hlk) ?_; go_frame)
              | (show wpList _ _ _ (⟨_, .store 50 _ _, _, _, _, _⟩ :: _) _ _; (refine wpS_storeF1 (by kernel_rfl) (hS.bring (by repeat (first | exact t0 | apply tS))) rfl rfl (k := k) (j := 32) rfl rfl HV2.out HV3.out hlk (by omega) ?_); clear hS; intro w hS; rw [s32 HX.out HIL.out] at hS; go_frame)
              )
            refine segQ_mk trivial ?_
            refine finC_mk (by kernel_rfl) (by
              intro t ht
              cases ht) ?_
            go_wp2_with fail
            go_ret
            exact ⟨rfl, rtail1 rfl (HC [.blk hb 28 (i.map B8)] (f := { e with waits := e.waits ++ [q] }) (v := v4) rfl (joinL (by exact hS.sel (by repeat (first | exact Sel.refl | refine Sel.take (by repeat (first | exact t0 | apply tS)) ?_ | apply Sel.drop)))))⟩
        ·
          refine ord_seg (by repeat (first | exact Clean.body | refine Clean.then ?_ | refine Clean.inBlock ?_ | refine SegQ.clean ?_ | refine FinC.clean ?_)) (n := 4) (rest := [[10, 11, 12, 13]]) [9, 5, 7] [⟨_, _, _, _, _, _⟩, ⟨_, _, _, _, _, _⟩, ⟨_, _, _, _, _, _⟩] rfl (by kernel_rfl) (by simp) _ _ ?_
          go_wp2_with (first
            | (show wpList _ _ _ (⟨_, .buildSlice 50 0 _, _, _, _, _⟩ :: _) _ _; refine wpS_build0 slInt hS rfl rfl ?_; clear hS; intro v1 w hS; go_frame)
            | (show wpList _ _ _ (⟨some 65, .call _, _, _, _, _⟩ :: _) _ _; (refine wpS_append slInt (hS.bring (by repeat (first | exact t0 | apply tS))) rfl rfl (sv := v1) rfl rfl (ys := (e.peer :: e.waits).map fun z => [I64 z]) ((hS.bring (by repeat (first | exact t0 | apply tS))).getOwn.rd) (flat_ints _) HB1.out HB2.out ?_); clear hS; intro v2 w hS; go_frame)
            | (show wpList _ _ _ (⟨_, .buildSlice 50 1 _, _, _, _, _⟩ :: _) _ _; refine wpS_build11 slInt hS rfl rfl (u := I64 q) rfl rfl ?_; clear hS; intro v3 w hS; go_frame)
            )
          refine segQ_mk trivial ?_
          refine ord_seg (by repeat (first | exact Clean.body | refine Clean.then ?_ | refine Clean.inBlock ?_ | refine SegQ.clean ?_ | refine FinC.clean ?_)) (n := 3) (rest := [[11, 12, 13]]) [10] [⟨_, _, _, _, _, _⟩] rfl (by kernel_rfl) (by simp) _ _ ?_
          go_wp2_with (first
            | (show wpList _ _ _ (⟨some 68, .call _, _, _, _, _⟩ :: _) _ _; (refine wpS_append slInt (hS.bring (by repeat (first | exact t0 | apply tS))) rfl rfl (sv := v2) rfl rfl (ys := [[I64 q]]) ((hS.bring (by repeat (first | exact t0 | apply tS))).getOwn.rd) (flat_ints [q]) HB3.out HB4.out ?_); clear hS; intro v4 w hS; have HV2 := hide hS.getOwn.rd.cells1; have HV3 := hide hS.getOwn.rd.one1; go_frame)
            )
          refine segQ_mk trivial ?_
          refine ord_seg (by repeat (first | exact Clean.body | refine Clean.then ?_ | refine Clean.inBlock ?_ | refine SegQ.clean ?_ | refine FinC.clean ?_)) (n := 0) (rest := [[]]) [11, 12, 13] [⟨_, _, _, _, _, _⟩, ⟨_, _, _, _, _, _⟩, ⟨_, _, _, _, _, _⟩] rfl (by kernel_rfl) (by simp) _ _ ?_
          go_wp2_with (first
            | (show wpList _ _ _ (⟨_, .indexAddr 36 _ _, _, _, _, _⟩ :: _) _ _; refine wpList_val rfl (op_indexAddr slREnt rfl (v := ov) (k := k) rfl rfl (xs := xs) ((hS.bring (by repeat (first | exact t0 | apply tS))).getOwn.rd) hlk) ?_; go_frame)
            | (show wpList _ _ _ (⟨_, .fieldAddr 79 _ 1, _, _, _, _⟩ :: _) _ _; refine wpList_val rfl (op_fieldAddrE (j := 32) (by kernel_rfl) rfl (n := 34) (v := ov) (k := k) (xs := xs) rfl ((hS.bring (by repeat (first | exact t0 | apply tS))).getOwn.rd) hlk) ?_; go_frame)
            | (show wpList _ _ _ (⟨_, .store 50 _ _, _, _, _, _⟩ :: _) _ _; (refine wpS_storeF1 (by kernel_rfl) (hS.bring (by repeat (first | exact t0 | apply tS))) rfl rfl (k := k) (j := 32) rfl rfl HV2.out HV3.out hlk (by omega) ?_); clear hS; intro w hS; rw [s32 HX.out HIL.out] at hS; go_frame)
            )
          refine segQ_mk trivial ?_
          refine finC_mk (by kernel_rfl) (by
            intro t ht
            cases ht) ?_
          go_wp2_with fail
          go_ret
          exact ⟨rfl, rtail1 rfl (HC [.blk hb 28 (i.map B8)] (f := { e with waits := e.waits ++ [q] }) (v := v4) rfl (joinL (by exact hS.sel (by repeat (first | exact Sel.refl | refine Sel.take (by repeat (first | exact t0 | apply tS)) ?_ | apply Sel.drop)))))⟩
      ·
        refine ord_fork (n := 7) (os1 := [[5, 3, 7, 9, 10, 11, 12, 13], [5, 3, 9, 7, 10, 11, 12, 13], [5, 7, 3, 9, 10, 11, 12, 13], [5, 7, 9, 3, 10, 11, 12, 13], [5, 7, 9, 10, 3, 11, 12, 13], [5, 9, 3, 7, 10, 11, 12, 13], [5, 9, 7, 3, 10, 11, 12, 13], [5, 9, 7, 10, 3, 11, 12, 13]]) (os2 := [[9, 3, 5, 7, 10, 11, 12, 13], [9, 5, 3, 7, 10, 11, 12, 13], [9, 5, 7, 3, 10, 11, 12, 13], [9, 5, 7, 10, 3, 11, 12, 13]]) (by decide) ?_ ?_
        ·
          refine ord_seg (by repeat (first | exact Clean.body | refine Clean.then ?_ | refine Clean.inBlock ?_ | refine SegQ.clean ?_ | refine FinC.clean ?_)) (n := 7) (rest := [[3, 7, 9, 10, 11, 12, 13], [3, 9, 7, 10, 11, 12, 13], [7, 3, 9, 10, 11, 12, 13], [7, 9, 3, 10, 11, 12, 13], [7, 9, 10, 3, 11, 12, 13], [9, 3, 7, 10, 11, 12, 13], [9, 7, 3, 10, 11, 12, 13], [9, 7, 10, 3, 11, 12, 13]]) [5] [⟨_, _, _, _, _, _⟩] rfl (by kernel_rfl) (by simp) _ _ ?_
          go_wp2_with (first
            | (show wpList _ _ _ (⟨_, .buildSlice 50 0 _, _, _, _, _⟩ :: _) _ _; refine wpS_build0 slInt hS rfl rfl ?_; clear hS; intro v1 w hS; go_frame)
            )
          refine segQ_mk trivial ?_
          refine ord_fork (n := 6) (os1 := [[3, 7, 9, 10, 11, 12, 13], [3, 9, 7, 10, 11, 12, 13]]) (os2 := [[7, 3, 9, 10, 11, 12, 13], [7, 9, 3, 10, 11, 12, 13], [7, 9, 10, 3, 11, 12, 13], [9, 3, 7, 10, 11, 12, 13], [9, 7, 3, 10, 11, 12, 13], [9, 7, 10, 3, 11, 12, 13]]) (by decide) ?_ ?_
          ·
            refine ord_seg (by repeat (first | exact Clean.body | refine Clean.then ?_ | refine Clean.inBlock ?_ | refine SegQ.clean ?_ | refine FinC.clean ?_)) (n := 6) (rest := [[7, 9, 10, 11, 12, 13], [9, 7, 10, 11, 12, 13]]) [3] [⟨_, _, _, _, _, _⟩] rfl (by kernel_rfl) (by simp) _ _ ?_
            go_wp2_with (first
              | (show wpList _ _ _ (⟨_, .load 36 _, _, _, _, _⟩ :: _) _ _; refine wpList_val rfl (op_load1S (T := 38) oneREnts ((hS.bring (by repeat (first | exact t0 | apply tS)))) rfl rfl rfl) ?_; go_frame)
              )
            refine segQ_mk trivial ?_
            refine ord_fork (n := 5) (os1 := [[7, 9, 10, 11, 12, 13]]) (os2 := [[9, 7, 10, 11, 12, 13]]) (by decide) ?_ ?_
            ·
              refine ord_seg (by repeat (first | exact Clean.body | refine Clean.then ?_ | refine Clean.inBlock ?_ | refine SegQ.clean ?_ | refine FinC.clean ?_)) (n := 5) (rest := [[9, 10, 11, 12, 13]]) [7] [⟨_, _, _, _, _, _⟩] rfl (by kernel_rfl) (by simp) _ _ ?_
              go_wp2_with (first
                | (show wpList _ _ _ (⟨some 65, .call _, _, _, _, _⟩ :: _) _ _; (refine wpS_append slInt (hS.bring (by repeat (first | exact t0 | apply tS))) rfl rfl (sv := v1) rfl rfl (ys := (e.peer :: e.waits).map fun z => [I64 z]) ((hS.bring (by repeat (first | exact t0 | apply tS))).getOwn.rd) (flat_ints _) HB1.out HB2.out ?_); clear hS; intro v2 w hS; go_frame)
                )
              refine segQ_mk trivial ?_
              refine ord_seg (by repeat (first | exact Clean.body | refine Clean.then ?_ | refine Clean.inBlock ?_ | refine SegQ.clean ?_ | refine FinC.clean ?_)) (n := 3) (rest := [[11, 12, 13]]) [9, 10] [⟨_, _, _, _, _, _⟩, ⟨_, _, _, _, _, _⟩] rfl (by kernel_rfl) (by simp) _ _ ?_
              go_wp2_with (first
                | (show wpList _ _ _ (⟨_, .buildSlice 50 1 _, _, _, _, _⟩ :: _) _ _; refine wpS_build11 slInt hS rfl rfl (u := I64 q) rfl rfl ?_; clear hS; intro v3 w hS; go_frame)
                | (show wpList _ _ _ (⟨some 68, .call _, _, _, _, _⟩ :: _) _ _; (refine wpS_append slInt (hS.bring (by repeat (first | exact t0 | apply tS))) rfl rfl (sv := v2) rfl rfl (ys := [[I64 q]]) ((hS.bring (by repeat (first | exact t0 | apply tS))).getOwn.rd) (flat_ints [q]) HB3.out HB4.out ?_); clear hS; intro v4 w hS; have HV2 := hide hS.getOwn.rd.cells1; have HV3 := hide hS.getOwn.rd.one1; go_frame)
                )
              refine segQ_mk trivial ?_
              refine ord_seg (by repeat (first | exact Clean.body | refine Clean.then ?_ | refine Clean.inBlock ?_ | refine SegQ.clean ?_ | refine FinC.clean ?_)) (n := 0) (rest := [[]]) [11, 12, 13] [⟨_, _, _, _, _, _⟩, ⟨_, _, _, _, _, _⟩, ⟨_, _, _, _, _, _⟩] rfl (by kernel_rfl) (by simp) _ _ ?_
              go_wp2_with (first
                | (show wpList _ _ _ (⟨_, .indexAddr 36 _ _, _, _, _, _⟩ :: _) _ _; refine wpList_val rfl (op_indexAddr slREnt rfl (v := ov) (k := k) rfl rfl (xs := xs) ((hS.bring (by repeat (first | exact t0 | apply tS))).getOwn.rd) hlk) ?_; go_frame)
                | (show wpList _ _ _ (⟨_, .fieldAddr 79 _ 1, _, _, _, _⟩ :: _) _ _; refine wpList_val rfl (op_fieldAddrE (j := 32) (by kernel_rfl) rfl (n := 34) (v := ov) (k := k) (xs := xs) rfl ((hS.bring (by repeat (first | exact t0 | apply tS))).getOwn.rd) hlk) ?_; go_frame)
                | (show wpList _ _ _ (⟨_, .store 50 _ _, _, _, _, _⟩ :: _) _ _; (refine wpS_storeF1 (by kernel_rfl) (hS.bring (by repeat (first | exact t0 | apply tS))) rfl rfl (k := k) (j := 32) rfl rfl HV2.out HV3.out hlk (by omega) ?_); clear hS; intro w hS; rw [s32 HX.out HIL.out] at hS; go_frame)
                )
              refine segQ_mk trivial ?_
              refine finC_mk (by kernel_rfl) (by
                intro t ht
                cases ht) ?_
              go_wp2_with fail
              go_ret
              exact ⟨rfl, rtail1 rfl (HC [.blk hb 28 (i.map B8)] (f := { e with waits := e.waits ++ [q] }) (v := v4) rfl (joinL (by exact hS.sel (by repeat (first | exact Sel.refl | refine Sel.take (by repeat (first | exact t0 | apply tS)) ?_ | apply Sel.drop)))))⟩
            ·
              refine ord_seg (by repeat (first | exact Clean.body | refine Clean.then ?_ | refine Clean.inBlock ?_ | refine SegQ.clean ?_ | refine FinC.clean ?_)) (n := 4) (rest := [[10, 11, 12, 13]]) [9, 7] [⟨_, _, _, _, _, _⟩, ⟨_, _, _, _, _, _⟩] rfl (by kernel_rfl) (by simp) _ _ ?_
              go_wp2_with (first
                | (show wpList _ _ _ (⟨some 65, .call _, _, _, _, _⟩ :: _) _ _; (refine wpS_append slInt (hS.bring (by repeat (first | exact t0 | apply tS))) rfl rfl (sv := v1) rfl rfl (ys := (e.peer :: e.waits).map fun z => [I64 z]) ((hS.bring (by repeat (first | exact t0 | apply tS))).getOwn.rd) (flat_ints _) HB1.out HB2.out ?_); clear hS; intro v2 w hS; go_frame)
                | (show wpList _ _ _ (⟨_, .buildSlice 50 1 _, _, _, _, _⟩ :: _) _ _; refine wpS_build11 slInt hS rfl rfl (u := I64 q) rfl rfl ?_; clear hS; intro v3 w hS; go_frame)
                )
              refine segQ_mk trivial ?_
              refine ord_seg (by repeat (first | exact Clean.body | refine Clean.then ?_ | refine Clean.inBlock ?_ | refine SegQ.clean ?_ | refine FinC.clean ?_)) (n := 3) (rest := [[11, 12, 13]]) [10] [⟨_, _, _, _, _, _⟩] rfl (by kernel_rfl) (by simp) _ _ ?_
              go_wp2_with (first
                | (show wpList _ _ _ (⟨some 68, .call _, _, _, _, _⟩ :: _) _ _; (refine wpS_append slInt (hS.bring (by repeat (first | exact t0 | apply tS))) rfl rfl (sv := v2) rfl rfl (ys := [[I64 q]]) ((hS.bring (by repeat (first | exact t0 | apply tS))).getOwn.rd) (flat_ints [q]) HB3.out HB4.out ?_); clear hS; intro v4 w hS; have HV2 := hide hS.getOwn.rd.cells1; have HV3 := hide hS.getOwn.rd.one1; go_frame)
                )
              refine segQ_mk trivial ?_
              refine ord_seg (by repeat (first | exact Clean.body | refine Clean.then ?_ | refine Clean.inBlock ?_ | refine SegQ.clean ?_ | refine FinC.clean ?_)) (n := 0) (rest := [[]]) [11, 12, 13] [⟨_, _, _, _, _, _⟩, ⟨_, _, _, _, _, _⟩, ⟨_, _, _, _, _, _⟩] rfl (by kernel_rfl) (by simp) _ _ ?_
              go_wp2_with (first
                | (show wpList _ _ _ (⟨_, .indexAddr 36 _ _, _, _, _, _⟩ :: _) _ _; refine wpList_val rfl (op_indexAddr slREnt rfl (v := ov) (k := k) rfl rfl (xs := xs) ((hS.bring (by repeat (first | exact t0 | apply tS))).getOwn.rd) hlk) ?_; go_frame)
                | (show wpList _ _ _ (⟨_, .fieldAddr 79 _ 1, _, _, _, _⟩ :: _) _ _; refine wpList_val rfl (op_fieldAddrE (j := 32) (by kernel_rfl) rfl (n := 34) (v := ov) (k := k) (xs := xs) rfl ((hS.bring (by repeat (first | exact t0 | apply tS))).getOwn.rd) hlk) ?_; go_frame)
                | (show wpList _ _ _ (⟨_, .store 50 _ _, _, _, _, _⟩ :: _) _ _; (refine wpS_storeF1 (by kernel_rfl) (hS.bring (by repeat (first | exact t0 | apply tS))) rfl rfl (k := k) (j := 32) rfl rfl HV2.out HV3.out hlk (by omega) ?_); clear hS; intro w hS; rw [s32 HX.out HIL.out] at hS; go_frame)
                )
              refine segQ_mk trivial ?_
              refine finC_mk (by kernel_rfl) (by
                intro t ht
                cases ht) ?_
              go_wp2_with fail
              go_ret
              exact ⟨rfl, rtail1 rfl (HC [.blk hb 28 (i.map B8)] (f := { e with waits := e.waits ++ [q] }) (v := v4) rfl (joinL (by exact hS.sel (by repeat (first | exact Sel.refl | refine Sel.take (by repeat (first | exact t0 | apply tS)) ?_ | apply Sel.drop)))))⟩
          ·
            refine ord_fork (n := 6) (os1 := [[7, 3, 9, 10, 11, 12, 13], [7, 9, 3, 10, 11, 12, 13], [7, 9, 10, 3, 11, 12, 13]]) (os2 := [[9, 3, 7, 10, 11, 12, 13], [9, 7, 3, 10, 11, 12, 13], [9, 7, 10, 3, 11, 12, 13]]) (by decide) ?_ ?_
            ·
              refine ord_seg (by repeat (first | exact Clean.body | refine Clean.then ?_ | refine Clean.inBlock ?_ | refine SegQ.clean ?_ | refine FinC.clean ?_)) (n := 6) (rest := [[3, 9, 10, 11, 12, 13], [9, 3, 10, 11, 12, 13], [9, 10, 3, 11, 12, 13]]) [7] [⟨_, _, _, _, _, _⟩] rfl (by kernel_rfl) (by simp) _ _ ?_
              go_wp2_with (first
                | (show wpList _ _ _ (⟨some 65, .call _, _, _, _, _⟩ :: _) _ _; (refine wpS_append slInt (hS.bring (by repeat (first | exact t0 | apply tS))) rfl rfl (sv := v1) rfl rfl (ys := (e.peer :: e.waits).map fun z => [I64 z]) ((hS.bring (by repeat (first | exact t0 | apply tS))).getOwn.rd) (flat_ints _) HB1.out HB2.out ?_); clear hS; intro v2 w hS; go_frame)
                )
              refine segQ_mk trivial ?_
              refine ord_fork (n := 5) (os1 := [[3, 9, 10, 11, 12, 13]]) (os2 := [[9, 3, 10, 11, 12, 13], [9, 10, 3, 11, 12, 13]]) (by decide) ?_ ?_
              ·
                refine ord_seg (by repeat (first | exact Clean.body | refine Clean.then ?_ | refine Clean.inBlock ?_ | refine SegQ.clean ?_ | refine FinC.clean ?_)) (n := 3) (rest := [[11, 12, 13]]) [3, 9, 10] [⟨_, _, _, _, _, _⟩, ⟨_, _, _, _, _, _⟩, ⟨_, _, _, _, _, _⟩] rfl (by kernel_rfl) (by simp) _ _ ?_
                go_wp2_with (first
                  | (show wpList _ _ _ (⟨_, .load 36 _, _, _, _, _⟩ :: _) _ _; refine wpList_val rfl (op_load1S (T := 38) oneREnts ((hS.bring (by repeat (first | exact t0 | apply tS)))) rfl rfl rfl) ?_; go_frame)
                  | (show wpList _ _ _ (⟨_, .buildSlice 50 1 _, _, _, _, _⟩ :: _) _ _; refine wpS_build11 slInt hS rfl rfl (u := I64 q) rfl rfl ?_; clear hS; intro v3 w hS; go_frame)
                  | (show wpList _ _ _ (⟨some 68, .call _, _, _, _, _⟩ :: _) _ _; (refine wpS_append slInt (hS.bring (by repeat (first | exact t0 | apply tS))) rfl rfl (sv := v2) rfl rfl (ys := [[I64 q]]) ((hS.bring (by repeat (first | exact t0 | apply tS))).getOwn.rd) (flat_ints [q]) HB3.out HB4.out ?_); clear hS; intro v4 w hS; have HV2 := hide hS.getOwn.rd.cells1; have HV3 := hide hS.getOwn.rd.one1; go_frame)
                  )
                refine segQ_mk trivial ?_
                refine ord_seg (by repeat (first | exact Clean.body | refine Clean.then ?_ | refine Clean.inBlock ?_ | refine SegQ.clean ?_ | refine FinC.clean ?_)) (n := 0) (rest := [[]]) [11, 12, 13] [⟨_, _, _, _, _, _⟩, ⟨_, _, _, _, _, _⟩, ⟨_, _, _, _, _, _⟩] rfl (by kernel_rfl) (by simp) _ _ ?_
                go_wp2_with (first
                  | (show wpList _ _ _ (⟨_, .indexAddr 36 _ _, _, _, _, _⟩ :: _) _ _; refine wpList_val rfl (op_indexAddr slREnt rfl (v := ov) (k := k) rfl rfl (xs := xs) ((hS.bring (by repeat (first | exact t0 | apply tS))).getOwn.rd) hlk) ?_; go_frame)
                  | (show wpList _ _ _ (⟨_, .fieldAddr 79 _ 1, _, _, _, _⟩ :: _) _ _; refine wpList_val rfl (op_fieldAddrE (j := 32) (by kernel_rfl) rfl (n := 34) (v := ov) (k := k) (xs := xs) rfl ((hS.bring (by repeat (first | exact t0 | apply tS))).getOwn.rd) hlk) ?_; go_frame)
                  | (show wpList _ _ _ (⟨_, .store 50 _ _, _, _, _, _⟩ :: _) _ _; (refine wpS_storeF1 (by kernel_rfl) (hS.bring (by repeat (first | exact t0 | apply tS))) rfl rfl (k := k) (j := 32) rfl rfl HV2.out HV3.out hlk (by omega) ?_); clear hS; intro w hS; rw [s32 HX.out HIL.out] at hS; go_frame)
                  )
                refine segQ_mk trivial ?_
                refine finC_mk (by kernel_rfl) (by
                  intro t ht
                  cases ht) ?_
                go_wp2_with fail
                go_ret
                exact ⟨rfl, rtail1 rfl (HC [.blk hb 28 (i.map B8)] (f := { e with waits := e.waits ++ [q] }) (v := v4) rfl (joinL (by exact hS.sel (by repeat (first | exact Sel.refl | refine Sel.take (by repeat (first | exact t0 | apply tS)) ?_ | apply Sel.drop)))))⟩
              ·
                refine ord_seg (by repeat (first | exact Clean.body | refine Clean.then ?_ | refine Clean.inBlock ?_ | refine SegQ.clean ?_ | refine FinC.clean ?_)) (n := 5) (rest := [[3, 10, 11, 12, 13], [10, 3, 11, 12, 13]]) [9] [⟨_, _, _, _, _, _⟩] rfl (by kernel_rfl) (by simp) _ _ ?_
                go_wp2_with (first
                  | (show wpList _ _ _ (⟨_, .buildSlice 50 1 _, _, _, _, _⟩ :: _) _ _; refine wpS_build11 slInt hS rfl rfl (u := I64 q) rfl rfl ?_; clear hS; intro v3 w hS; go_frame)
                  )
                refine segQ_mk trivial ?_
                refine ord_fork (n := 4) (os1 := [[3, 10, 11, 12, 13]]) (os2 := [[10, 3, 11, 12, 13]]) (by decide) ?_ ?_
                ·
                  refine ord_seg (by repeat (first | exact Clean.body | refine Clean.then ?_ | refine Clean.inBlock ?_ | refine SegQ.clean ?_ | refine FinC.clean ?_)) (n := 3) (rest := [[11, 12, 13]]) [3, 10] [⟨_, _, _, _, _, _⟩, ⟨_, _, _, _, _, _⟩] rfl (by kernel_rfl) (by simp) _ _ ?_
                  go_wp2_with (first
                    | (show wpList _ _ _ (⟨_, .load 36 _, _, _, _, _⟩ :: _) _ _; refine wpList_val rfl (op_load1S (T := 38) oneREnts ((hS.bring (by repeat (first | exact t0 | apply tS)))) rfl rfl rfl) ?_; go_frame)
                    | (show wpList _ _ _ (⟨some 68, .call _, _, _, _, _⟩ :: _) _ _; (refine wpS_append slInt (hS.bring (by repeat (first | exact t0 | apply tS))) rfl rfl (sv := v2) rfl rfl (ys := [[I64 q]]) ((hS.bring (by repeat (first | exact t0 | apply tS))).getOwn.rd) (flat_ints [q]) HB3.out HB4.out ?_); clear hS; intro v4 w hS; have HV2 := hide hS.getOwn.rd.cells1; have HV3 := hide hS.getOwn.rd.one1; go_frame)
                    )
                  refine segQ_mk trivial ?_
                  refine ord_seg (by repeat (first | exact Clean.body | refine Clean.then ?_ | refine Clean.inBlock ?_ | refine SegQ.clean ?_ | refine FinC.clean ?_)) (n := 0) (rest := [[]]) [11, 12, 13] [⟨_, _, _, _, _, _⟩, ⟨_, _, _, _, _, _⟩, ⟨_, _, _, _, _, _⟩] rfl (by kernel_rfl) (by simp) _ _ ?_
                  go_wp2_with (first
                    | (show wpList _ _ _ (⟨_, .indexAddr 36 _ _, _, _, _, _⟩ :: _) _ _; refine wpList_val rfl (op_indexAddr slREnt rfl (v := ov) (k := k) rfl rfl (xs := xs) ((hS.bring (by repeat (first | exact t0 | apply tS))).getOwn.rd) hlk) ?_; go_frame)
                    | (show wpList _ _ _ (⟨_, .fieldAddr 79 _ 1, _, _, _, _⟩ :: _) _ _; refine wpList_val rfl (op_fieldAddrE (j := 32) (by kernel_rfl) rfl (n := 34) (v := ov) (k := k) (xs := xs) rfl ((hS.bring (by repeat (first | exact t0 | apply tS))).getOwn.rd) hlk) ?_; go_frame)
                    | (show wpList _ _ _ (⟨_, .store 50 _ _, _, _, _, _⟩ :: _) _ _; (refine wpS_storeF1 (by kernel_rfl) (hS.bring (by repeat (first | exact t0 | apply tS))) rfl rfl (k := k) (j := 32) rfl rfl HV2.out HV3.out hlk (by omega) ?_); clear hS; intro w hS; rw [s32 HX.out HIL.out] at hS; go_frame)
                    )
                  refine segQ_mk trivial ?_
                  refine finC_mk (by kernel_rfl) (by
                    intro t ht
                    cases ht) ?_
                  go_wp2_with fail
                  go_ret
                  exact ⟨rfl, rtail1 rfl (HC [.blk hb 28 (i.map B8)] (f := { e with waits := e.waits ++ [q] }) (v := v4) rfl (joinL (by exact hS.sel (by repeat (first | exact Sel.refl | refine Sel.take (by repeat (first | exact t0 | apply tS)) ?_ | apply Sel.drop)))))⟩
                ·
                  refine ord_seg (by repeat (first | exact Clean.body | refine Clean.then ?_ | refine Clean.inBlock ?_ | refine SegQ.clean ?_ | refine FinC.clean ?_)) (n := 4) (rest := [[3, 11, 12, 13]]) [10] [⟨_, _, _, _, _, _⟩] rfl (by kernel_rfl) (by simp) _ _ ?_
                  go_wp2_with (first
                    | (show wpList _ _ _ (⟨some 68, .call _, _, _, _, _⟩ :: _) _ _; (refine wpS_append slInt (hS.bring (by repeat (first | exact t0 | apply tS))) rfl rfl (sv := v2) rfl rfl (ys := [[I64 q]]) ((hS.bring (by repeat (first | exact t0 | apply tS))).getOwn.rd) (flat_ints [q]) HB3.out HB4.out ?_); clear hS; intro v4 w hS; have HV2 := hide hS.getOwn.rd.cells1; have HV3 := hide hS.getOwn.rd.one1; go_frame)
                    )
                  refine segQ_mk trivial ?_
                  refine ord_seg (by repeat (first | exact Clean.body | refine Clean.then ?_ | refine Clean.inBlock ?_ | refine SegQ.clean ?_ | refine FinC.clean ?_)) (n := 0) (rest := [[]]) [3, 11, 12, 13] [⟨_, _, _, _, _, _⟩, ⟨_, _, _, _, _, _⟩, ⟨_, _, _, _, _, _⟩, ⟨_, _, _, _, _, _⟩] rfl (by kernel_rfl) (by simp) _ _ ?_
                  go_wp2_with (first
                    | (show wpList _ _ _ (⟨_, .load 36 _, _, _, _, _⟩ :: _) _ _; refine wpList_val rfl (op_load1S (T := 38) oneREnts ((hS.bring (by repeat (first | exact t0 | apply tS)))) rfl rfl rfl) ?_; go_frame)
                    | (show wpList _ _ _ (⟨_, .indexAddr 36 _ _, _, _, _, _⟩ :: _) _ _; refine wpList_val rfl (op_indexAddr slREnt rfl (v := ov) (k := k) rfl rfl (xs := xs) ((hS.bring (by repeat (first | exact t0 | apply tS))).getOwn.rd) hlk) ?_; go_frame)
                    | (show wpList _ _ _ (⟨_, .fieldAddr 79 _ 1, _, _, _, _⟩ :: _) _ _; refine wpList_val rfl (op_fieldAddrE (j := 32) (by kernel_rfl) rfl (n := 34) (v := ov) (k := k) (xs := xs) rfl ((hS.bring (by repeat (first | exact t0 | apply tS))).getOwn.rd) hlk) ?_; go_frame)
                    | (show wpList _ _ _ (⟨_, .store 50 _ _, _, _, _, _⟩ :: _) _ _; (refine wpS_storeF1 (by kernel_rfl) (hS.bring (by repeat (first | exact t0 | apply tS))) rfl rfl (k := k) (j := 32) rfl rfl HV2.out HV3.out hlk (by omega) ?_); clear hS; intro w hS; rw [s32 HX.out HIL.out] at hS; go_frame)
                    )
                  refine segQ_mk trivial ?_
                  refine finC_mk (by kernel_rfl) (by
                    intro t ht
                    cases ht) ?_
                  go_wp2_with fail
                  go_ret
                  exact ⟨rfl, rtail1 rfl (HC [.blk hb 28 (i.map B8)] (f := { e with waits := e.waits ++ [q] }) (v := v4) rfl (joinL (by exact hS.sel (by repeat (first | exact Sel.refl | refine Sel.take (by repeat (first | exact t0 | apply tS)) ?_ | apply Sel.drop)))))⟩
            ·
              refine ord_seg (by repeat (first | exact Clean.body | refine Clean.then ?_ | refine Clean.inBlock ?_ | refine SegQ.clean ?_ | refine FinC.clean ?_)) (n := 6) (rest := [[3, 7, 10, 11, 12, 13], [7, 3, 10, 11, 12, 13], [7, 10, 3, 11, 12, 13]]) [9] [⟨_, _, _, _, _, _⟩] rfl (by kernel_rfl) (by simp) _ _ ?_
              go_wp2_with (first
                | (show wpList _ _ _ (⟨_, .buildSlice 50 1 _, _, _, _, _⟩ :: _) _ _; refine wpS_build11 slInt hS rfl rfl (u := I64 q) rfl rfl ?_; clear hS; intro v3 w hS; go_frame)
                )
              refine segQ_mk trivial ?_
              refine ord_fork (n := 5) (os1 := [[3, 7, 10, 11, 12, 13]]) (os2 := [[7, 3, 10, 11, 12, 13], [7, 10, 3, 11, 12, 13]]) (by decide) ?_ ?_
              ·
                refine ord_seg (by repeat (first | exact Clean.body | refine Clean.then ?_ | refine Clean.inBlock ?_ | refine SegQ.clean ?_ | refine FinC.clean ?_)) (n := 4) (rest := [[10, 11, 12, 13]]) [3, 7] [⟨_, _, _, _, _, _⟩, ⟨_, _, _, _, _, _⟩] rfl (by kernel_rfl) (by simp) _ _ ?_
                go_wp2_with (first
                  | (show wpList _ _ _ (⟨_, .load 36 _, _, _, _, _⟩ :: _) _ _; refine wpList_val rfl (op_load1S (T := 38) oneREnts ((hS.bring (by repeat (first | exact t0 | apply tS)))) rfl rfl rfl) ?_; go_frame)
                  | (show wpList _ _ _ (⟨some 65, .call _, _, _, _, _⟩ :: _) _ _; (refine wpS_append slInt (hS.bring (by repeat (first | exact t0 | apply tS))) rfl rfl (sv := v1) rfl rfl (ys := (e.peer :: e.waits).map fun z => [I64 z]) ((hS.bring (by repeat (first | exact t0 | apply tS))).getOwn.rd) (flat_ints _) HB1.out HB2.out ?_); clear hS; intro v2 w hS; go_frame)
                  )
                refine segQ_mk trivial ?_
                refine ord_seg (by repeat (first | exact Clean.body | refine Clean.then ?_ | refine Clean.inBlock ?_ | refine SegQ.clean ?_ | refine FinC.clean ?_)) (n := 3) (rest := [[11, 12, 13]]) [10] [⟨_, _, _, _, _, _⟩] rfl (by kernel_rfl) (by simp) _ _ ?_
                go_wp2_with (first
                  | (show wpList _ _ _ (⟨some 68, .call _, _, _, _, _⟩ :: _) _ _; (refine wpS_append slInt (hS.bring (by repeat (first | exact t0 | apply tS))) rfl rfl (sv := v2) rfl rfl (ys := [[I64 q]]) ((hS.bring (by repeat (first | exact t0 | apply tS))).getOwn.rd) (flat_ints [q]) HB3.out HB4.out ?_); clear hS; intro v4 w hS; have HV2 := hide hS.getOwn.rd.cells1; have HV3 := hide hS.getOwn.rd.one1; go_frame)
                  )
                refine segQ_mk trivial ?_
                refine ord_seg (by repeat (first | exact Clean.body | refine Clean.then ?_ | refine Clean.inBlock ?_ | refine SegQ.clean ?_ | refine FinC.clean ?_)) (n := 0) (rest := [[]]) [11, 12, 13] [⟨_, _, _, _, _, _⟩, ⟨_, _, _, _, _, _⟩, ⟨_, _, _, _, _, _⟩] rfl (by kernel_rfl) (by simp) _ _ ?_
                go_wp2_with (first
                  | (show wpList _ _ _ (⟨_, .indexAddr 36 _ _, _, _, _, _⟩ :: _) _ _; refine wpList_val rfl (op_indexAddr slREnt rfl (v := ov) (k := k) rfl rfl (xs := xs) ((hS.bring (by repeat (first | exact t0 | apply tS))).getOwn.rd) hlk) ?_; go_frame)
                  | (show wpList _ _ _ (⟨_, .fieldAddr 79 _ 1, _, _, _, _⟩ :: _) _ _; refine wpList_val rfl (op_fieldAddrE (j := 32) (by kernel_rfl) rfl (n := 34) (v := ov) (k := k) (xs := xs) rfl ((hS.bring (by repeat (first | exact t0 | apply tS))).getOwn.rd) hlk) ?_; go_frame)
                  | (show wpList _ _ _ (⟨_, .store 50 _ _, _, _, _, _⟩ :: _) _ _; (refine wpS_storeF1 (by kernel_rfl) (hS.bring (by repeat (first | exact t0 | apply tS))) rfl rfl (k := k) (j := 32) rfl rfl HV2.out HV3.out hlk (by omega) ?_); clear hS; intro w hS; rw [s32 HX.out HIL.out] at hS; go_frame)
                  )
                refine segQ_mk trivial ?_
                refine finC_mk (by kernel_rfl) (by
                  intro t ht
                  cases ht) ?_
                go_wp2_with fail
                go_ret
                exact ⟨rfl, rtail1 rfl (HC [.blk hb 28 (i.map B8)] (f := { e with waits := e.waits ++ [q] }) (v := v4) rfl (joinL (by exact hS.sel (by repeat (first | exact Sel.refl | refine Sel.take (by repeat (first | exact t0 | apply tS)) ?_ | apply Sel.drop)))))⟩
              ·
                refine ord_seg (by repeat (first | exact Clean.body | refine Clean.then ?_ | refine Clean.inBlock ?_ | refine SegQ.clean ?_ | refine FinC.clean ?_)) (n := 5) (rest := [[3, 10, 11, 12, 13], [10, 3, 11, 12, 13]]) [7] [⟨_, _, _, _, _, _⟩] rfl (by kernel_rfl) (by simp) _ _ ?_
                go_wp2_with (first
                  | (show wpList _ _ _ (⟨some 65, .call _, _, _, _, _⟩ :: _) _ _; (refine wpS_append slInt (hS.bring (by repeat (first | exact t0 | apply tS))) rfl rfl (sv := v1) rfl rfl (ys := (e.peer :: e.waits).map fun z => [I64 z]) ((hS.bring (by repeat (first | exact t0 | apply tS))).getOwn.rd) (flat_ints _) HB1.out HB2.out ?_); clear hS; intro v2 w hS; go_frame)
                  )
                refine segQ_mk trivial ?_
                refine ord_fork (n := 4) (os1 := [[3, 10, 11, 12, 13]]) (os2 := [[10, 3, 11, 12, 13]]) (by decide) ?_ ?_
                ·
                  refine ord_seg (by repeat (first | exact Clean.body | refine Clean.then ?_ | refine Clean.inBlock ?_ | refine SegQ.clean ?_ | refine FinC.clean ?_)) (n := 3) (rest := [[11, 12, 13]]) [3, 10] [⟨_, _, _, _, _, _⟩, ⟨_, _, _, _, _, _⟩] rfl (by kernel_rfl) (by simp) _ _ ?_
                  go_wp2_with (first
                    | (show wpList _ _ _ (⟨_, .load 36 _, _, _, _, _⟩ :: _) _ _; refine wpList_val rfl (op_load1S (T := 38) oneREnts ((hS.bring (by repeat (first | exact t0 | apply tS)))) rfl rfl rfl) ?_; go_frame)
                    | (show wpList _ _ _ (⟨some 68, .call _, _, _, _, _⟩ :: _) _ _; (refine wpS_append slInt (hS.bring (by repeat (first | exact t0 | apply tS))) rfl rfl (sv := v2) rfl rfl (ys := [[I64 q]]) ((hS.bring (by repeat (first | exact t0 | apply tS))).getOwn.rd) (flat_ints [q]) HB3.out HB4.out ?_); clear hS; intro v4 w hS; have HV2 := hide hS.getOwn.rd.cells1; have HV3 := hide hS.getOwn.rd.one1; go_frame)
                    )
                  refine segQ_mk trivial ?_
                  refine ord_seg (by repeat (first | exact Clean.body | refine Clean.then ?_ | refine Clean.inBlock ?_ | refine SegQ.clean ?_ | refine FinC.clean ?_)) (n := 0) (rest := [[]]) [11, 12, 13] [⟨_, _, _, _, _, _⟩, ⟨_, _, _, _, _, _⟩, ⟨_, _, _, _, _, _⟩] rfl (by kernel_rfl) (by simp) _ _ ?_
                  go_wp2_with (first
                    | (show wpList _ _ _ (⟨_, .indexAddr 36 _ _, _, _, _, _⟩ :: _) _ _; refine wpList_val rfl (op_indexAddr slREnt rfl (v := ov) (k := k) rfl rfl (xs := xs) ((hS.bring (by repeat (first | exact t0 | apply tS))).getOwn.rd) hlk) ?_; go_frame)
                    | (show wpList _ _ _ (⟨_, .fieldAddr 79 _ 1, _, _, _, _⟩ :: _) _ _; refine wpList_val rfl (op_fieldAddrE (j := 32) (by kernel_rfl) rfl (n := 34) (v := ov) (k := k) (xs := xs) rfl ((hS.bring (by repeat (first | exact t0 | apply tS))).getOwn.rd) hlk) ?_; go_frame)
                    | (show wpList _ _ _ (⟨_, .store 50 _ _, _, _, _, _⟩ :: _) _ _; (refine wpS_storeF1 (by kernel_rfl) (hS.bring (by repeat (first | exact t0 | apply tS))) rfl rfl (k := k) (j := 32) rfl rfl HV2.out HV3.out hlk (by omega) ?_); clear hS; intro w hS; rw [s32 HX.out HIL.out] at hS; go_frame)
                    )
                  refine segQ_mk trivial ?_
                  refine finC_mk (by kernel_rfl) (by
                    intro t ht
                    cases ht) ?_
                  go_wp2_with fail
                  go_ret
                  exact ⟨rfl, rtail1 rfl (HC [.blk hb 28 (i.map B8)] (f := { e with waits := e.waits ++ [q] }) (v := v4) rfl (joinL (by exact hS.sel (by repeat (first | exact Sel.refl | refine Sel.take (by repeat (first | exact t0 | apply tS)) ?_ | apply Sel.drop)))))⟩
                ·
                  refine ord_seg (by repeat (first | exact Clean.body | refine Clean.then ?_ | refine Clean.inBlock ?_ | refine SegQ.clean ?_ | refine FinC.clean ?_)) (n := 4) (rest := [[3, 11, 12, 13]]) [10] [⟨_, _, _, _, _, _⟩] rfl (by kernel_rfl) (by simp) _ _ ?_
                  go_wp2_with (first
                    | (show wpList _ _ _ (⟨some 68, .call _, _, _, _, _⟩ :: _) _ _; (refine wpS_append slInt (hS.bring (by repeat (first | exact t0 | apply tS))) rfl rfl (sv := v2) rfl rfl (ys := [[I64 q]]) ((hS.bring (by repeat (first | exact t0 | apply tS))).getOwn.rd) (flat_ints [q]) HB3.out HB4.out ?_); clear hS; intro v4 w hS; have HV2 := hide hS.getOwn.rd.cells1; have HV3 := hide hS.getOwn.rd.one1; go_frame)
                    )
                  refine segQ_mk trivial ?_
                  refine ord_seg (by repeat (first | exact Clean.body | refine Clean.then ?_ | refine Clean.inBlock ?_ | refine SegQ.clean ?_ | refine FinC.clean ?_)) (n := 0) (rest := [[]]) [3, 11, 12, 13] [⟨_, _, _, _, _, _⟩, ⟨_, _, _, _, _, _⟩, ⟨_, _, _, _, _, _⟩, ⟨_, _, _, _, _, _⟩] rfl (by kernel_rfl) (by simp) _ _ ?_
                  go_wp2_with (first
                    | (show wpList _ _ _ (⟨_, .load 36 _, _, _, _, _⟩ :: _) _ _; refine wpList_val rfl (op_load1S (T := 38) oneREnts ((hS.bring (by repeat (first | exact t0 | apply tS)))) rfl rfl rfl) ?_; go_frame)
                    | (show wpList _ _ _ (⟨_, .indexAddr 36 _ _, _, _, _, _⟩ :: _) _ _; refine wpList_val rfl (op_indexAddr slREnt rfl (v := ov) (k := k) rfl rfl (xs := xs) ((hS.bring (by repeat (first | exact t0 | apply tS))).getOwn.rd) hlk) ?_; go_frame)
                    | (show wpList _ _ _ (⟨_, .fieldAddr 79 _ 1, _, _, _, _⟩ :: _) _ _; refine wpList_val rfl (op_fieldAddrE (j := 32) (by kernel_rfl) rfl (n := 34) (v := ov) (k := k) (xs := xs) rfl ((hS.bring (by repeat (first | exact t0 | apply tS))).getOwn.rd) hlk) ?_; go_frame)
                    | (show wpList _ _ _ (⟨_, .store 50 _ _, _, _, _, _⟩ :: _) _ _; (refine wpS_storeF1 (by kernel_rfl) (hS.bring (by repeat (first | exact t0 | apply tS))) rfl rfl (k := k) (j := 32) rfl rfl HV2.out HV3.out hlk (by omega) ?_); clear hS; intro w hS; rw [s32 HX.out HIL.out] at hS; go_frame)
                    )
                  refine segQ_mk trivial ?_
                  refine finC_mk (by kernel_rfl) (by
                    intro t ht
                    cases ht) ?_
                  go_wp2_with fail
                  go_ret
                  exact ⟨rfl, rtail1 rfl (HC [.blk hb 28 (i.map B8)] (f := { e with waits := e.waits ++ [q] }) (v := v4) rfl (joinL (by exact hS.sel (by repeat (first | exact Sel.refl | refine Sel.take (by repeat (first | exact t0 | apply tS)) ?_ | apply Sel.drop)))))⟩
        ·
          refine ord_seg (by repeat (first | exact Clean.body | refine Clean.then ?_ | refine Clean.inBlock ?_ | refine SegQ.clean ?_ | refine FinC.clean ?_)) (n := 7) (rest := [[3, 5, 7, 10, 11, 12, 13], [5, 3, 7, 10, 11, 12, 13], [5, 7, 3, 10, 11, 12, 13], [5, 7, 10, 3, 11, 12, 13]]) [9] [⟨_, _, _, _, _, _⟩] rfl (by kernel_rfl) (by simp) _ _ ?_
          go_wp2_with (first
            | (show wpList _ _ _ (⟨_, .buildSlice 50 1 _, _, _, _, _⟩ :: _) _ _; refine wpS_build11 slInt hS rfl rfl (u := I64 q) rfl rfl ?_; clear hS; intro v3 w hS; go_frame)
            )
          refine segQ_mk trivial ?_
          refine ord_fork (n := 6) (os1 := [[3, 5, 7, 10, 11, 12, 13]]) (os2 := [[5, 3, 7, 10, 11, 12, 13], [5, 7, 3, 10, 11, 12, 13], [5, 7, 10, 3, 11, 12, 13]]) (by decide) ?_ ?_
          ·
            refine ord_seg (by repeat (first | exact Clean.body | refine Clean.then ?_ | refine Clean.inBlock ?_ | refine SegQ.clean ?_ | refine FinC.clean ?_)) (n := 4) (rest := [[10, 11, 12, 13]]) [3, 5, 7] [⟨_, _, _, _, _, _⟩, ⟨_, _, _, _, _, _⟩, ⟨_, _, _, _, _, _⟩] rfl (by kernel_rfl) (by simp) _ _ ?_
            go_wp2_with (first
              | (show wpList _ _ _ (⟨_, .load 36 _, _, _, _, _⟩ :: _) _ _; refine wpList_val rfl (op_load1S (T := 38) oneREnts ((hS.bring (by repeat (first | exact t0 | apply tS)))) rfl rfl rfl) ?_; go_frame)
              | (show wpList _ _ _ (⟨_, .buildSlice 50 0 _, _, _, _, _⟩ :: _) _ _; refine wpS_build0 slInt hS rfl rfl ?_; clear hS; intro v1 w hS; go_frame)
              | (show wpList _ _ _ (⟨some 65, .call _, _, _, _, _⟩ :: _) _ _; (refine wpS_append slInt (hS.bring (by repeat (first | exact t0 | apply tS))) rfl rfl (sv := v1) rfl rfl (ys := (e.peer :: e.waits).map fun z => [I64 z]) ((hS.bring (by repeat (first | exact t0 | apply tS))).getOwn.rd) (flat_ints _) HB1.out HB2.out ?_); clear hS; intro v2 w hS; go_frame)
              )
            refine segQ_mk trivial ?_
            refine ord_seg (by repeat (first | exact Clean.body | refine Clean.then ?_ | refine Clean.inBlock ?_ | refine SegQ.clean ?_ | refine FinC.clean ?_)) (n := 3) (rest := [[11, 12, 13]]) [10] [⟨_, _, _, _, _, _⟩] rfl (by kernel_rfl) (by simp) _ _ ?_
            go_wp2_with (first
              | (show wpList _ _ _ (⟨some 68, .call _, _, _, _, _⟩ :: _) _ _; (refine wpS_append slInt (hS.bring (by repeat (first | exact t0 | apply tS))) rfl rfl (sv := v2) rfl rfl (ys := [[I64 q]]) ((hS.bring (by repeat (first | exact t0 | apply tS))).getOwn.rd) (flat_ints [q]) HB3.out HB4.out ?_); clear hS; intro v4 w hS; have HV2 := hide hS.getOwn.rd.cells1; have HV3 := hide hS.getOwn.rd.one1; go_frame)
              )
            refine segQ_mk trivial ?_
            refine ord_seg (by repeat (first | exact Clean.body | refine Clean.then ?_ | refine Clean.inBlock ?_ | refine SegQ.clean ?_ | refine FinC.clean ?_)) (n := 0) (rest := [[]]) [11, 12, 13] [⟨_, _, _, _, _, _⟩, ⟨_, _, _, _, _, _⟩, ⟨_, _, _, _, _, _⟩] rfl (by kernel_rfl) (by simp) _ _ ?_
            go_wp2_with (first
              | (show wpList _ _ _ (⟨_, .indexAddr 36 _ _, _, _, _, _⟩ :: _) _ _; refine wpList_val rfl (op_indexAddr slREnt rfl (v := ov) (k := k) rfl rfl (xs := xs) ((hS.bring (by repeat (first | exact t0 | apply tS))).getOwn.rd) hlk) ?_; go_frame)
              | (show wpList _ _ _ (⟨_, .fieldAddr 79 _ 1, _, _, _, _⟩ :: _) _ _; refine wpList_val rfl (op_fieldAddrE (j := 32) (by kernel_rfl) rfl (n := 34) (v := ov) (k := k) (xs := xs) rfl ((hS.bring (by repeat (first | exact t0 | apply tS))).getOwn.rd) hlk) ?_; go_frame)
              | (show wpList _ _ _ (⟨_, .store 50 _ _, _, _, _, _⟩ :: _) _ _; (refine wpS_storeF1 (by kernel_rfl) (hS.bring (by repeat (first | exact t0 | apply tS))) rfl rfl (k := k) (j := 32) rfl rfl HV2.out HV3.out hlk (by omega) ?_); clear hS; intro w hS; rw [s32 HX.out HIL.out] at hS; go_frame)
              )
            refine segQ_mk trivial ?_
            refine finC_mk (by kernel_rfl) (by
              intro t ht
              cases ht) ?_
            go_wp2_with fail
            go_ret
            exact ⟨rfl, rtail1 rfl (HC [.blk hb 28 (i.map B8)] (f := { e with waits := e.waits ++ [q] }) (v := v4) rfl (joinL (by exact hS.sel (by repeat (first | exact Sel.refl | refine Sel.take (by repeat (first | exact t0 | apply tS)) ?_ | apply Sel.drop)))))⟩
          ·
            refine ord_seg (by repeat (first | exact Clean.body | refine Clean.then ?_ | refine Clean.inBlock ?_ | refine SegQ.clean ?_ | refine FinC.clean ?_)) (n := 6) (rest := [[3, 7, 10, 11, 12, 13], [7, 3, 10, 11, 12, 13], [7, 10, 3, 11, 12, 13]]) [5] [⟨_, _, _, _, _, _⟩] rfl (by kernel_rfl) (by simp) _ _ ?_
            go_wp2_with (first
              | (show wpList _ _ _ (⟨_, .buildSlice 50 0 _, _, _, _, _⟩ :: _) _ _; refine wpS_build0 slInt hS rfl rfl ?_; clear hS; intro v1 w hS; go_frame)
              )
            refine segQ_mk trivial ?_
            refine ord_fork (n := 5) (os1 := [[3, 7, 10, 11, 12, 13]]) (os2 := [[7, 3, 10, 11, 12, 13], [7, 10, 3, 11, 12, 13]]) (by decide) ?_ ?_
            ·
              refine ord_seg (by repeat (first | exact Clean.body | refine Clean.then ?_ | refine Clean.inBlock ?_ | refine SegQ.clean ?_ | refine FinC.clean ?_)) (n := 4) (rest := [[10, 11, 12, 13]]) [3, 7] [⟨_, _, _, _, _, _⟩, ⟨_, _, _, _, _, _⟩] rfl (by kernel_rfl) (by simp) _ _ ?_
              go_wp2_with (first
                | (show wpList _ _ _ (⟨_, .load 36 _, _, _, _, _⟩ :: _) _ _; refine wpList_val rfl (op_load1S (T := 38) oneREnts ((hS.bring (by repeat (first | exact t0 | apply tS)))) rfl rfl rfl) ?_; go_frame)
                | (show wpList _ _ _ (⟨some 65, .call _, _, _, _, _⟩ :: _) _ _; (refine wpS_append slInt (hS.bring (by repeat (first | exact t0 | apply tS))) rfl rfl (sv := v1) rfl rfl (ys := (e.peer :: e.waits).map fun z => [I64 z]) ((hS.bring (by repeat (first | exact t0 | apply tS))).getOwn.rd) (flat_ints _) HB1.out HB2.out ?_); clear hS; intro v2 w hS; go_frame)
                )
              refine segQ_mk trivial ?_
              refine ord_seg (by repeat (first | exact Clean.body | refine Clean.then ?_ | refine Clean.inBlock ?_ | refine SegQ.clean ?_ | refine FinC.clean ?_)) (n := 3) (rest := [[11, 12, 13]]) [10] [⟨_, _, _, _, _, _⟩] rfl (by kernel_rfl) (by simp) _ _ ?_
              go_wp2_with (first
                | (show wpList _ _ _ (⟨some 68, .call _, _, _, _, _⟩ :: _) _ _; (refine wpS_append slInt (hS.bring (by repeat (first | exact t0 | apply tS))) rfl rfl (sv := v2) rfl rfl (ys := [[I64 q]]) ((hS.bring (by repeat (first | exact t0 | apply tS))).getOwn.rd) (flat_ints [q]) HB3.out HB4.out ?_); clear hS; intro v4 w hS; have HV2 := hide hS.getOwn.rd.cells1; have HV3 := hide hS.getOwn.rd.one1; go_frame)
                )
              refine segQ_mk trivial ?_
              refine ord_seg (by repeat (first | exact Clean.body | refine Clean.then ?_ | refine Clean.inBlock ?_ | refine SegQ.clean ?_ | refine FinC.clean ?_)) (n := 0) (rest := [[]]) [11, 12, 13] [⟨_, _, _, _, _, _⟩, ⟨_, _, _, _, _, _⟩, ⟨_, _, _, _, _, _⟩] rfl (by kernel_rfl) (by simp) _ _ ?_
              go_wp2_with (first
                | (show wpList _ _ _ (⟨_, .indexAddr 36 _ _, _, _, _, _⟩ :: _) _ _; refine wpList_val rfl (op_indexAddr slREnt rfl (v := ov) (k := k) rfl rfl (xs := xs) ((hS.bring (by repeat (first | exact t0 | apply tS))).getOwn.rd) hlk) ?_; go_frame)
                | (show wpList _ _ _ (⟨_, .fieldAddr 79 _ 1, _, _, _, _⟩ :: _) _ _; refine wpList_val rfl (op_fieldAddrE (j := 32) (by kernel_rfl) rfl (n := 34) (v := ov) (k := k) (xs := xs) rfl ((hS.bring (by repeat (first | exact t0 | apply tS))).getOwn.rd) hlk) ?_; go_frame)
                | (show wpList _ _ _ (⟨_, .store 50 _ _, _, _, _, _⟩ :: _) _ _; (refine wpS_storeF1 (by kernel_rfl) (hS.bring (by repeat (first | exact t0 | apply tS))) rfl rfl (k := k) (j := 32) rfl rfl HV2.out HV3.out hlk (by omega) ?_); clear hS; intro w hS; rw [s32 HX.out HIL.out] at hS; go_frame)
                )
              refine segQ_mk trivial ?_
              refine finC_mk (by kernel_rfl) (by
                intro t ht
                cases ht) ?_
              go_wp2_with fail
              go_ret
              exact ⟨rfl, rtail1 rfl (HC [.blk hb 28 (i.map B8)] (f := { e with waits := e.waits ++ [q] }) (v := v4) rfl (joinL (by exact hS.sel (by repeat (first | exact Sel.refl | refine Sel.take (by repeat (first | exact t0 | apply tS)) ?_ | apply Sel.drop)))))⟩
            ·
              refine ord_seg (by repeat (first | exact Clean.body | refine Clean.then ?_ | refine Clean.inBlock ?_ | refine SegQ.clean ?_ | refine FinC.clean ?_)) (n := 5) (rest := [[3, 10, 11, 12, 13], [10, 3, 11, 12, 13]]) [7] [⟨_, _, _, _, _, _⟩] rfl (by kernel_rfl) (by simp) _ _ ?_
              go_wp2_with (first
                | (show wpList _ _ _ (⟨some 65, .call _, _, _, _, _⟩ :: _) _ _; (refine wpS_append slInt (hS.bring (by repeat (first | exact t0 | apply tS))) rfl rfl (sv := v1) rfl rfl (ys := (e.peer :: e.waits).map fun z => [I64 z]) ((hS.bring (by repeat (first | exact t0 | apply tS))).getOwn.rd) (flat_ints _) HB1.out HB2.out ?_); clear hS; intro v2 w hS; go_frame)
                )
              refine segQ_mk trivial ?_
              refine ord_fork (n := 4) (os1 := [[3, 10, 11, 12, 13]]) (os2 := [[10, 3, 11, 12, 13]]) (by decide) ?_ ?_
              ·
                refine ord_seg (by repeat (first | exact Clean.body | refine Clean.then ?_ | refine Clean.inBlock ?_ | refine SegQ.clean ?_ | refine FinC.clean ?_)) (n := 3) (rest := [[11, 12, 13]]) [3, 10] [⟨_, _, _, _, _, _⟩, ⟨_, _, _, _, _, _⟩] rfl (by kernel_rfl) (by simp) _ _ ?_
                go_wp2_with (first
                  | (show wpList _ _ _ (⟨_, .load 36 _, _, _, _, _⟩ :: _) _ _; refine wpList_val rfl (op_load1S (T := 38) oneREnts ((hS.bring (by repeat (first | exact t0 | apply tS)))) rfl rfl rfl) ?_; go_frame)
                  | (show wpList _ _ _ (⟨some 68, .call _, _, _, _, _⟩ :: _) _ _; (refine wpS_append slInt (hS.bring (by repeat (first | exact t0 | apply tS))) rfl rfl (sv := v2) rfl rfl (ys := [[I64 q]]) ((hS.bring (by repeat (first | exact t0 | apply tS))).getOwn.rd) (flat_ints [q]) HB3.out HB4.out ?_); clear hS; intro v4 w hS; have HV2 := hide hS.getOwn.rd.cells1; have HV3 := hide hS.getOwn.rd.one1; go_frame)
                  )
                refine segQ_mk trivial ?_
                refine ord_seg (by repeat (first | exact Clean.body | refine Clean.then ?_ | refine Clean.inBlock ?_ | refine SegQ.clean ?_ | refine FinC.clean ?_)) (n := 0) (rest := [[]]) [11, 12, 13] [⟨_, _, _, _, _, _⟩, ⟨_, _, _, _, _, _⟩, ⟨_, _, _, _, _, _⟩] rfl (by kernel_rfl) (by simp) _ _ ?_
                go_wp2_with (first
                  | (show wpList _ _ _ (⟨_, .indexAddr 36 _ _, _, _, _, _⟩ :: _) _ _; refine wpList_val rfl (op_indexAddr slREnt rfl (v := ov) (k := k) rfl rfl (xs := xs) ((hS.bring (by repeat (first | exact t0 | apply tS))).getOwn.rd) hlk) ?_; go_frame)
                  | (show wpList _ _ _ (⟨_, .fieldAddr 79 _ 1, _, _, _, _⟩ :: _) _ _; refine wpList_val rfl (op_fieldAddrE (j := 32) (by kernel_rfl) rfl (n := 34) (v := ov) (k := k) (xs := xs) rfl ((hS.bring (by repeat (first | exact t0 | apply tS))).getOwn.rd) hlk) ?_; go_frame)
                  | (show wpList _ _ _ (⟨_, .store 50 _ _, _, _, _, _⟩ :: _) _ _; (refine wpS_storeF1 (by kernel_rfl) (hS.bring (by repeat (first | exact t0 | apply tS))) rfl rfl (k := k) (j := 32) rfl rfl HV2.out HV3.out hlk (by omega) ?_); clear hS; intro w hS; rw [s32 HX.out HIL.out] at hS; go_frame)
                  )
                refine segQ_mk trivial ?_
                refine finC_mk (by kernel_rfl) (by
                  intro t ht
                  cases ht) ?_
                go_wp2_with fail
                go_ret
                exact ⟨rfl, rtail1 rfl (HC [.blk hb 28 (i.map B8)] (f := { e with waits := e.waits ++ [q] }) (v := v4) rfl (joinL (by exact hS.sel (by repeat (first | exact Sel.refl | refine Sel.take (by repeat (first | exact t0 | apply tS)) ?_ | apply Sel.drop)))))⟩
              ·
                refine ord_seg (by repeat (first | exact Clean.body | refine Clean.then ?_ | refine Clean.inBlock ?_ | refine SegQ.clean ?_ | refine FinC.clean ?_)) (n := 4) (rest := [[3, 11, 12, 13]]) [10] [⟨_, _, _, _, _, _⟩] rfl (by kernel_rfl) (by simp) _ _ ?_
                go_wp2_with (first
                  | (show wpList _ _ _ (⟨some 68, .call _, _, _, _, _⟩ :: _) _ _; (refine wpS_append slInt (hS.bring (by repeat (first | exact t0 | apply tS))) rfl rfl (sv := v2) rfl rfl (ys := [[I64 q]]) ((hS.bring (by repeat (first | exact t0 | apply tS))).getOwn.rd) (flat_ints [q]) HB3.out HB4.out ?_); clear hS; intro v4 w hS; have HV2 := hide hS.getOwn.rd.cells1; have HV3 := hide hS.getOwn.rd.one1; go_frame)
                  )
                refine segQ_mk trivial ?_
                refine ord_seg (by repeat (first | exact Clean.body | refine Clean.then ?_ | refine Clean.inBlock ?_ | refine SegQ.clean ?_ | refine FinC.clean ?_)) (n := 0) (rest := [[]]) [3, 11, 12, 13] [⟨_, _, _, _, _, _⟩, ⟨_, _, _, _, _, _⟩, ⟨_, _, _, _, _, _⟩, ⟨_, _, _, _, _, _⟩] rfl (by kernel_rfl) (by simp) _ _ ?_
                go_wp2_with (first
                  | (show wpList _ _ _ (⟨_, .load 36 _, _, _, _, _⟩ :: _) _ _; refine wpList_val rfl (op_load1S (T := 38) oneREnts ((hS.bring (by repeat (first | exact t0 | apply tS)))) rfl rfl rfl) ?_; go_frame)
                  | (show wpList _ _ _ (⟨_, .indexAddr 36 _ _, _, _, _, _⟩ :: _) _ _; refine wpList_val rfl (op_indexAddr slREnt rfl (v := ov) (k := k) rfl rfl (xs := xs) ((hS.bring (by repeat (first | exact t0 | apply tS))).getOwn.rd) hlk) ?_; go_frame)
                  | (show wpList _ _ _ (⟨_, .fieldAddr 79 _ 1, _, _, _, _⟩ :: _) _ _; refine wpList_val rfl (op_fieldAddrE (j := 32) (by kernel_rfl) rfl (n := 34) (v := ov) (k := k) (xs := xs) rfl ((hS.bring (by repeat (first | exact t0 | apply tS))).getOwn.rd) hlk) ?_; go_frame)
                  | (show wpList _ _ _ (⟨_, .store 50 _ _, _, _, _, _⟩ :: _) _ _; (refine wpS_storeF1 (by kernel_rfl) (hS.bring (by repeat (first | exact t0 | apply tS))) rfl rfl (k := k) (j := 32) rfl rfl HV2.out HV3.out hlk (by omega) ?_); clear hS; intro w hS; rw [s32 HX.out HIL.out] at hS; go_frame)
                  )
                refine segQ_mk trivial ?_
                refine finC_mk (by kernel_rfl) (by
                  intro t ht
                  cases ht) ?_
                go_wp2_with fail
                go_ret
                exact ⟨rfl, rtail1 rfl (HC [.blk hb 28 (i.map B8)] (f := { e with waits := e.waits ++ [q] }) (v := v4) rfl (joinL (by exact hS.sel (by repeat (first | exact Sel.refl | refine Sel.take (by repeat (first | exact t0 | apply tS)) ?_ | apply Sel.drop)))))⟩
  · have HLT : Hid (decide (((e.waits.length + 1 : Nat) : Int) < 4) = false) := decF (by omega)
    have HJ : Hid (joinE q e = e) := by
      unfold Hid joinE
      rw [if_neg]
      rintro ⟨_, _, h⟩
      omega
    have HEQ : Hid (True) := trivial
    rw [HJ.out]
    clear h4 HJ
    go_enter Try.func30, Try.ntmps30
    go_wp2_with (first
      | (show wpList _ _ _ (⟨_, .box _ _, _, _, _, _⟩ :: _) _ _; refine wpS_boxA (cs := i.map B8) hS rfl rfl rfl ?_; clear hS; intro hb w hS; go_frame)
      | (show wpList _ _ _ (⟨_, .load 28 _, _, _, _, _⟩ :: _) _ _; refine wpList_val rfl (op_load aggHash rfl rfl ((hS.bring (by repeat (first | exact t0 | apply tS))).getBlk.cells) HI32.out) ?_; go_frame)
      | (go_at_call 35; refine Ret.calls (rat_s (F := .blk hb 28 (i.map B8) :: F) (by exact hS.sel (by repeat (first | exact Sel.refl | refine Sel.take (by repeat (first | exact t0 | apply tS)) ?_ | apply Sel.drop))) hi ok) ?_; clear hS; rintro r w ⟨rfl, hS⟩; rw [HIX.out]; obtain ⟨ov, pv, xs, G, hlk, HLN, HX, HC, HD, hS⟩ := rfocus [.blk hb 28 (i.map B8)] hS hk)
      | (show wpList _ _ _ (⟨some 15, .binOp _ _ _ _ _, _, _, _, _⟩ :: _) _ _; refine wpList_val rfl (op_ilss rfl rfl rfl HN.out) ?_; go_frame)
      | (show wpList _ _ _ (⟨_, .load 36 _, _, _, _, _⟩ :: _) _ _; refine wpList_val rfl (op_load1S (T := 38) oneREnts ((hS.bring (by repeat (first | exact t0 | apply tS)))) rfl rfl rfl) ?_; go_frame)
      | (show wpList _ _ _ (⟨_, .indexAddr 36 _ _, _, _, _, _⟩ :: _) _ _; refine wpList_val rfl (op_indexAddr slREnt rfl (v := ov) (k := k) rfl rfl (xs := xs) ((hS.bring (by repeat (first | exact t0 | apply tS))).getOwn.rd) hlk) ?_; go_frame)
      | (show wpList _ _ _ (⟨_, .fieldAddr 79 _ 1, _, _, _, _⟩ :: _) _ _; refine wpList_val rfl (op_fieldAddrE (j := 32) (by kernel_rfl) rfl (n := 34) (v := ov) (k := k) (xs := xs) rfl ((hS.bring (by repeat (first | exact t0 | apply tS))).getOwn.rd) hlk) ?_; go_frame)
      | (show wpList _ _ _ (⟨_, .load 50 _, _, _, _, _⟩ :: _) _ _; refine wpList_val rfl (op_loadF1 oneInts rfl (n := 34) (v := ov) (k := k) (j := 32) (xs := xs) rfl ((hS.bring (by repeat (first | exact t0 | apply tS))).getOwn.rd) hlk (u := pv) (g32 HX.out HIL.out)) ?_; go_frame)
      | (show wpList _ _ _ (⟨some 47, .call _, _, _, _, _⟩ :: _) _ _; refine wpList_val rfl (op_len slInt rfl rfl (v := pv) rfl ((hS.bring (by repeat (first | exact t0 | apply tS))).getOwn.rd)) ?_; rw [HPL.out]; go_frame)
      | (show wpList _ _ _ (⟨some 48, .binOp _ _ _ _ _, _, _, _, _⟩ :: _) _ _; refine wpList_val rfl (op_ilss rfl rfl rfl HLT.out) ?_; go_frame)
      )
    go_ret
    exact ⟨rfl, rtail1 rfl (HD [.blk hb 28 (i.map B8)] (by exact hS.sel (by repeat (first | exact Sel.refl | refine Sel.take (by repeat (first | exact t0 | apply tS)) ?_ | apply Sel.drop))))⟩
end
end Go.Proofs.Ytafpdpcbckpkjaa
