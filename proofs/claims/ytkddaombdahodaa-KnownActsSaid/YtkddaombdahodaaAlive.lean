/- The document's example answers yes and changes nothing. Conditions: those that stand ahead of each theorem. -/
import Derived.Test.YtkddaombdahodaaEx
import Derived.Test.YtkddaombdahodaaAny9
namespace Go.Proofs.Ytkddaombdahodaa
open Go.RowKit Go.Px
set_option maxHeartbeats 400000 in
theorem alive_any (w : World) : Calls Try.prog 9 #[] w (Ret fun v w' => v = .bool true ∧ Chg No w w') := by
  have hn := new_yes 2 w (by omega) (by omega)
  rw [show ((2 : Nat) : Int) = 2 from rfl] at hn
  have HN := hide hn
  clear hn
  go_enter Try.func9, Try.ntmps9
  go_wp2_with fail
  refine Ret.calls (unhide HN) ?_
  rintro v w1 ⟨p, S, hv, hS1, hc1, hf1⟩
  rw [hv]
  clear hv HN
  go_wp2_with
    (first
      | (refine wpList_val rfl (op_build (parts := #[(0, .const (.int .u8 1))]) (ps := #[(0, .int .u8 1)]) rfl rfl build1 _) ?_
         go_frame
         refine wpList_val rfl (op_build (parts := #[(0, .const (.int .u8 2))]) (ps := #[(0, .int .u8 2)]) rfl rfl build2 _) ?_
         go_frame
         refine wpList_val rfl (op_build (parts := #[(0, .const (.int .u8 3))]) (ps := #[(0, .int .u8 3)]) rfl rfl build3 _) ?_
         go_frame
         refine wpList_alloc rfl rfl zero24 ?_
         intro na wa hna1 hna2 hBa hca
         go_frame
         refine wpList_alloc rfl rfl zero24 ?_
         intro nb wb hnb1 hnb2 hBb hcb
         go_frame
         refine wpList_alloc rfl rfl zero24 ?_
         intro nc wc hnc1 hnc2 hBc hcc
         go_frame
         refine wpList_storeAll agg24 rfl rfl (b := na) rfl (vs := h1 1) rfl (len1 _) isH1.1.2 ((hBa.chg hcb id).chg hcc id) (by simp [Value.cells]) ?_
         intro wd hBa1 hcd
         go_frame
         refine wpList_storeAll agg24 rfl rfl (b := nb) rfl (vs := h1 2) rfl (len1 _) isH2.1.2 ((hBb.chg hcc id).chg hcd (fun e => by have := hBa.lt; omega)) (by simp [Value.cells]) ?_
         intro we hBb1 hce
         go_frame
         refine wpList_storeAll agg24 rfl rfl (b := nc) rfl (vs := h1 3) rfl (len1 _) isH3.1.2 ((hBc.chg hcd (fun e => by have := hBa.lt; have := hcb.size; omega)).chg hce (fun e => by have := hBb.lt; omega)) (by simp [Value.cells]) ?_
         intro wf fc hcf
         go_frame
         have fa : Blk wf na 24 (h1 1) := (hBa1.chg hce (fun e => by have := hBa.lt; omega)).chg hcf (fun e => by have := hBa.lt; have := hcb.size; omega)
         have fb : Blk wf nb 24 (h1 2) := hBb1.chg hcf (fun e => by have := hBb.lt; omega)
         have y1 := hS1.lt
         have z1 := hc1.size
         have z2 := hca.size
         have z3 := hcb.size
         have hS2 : KSet wf p 2 [] S := (((((hS1.chg hca (fun _ _ h => h)).chg hcb (fun _ _ h => h)).chg hcc (fun _ _ h => h)).chg hcd (fun k hk e => by have := y1 k hk; omega)).chg hce (fun k hk e => by have := y1 k hk; omega)).chg hcf (fun k hk e => by have := y1 k hk; omega)
         have hw : Chg No w wf := (((((hc1.trans' hca).trans' hcb).trans' hcc).trans hcd (fun _ _ h => h) (fun k hk e => by omega)).trans hce (fun _ _ h => h) (fun k hk e => by omega)).trans hcf (fun _ _ h => h) (fun k hk e => by omega)
         have pa : ¬ S na := fun hk => by have := y1 na hk; omega
         have pb : ¬ S nb := fun hk => by have := y1 nb hk; omega
         have pc : ¬ S nc := fun hk => by have := y1 nc hk; omega
         clear hBa1 hBb1 hcd hce hcf hBa hBb hBc hca hcb hcc hS1 hna1 hnb1 hnc1 y1 z1 z2 z3 hc1)
      | (refine wpList_val rfl (op_load agg24 rfl rfl fa.cells (len1 _)) ?_
         go_frame
         refine wpList_val rfl (op_load agg24 rfl rfl fb.cells (len1 _)) ?_
         go_frame
         refine wpList_val rfl (op_load agg24 rfl rfl fa.cells (len1 _)) ?_
         go_frame
         refine wpList_val rfl (op_load agg24 rfl rfl fc.cells (len1 _)) ?_
         go_frame
         refine wpList_buildL slTy33 rfl rfl [H (h1 1), H (h1 2), H (h1 1), H (h1 3)] rfl rfl (by omega) (by omega) cells4 ?_
         intro v4 w4 hO4 hb4 hc4
         go_frame))
  have hO4' : Own 24 32 w4 v4 [h1 1, h1 2, h1 1, h1 3] := hO4
  have hS4 := hS2.chg hc4 (fun _ _ h => h)
  refine Ret.calls (add_any p 2 [] S v4 [h1 1, h1 2, h1 1, h1 3] w4 hS4 hO4'.rd isHs4 (fun j hj hSj => by
    have e1 := hb4 j hj
    have e2 := hS2.lt j hSj
    omega) (by simp)) ?_
  rintro r w5 ⟨S5, hS5, hO5, hc5, hn5, ha5⟩
  rw [adds_ex] at hS5
  rw [gones_ex] at hO5
  have ga : Blk w5 na 24 (h1 1) := (fa.chg hc4 id).chg hc5 pa
  have gb : Blk w5 nb 24 (h1 2) := (fb.chg hc4 id).chg hc5 pb
  have gc : Blk w5 nc 24 (h1 3) := (fc.chg hc4 id).chg hc5 pc
  have hw5 : Chg No w w5 := (hw.trans' hc4).trans hc5 (fun _ _ h => h) (fun j hj hSj => by have := hf1 j hSj; omega)
  clear fa fb fc hc4 hc5 hO4 hO4' hS4 hS2 hw
  go_wp2_with fail
  refine wp_region_ord (by kernel_rfl) [3, 4, 5] [[0, 1, 2, 3, 4, 5, 7, 8, 6, 9, 10, 11, 12, 13, 14, 15, 16, 17, 18, 19, 20, 21, 22], [0, 1, 2, 3, 4, 5, 7, 8, 9, 6, 10, 11, 12, 13, 14, 15, 16, 17, 18, 19, 20, 21, 22]] (by kernel_rfl) (by kernel_rfl) (fun w' => Blk w' na 24 (h1 1) ∧ Blk w' nb 24 (h1 2) ∧ Blk w' nc 24 (h1 3)) (Up.and Up.blk (Up.and Up.blk Up.blk)) ⟨ga, gb, gc⟩ (by repeat (first | exact Clean.body | refine Clean.then ?_ | refine Clean.inBlock ?_ | refine SegQ.clean ?_ | refine FinC.clean ?_)) ?_
  refine ord_seg (by repeat (first | exact Clean.body | refine Clean.then ?_ | refine Clean.inBlock ?_ | refine SegQ.clean ?_ | refine FinC.clean ?_)) (n := 19) (rest := [[4, 5, 7, 8, 6, 9, 10, 11, 12, 13, 14, 15, 16, 17, 18, 19, 20, 21, 22], [4, 5, 7, 8, 9, 6, 10, 11, 12, 13, 14, 15, 16, 17, 18, 19, 20, 21, 22]]) [0, 1, 2, 3] [⟨_, _, _, _, _, _⟩, ⟨_, _, _, _, _, _⟩, ⟨_, _, _, _, _, _⟩, ⟨_, _, _, _, _, _⟩] rfl (by kernel_rfl) (by simp) _ _ ?_
  go_wp2_with
    (refine wpList_val rfl (op_load agg24 rfl rfl ga.cells (len1 _)) ?_
     go_frame
     refine wpList_build1 slTy33 (by omega) rfl rfl (v := H (h1 1)) rfl (cellsH isH1) ?_
     intro n6 w6 hn6 hl6 hB6 hc6
     replace hc6 := undrew hc6
     go_frame)
  have hB6' : Blk w6 n6 24 (h1 1) := hB6
  refine Ret.calls (sameIds r (.slice (some ⟨n6, 0, none⟩) 1 1) [h1 1] [h1 1] w6 (hO5.rd.chgNo hc6) (Blk.own1 hB6' (len1 _)).rd (isHs1 isH1) (isHs1 isH1)) ?_
  rintro v7 w7 ⟨hv7, hc7⟩
  rw [eqL_self] at hv7
  rw [hv7]
  clear hv7
  have hS7 : KSet w7 p 2 [h1 2, h1 3] S5 := (hS5.chg hc6 (fun _ _ h => h)).chg hc7 (fun _ _ h => h)
  have gb7 : Blk w7 nb 24 (h1 2) := (gb.chg hc6 id).chg hc7 id
  have gc7 : Blk w7 nc 24 (h1 3) := (gc.chg hc6 id).chg hc7 id
  have ga7 : Blk w7 na 24 (h1 1) := (ga.chg hc6 id).chg hc7 id
  have hw7 : Chg No w w7 := (hw5.trans' hc6).trans' hc7
  clear hS5 ga gb gc hw5 hc6 hc7 hB6 hB6' hO5 hn6
  go_wp2_with fail
  refine segQ_mk ⟨ga7, gb7, gc7⟩ ?_
  refine ord_seg (by repeat (first | exact Clean.body | refine Clean.then ?_ | refine Clean.inBlock ?_ | refine SegQ.clean ?_ | refine FinC.clean ?_)) (n := 15) (rest := [[6, 9, 10, 11, 12, 13, 14, 15, 16, 17, 18, 19, 20, 21, 22], [9, 6, 10, 11, 12, 13, 14, 15, 16, 17, 18, 19, 20, 21, 22]]) [4, 5, 7, 8] [⟨_, _, _, _, _, _⟩, ⟨_, _, _, _, _, _⟩, ⟨_, _, _, _, _, _⟩, ⟨_, _, _, _, _, _⟩] rfl (by kernel_rfl) (by simp) _ _ ?_
  go_wp2_with
    (refine wpList_val rfl (op_load agg24 rfl rfl gb7.cells (len1 _)) ?_
     go_frame
     refine wpList_val rfl (op_load agg24 rfl rfl gc7.cells (len1 _)) ?_
     go_frame)
  refine segQ_mk ⟨ga7, gb7, gc7⟩ ?_
  refine ord_fork (n := 14) (os1 := [[6, 9, 10, 11, 12, 13, 14, 15, 16, 17, 18, 19, 20, 21, 22]]) (os2 := [[9, 6, 10, 11, 12, 13, 14, 15, 16, 17, 18, 19, 20, 21, 22]]) (by decide) ?_ ?_
  · refine ord_seg (by repeat (first | exact Clean.body | refine Clean.then ?_ | refine Clean.inBlock ?_ | refine SegQ.clean ?_ | refine FinC.clean ?_)) (n := 14) (rest := [[9, 10, 11, 12, 13, 14, 15, 16, 17, 18, 19, 20, 21, 22]]) [6] [⟨_, _, _, _, _, _⟩] rfl (by kernel_rfl) (by simp) _ _ ?_
    go_wp2_with fail
    refine Ret.calls (all_any p 2 _ S5 w7 hS7) ?_
    rintro v8 w8 ⟨hO8, hc8, hf8⟩
    go_wp2_with fail
    refine segQ_mk ⟨ga7.chg hc8 id, gb7.chg hc8 id, gc7.chg hc8 id⟩ ?_
    refine ord_seg (by repeat (first | exact Clean.body | refine Clean.then ?_ | refine Clean.inBlock ?_ | refine SegQ.clean ?_ | refine FinC.clean ?_)) (n := 12) (rest := [[11, 12, 13, 14, 15, 16, 17, 18, 19, 20, 21, 22]]) [9, 10] [⟨_, _, _, _, _, _⟩, ⟨_, _, _, _, _, _⟩] rfl (by kernel_rfl) (by simp) _ _ ?_
    go_wp2_with
      (refine wpList_buildL slTy33 rfl rfl [H (h1 2), H (h1 3)] rfl rfl (by omega) (by omega) cells2 ?_
       intro v9 w9 hO9 hb9 hc9
       go_frame)
    have hO9' : Own 24 32 w9 v9 [h1 2, h1 3] := hO9
    refine Ret.calls (sameIds v8 v9 [h1 2, h1 3] [h1 2, h1 3] w9 (hO8.rd.chgNo hc9) hO9'.rd (isHs2 _ _ isH2 isH3) (isHs2 _ _ isH2 isH3)) ?_
    rintro v10 w10 ⟨hv10, hc10⟩
    rw [eqL_self] at hv10
    rw [hv10]
    have hcT : Chg No w7 w10 := (hc8.trans' hc9).trans' hc10
    clear hv10 hO8 hO9 hO9' hc8 hc9 hc10
    go_wp2_with fail
    refine segQ_mk ⟨ga7.chg hcT id, gb7.chg hcT id, gc7.chg hcT id⟩ ?_
    refine ord_seg (by repeat (first | exact Clean.body | refine Clean.then ?_ | refine Clean.inBlock ?_ | refine SegQ.clean ?_ | refine FinC.clean ?_)) (n := 8) (rest := [[15, 16, 17, 18, 19, 20, 21, 22]]) [11, 12, 13, 14] [⟨_, _, _, _, _, _⟩, ⟨_, _, _, _, _, _⟩, ⟨_, _, _, _, _, _⟩, ⟨_, _, _, _, _, _⟩] rfl (by kernel_rfl) (by simp) _ _ ?_
    go_wp2_with fail
    refine Ret.calls (len_any p 2 _ S5 w10 (hS7.chg hcT (fun _ _ h => h))) ?_
    rintro v11 w11 ⟨hv11, hw11⟩
    rw [hv11, hw11]
    clear hv11 hw11
    go_wp2_with fail
    refine segQ_mk ⟨ga7.chg hcT id, gb7.chg hcT id, gc7.chg hcT id⟩ ?_
    refine ord_seg (by repeat (first | exact Clean.body | refine Clean.then ?_ | refine Clean.inBlock ?_ | refine SegQ.clean ?_ | refine FinC.clean ?_)) (n := 2) (rest := [[21, 22]]) [15, 16, 17, 18, 19, 20] [⟨_, _, _, _, _, _⟩, ⟨_, _, _, _, _, _⟩, ⟨_, _, _, _, _, _⟩, ⟨_, _, _, _, _, _⟩, ⟨_, _, _, _, _, _⟩, ⟨_, _, _, _, _, _⟩] rfl (by kernel_rfl) (by simp) _ _ ?_
    go_wp2_with
      (refine wpList_val rfl (op_load agg24 rfl rfl (gb7.chg hcT id).cells (len1 _)) ?_
       go_frame)
    refine Ret.calls (has_any p 2 _ S5 (h1 2) w10 (hS7.chg hcT (fun _ _ h => h)) isH2) ?_
    rintro v12 w12 ⟨hv12, hc12⟩
    rw [mem_true.2 (by simp : h1 2 ∈ [h1 2, h1 3])] at hv12
    rw [hv12]
    clear hv12
    go_wp2_with fail
    refine segQ_mk ⟨(ga7.chg hcT id).chg hc12 id, (gb7.chg hcT id).chg hc12 id, (gc7.chg hcT id).chg hc12 id⟩ ?_
    refine ord_seg (by repeat (first | exact Clean.body | refine Clean.then ?_ | refine Clean.inBlock ?_ | refine SegQ.clean ?_ | refine FinC.clean ?_)) (n := 0) (rest := [[]]) [21, 22] [⟨_, _, _, _, _, _⟩, ⟨_, _, _, _, _, _⟩] rfl (by kernel_rfl) (by simp) _ _ ?_
    go_wp2_with fail
    refine segQ_mk ⟨(ga7.chg hcT id).chg hc12 id, (gb7.chg hcT id).chg hc12 id, (gc7.chg hcT id).chg hc12 id⟩ ?_
    refine finC_mk (by kernel_rfl) (by
      intro t ht
      simp only [List.mem_cons, List.not_mem_nil, or_false] at ht
      rcases ht with rfl | rfl | rfl
      · exact stab_blk (b := na) (fun w h => h.1) 0 none
      · exact stab_blk (b := nb) (fun w h => h.2.1) 0 none
      · exact stab_blk (b := nc) (fun w h => h.2.2) 0 none) ?_
    go_wp2_with fail
    go_ret
    exact ⟨rfl, (hw7.trans' hcT).trans' hc12⟩
  · refine ord_seg (by repeat (first | exact Clean.body | refine Clean.then ?_ | refine Clean.inBlock ?_ | refine SegQ.clean ?_ | refine FinC.clean ?_)) (n := 14) (rest := [[6, 10, 11, 12, 13, 14, 15, 16, 17, 18, 19, 20, 21, 22]]) [9] [⟨_, _, _, _, _, _⟩] rfl (by kernel_rfl) (by simp) _ _ ?_
    go_wp2_with
      (refine wpList_buildL slTy33 rfl rfl [H (h1 2), H (h1 3)] rfl rfl (by omega) (by omega) cells2 ?_
       intro v9 w9 hO9 hb9 hc9
       go_frame)
    have hO9' : Own 24 32 w9 v9 [h1 2, h1 3] := hO9
    refine segQ_mk ⟨ga7.chg hc9 id, gb7.chg hc9 id, gc7.chg hc9 id⟩ ?_
    refine ord_seg (by repeat (first | exact Clean.body | refine Clean.then ?_ | refine Clean.inBlock ?_ | refine SegQ.clean ?_ | refine FinC.clean ?_)) (n := 13) (rest := [[10, 11, 12, 13, 14, 15, 16, 17, 18, 19, 20, 21, 22]]) [6] [⟨_, _, _, _, _, _⟩] rfl (by kernel_rfl) (by simp) _ _ ?_
    go_wp2_with fail
    refine Ret.calls (all_any p 2 _ S5 w9 (hS7.chg hc9 (fun _ _ h => h))) ?_
    rintro v8 w8 ⟨hO8, hc8, hf8⟩
    go_wp2_with fail
    refine segQ_mk ⟨(ga7.chg hc9 id).chg hc8 id, (gb7.chg hc9 id).chg hc8 id, (gc7.chg hc9 id).chg hc8 id⟩ ?_
    refine ord_seg (by repeat (first | exact Clean.body | refine Clean.then ?_ | refine Clean.inBlock ?_ | refine SegQ.clean ?_ | refine FinC.clean ?_)) (n := 12) (rest := [[11, 12, 13, 14, 15, 16, 17, 18, 19, 20, 21, 22]]) [10] [⟨_, _, _, _, _, _⟩] rfl (by kernel_rfl) (by simp) _ _ ?_
    go_wp2_with fail
    refine Ret.calls (sameIds v8 v9 [h1 2, h1 3] [h1 2, h1 3] w8 hO8.rd (hO9'.rd.chgNo hc8) (isHs2 _ _ isH2 isH3) (isHs2 _ _ isH2 isH3)) ?_
    rintro v10 w10 ⟨hv10, hc10⟩
    rw [eqL_self] at hv10
    rw [hv10]
    have hcT : Chg No w7 w10 := (hc9.trans' hc8).trans' hc10
    clear hv10 hO8 hO9 hO9' hc8 hc9 hc10
    go_wp2_with fail
    refine segQ_mk ⟨ga7.chg hcT id, gb7.chg hcT id, gc7.chg hcT id⟩ ?_
    refine ord_seg (by repeat (first | exact Clean.body | refine Clean.then ?_ | refine Clean.inBlock ?_ | refine SegQ.clean ?_ | refine FinC.clean ?_)) (n := 8) (rest := [[15, 16, 17, 18, 19, 20, 21, 22]]) [11, 12, 13, 14] [⟨_, _, _, _, _, _⟩, ⟨_, _, _, _, _, _⟩, ⟨_, _, _, _, _, _⟩, ⟨_, _, _, _, _, _⟩] rfl (by kernel_rfl) (by simp) _ _ ?_
    go_wp2_with fail
    refine Ret.calls (len_any p 2 _ S5 w10 (hS7.chg hcT (fun _ _ h => h))) ?_
    rintro v11 w11 ⟨hv11, hw11⟩
    rw [hv11, hw11]
    clear hv11 hw11
    go_wp2_with fail
    refine segQ_mk ⟨ga7.chg hcT id, gb7.chg hcT id, gc7.chg hcT id⟩ ?_
    refine ord_seg (by repeat (first | exact Clean.body | refine Clean.then ?_ | refine Clean.inBlock ?_ | refine SegQ.clean ?_ | refine FinC.clean ?_)) (n := 2) (rest := [[21, 22]]) [15, 16, 17, 18, 19, 20] [⟨_, _, _, _, _, _⟩, ⟨_, _, _, _, _, _⟩, ⟨_, _, _, _, _, _⟩, ⟨_, _, _, _, _, _⟩, ⟨_, _, _, _, _, _⟩, ⟨_, _, _, _, _, _⟩] rfl (by kernel_rfl) (by simp) _ _ ?_
    go_wp2_with
      (refine wpList_val rfl (op_load agg24 rfl rfl (gb7.chg hcT id).cells (len1 _)) ?_
       go_frame)
    refine Ret.calls (has_any p 2 _ S5 (h1 2) w10 (hS7.chg hcT (fun _ _ h => h)) isH2) ?_
    rintro v12 w12 ⟨hv12, hc12⟩
    rw [mem_true.2 (by simp : h1 2 ∈ [h1 2, h1 3])] at hv12
    rw [hv12]
    clear hv12
    go_wp2_with fail
    refine segQ_mk ⟨(ga7.chg hcT id).chg hc12 id, (gb7.chg hcT id).chg hc12 id, (gc7.chg hcT id).chg hc12 id⟩ ?_
    refine ord_seg (by repeat (first | exact Clean.body | refine Clean.then ?_ | refine Clean.inBlock ?_ | refine SegQ.clean ?_ | refine FinC.clean ?_)) (n := 0) (rest := [[]]) [21, 22] [⟨_, _, _, _, _, _⟩, ⟨_, _, _, _, _, _⟩] rfl (by kernel_rfl) (by simp) _ _ ?_
    go_wp2_with fail
    refine segQ_mk ⟨(ga7.chg hcT id).chg hc12 id, (gb7.chg hcT id).chg hc12 id, (gc7.chg hcT id).chg hc12 id⟩ ?_
    refine finC_mk (by kernel_rfl) (by
      intro t ht
      simp only [List.mem_cons, List.not_mem_nil, or_false] at ht
      rcases ht with rfl | rfl | rfl
      · exact stab_blk (b := na) (fun w h => h.1) 0 none
      · exact stab_blk (b := nb) (fun w h => h.2.1) 0 none
      · exact stab_blk (b := nc) (fun w h => h.2.2) 0 none) ?_
    go_wp2_with fail
    go_ret
    exact ⟨rfl, (hw7.trans' hcT).trans' hc12⟩
end Go.Proofs.Ytkddaombdahodaa
