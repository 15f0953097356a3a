/- The document's example. Conditions: those that stand ahead of each theorem. -/
import Derived.Test.YtffagjkjeojaaaaLF
namespace Go.Proofs.Ytffagjkjeojaaaa
open Go.RowKit Go.Px
def idN (n : Byte) : Id := n :: List.replicate 31 0
theorem idN_len (n : Byte) : (idN n).length = 32 := by simp [idN]
theorem buildI1 (w : World) : (Instr.build 24 #[(0, .int .u8 1)]).run Try.prog w = .ok (.agg ((idN 1).map B8).toArray) w := by kernel_rfl
theorem buildI2 (w : World) : (Instr.build 24 #[(0, .int .u8 2)]).run Try.prog w = .ok (.agg ((idN 2).map B8).toArray) w := by kernel_rfl
theorem buildI3 (w : World) : (Instr.build 24 #[(0, .int .u8 3)]).run Try.prog w = .ok (.agg ((idN 3).map B8).toArray) w := by kernel_rfl
theorem cells3 (x y z : Id) : [Value.agg (x.map B8).toArray, .agg (y.map B8).toArray, .agg (z.map B8).toArray].map (fun v => v.cells.toList) = bys [x, y, z] := rfl
theorem cells2 (x y : Id) : [Value.agg (x.map B8).toArray, .agg (y.map B8).toArray].map (fun v => v.cells.toList) = bys [x, y] := rfl
theorem size3 {x y z : Id} (hx : x.length = 32) (hy : y.length = 32) (hz : z.length = 32) : ∀ v ∈ [Value.agg (x.map B8).toArray, .agg (y.map B8).toArray, .agg (z.map B8).toArray], v.cells.size = 32 := by
  intro v hv
  simp only [List.mem_cons, List.not_mem_nil, or_false] at hv
  rcases hv with rfl | rfl | rfl <;> simp [Value.cells, hx, hy, hz]
theorem size2 {x y : Id} (hx : x.length = 32) (hy : y.length = 32) : ∀ v ∈ [Value.agg (x.map B8).toArray, .agg (y.map B8).toArray], v.cells.size = 32 := by
  intro v hv
  simp only [List.mem_cons, List.not_mem_nil, or_false] at hv
  rcases hv with rfl | rfl <;> simp [Value.cells, hx, hy]
theorem is32_3 {x y z : Id} (hx : x.length = 32) (hy : y.length = 32) (hz : z.length = 32) : Is32 [x, y, z] := by
  intro v hv
  simp only [List.mem_cons, List.not_mem_nil, or_false] at hv
  rcases hv with rfl | rfl | rfl <;> assumption
theorem is32_2 {x y : Id} (hx : x.length = 32) (hy : y.length = 32) : Is32 [x, y] := by
  intro v hv
  simp only [List.mem_cons, List.not_mem_nil, or_false] at hv
  rcases hv with rfl | rfl <;> assumption
theorem is32_1 {x : Id} (hx : x.length = 32) : Is32 [x] := by simpa [Is32] using hx
def ABC0 (na nb nc : Nat) (i1 i2 i3 : Id) (F : List Hp) : List Hp := .blk na 24 (i1.map B8) :: .blk nb 24 (i2.map B8) :: .blk nc 24 (i3.map B8) :: F
theorem ex_1 : putQ ⟨[], []⟩ [idN 1, idN 2, idN 3] = ⟨[], [idN 1, idN 2, idN 3]⟩ := by
  have h1 : (putQ ⟨[], []⟩ [idN 1, idN 2, idN 3]).known = [] := by decide +kernel
  have h2 : (putQ ⟨[], []⟩ [idN 1, idN 2, idN 3]).waits = [idN 1, idN 2, idN 3] := by decide +kernel
  cases h : putQ ⟨[], []⟩ [idN 1, idN 2, idN 3]
  rw [h] at h1 h2
  cases h1
  cases h2
  rfl
theorem ex_2 : learnQ ⟨[], [idN 1, idN 2, idN 3]⟩ [idN 2] = ⟨[idN 2], [idN 1, idN 3]⟩ := by
  have h1 : (learnQ ⟨[], [idN 1, idN 2, idN 3]⟩ [idN 2]).known = [idN 2] := by decide +kernel
  have h2 : (learnQ ⟨[], [idN 1, idN 2, idN 3]⟩ [idN 2]).waits = [idN 1, idN 3] := by decide +kernel
  cases h : learnQ ⟨[], [idN 1, idN 2, idN 3]⟩ [idN 2]
  rw [h] at h1 h2
  cases h1
  cases h2
  rfl
theorem ex_3 : told ⟨[idN 2], [idN 1, idN 3]⟩ [idN 3, idN 1] = [idN 1, idN 3] := by decide +kernel
theorem ex_4 : flushQ ⟨[idN 2], [idN 1, idN 3]⟩ [idN 3, idN 1] = ⟨[idN 2, idN 1, idN 3], []⟩ := by
  have h1 : (flushQ ⟨[idN 2], [idN 1, idN 3]⟩ [idN 3, idN 1]).known = [idN 2, idN 1, idN 3] := by decide +kernel
  have h2 : (flushQ ⟨[idN 2], [idN 1, idN 3]⟩ [idN 3, idN 1]).waits = [] := by decide +kernel
  cases h : flushQ ⟨[idN 2], [idN 1, idN 3]⟩ [idN 3, idN 1]
  rw [h] at h1 h2
  cases h1
  cases h2
  rfl
theorem ex_5 : putQ ⟨[idN 2, idN 1, idN 3], []⟩ [idN 1] = ⟨[idN 2, idN 1, idN 3], []⟩ := by
  have h1 : (putQ ⟨[idN 2, idN 1, idN 3], []⟩ [idN 1]).known = [idN 2, idN 1, idN 3] := by decide +kernel
  have h2 : (putQ ⟨[idN 2, idN 1, idN 3], []⟩ [idN 1]).waits = [] := by decide +kernel
  cases h : putQ ⟨[idN 2, idN 1, idN 3], []⟩ [idN 1]
  rw [h] at h1 h2
  cases h1
  cases h2
  rfl
theorem ok_0 : QOk ⟨[], [idN 1, idN 2, idN 3]⟩ := by
  rw [← ex_1]
  exact QOk.nil.put (is32_3 (idN_len 1) (idN_len 2) (idN_len 3))
theorem ok_1 : QOk ⟨[idN 2], [idN 1, idN 3]⟩ := by
  rw [← ex_2]
  exact ok_0.learn (is32_1 (idN_len 2))
theorem ok_2 : QOk ⟨[idN 2, idN 1, idN 3], []⟩ := by
  rw [← ex_4]
  exact ok_1.flush
section
variable {R : Nat → Prop} {base w : World} {F : List Hp}
theorem qput_o {p : Nat} {q : Qu} {l : List Id} {T : TypeId} {v : Value} (hS : SepL R base w (.own T 32 v (bys l) :: hQ p q :: F)) (hok : QOk q) (h32 : Is32 l) :
    Calls Try.prog 13 #[.pointer (some ⟨p, 0, none⟩), v] w (Ret fun _ w' => SepL R base w' (.own T 32 v (bys l) :: hQ p (putQ q l) :: F)) := by
  obtain ⟨R', h1, h2, h3, h4⟩ := hS.freezeOwn
  refine Ret.calls (qput_s h1 hok h2 h32) ?_
  intro r w' h5
  exact h4 w' _ h5
theorem qlearn_o {p : Nat} {q : Qu} {l : List Id} {T : TypeId} {v : Value} (hS : SepL R base w (.own T 32 v (bys l) :: hQ p q :: F)) (hok : QOk q) (h32 : Is32 l) (hlen : l.length ≤ 100000) :
    Calls Try.prog 15 #[.pointer (some ⟨p, 0, none⟩), v] w (Ret fun _ w' => SepL R base w' (.own T 32 v (bys l) :: hQ p (learnQ q l) :: F)) := by
  obtain ⟨R', h1, h2, h3, h4⟩ := hS.freezeOwn
  refine Ret.calls (qlearn_s h1 hok h2 h32 hlen) ?_
  intro r w' h5
  exact h4 w' _ h5
theorem qflush_o {p : Nat} {q : Qu} {l : List Id} {T : TypeId} {v : Value} (hS : SepL R base w (.own T 32 v (bys l) :: hQ p q :: F)) (hok : QOk q) (h32 : Is32 l) :
    Calls Try.prog 18 #[.pointer (some ⟨p, 0, none⟩), v] w (Ret fun r w' => SepL R base w' (.own T 32 v (bys l) :: .own 24 32 r (bys (told q l)) :: hQ p (flushQ q l) :: F)) := by
  obtain ⟨R', h1, h2, h3, h4⟩ := hS.freezeOwn
  refine Ret.calls (qflush_s h1 hok h2 h32) ?_
  intro r w' h5
  exact h4 w' _ h5
set_option maxRecDepth 100000 in
set_option maxHeartbeats 4000000 in
theorem alive_s (hS : SepL R base w F) : Calls Try.prog 9 #[] w (Ret fun r w' => r = .bool true ∧ SepL R base w' F) := by
  have B1 := buildI1
  have B2 := buildI2
  have B3 := buildI3
  have P1 := ex_1
  have P2 := ex_2
  have P3 := ex_3
  have P4 := ex_4
  have P5 := ex_5
  have O1 := hide ok_0
  have O2 := hide ok_1
  have O3 := hide ok_2
  have I1 := hide (idN_len 1)
  have I2 := hide (idN_len 2)
  have I3 := hide (idN_len 3)
  generalize idN 1 = i1 at *
  generalize idN 2 = i2 at *
  generalize idN 3 = i3 at *
  have H1 : Hid ((i1.map B8).length = 32) := by unfold Hid; rw [List.length_map]; exact I1.out
  have H2 : Hid ((i2.map B8).length = 32) := by unfold Hid; rw [List.length_map]; exact I2.out
  have H3 : Hid ((i3.map B8).length = 32) := by unfold Hid; rw [List.length_map]; exact I3.out
  have C3 := hide (size3 I1.out I2.out I3.out)
  have C3b := hide (size3 I2.out I1.out I3.out)
  have C2 := hide (size2 I3.out I1.out)
  have C2b := hide (size2 I1.out I3.out)
  have L1 := hide (is32_1 I2.out)
  have L2 := hide (is32_2 I3.out I1.out)
  have L2b := hide (is32_2 I1.out I3.out)
  have L3 := hide (is32_3 I1.out I2.out I3.out)
  have L3b := hide (is32_3 I2.out I1.out I3.out)
  have L4 := hide (is32_1 I1.out)
  have HL0 : Hid ((bys []).length = 0) := rfl
  obtain ⟨M1, hM1⟩ : ∃ m : Nat, m = 0 := ⟨0, rfl⟩
  obtain ⟨M2, hM2⟩ : ∃ m : Nat, m = 0 := ⟨0, rfl⟩
  clear hM1 hM2
  go_enter Try.func9, Try.ntmps9
  go_wp2_with (first
    | go_big_skip
    | (go_at_call 11; refine Ret.calls (qnew_s hS) ?_; clear hS; rintro r w ⟨p, rfl, hS⟩)
    | (show wpList _ _ _ (⟨some 9, .build _ _, _, _, _, _⟩ :: _) _ _; refine wpList_val rfl (op_build (ps := #[(0, .int .u8 1)]) rfl rfl B1 _) ?_; go_frame)
    | (show wpList _ _ _ (⟨some 10, .build _ _, _, _, _, _⟩ :: _) _ _; refine wpList_val rfl (op_build (ps := #[(0, .int .u8 2)]) rfl rfl B2 _) ?_; go_frame)
    | (show wpList _ _ _ (⟨some 11, .build _ _, _, _, _, _⟩ :: _) _ _; refine wpList_val rfl (op_build (ps := #[(0, .int .u8 3)]) rfl rfl B3 _) ?_; go_frame)
    | (show wpList _ _ _ (⟨some 2, .alloc _, _, _, _, _⟩ :: _) _ _; refine wpS_alloc hS rfl rfl Try.zeroValue24 (zs := List.replicate 32 (.int .u8 0)) rfl ?_; clear hS; intro na w hS; go_frame)
    | (show wpList _ _ _ (⟨some 3, .alloc _, _, _, _, _⟩ :: _) _ _; refine wpS_alloc hS rfl rfl Try.zeroValue24 (zs := List.replicate 32 (.int .u8 0)) rfl ?_; clear hS; intro nb w hS; go_frame)
    | (show wpList _ _ _ (⟨some 4, .alloc _, _, _, _, _⟩ :: _) _ _; refine wpS_alloc hS rfl rfl Try.zeroValue24 (zs := List.replicate 32 (.int .u8 0)) rfl ?_; clear hS; intro nc w hS; go_frame)
    | (show wpList _ _ _ (⟨_, .store 24 (.tmp 2) _, _, _, _, _⟩ :: _) _ _; (refine wpS_storeAll (b := na) aggHash (hS.bring (by repeat (first | exact t0 | apply tS))) rfl rfl rfl (vs := i1.map B8) rfl H1.out (flat_B8 i1) rfl ?_); clear hS; intro w hS; go_frame)
    | (show wpList _ _ _ (⟨_, .store 24 (.tmp 3) _, _, _, _, _⟩ :: _) _ _; (refine wpS_storeAll (b := nb) aggHash (hS.bring (by repeat (first | exact t0 | apply tS))) rfl rfl rfl (vs := i2.map B8) rfl H2.out (flat_B8 i2) rfl ?_); clear hS; intro w hS; go_frame)
    | (show wpList _ _ _ (⟨_, .store 24 (.tmp 4) _, _, _, _, _⟩ :: _) _ _; (refine wpS_storeAll (b := nc) aggHash (hS.bring (by repeat (first | exact t0 | apply tS))) rfl rfl rfl (vs := i3.map B8) rfl H3.out (flat_B8 i3) rfl ?_); clear hS; intro w hS; go_frame)
    | (show wpList _ _ _ (⟨_, .load 24 (.tmp 2), _, _, _, _⟩ :: _) _ _; refine wpList_val rfl (op_load aggHash rfl rfl (SepL.getBlk (b := na) (T := 24) ((hS.bring (by repeat (first | exact t0 | apply tS))))).cells H1.out) ?_; go_frame)
    | (show wpList _ _ _ (⟨_, .load 24 (.tmp 3), _, _, _, _⟩ :: _) _ _; refine wpList_val rfl (op_load aggHash rfl rfl (SepL.getBlk (b := nb) (T := 24) ((hS.bring (by repeat (first | exact t0 | apply tS))))).cells H2.out) ?_; go_frame)
    | (show wpList _ _ _ (⟨_, .load 24 (.tmp 4), _, _, _, _⟩ :: _) _ _; refine wpList_val rfl (op_load aggHash rfl rfl (SepL.getBlk (b := nc) (T := 24) ((hS.bring (by repeat (first | exact t0 | apply tS))))).cells H3.out) ?_; go_frame)
    | (show wpList _ _ _ (⟨some 16, .buildSlice _ _ _, _, _, _, _⟩ :: _) _ _; refine wpS_buildL slHash hS rfl rfl [.agg (i1.map B8).toArray, .agg (i2.map B8).toArray, .agg (i3.map B8).toArray] rfl rfl (by omega) (by omega) C3.out ?_; clear hS; intro v16 w hS; rw [cells3] at hS; go_frame)
    | (show wpList _ _ _ (⟨some 20, .buildSlice _ _ _, _, _, _, _⟩ :: _) _ _; refine wpS_build1A slHash (by omega) hS rfl rfl (cs := i2.map B8) rfl H2.out ?_; clear hS; intro v20 w hS; go_frame)
    | (show wpList _ _ _ (⟨some 25, .buildSlice _ _ _, _, _, _, _⟩ :: _) _ _; refine wpS_buildL slHash hS rfl rfl [.agg (i3.map B8).toArray, .agg (i1.map B8).toArray] rfl rfl (by omega) (by omega) C2.out ?_; clear hS; intro v25 w hS; rw [cells2] at hS; go_frame)
    | (show wpList _ _ _ (⟨some 29, .buildSlice _ _ _, _, _, _, _⟩ :: _) _ _; refine wpS_build1A slHash (by omega) hS rfl rfl (cs := i1.map B8) rfl H1.out ?_; clear hS; intro v29 w hS; go_frame)
    | (have m1 := M1; clear m1; go_at_call 13; refine Ret.calls (qput_o (p := p) (q := ⟨[], []⟩) (T := 24) (v := v16) (l := [i1, i2, i3]) (F := ABC0 na nb nc i1 i2 i3 F) (hS.sel (by repeat (first | exact Sel.refl | refine Sel.take (by repeat (first | exact t0 | apply tS)) ?_ | apply Sel.drop))) QOk.nil L3.out) ?_; clear hS M1; rintro r w hS; unfold ABC0 at hS; rw [P1] at hS)
    | (go_at_call 15; refine Ret.calls (qlearn_o (p := p) (q := ⟨[], [i1, i2, i3]⟩) (T := 24) (v := v20) (l := [i2]) (F := ABC0 na nb nc i1 i2 i3 F) (hS.sel (by repeat (first | exact Sel.refl | refine Sel.take (by repeat (first | exact t0 | apply tS)) ?_ | apply Sel.drop))) O1.out L1.out (by simp)) ?_; clear hS; rintro r w hS; unfold ABC0 at hS; rw [P2] at hS)
    | (go_at_call 18; refine Ret.calls (qflush_o (p := p) (q := ⟨[i2], [i1, i3]⟩) (T := 24) (v := v25) (l := [i3, i1]) (F := ABC0 na nb nc i1 i2 i3 F) (hS.sel (by repeat (first | exact Sel.refl | refine Sel.take (by repeat (first | exact t0 | apply tS)) ?_ | apply Sel.drop))) O2.out L2.out) ?_; clear hS; rintro tv w hS; unfold ABC0 at hS; rw [P3, P4] at hS)
    | (go_at_call 13; refine Ret.calls (qput_o (p := p) (q := ⟨[i2, i1, i3], []⟩) (T := 24) (v := v29) (l := [i1]) (F := .own 24 32 tv (bys [i1, i3]) :: ABC0 na nb nc i1 i2 i3 F) (hS.sel (by repeat (first | exact Sel.refl | refine Sel.take (by repeat (first | exact t0 | apply tS)) ?_ | apply Sel.drop))) O3.out L4.out) ?_; clear hS; rintro r w hS; unfold ABC0 at hS; rw [P5] at hS)
    )
  go_wp2_with fail
  refine wp_region_ord (by kernel_rfl) [2, 3, 4] [[0, 1, 2, 3, 4, 5, 6, 7, 8, 9, 10, 11, 12, 13, 14, 15, 16, 17, 19, 20, 21, 18, 22, 23, 24, 25], [0, 1, 2, 3, 4, 5, 6, 7, 8, 9, 10, 11, 12, 13, 14, 15, 16, 17, 19, 20, 21, 22, 18, 23, 24, 25]] (by kernel_rfl) (by kernel_rfl) (fun w' => Blk w' na 24 (i1.map B8) ∧ Blk w' nb 24 (i2.map B8) ∧ Blk w' nc 24 (i3.map B8)) (Up.and Up.blk (Up.and Up.blk Up.blk)) ⟨((hS.bring (by repeat (first | exact t0 | apply tS))).getBlk), ((hS.bring (by repeat (first | exact t0 | apply tS))).getBlk), ((hS.bring (by repeat (first | exact t0 | apply tS))).getBlk)⟩ (by repeat (first | exact Clean.body | refine Clean.then ?_ | refine Clean.inBlock ?_ | refine SegQ.clean ?_ | refine FinC.clean ?_)) ?_
  replace hS := hS.drew
  refine ord_seg (by repeat (first | exact Clean.body | refine Clean.then ?_ | refine Clean.inBlock ?_ | refine SegQ.clean ?_ | refine FinC.clean ?_)) (n := 21) (rest := [[5, 6, 7, 8, 9, 10, 11, 12, 13, 14, 15, 16, 17, 19, 20, 21, 18, 22, 23, 24, 25], [5, 6, 7, 8, 9, 10, 11, 12, 13, 14, 15, 16, 17, 19, 20, 21, 22, 18, 23, 24, 25]]) [0, 1, 2, 3, 4] [⟨_, _, _, _, _, _⟩, ⟨_, _, _, _, _, _⟩, ⟨_, _, _, _, _, _⟩, ⟨_, _, _, _, _, _⟩, ⟨_, _, _, _, _, _⟩] rfl (by kernel_rfl) (by simp) _ _ ?_
  go_wp2_with (first
    | go_big_skip
    | (go_at_call 11; refine Ret.calls (qnew_s hS) ?_; clear hS; rintro r w ⟨p, rfl, hS⟩)
    | (show wpList _ _ _ (⟨some 9, .build _ _, _, _, _, _⟩ :: _) _ _; refine wpList_val rfl (op_build (ps := #[(0, .int .u8 1)]) rfl rfl B1 _) ?_; go_frame)
    | (show wpList _ _ _ (⟨some 10, .build _ _, _, _, _, _⟩ :: _) _ _; refine wpList_val rfl (op_build (ps := #[(0, .int .u8 2)]) rfl rfl B2 _) ?_; go_frame)
    | (show wpList _ _ _ (⟨some 11, .build _ _, _, _, _, _⟩ :: _) _ _; refine wpList_val rfl (op_build (ps := #[(0, .int .u8 3)]) rfl rfl B3 _) ?_; go_frame)
    | (show wpList _ _ _ (⟨some 2, .alloc _, _, _, _, _⟩ :: _) _ _; refine wpS_alloc hS rfl rfl Try.zeroValue24 (zs := List.replicate 32 (.int .u8 0)) rfl ?_; clear hS; intro na w hS; go_frame)
    | (show wpList _ _ _ (⟨some 3, .alloc _, _, _, _, _⟩ :: _) _ _; refine wpS_alloc hS rfl rfl Try.zeroValue24 (zs := List.replicate 32 (.int .u8 0)) rfl ?_; clear hS; intro nb w hS; go_frame)
    | (show wpList _ _ _ (⟨some 4, .alloc _, _, _, _, _⟩ :: _) _ _; refine wpS_alloc hS rfl rfl Try.zeroValue24 (zs := List.replicate 32 (.int .u8 0)) rfl ?_; clear hS; intro nc w hS; go_frame)
    | (show wpList _ _ _ (⟨_, .store 24 (.tmp 2) _, _, _, _, _⟩ :: _) _ _; (refine wpS_storeAll (b := na) aggHash (hS.bring (by repeat (first | exact t0 | apply tS))) rfl rfl rfl (vs := i1.map B8) rfl H1.out (flat_B8 i1) rfl ?_); clear hS; intro w hS; go_frame)
    | (show wpList _ _ _ (⟨_, .store 24 (.tmp 3) _, _, _, _, _⟩ :: _) _ _; (refine wpS_storeAll (b := nb) aggHash (hS.bring (by repeat (first | exact t0 | apply tS))) rfl rfl rfl (vs := i2.map B8) rfl H2.out (flat_B8 i2) rfl ?_); clear hS; intro w hS; go_frame)
    | (show wpList _ _ _ (⟨_, .store 24 (.tmp 4) _, _, _, _, _⟩ :: _) _ _; (refine wpS_storeAll (b := nc) aggHash (hS.bring (by repeat (first | exact t0 | apply tS))) rfl rfl rfl (vs := i3.map B8) rfl H3.out (flat_B8 i3) rfl ?_); clear hS; intro w hS; go_frame)
    | (show wpList _ _ _ (⟨_, .load 24 (.tmp 2), _, _, _, _⟩ :: _) _ _; refine wpList_val rfl (op_load aggHash rfl rfl (SepL.getBlk (b := na) (T := 24) ((hS.bring (by repeat (first | exact t0 | apply tS))))).cells H1.out) ?_; go_frame)
    | (show wpList _ _ _ (⟨_, .load 24 (.tmp 3), _, _, _, _⟩ :: _) _ _; refine wpList_val rfl (op_load aggHash rfl rfl (SepL.getBlk (b := nb) (T := 24) ((hS.bring (by repeat (first | exact t0 | apply tS))))).cells H2.out) ?_; go_frame)
    | (show wpList _ _ _ (⟨_, .load 24 (.tmp 4), _, _, _, _⟩ :: _) _ _; refine wpList_val rfl (op_load aggHash rfl rfl (SepL.getBlk (b := nc) (T := 24) ((hS.bring (by repeat (first | exact t0 | apply tS))))).cells H3.out) ?_; go_frame)
    | (show wpList _ _ _ (⟨some 34, .buildSlice _ _ _, _, _, _, _⟩ :: _) _ _; refine wpS_buildL slHash hS rfl rfl [.agg (i1.map B8).toArray, .agg (i3.map B8).toArray] rfl rfl (by omega) (by omega) C2b.out ?_; clear hS; intro v34 w hS; rw [cells2] at hS; go_frame)
    | (have m1 := M2; clear m1; go_at_call 17; refine Ret.calls (hS.callNo (sameIds_w (v := tv) (u := v34) (l := [i1, i3]) (m := [i1, i3]) ((hS.bring (by repeat (first | exact t0 | apply tS))).getOwn.rd) ((hS.bring (by repeat (first | exact t0 | apply tS))).getOwn.rd) L2b.out L2b.out (b := true) (decide_eq_true (Eq.refl [i1, i3])))) ?_; clear hS M2; rintro r1 w ⟨rfl, hS⟩)
    | (go_at_call 20; (refine Ret.calls (qwaits_s (p := p) (q := ⟨[i2, i1, i3], []⟩) (hS.bring (by repeat (first | exact t0 | apply tS))) O3.out) ?_); clear hS; rintro wv w hS)
    | (show wpList _ _ _ (⟨some 39, .call _, _, _, _, _⟩ :: _) _ _; refine wpList_val rfl (op_len slHash rfl rfl (v := wv) (xs := bys []) rfl ((hS.bring (by repeat (first | exact t0 | apply tS))).getOwn.rd)) ?_; rw [HL0.out]; go_frame)
    | (show wpList _ _ _ (⟨some 40, .binOp _ _ _ _ _, _, _, _, _⟩ :: _) _ _; refine wpList_val rfl (op_eqI' (r := true) rfl rfl rfl rfl) ?_; go_frame)
    | (go_at_call 22; (refine Ret.calls (qhas_s (p := p) (q := ⟨[i2, i1, i3], []⟩) (x := i2) (hS.bring (by repeat (first | exact t0 | apply tS))) I2.out (b := true) (decide_eq_true List.mem_cons_self)) ?_); clear hS; rintro r1 w ⟨rfl, hS⟩)
    | (go_at_call 21; (refine Ret.calls (qall_s (p := p) (q := ⟨[i2, i1, i3], []⟩) (hS.bring (by repeat (first | exact t0 | apply tS)))) ?_); clear hS; rintro av w hS)
    | (show wpList _ _ _ (⟨some 53, .buildSlice _ _ _, _, _, _, _⟩ :: _) _ _; refine wpS_buildL slHash hS rfl rfl [.agg (i2.map B8).toArray, .agg (i1.map B8).toArray, .agg (i3.map B8).toArray] rfl rfl (by omega) (by omega) C3b.out ?_; clear hS; intro v53 w hS; rw [cells3] at hS; go_frame)
    | (go_at_call 17; refine Ret.calls (hS.callNo (sameIds_w (v := av) (u := v53) (l := [i2, i1, i3]) (m := [i2, i1, i3]) ((hS.bring (by repeat (first | exact t0 | apply tS))).getOwn.rd) ((hS.bring (by repeat (first | exact t0 | apply tS))).getOwn.rd) L3b.out L3b.out (b := true) (decide_eq_true (Eq.refl [i2, i1, i3])))) ?_; clear hS; rintro r1 w ⟨rfl, hS⟩)
    )
  refine segQ_mk (⟨((hS.bring (by repeat (first | exact t0 | apply tS))).getBlk), ((hS.bring (by repeat (first | exact t0 | apply tS))).getBlk), ((hS.bring (by repeat (first | exact t0 | apply tS))).getBlk)⟩ : Blk _ na 24 (i1.map B8) ∧ Blk _ nb 24 (i2.map B8) ∧ Blk _ nc 24 (i3.map B8)) ?_
  refine ord_seg (by repeat (first | exact Clean.body | refine Clean.then ?_ | refine Clean.inBlock ?_ | refine SegQ.clean ?_ | refine FinC.clean ?_)) (n := 18) (rest := [[8, 9, 10, 11, 12, 13, 14, 15, 16, 17, 19, 20, 21, 18, 22, 23, 24, 25], [8, 9, 10, 11, 12, 13, 14, 15, 16, 17, 19, 20, 21, 22, 18, 23, 24, 25]]) [5, 6, 7] [⟨_, _, _, _, _, _⟩, ⟨_, _, _, _, _, _⟩, ⟨_, _, _, _, _, _⟩] rfl (by kernel_rfl) (by simp) _ _ ?_
  go_wp2_with (first
    | go_big_skip
    | (go_at_call 11; refine Ret.calls (qnew_s hS) ?_; clear hS; rintro r w ⟨p, rfl, hS⟩)
    | (show wpList _ _ _ (⟨some 9, .build _ _, _, _, _, _⟩ :: _) _ _; refine wpList_val rfl (op_build (ps := #[(0, .int .u8 1)]) rfl rfl B1 _) ?_; go_frame)
    | (show wpList _ _ _ (⟨some 10, .build _ _, _, _, _, _⟩ :: _) _ _; refine wpList_val rfl (op_build (ps := #[(0, .int .u8 2)]) rfl rfl B2 _) ?_; go_frame)
    | (show wpList _ _ _ (⟨some 11, .build _ _, _, _, _, _⟩ :: _) _ _; refine wpList_val rfl (op_build (ps := #[(0, .int .u8 3)]) rfl rfl B3 _) ?_; go_frame)
    | (show wpList _ _ _ (⟨some 2, .alloc _, _, _, _, _⟩ :: _) _ _; refine wpS_alloc hS rfl rfl Try.zeroValue24 (zs := List.replicate 32 (.int .u8 0)) rfl ?_; clear hS; intro na w hS; go_frame)
    | (show wpList _ _ _ (⟨some 3, .alloc _, _, _, _, _⟩ :: _) _ _; refine wpS_alloc hS rfl rfl Try.zeroValue24 (zs := List.replicate 32 (.int .u8 0)) rfl ?_; clear hS; intro nb w hS; go_frame)
    | (show wpList _ _ _ (⟨some 4, .alloc _, _, _, _, _⟩ :: _) _ _; refine wpS_alloc hS rfl rfl Try.zeroValue24 (zs := List.replicate 32 (.int .u8 0)) rfl ?_; clear hS; intro nc w hS; go_frame)
    | (show wpList _ _ _ (⟨_, .store 24 (.tmp 2) _, _, _, _, _⟩ :: _) _ _; (refine wpS_storeAll (b := na) aggHash (hS.bring (by repeat (first | exact t0 | apply tS))) rfl rfl rfl (vs := i1.map B8) rfl H1.out (flat_B8 i1) rfl ?_); clear hS; intro w hS; go_frame)
    | (show wpList _ _ _ (⟨_, .store 24 (.tmp 3) _, _, _, _, _⟩ :: _) _ _; (refine wpS_storeAll (b := nb) aggHash (hS.bring (by repeat (first | exact t0 | apply tS))) rfl rfl rfl (vs := i2.map B8) rfl H2.out (flat_B8 i2) rfl ?_); clear hS; intro w hS; go_frame)
    | (show wpList _ _ _ (⟨_, .store 24 (.tmp 4) _, _, _, _, _⟩ :: _) _ _; (refine wpS_storeAll (b := nc) aggHash (hS.bring (by repeat (first | exact t0 | apply tS))) rfl rfl rfl (vs := i3.map B8) rfl H3.out (flat_B8 i3) rfl ?_); clear hS; intro w hS; go_frame)
    | (show wpList _ _ _ (⟨_, .load 24 (.tmp 2), _, _, _, _⟩ :: _) _ _; refine wpList_val rfl (op_load aggHash rfl rfl (SepL.getBlk (b := na) (T := 24) ((hS.bring (by repeat (first | exact t0 | apply tS))))).cells H1.out) ?_; go_frame)
    | (show wpList _ _ _ (⟨_, .load 24 (.tmp 3), _, _, _, _⟩ :: _) _ _; refine wpList_val rfl (op_load aggHash rfl rfl (SepL.getBlk (b := nb) (T := 24) ((hS.bring (by repeat (first | exact t0 | apply tS))))).cells H2.out) ?_; go_frame)
    | (show wpList _ _ _ (⟨_, .load 24 (.tmp 4), _, _, _, _⟩ :: _) _ _; refine wpList_val rfl (op_load aggHash rfl rfl (SepL.getBlk (b := nc) (T := 24) ((hS.bring (by repeat (first | exact t0 | apply tS))))).cells H3.out) ?_; go_frame)
    | (show wpList _ _ _ (⟨some 34, .buildSlice _ _ _, _, _, _, _⟩ :: _) _ _; refine wpS_buildL slHash hS rfl rfl [.agg (i1.map B8).toArray, .agg (i3.map B8).toArray] rfl rfl (by omega) (by omega) C2b.out ?_; clear hS; intro v34 w hS; rw [cells2] at hS; go_frame)
    | (have m1 := M2; clear m1; go_at_call 17; refine Ret.calls (hS.callNo (sameIds_w (v := tv) (u := v34) (l := [i1, i3]) (m := [i1, i3]) ((hS.bring (by repeat (first | exact t0 | apply tS))).getOwn.rd) ((hS.bring (by repeat (first | exact t0 | apply tS))).getOwn.rd) L2b.out L2b.out (b := true) (decide_eq_true (Eq.refl [i1, i3])))) ?_; clear hS M2; rintro r1 w ⟨rfl, hS⟩)
    | (go_at_call 20; (refine Ret.calls (qwaits_s (p := p) (q := ⟨[i2, i1, i3], []⟩) (hS.bring (by repeat (first | exact t0 | apply tS))) O3.out) ?_); clear hS; rintro wv w hS)
    | (show wpList _ _ _ (⟨some 39, .call _, _, _, _, _⟩ :: _) _ _; refine wpList_val rfl (op_len slHash rfl rfl (v := wv) (xs := bys []) rfl ((hS.bring (by repeat (first | exact t0 | apply tS))).getOwn.rd)) ?_; rw [HL0.out]; go_frame)
    | (show wpList _ _ _ (⟨some 40, .binOp _ _ _ _ _, _, _, _, _⟩ :: _) _ _; refine wpList_val rfl (op_eqI' (r := true) rfl rfl rfl rfl) ?_; go_frame)
    | (go_at_call 22; (refine Ret.calls (qhas_s (p := p) (q := ⟨[i2, i1, i3], []⟩) (x := i2) (hS.bring (by repeat (first | exact t0 | apply tS))) I2.out (b := true) (decide_eq_true List.mem_cons_self)) ?_); clear hS; rintro r1 w ⟨rfl, hS⟩)
    | (go_at_call 21; (refine Ret.calls (qall_s (p := p) (q := ⟨[i2, i1, i3], []⟩) (hS.bring (by repeat (first | exact t0 | apply tS)))) ?_); clear hS; rintro av w hS)
    | (show wpList _ _ _ (⟨some 53, .buildSlice _ _ _, _, _, _, _⟩ :: _) _ _; refine wpS_buildL slHash hS rfl rfl [.agg (i2.map B8).toArray, .agg (i1.map B8).toArray, .agg (i3.map B8).toArray] rfl rfl (by omega) (by omega) C3b.out ?_; clear hS; intro v53 w hS; rw [cells3] at hS; go_frame)
    | (go_at_call 17; refine Ret.calls (hS.callNo (sameIds_w (v := av) (u := v53) (l := [i2, i1, i3]) (m := [i2, i1, i3]) ((hS.bring (by repeat (first | exact t0 | apply tS))).getOwn.rd) ((hS.bring (by repeat (first | exact t0 | apply tS))).getOwn.rd) L3b.out L3b.out (b := true) (decide_eq_true (Eq.refl [i2, i1, i3])))) ?_; clear hS; rintro r1 w ⟨rfl, hS⟩)
    )
  refine segQ_mk (⟨((hS.bring (by repeat (first | exact t0 | apply tS))).getBlk), ((hS.bring (by repeat (first | exact t0 | apply tS))).getBlk), ((hS.bring (by repeat (first | exact t0 | apply tS))).getBlk)⟩ : Blk _ na 24 (i1.map B8) ∧ Blk _ nb 24 (i2.map B8) ∧ Blk _ nc 24 (i3.map B8)) ?_
  refine ord_seg (by repeat (first | exact Clean.body | refine Clean.then ?_ | refine Clean.inBlock ?_ | refine SegQ.clean ?_ | refine FinC.clean ?_)) (n := 11) (rest := [[15, 16, 17, 19, 20, 21, 18, 22, 23, 24, 25], [15, 16, 17, 19, 20, 21, 22, 18, 23, 24, 25]]) [8, 9, 10, 11, 12, 13, 14] [⟨_, _, _, _, _, _⟩, ⟨_, _, _, _, _, _⟩, ⟨_, _, _, _, _, _⟩, ⟨_, _, _, _, _, _⟩, ⟨_, _, _, _, _, _⟩, ⟨_, _, _, _, _, _⟩, ⟨_, _, _, _, _, _⟩] rfl (by kernel_rfl) (by simp) _ _ ?_
  go_wp2_with (first
    | go_big_skip
    | (go_at_call 11; refine Ret.calls (qnew_s hS) ?_; clear hS; rintro r w ⟨p, rfl, hS⟩)
    | (show wpList _ _ _ (⟨some 9, .build _ _, _, _, _, _⟩ :: _) _ _; refine wpList_val rfl (op_build (ps := #[(0, .int .u8 1)]) rfl rfl B1 _) ?_; go_frame)
    | (show wpList _ _ _ (⟨some 10, .build _ _, _, _, _, _⟩ :: _) _ _; refine wpList_val rfl (op_build (ps := #[(0, .int .u8 2)]) rfl rfl B2 _) ?_; go_frame)
    | (show wpList _ _ _ (⟨some 11, .build _ _, _, _, _, _⟩ :: _) _ _; refine wpList_val rfl (op_build (ps := #[(0, .int .u8 3)]) rfl rfl B3 _) ?_; go_frame)
    | (show wpList _ _ _ (⟨some 2, .alloc _, _, _, _, _⟩ :: _) _ _; refine wpS_alloc hS rfl rfl Try.zeroValue24 (zs := List.replicate 32 (.int .u8 0)) rfl ?_; clear hS; intro na w hS; go_frame)
    | (show wpList _ _ _ (⟨some 3, .alloc _, _, _, _, _⟩ :: _) _ _; refine wpS_alloc hS rfl rfl Try.zeroValue24 (zs := List.replicate 32 (.int .u8 0)) rfl ?_; clear hS; intro nb w hS; go_frame)
    | (show wpList _ _ _ (⟨some 4, .alloc _, _, _, _, _⟩ :: _) _ _; refine wpS_alloc hS rfl rfl Try.zeroValue24 (zs := List.replicate 32 (.int .u8 0)) rfl ?_; clear hS; intro nc w hS; go_frame)
    | (show wpList _ _ _ (⟨_, .store 24 (.tmp 2) _, _, _, _, _⟩ :: _) _ _; (refine wpS_storeAll (b := na) aggHash (hS.bring (by repeat (first | exact t0 | apply tS))) rfl rfl rfl (vs := i1.map B8) rfl H1.out (flat_B8 i1) rfl ?_); clear hS; intro w hS; go_frame)
    | (show wpList _ _ _ (⟨_, .store 24 (.tmp 3) _, _, _, _, _⟩ :: _) _ _; (refine wpS_storeAll (b := nb) aggHash (hS.bring (by repeat (first | exact t0 | apply tS))) rfl rfl rfl (vs := i2.map B8) rfl H2.out (flat_B8 i2) rfl ?_); clear hS; intro w hS; go_frame)
    | (show wpList _ _ _ (⟨_, .store 24 (.tmp 4) _, _, _, _, _⟩ :: _) _ _; (refine wpS_storeAll (b := nc) aggHash (hS.bring (by repeat (first | exact t0 | apply tS))) rfl rfl rfl (vs := i3.map B8) rfl H3.out (flat_B8 i3) rfl ?_); clear hS; intro w hS; go_frame)
    | (show wpList _ _ _ (⟨_, .load 24 (.tmp 2), _, _, _, _⟩ :: _) _ _; refine wpList_val rfl (op_load aggHash rfl rfl (SepL.getBlk (b := na) (T := 24) ((hS.bring (by repeat (first | exact t0 | apply tS))))).cells H1.out) ?_; go_frame)
    | (show wpList _ _ _ (⟨_, .load 24 (.tmp 3), _, _, _, _⟩ :: _) _ _; refine wpList_val rfl (op_load aggHash rfl rfl (SepL.getBlk (b := nb) (T := 24) ((hS.bring (by repeat (first | exact t0 | apply tS))))).cells H2.out) ?_; go_frame)
    | (show wpList _ _ _ (⟨_, .load 24 (.tmp 4), _, _, _, _⟩ :: _) _ _; refine wpList_val rfl (op_load aggHash rfl rfl (SepL.getBlk (b := nc) (T := 24) ((hS.bring (by repeat (first | exact t0 | apply tS))))).cells H3.out) ?_; go_frame)
    | (show wpList _ _ _ (⟨some 34, .buildSlice _ _ _, _, _, _, _⟩ :: _) _ _; refine wpS_buildL slHash hS rfl rfl [.agg (i1.map B8).toArray, .agg (i3.map B8).toArray] rfl rfl (by omega) (by omega) C2b.out ?_; clear hS; intro v34 w hS; rw [cells2] at hS; go_frame)
    | (have m1 := M2; clear m1; go_at_call 17; refine Ret.calls (hS.callNo (sameIds_w (v := tv) (u := v34) (l := [i1, i3]) (m := [i1, i3]) ((hS.bring (by repeat (first | exact t0 | apply tS))).getOwn.rd) ((hS.bring (by repeat (first | exact t0 | apply tS))).getOwn.rd) L2b.out L2b.out (b := true) (decide_eq_true (Eq.refl [i1, i3])))) ?_; clear hS M2; rintro r1 w ⟨rfl, hS⟩)
    | (go_at_call 20; (refine Ret.calls (qwaits_s (p := p) (q := ⟨[i2, i1, i3], []⟩) (hS.bring (by repeat (first | exact t0 | apply tS))) O3.out) ?_); clear hS; rintro wv w hS)
    | (show wpList _ _ _ (⟨some 39, .call _, _, _, _, _⟩ :: _) _ _; refine wpList_val rfl (op_len slHash rfl rfl (v := wv) (xs := bys []) rfl ((hS.bring (by repeat (first | exact t0 | apply tS))).getOwn.rd)) ?_; rw [HL0.out]; go_frame)
    | (show wpList _ _ _ (⟨some 40, .binOp _ _ _ _ _, _, _, _, _⟩ :: _) _ _; refine wpList_val rfl (op_eqI' (r := true) rfl rfl rfl rfl) ?_; go_frame)
    | (go_at_call 22; (refine Ret.calls (qhas_s (p := p) (q := ⟨[i2, i1, i3], []⟩) (x := i2) (hS.bring (by repeat (first | exact t0 | apply tS))) I2.out (b := true) (decide_eq_true List.mem_cons_self)) ?_); clear hS; rintro r1 w ⟨rfl, hS⟩)
    | (go_at_call 21; (refine Ret.calls (qall_s (p := p) (q := ⟨[i2, i1, i3], []⟩) (hS.bring (by repeat (first | exact t0 | apply tS)))) ?_); clear hS; rintro av w hS)
    | (show wpList _ _ _ (⟨some 53, .buildSlice _ _ _, _, _, _, _⟩ :: _) _ _; refine wpS_buildL slHash hS rfl rfl [.agg (i2.map B8).toArray, .agg (i1.map B8).toArray, .agg (i3.map B8).toArray] rfl rfl (by omega) (by omega) C3b.out ?_; clear hS; intro v53 w hS; rw [cells3] at hS; go_frame)
    | (go_at_call 17; refine Ret.calls (hS.callNo (sameIds_w (v := av) (u := v53) (l := [i2, i1, i3]) (m := [i2, i1, i3]) ((hS.bring (by repeat (first | exact t0 | apply tS))).getOwn.rd) ((hS.bring (by repeat (first | exact t0 | apply tS))).getOwn.rd) L3b.out L3b.out (b := true) (decide_eq_true (Eq.refl [i2, i1, i3])))) ?_; clear hS; rintro r1 w ⟨rfl, hS⟩)
    )
  refine segQ_mk (⟨((hS.bring (by repeat (first | exact t0 | apply tS))).getBlk), ((hS.bring (by repeat (first | exact t0 | apply tS))).getBlk), ((hS.bring (by repeat (first | exact t0 | apply tS))).getBlk)⟩ : Blk _ na 24 (i1.map B8) ∧ Blk _ nb 24 (i2.map B8) ∧ Blk _ nc 24 (i3.map B8)) ?_
  refine ord_seg (by repeat (first | exact Clean.body | refine Clean.then ?_ | refine Clean.inBlock ?_ | refine SegQ.clean ?_ | refine FinC.clean ?_)) (n := 5) (rest := [[18, 22, 23, 24, 25], [22, 18, 23, 24, 25]]) [15, 16, 17, 19, 20, 21] [⟨_, _, _, _, _, _⟩, ⟨_, _, _, _, _, _⟩, ⟨_, _, _, _, _, _⟩, ⟨_, _, _, _, _, _⟩, ⟨_, _, _, _, _, _⟩, ⟨_, _, _, _, _, _⟩] rfl (by kernel_rfl) (by simp) _ _ ?_
  go_wp2_with (first
    | go_big_skip
    | (go_at_call 11; refine Ret.calls (qnew_s hS) ?_; clear hS; rintro r w ⟨p, rfl, hS⟩)
    | (show wpList _ _ _ (⟨some 9, .build _ _, _, _, _, _⟩ :: _) _ _; refine wpList_val rfl (op_build (ps := #[(0, .int .u8 1)]) rfl rfl B1 _) ?_; go_frame)
    | (show wpList _ _ _ (⟨some 10, .build _ _, _, _, _, _⟩ :: _) _ _; refine wpList_val rfl (op_build (ps := #[(0, .int .u8 2)]) rfl rfl B2 _) ?_; go_frame)
    | (show wpList _ _ _ (⟨some 11, .build _ _, _, _, _, _⟩ :: _) _ _; refine wpList_val rfl (op_build (ps := #[(0, .int .u8 3)]) rfl rfl B3 _) ?_; go_frame)
    | (show wpList _ _ _ (⟨some 2, .alloc _, _, _, _, _⟩ :: _) _ _; refine wpS_alloc hS rfl rfl Try.zeroValue24 (zs := List.replicate 32 (.int .u8 0)) rfl ?_; clear hS; intro na w hS; go_frame)
    | (show wpList _ _ _ (⟨some 3, .alloc _, _, _, _, _⟩ :: _) _ _; refine wpS_alloc hS rfl rfl Try.zeroValue24 (zs := List.replicate 32 (.int .u8 0)) rfl ?_; clear hS; intro nb w hS; go_frame)
    | (show wpList _ _ _ (⟨some 4, .alloc _, _, _, _, _⟩ :: _) _ _; refine wpS_alloc hS rfl rfl Try.zeroValue24 (zs := List.replicate 32 (.int .u8 0)) rfl ?_; clear hS; intro nc w hS; go_frame)
    | (show wpList _ _ _ (⟨_, .store 24 (.tmp 2) _, _, _, _, _⟩ :: _) _ _; (refine wpS_storeAll (b := na) aggHash (hS.bring (by repeat (first | exact t0 | apply tS))) rfl rfl rfl (vs := i1.map B8) rfl H1.out (flat_B8 i1) rfl ?_); clear hS; intro w hS; go_frame)
    | (show wpList _ _ _ (⟨_, .store 24 (.tmp 3) _, _, _, _, _⟩ :: _) _ _; (refine wpS_storeAll (b := nb) aggHash (hS.bring (by repeat (first | exact t0 | apply tS))) rfl rfl rfl (vs := i2.map B8) rfl H2.out (flat_B8 i2) rfl ?_); clear hS; intro w hS; go_frame)
    | (show wpList _ _ _ (⟨_, .store 24 (.tmp 4) _, _, _, _, _⟩ :: _) _ _; (refine wpS_storeAll (b := nc) aggHash (hS.bring (by repeat (first | exact t0 | apply tS))) rfl rfl rfl (vs := i3.map B8) rfl H3.out (flat_B8 i3) rfl ?_); clear hS; intro w hS; go_frame)
    | (show wpList _ _ _ (⟨_, .load 24 (.tmp 2), _, _, _, _⟩ :: _) _ _; refine wpList_val rfl (op_load aggHash rfl rfl (SepL.getBlk (b := na) (T := 24) ((hS.bring (by repeat (first | exact t0 | apply tS))))).cells H1.out) ?_; go_frame)
    | (show wpList _ _ _ (⟨_, .load 24 (.tmp 3), _, _, _, _⟩ :: _) _ _; refine wpList_val rfl (op_load aggHash rfl rfl (SepL.getBlk (b := nb) (T := 24) ((hS.bring (by repeat (first | exact t0 | apply tS))))).cells H2.out) ?_; go_frame)
    | (show wpList _ _ _ (⟨_, .load 24 (.tmp 4), _, _, _, _⟩ :: _) _ _; refine wpList_val rfl (op_load aggHash rfl rfl (SepL.getBlk (b := nc) (T := 24) ((hS.bring (by repeat (first | exact t0 | apply tS))))).cells H3.out) ?_; go_frame)
    | (show wpList _ _ _ (⟨some 34, .buildSlice _ _ _, _, _, _, _⟩ :: _) _ _; refine wpS_buildL slHash hS rfl rfl [.agg (i1.map B8).toArray, .agg (i3.map B8).toArray] rfl rfl (by omega) (by omega) C2b.out ?_; clear hS; intro v34 w hS; rw [cells2] at hS; go_frame)
    | (have m1 := M2; clear m1; go_at_call 17; refine Ret.calls (hS.callNo (sameIds_w (v := tv) (u := v34) (l := [i1, i3]) (m := [i1, i3]) ((hS.bring (by repeat (first | exact t0 | apply tS))).getOwn.rd) ((hS.bring (by repeat (first | exact t0 | apply tS))).getOwn.rd) L2b.out L2b.out (b := true) (decide_eq_true (Eq.refl [i1, i3])))) ?_; clear hS M2; rintro r1 w ⟨rfl, hS⟩)
    | (go_at_call 20; (refine Ret.calls (qwaits_s (p := p) (q := ⟨[i2, i1, i3], []⟩) (hS.bring (by repeat (first | exact t0 | apply tS))) O3.out) ?_); clear hS; rintro wv w hS)
    | (show wpList _ _ _ (⟨some 39, .call _, _, _, _, _⟩ :: _) _ _; refine wpList_val rfl (op_len slHash rfl rfl (v := wv) (xs := bys []) rfl ((hS.bring (by repeat (first | exact t0 | apply tS))).getOwn.rd)) ?_; rw [HL0.out]; go_frame)
    | (show wpList _ _ _ (⟨some 40, .binOp _ _ _ _ _, _, _, _, _⟩ :: _) _ _; refine wpList_val rfl (op_eqI' (r := true) rfl rfl rfl rfl) ?_; go_frame)
    | (go_at_call 22; (refine Ret.calls (qhas_s (p := p) (q := ⟨[i2, i1, i3], []⟩) (x := i2) (hS.bring (by repeat (first | exact t0 | apply tS))) I2.out (b := true) (decide_eq_true List.mem_cons_self)) ?_); clear hS; rintro r1 w ⟨rfl, hS⟩)
    | (go_at_call 21; (refine Ret.calls (qall_s (p := p) (q := ⟨[i2, i1, i3], []⟩) (hS.bring (by repeat (first | exact t0 | apply tS)))) ?_); clear hS; rintro av w hS)
    | (show wpList _ _ _ (⟨some 53, .buildSlice _ _ _, _, _, _, _⟩ :: _) _ _; refine wpS_buildL slHash hS rfl rfl [.agg (i2.map B8).toArray, .agg (i1.map B8).toArray, .agg (i3.map B8).toArray] rfl rfl (by omega) (by omega) C3b.out ?_; clear hS; intro v53 w hS; rw [cells3] at hS; go_frame)
    | (go_at_call 17; refine Ret.calls (hS.callNo (sameIds_w (v := av) (u := v53) (l := [i2, i1, i3]) (m := [i2, i1, i3]) ((hS.bring (by repeat (first | exact t0 | apply tS))).getOwn.rd) ((hS.bring (by repeat (first | exact t0 | apply tS))).getOwn.rd) L3b.out L3b.out (b := true) (decide_eq_true (Eq.refl [i2, i1, i3])))) ?_; clear hS; rintro r1 w ⟨rfl, hS⟩)
    )
  refine segQ_mk (⟨((hS.bring (by repeat (first | exact t0 | apply tS))).getBlk), ((hS.bring (by repeat (first | exact t0 | apply tS))).getBlk), ((hS.bring (by repeat (first | exact t0 | apply tS))).getBlk)⟩ : Blk _ na 24 (i1.map B8) ∧ Blk _ nb 24 (i2.map B8) ∧ Blk _ nc 24 (i3.map B8)) ?_
  refine ord_fork (n := 4) (os1 := [[18, 22, 23, 24, 25]]) (os2 := [[22, 18, 23, 24, 25]]) (by decide) ?_ ?_
  · skip
    refine ord_seg (by repeat (first | exact Clean.body | refine Clean.then ?_ | refine Clean.inBlock ?_ | refine SegQ.clean ?_ | refine FinC.clean ?_)) (n := 4) (rest := [[22, 23, 24, 25]]) [18] [⟨_, _, _, _, _, _⟩] rfl (by kernel_rfl) (by simp) _ _ ?_
    go_wp2_with (first
      | go_big_skip
      | (go_at_call 11; refine Ret.calls (qnew_s hS) ?_; clear hS; rintro r w ⟨p, rfl, hS⟩)
      | (show wpList _ _ _ (⟨some 9, .build _ _, _, _, _, _⟩ :: _) _ _; refine wpList_val rfl (op_build (ps := #[(0, .int .u8 1)]) rfl rfl B1 _) ?_; go_frame)
      | (show wpList _ _ _ (⟨some 10, .build _ _, _, _, _, _⟩ :: _) _ _; refine wpList_val rfl (op_build (ps := #[(0, .int .u8 2)]) rfl rfl B2 _) ?_; go_frame)
      | (show wpList _ _ _ (⟨some 11, .build _ _, _, _, _, _⟩ :: _) _ _; refine wpList_val rfl (op_build (ps := #[(0, .int .u8 3)]) rfl rfl B3 _) ?_; go_frame)
      | (show wpList _ _ _ (⟨some 2, .alloc _, _, _, _, _⟩ :: _) _ _; refine wpS_alloc hS rfl rfl Try.zeroValue24 (zs := List.replicate 32 (.int .u8 0)) rfl ?_; clear hS; intro na w hS; go_frame)
      | (show wpList _ _ _ (⟨some 3, .alloc _, _, _, _, _⟩ :: _) _ _; refine wpS_alloc hS rfl rfl Try.zeroValue24 (zs := List.replicate 32 (.int .u8 0)) rfl ?_; clear hS; intro nb w hS; go_frame)
      | (show wpList _ _ _ (⟨some 4, .alloc _, _, _, _, _⟩ :: _) _ _; refine wpS_alloc hS rfl rfl Try.zeroValue24 (zs := List.replicate 32 (.int .u8 0)) rfl ?_; clear hS; intro nc w hS; go_frame)
      | (show wpList _ _ _ (⟨_, .store 24 (.tmp 2) _, _, _, _, _⟩ :: _) _ _; (refine wpS_storeAll (b := na) aggHash (hS.bring (by repeat (first | exact t0 | apply tS))) rfl rfl rfl (vs := i1.map B8) rfl H1.out (flat_B8 i1) rfl ?_); clear hS; intro w hS; go_frame)
      | (show wpList _ _ _ (⟨_, .store 24 (.tmp 3) _, _, _, _, _⟩ :: _) _ _; (refine wpS_storeAll (b := nb) aggHash (hS.bring (by repeat (first | exact t0 | apply tS))) rfl rfl rfl (vs := i2.map B8) rfl H2.out (flat_B8 i2) rfl ?_); clear hS; intro w hS; go_frame)
      | (show wpList _ _ _ (⟨_, .store 24 (.tmp 4) _, _, _, _, _⟩ :: _) _ _; (refine wpS_storeAll (b := nc) aggHash (hS.bring (by repeat (first | exact t0 | apply tS))) rfl rfl rfl (vs := i3.map B8) rfl H3.out (flat_B8 i3) rfl ?_); clear hS; intro w hS; go_frame)
      | (show wpList _ _ _ (⟨_, .load 24 (.tmp 2), _, _, _, _⟩ :: _) _ _; refine wpList_val rfl (op_load aggHash rfl rfl (SepL.getBlk (b := na) (T := 24) ((hS.bring (by repeat (first | exact t0 | apply tS))))).cells H1.out) ?_; go_frame)
      | (show wpList _ _ _ (⟨_, .load 24 (.tmp 3), _, _, _, _⟩ :: _) _ _; refine wpList_val rfl (op_load aggHash rfl rfl (SepL.getBlk (b := nb) (T := 24) ((hS.bring (by repeat (first | exact t0 | apply tS))))).cells H2.out) ?_; go_frame)
      | (show wpList _ _ _ (⟨_, .load 24 (.tmp 4), _, _, _, _⟩ :: _) _ _; refine wpList_val rfl (op_load aggHash rfl rfl (SepL.getBlk (b := nc) (T := 24) ((hS.bring (by repeat (first | exact t0 | apply tS))))).cells H3.out) ?_; go_frame)
      | (show wpList _ _ _ (⟨some 34, .buildSlice _ _ _, _, _, _, _⟩ :: _) _ _; refine wpS_buildL slHash hS rfl rfl [.agg (i1.map B8).toArray, .agg (i3.map B8).toArray] rfl rfl (by omega) (by omega) C2b.out ?_; clear hS; intro v34 w hS; rw [cells2] at hS; go_frame)
      | (have m1 := M2; clear m1; go_at_call 17; refine Ret.calls (hS.callNo (sameIds_w (v := tv) (u := v34) (l := [i1, i3]) (m := [i1, i3]) ((hS.bring (by repeat (first | exact t0 | apply tS))).getOwn.rd) ((hS.bring (by repeat (first | exact t0 | apply tS))).getOwn.rd) L2b.out L2b.out (b := true) (decide_eq_true (Eq.refl [i1, i3])))) ?_; clear hS M2; rintro r1 w ⟨rfl, hS⟩)
      | (go_at_call 20; (refine Ret.calls (qwaits_s (p := p) (q := ⟨[i2, i1, i3], []⟩) (hS.bring (by repeat (first | exact t0 | apply tS))) O3.out) ?_); clear hS; rintro wv w hS)
      | (show wpList _ _ _ (⟨some 39, .call _, _, _, _, _⟩ :: _) _ _; refine wpList_val rfl (op_len slHash rfl rfl (v := wv) (xs := bys []) rfl ((hS.bring (by repeat (first | exact t0 | apply tS))).getOwn.rd)) ?_; rw [HL0.out]; go_frame)
      | (show wpList _ _ _ (⟨some 40, .binOp _ _ _ _ _, _, _, _, _⟩ :: _) _ _; refine wpList_val rfl (op_eqI' (r := true) rfl rfl rfl rfl) ?_; go_frame)
      | (go_at_call 22; (refine Ret.calls (qhas_s (p := p) (q := ⟨[i2, i1, i3], []⟩) (x := i2) (hS.bring (by repeat (first | exact t0 | apply tS))) I2.out (b := true) (decide_eq_true List.mem_cons_self)) ?_); clear hS; rintro r1 w ⟨rfl, hS⟩)
      | (go_at_call 21; (refine Ret.calls (qall_s (p := p) (q := ⟨[i2, i1, i3], []⟩) (hS.bring (by repeat (first | exact t0 | apply tS)))) ?_); clear hS; rintro av w hS)
      | (show wpList _ _ _ (⟨some 53, .buildSlice _ _ _, _, _, _, _⟩ :: _) _ _; refine wpS_buildL slHash hS rfl rfl [.agg (i2.map B8).toArray, .agg (i1.map B8).toArray, .agg (i3.map B8).toArray] rfl rfl (by omega) (by omega) C3b.out ?_; clear hS; intro v53 w hS; rw [cells3] at hS; go_frame)
      | (go_at_call 17; refine Ret.calls (hS.callNo (sameIds_w (v := av) (u := v53) (l := [i2, i1, i3]) (m := [i2, i1, i3]) ((hS.bring (by repeat (first | exact t0 | apply tS))).getOwn.rd) ((hS.bring (by repeat (first | exact t0 | apply tS))).getOwn.rd) L3b.out L3b.out (b := true) (decide_eq_true (Eq.refl [i2, i1, i3])))) ?_; clear hS; rintro r1 w ⟨rfl, hS⟩)
      )
    refine segQ_mk (⟨((hS.bring (by repeat (first | exact t0 | apply tS))).getBlk), ((hS.bring (by repeat (first | exact t0 | apply tS))).getBlk), ((hS.bring (by repeat (first | exact t0 | apply tS))).getBlk)⟩ : Blk _ na 24 (i1.map B8) ∧ Blk _ nb 24 (i2.map B8) ∧ Blk _ nc 24 (i3.map B8)) ?_
    refine ord_seg (by repeat (first | exact Clean.body | refine Clean.then ?_ | refine Clean.inBlock ?_ | refine SegQ.clean ?_ | refine FinC.clean ?_)) (n := 2) (rest := [[24, 25]]) [22, 23] [⟨_, _, _, _, _, _⟩, ⟨_, _, _, _, _, _⟩] rfl (by kernel_rfl) (by simp) _ _ ?_
    go_wp2_with (first
      | go_big_skip
      | (go_at_call 11; refine Ret.calls (qnew_s hS) ?_; clear hS; rintro r w ⟨p, rfl, hS⟩)
      | (show wpList _ _ _ (⟨some 9, .build _ _, _, _, _, _⟩ :: _) _ _; refine wpList_val rfl (op_build (ps := #[(0, .int .u8 1)]) rfl rfl B1 _) ?_; go_frame)
      | (show wpList _ _ _ (⟨some 10, .build _ _, _, _, _, _⟩ :: _) _ _; refine wpList_val rfl (op_build (ps := #[(0, .int .u8 2)]) rfl rfl B2 _) ?_; go_frame)
      | (show wpList _ _ _ (⟨some 11, .build _ _, _, _, _, _⟩ :: _) _ _; refine wpList_val rfl (op_build (ps := #[(0, .int .u8 3)]) rfl rfl B3 _) ?_; go_frame)
      | (show wpList _ _ _ (⟨some 2, .alloc _, _, _, _, _⟩ :: _) _ _; refine wpS_alloc hS rfl rfl Try.zeroValue24 (zs := List.replicate 32 (.int .u8 0)) rfl ?_; clear hS; intro na w hS; go_frame)
      | (show wpList _ _ _ (⟨some 3, .alloc _, _, _, _, _⟩ :: _) _ _; refine wpS_alloc hS rfl rfl Try.zeroValue24 (zs := List.replicate 32 (.int .u8 0)) rfl ?_; clear hS; intro nb w hS; go_frame)
      | (show wpList _ _ _ (⟨some 4, .alloc _, _, _, _, _⟩ :: _) _ _; refine wpS_alloc hS rfl rfl Try.zeroValue24 (zs := List.replicate 32 (.int .u8 0)) rfl ?_; clear hS; intro nc w hS; go_frame)
      | (show wpList _ _ _ (⟨_, .store 24 (.tmp 2) _, _, _, _, _⟩ :: _) _ _; (refine wpS_storeAll (b := na) aggHash (hS.bring (by repeat (first | exact t0 | apply tS))) rfl rfl rfl (vs := i1.map B8) rfl H1.out (flat_B8 i1) rfl ?_); clear hS; intro w hS; go_frame)
      | (show wpList _ _ _ (⟨_, .store 24 (.tmp 3) _, _, _, _, _⟩ :: _) _ _; (refine wpS_storeAll (b := nb) aggHash (hS.bring (by repeat (first | exact t0 | apply tS))) rfl rfl rfl (vs := i2.map B8) rfl H2.out (flat_B8 i2) rfl ?_); clear hS; intro w hS; go_frame)
      | (show wpList _ _ _ (⟨_, .store 24 (.tmp 4) _, _, _, _, _⟩ :: _) _ _; (refine wpS_storeAll (b := nc) aggHash (hS.bring (by repeat (first | exact t0 | apply tS))) rfl rfl rfl (vs := i3.map B8) rfl H3.out (flat_B8 i3) rfl ?_); clear hS; intro w hS; go_frame)
      | (show wpList _ _ _ (⟨_, .load 24 (.tmp 2), _, _, _, _⟩ :: _) _ _; refine wpList_val rfl (op_load aggHash rfl rfl (SepL.getBlk (b := na) (T := 24) ((hS.bring (by repeat (first | exact t0 | apply tS))))).cells H1.out) ?_; go_frame)
      | (show wpList _ _ _ (⟨_, .load 24 (.tmp 3), _, _, _, _⟩ :: _) _ _; refine wpList_val rfl (op_load aggHash rfl rfl (SepL.getBlk (b := nb) (T := 24) ((hS.bring (by repeat (first | exact t0 | apply tS))))).cells H2.out) ?_; go_frame)
      | (show wpList _ _ _ (⟨_, .load 24 (.tmp 4), _, _, _, _⟩ :: _) _ _; refine wpList_val rfl (op_load aggHash rfl rfl (SepL.getBlk (b := nc) (T := 24) ((hS.bring (by repeat (first | exact t0 | apply tS))))).cells H3.out) ?_; go_frame)
      | (show wpList _ _ _ (⟨some 34, .buildSlice _ _ _, _, _, _, _⟩ :: _) _ _; refine wpS_buildL slHash hS rfl rfl [.agg (i1.map B8).toArray, .agg (i3.map B8).toArray] rfl rfl (by omega) (by omega) C2b.out ?_; clear hS; intro v34 w hS; rw [cells2] at hS; go_frame)
      | (have m1 := M2; clear m1; go_at_call 17; refine Ret.calls (hS.callNo (sameIds_w (v := tv) (u := v34) (l := [i1, i3]) (m := [i1, i3]) ((hS.bring (by repeat (first | exact t0 | apply tS))).getOwn.rd) ((hS.bring (by repeat (first | exact t0 | apply tS))).getOwn.rd) L2b.out L2b.out (b := true) (decide_eq_true (Eq.refl [i1, i3])))) ?_; clear hS M2; rintro r1 w ⟨rfl, hS⟩)
      | (go_at_call 20; (refine Ret.calls (qwaits_s (p := p) (q := ⟨[i2, i1, i3], []⟩) (hS.bring (by repeat (first | exact t0 | apply tS))) O3.out) ?_); clear hS; rintro wv w hS)
      | (show wpList _ _ _ (⟨some 39, .call _, _, _, _, _⟩ :: _) _ _; refine wpList_val rfl (op_len slHash rfl rfl (v := wv) (xs := bys []) rfl ((hS.bring (by repeat (first | exact t0 | apply tS))).getOwn.rd)) ?_; rw [HL0.out]; go_frame)
      | (show wpList _ _ _ (⟨some 40, .binOp _ _ _ _ _, _, _, _, _⟩ :: _) _ _; refine wpList_val rfl (op_eqI' (r := true) rfl rfl rfl rfl) ?_; go_frame)
      | (go_at_call 22; (refine Ret.calls (qhas_s (p := p) (q := ⟨[i2, i1, i3], []⟩) (x := i2) (hS.bring (by repeat (first | exact t0 | apply tS))) I2.out (b := true) (decide_eq_true List.mem_cons_self)) ?_); clear hS; rintro r1 w ⟨rfl, hS⟩)
      | (go_at_call 21; (refine Ret.calls (qall_s (p := p) (q := ⟨[i2, i1, i3], []⟩) (hS.bring (by repeat (first | exact t0 | apply tS)))) ?_); clear hS; rintro av w hS)
      | (show wpList _ _ _ (⟨some 53, .buildSlice _ _ _, _, _, _, _⟩ :: _) _ _; refine wpS_buildL slHash hS rfl rfl [.agg (i2.map B8).toArray, .agg (i1.map B8).toArray, .agg (i3.map B8).toArray] rfl rfl (by omega) (by omega) C3b.out ?_; clear hS; intro v53 w hS; rw [cells3] at hS; go_frame)
      | (go_at_call 17; refine Ret.calls (hS.callNo (sameIds_w (v := av) (u := v53) (l := [i2, i1, i3]) (m := [i2, i1, i3]) ((hS.bring (by repeat (first | exact t0 | apply tS))).getOwn.rd) ((hS.bring (by repeat (first | exact t0 | apply tS))).getOwn.rd) L3b.out L3b.out (b := true) (decide_eq_true (Eq.refl [i2, i1, i3])))) ?_; clear hS; rintro r1 w ⟨rfl, hS⟩)
      )
    refine segQ_mk (⟨((hS.bring (by repeat (first | exact t0 | apply tS))).getBlk), ((hS.bring (by repeat (first | exact t0 | apply tS))).getBlk), ((hS.bring (by repeat (first | exact t0 | apply tS))).getBlk)⟩ : Blk _ na 24 (i1.map B8) ∧ Blk _ nb 24 (i2.map B8) ∧ Blk _ nc 24 (i3.map B8)) ?_
    refine ord_seg (by repeat (first | exact Clean.body | refine Clean.then ?_ | refine Clean.inBlock ?_ | refine SegQ.clean ?_ | refine FinC.clean ?_)) (n := 0) (rest := [[]]) [24, 25] [⟨_, _, _, _, _, _⟩, ⟨_, _, _, _, _, _⟩] rfl (by kernel_rfl) (by simp) _ _ ?_
    go_wp2_with (first
      | go_big_skip
      | (go_at_call 11; refine Ret.calls (qnew_s hS) ?_; clear hS; rintro r w ⟨p, rfl, hS⟩)
      | (show wpList _ _ _ (⟨some 9, .build _ _, _, _, _, _⟩ :: _) _ _; refine wpList_val rfl (op_build (ps := #[(0, .int .u8 1)]) rfl rfl B1 _) ?_; go_frame)
      | (show wpList _ _ _ (⟨some 10, .build _ _, _, _, _, _⟩ :: _) _ _; refine wpList_val rfl (op_build (ps := #[(0, .int .u8 2)]) rfl rfl B2 _) ?_; go_frame)
      | (show wpList _ _ _ (⟨some 11, .build _ _, _, _, _, _⟩ :: _) _ _; refine wpList_val rfl (op_build (ps := #[(0, .int .u8 3)]) rfl rfl B3 _) ?_; go_frame)
      | (show wpList _ _ _ (⟨some 2, .alloc _, _, _, _, _⟩ :: _) _ _; refine wpS_alloc hS rfl rfl Try.zeroValue24 (zs := List.replicate 32 (.int .u8 0)) rfl ?_; clear hS; intro na w hS; go_frame)
      | (show wpList _ _ _ (⟨some 3, .alloc _, _, _, _, _⟩ :: _) _ _; refine wpS_alloc hS rfl rfl Try.zeroValue24 (zs := List.replicate 32 (.int .u8 0)) rfl ?_; clear hS; intro nb w hS; go_frame)
      | (show wpList _ _ _ (⟨some 4, .alloc _, _, _, _, _⟩ :: _) _ _; refine wpS_alloc hS rfl rfl Try.zeroValue24 (zs := List.replicate 32 (.int .u8 0)) rfl ?_; clear hS; intro nc w hS; go_frame)
      | (show wpList _ _ _ (⟨_, .store 24 (.tmp 2) _, _, _, _, _⟩ :: _) _ _; (refine wpS_storeAll (b := na) aggHash (hS.bring (by repeat (first | exact t0 | apply tS))) rfl rfl rfl (vs := i1.map B8) rfl H1.out (flat_B8 i1) rfl ?_); clear hS; intro w hS; go_frame)
      | (show wpList _ _ _ (⟨_, .store 24 (.tmp 3) _, _, _, _, _⟩ :: _) _ _; (refine wpS_storeAll (b := nb) aggHash (hS.bring (by repeat (first | exact t0 | apply tS))) rfl rfl rfl (vs := i2.map B8) rfl H2.out (flat_B8 i2) rfl ?_); clear hS; intro w hS; go_frame)
      | (show wpList _ _ _ (⟨_, .store 24 (.tmp 4) _, _, _, _, _⟩ :: _) _ _; (refine wpS_storeAll (b := nc) aggHash (hS.bring (by repeat (first | exact t0 | apply tS))) rfl rfl rfl (vs := i3.map B8) rfl H3.out (flat_B8 i3) rfl ?_); clear hS; intro w hS; go_frame)
      | (show wpList _ _ _ (⟨_, .load 24 (.tmp 2), _, _, _, _⟩ :: _) _ _; refine wpList_val rfl (op_load aggHash rfl rfl (SepL.getBlk (b := na) (T := 24) ((hS.bring (by repeat (first | exact t0 | apply tS))))).cells H1.out) ?_; go_frame)
      | (show wpList _ _ _ (⟨_, .load 24 (.tmp 3), _, _, _, _⟩ :: _) _ _; refine wpList_val rfl (op_load aggHash rfl rfl (SepL.getBlk (b := nb) (T := 24) ((hS.bring (by repeat (first | exact t0 | apply tS))))).cells H2.out) ?_; go_frame)
      | (show wpList _ _ _ (⟨_, .load 24 (.tmp 4), _, _, _, _⟩ :: _) _ _; refine wpList_val rfl (op_load aggHash rfl rfl (SepL.getBlk (b := nc) (T := 24) ((hS.bring (by repeat (first | exact t0 | apply tS))))).cells H3.out) ?_; go_frame)
      | (show wpList _ _ _ (⟨some 34, .buildSlice _ _ _, _, _, _, _⟩ :: _) _ _; refine wpS_buildL slHash hS rfl rfl [.agg (i1.map B8).toArray, .agg (i3.map B8).toArray] rfl rfl (by omega) (by omega) C2b.out ?_; clear hS; intro v34 w hS; rw [cells2] at hS; go_frame)
      | (have m1 := M2; clear m1; go_at_call 17; refine Ret.calls (hS.callNo (sameIds_w (v := tv) (u := v34) (l := [i1, i3]) (m := [i1, i3]) ((hS.bring (by repeat (first | exact t0 | apply tS))).getOwn.rd) ((hS.bring (by repeat (first | exact t0 | apply tS))).getOwn.rd) L2b.out L2b.out (b := true) (decide_eq_true (Eq.refl [i1, i3])))) ?_; clear hS M2; rintro r1 w ⟨rfl, hS⟩)
      | (go_at_call 20; (refine Ret.calls (qwaits_s (p := p) (q := ⟨[i2, i1, i3], []⟩) (hS.bring (by repeat (first | exact t0 | apply tS))) O3.out) ?_); clear hS; rintro wv w hS)
      | (show wpList _ _ _ (⟨some 39, .call _, _, _, _, _⟩ :: _) _ _; refine wpList_val rfl (op_len slHash rfl rfl (v := wv) (xs := bys []) rfl ((hS.bring (by repeat (first | exact t0 | apply tS))).getOwn.rd)) ?_; rw [HL0.out]; go_frame)
      | (show wpList _ _ _ (⟨some 40, .binOp _ _ _ _ _, _, _, _, _⟩ :: _) _ _; refine wpList_val rfl (op_eqI' (r := true) rfl rfl rfl rfl) ?_; go_frame)
      | (go_at_call 22; (refine Ret.calls (qhas_s (p := p) (q := ⟨[i2, i1, i3], []⟩) (x := i2) (hS.bring (by repeat (first | exact t0 | apply tS))) I2.out (b := true) (decide_eq_true List.mem_cons_self)) ?_); clear hS; rintro r1 w ⟨rfl, hS⟩)
      | (go_at_call 21; (refine Ret.calls (qall_s (p := p) (q := ⟨[i2, i1, i3], []⟩) (hS.bring (by repeat (first | exact t0 | apply tS)))) ?_); clear hS; rintro av w hS)
      | (show wpList _ _ _ (⟨some 53, .buildSlice _ _ _, _, _, _, _⟩ :: _) _ _; refine wpS_buildL slHash hS rfl rfl [.agg (i2.map B8).toArray, .agg (i1.map B8).toArray, .agg (i3.map B8).toArray] rfl rfl (by omega) (by omega) C3b.out ?_; clear hS; intro v53 w hS; rw [cells3] at hS; go_frame)
      | (go_at_call 17; refine Ret.calls (hS.callNo (sameIds_w (v := av) (u := v53) (l := [i2, i1, i3]) (m := [i2, i1, i3]) ((hS.bring (by repeat (first | exact t0 | apply tS))).getOwn.rd) ((hS.bring (by repeat (first | exact t0 | apply tS))).getOwn.rd) L3b.out L3b.out (b := true) (decide_eq_true (Eq.refl [i2, i1, i3])))) ?_; clear hS; rintro r1 w ⟨rfl, hS⟩)
      )
    refine segQ_mk (⟨((hS.bring (by repeat (first | exact t0 | apply tS))).getBlk), ((hS.bring (by repeat (first | exact t0 | apply tS))).getBlk), ((hS.bring (by repeat (first | exact t0 | apply tS))).getBlk)⟩ : Blk _ na 24 (i1.map B8) ∧ Blk _ nb 24 (i2.map B8) ∧ Blk _ nc 24 (i3.map B8)) ?_
    refine finC_mk (by kernel_rfl) (by
      intro t ht
      simp only [List.mem_cons, List.not_mem_nil, or_false] at ht
      rcases ht with rfl | rfl | rfl
      · exact stab_blk (b := na) (fun w h => h.1) _ none
      · exact stab_blk (b := nb) (fun w h => h.2.1) _ none
      · exact stab_blk (b := nc) (fun w h => h.2.2) _ none) ?_
    go_wp2_with fail
    go_ret
    exact ⟨rfl, hS.sel (by repeat (first | exact Sel.refl | refine Sel.take (by repeat (first | exact t0 | apply tS)) ?_ | apply Sel.drop))⟩
  · skip
    refine ord_seg (by repeat (first | exact Clean.body | refine Clean.then ?_ | refine Clean.inBlock ?_ | refine SegQ.clean ?_ | refine FinC.clean ?_)) (n := 3) (rest := [[23, 24, 25]]) [22, 18] [⟨_, _, _, _, _, _⟩, ⟨_, _, _, _, _, _⟩] rfl (by kernel_rfl) (by simp) _ _ ?_
    go_wp2_with (first
      | go_big_skip
      | (go_at_call 11; refine Ret.calls (qnew_s hS) ?_; clear hS; rintro r w ⟨p, rfl, hS⟩)
      | (show wpList _ _ _ (⟨some 9, .build _ _, _, _, _, _⟩ :: _) _ _; refine wpList_val rfl (op_build (ps := #[(0, .int .u8 1)]) rfl rfl B1 _) ?_; go_frame)
      | (show wpList _ _ _ (⟨some 10, .build _ _, _, _, _, _⟩ :: _) _ _; refine wpList_val rfl (op_build (ps := #[(0, .int .u8 2)]) rfl rfl B2 _) ?_; go_frame)
      | (show wpList _ _ _ (⟨some 11, .build _ _, _, _, _, _⟩ :: _) _ _; refine wpList_val rfl (op_build (ps := #[(0, .int .u8 3)]) rfl rfl B3 _) ?_; go_frame)
      | (show wpList _ _ _ (⟨some 2, .alloc _, _, _, _, _⟩ :: _) _ _; refine wpS_alloc hS rfl rfl Try.zeroValue24 (zs := List.replicate 32 (.int .u8 0)) rfl ?_; clear hS; intro na w hS; go_frame)
      | (show wpList _ _ _ (⟨some 3, .alloc _, _, _, _, _⟩ :: _) _ _; refine wpS_alloc hS rfl rfl Try.zeroValue24 (zs := List.replicate 32 (.int .u8 0)) rfl ?_; clear hS; intro nb w hS; go_frame)
      | (show wpList _ _ _ (⟨some 4, .alloc _, _, _, _, _⟩ :: _) _ _; refine wpS_alloc hS rfl rfl Try.zeroValue24 (zs := List.replicate 32 (.int .u8 0)) rfl ?_; clear hS; intro nc w hS; go_frame)
      | (show wpList _ _ _ (⟨_, .store 24 (.tmp 2) _, _, _, _, _⟩ :: _) _ _; (refine wpS_storeAll (b := na) aggHash (hS.bring (by repeat (first | exact t0 | apply tS))) rfl rfl rfl (vs := i1.map B8) rfl H1.out (flat_B8 i1) rfl ?_); clear hS; intro w hS; go_frame)
      | (show wpList _ _ _ (⟨_, .store 24 (.tmp 3) _, _, _, _, _⟩ :: _) _ _; (refine wpS_storeAll (b := nb) aggHash (hS.bring (by repeat (first | exact t0 | apply tS))) rfl rfl rfl (vs := i2.map B8) rfl H2.out (flat_B8 i2) rfl ?_); clear hS; intro w hS; go_frame)
      | (show wpList _ _ _ (⟨_, .store 24 (.tmp 4) _, _, _, _, _⟩ :: _) _ _; (refine wpS_storeAll (b := nc) aggHash (hS.bring (by repeat (first | exact t0 | apply tS))) rfl rfl rfl (vs := i3.map B8) rfl H3.out (flat_B8 i3) rfl ?_); clear hS; intro w hS; go_frame)
      | (show wpList _ _ _ (⟨_, .load 24 (.tmp 2), _, _, _, _⟩ :: _) _ _; refine wpList_val rfl (op_load aggHash rfl rfl (SepL.getBlk (b := na) (T := 24) ((hS.bring (by repeat (first | exact t0 | apply tS))))).cells H1.out) ?_; go_frame)
      | (show wpList _ _ _ (⟨_, .load 24 (.tmp 3), _, _, _, _⟩ :: _) _ _; refine wpList_val rfl (op_load aggHash rfl rfl (SepL.getBlk (b := nb) (T := 24) ((hS.bring (by repeat (first | exact t0 | apply tS))))).cells H2.out) ?_; go_frame)
      | (show wpList _ _ _ (⟨_, .load 24 (.tmp 4), _, _, _, _⟩ :: _) _ _; refine wpList_val rfl (op_load aggHash rfl rfl (SepL.getBlk (b := nc) (T := 24) ((hS.bring (by repeat (first | exact t0 | apply tS))))).cells H3.out) ?_; go_frame)
      | (show wpList _ _ _ (⟨some 34, .buildSlice _ _ _, _, _, _, _⟩ :: _) _ _; refine wpS_buildL slHash hS rfl rfl [.agg (i1.map B8).toArray, .agg (i3.map B8).toArray] rfl rfl (by omega) (by omega) C2b.out ?_; clear hS; intro v34 w hS; rw [cells2] at hS; go_frame)
      | (have m1 := M2; clear m1; go_at_call 17; refine Ret.calls (hS.callNo (sameIds_w (v := tv) (u := v34) (l := [i1, i3]) (m := [i1, i3]) ((hS.bring (by repeat (first | exact t0 | apply tS))).getOwn.rd) ((hS.bring (by repeat (first | exact t0 | apply tS))).getOwn.rd) L2b.out L2b.out (b := true) (decide_eq_true (Eq.refl [i1, i3])))) ?_; clear hS M2; rintro r1 w ⟨rfl, hS⟩)
      | (go_at_call 20; (refine Ret.calls (qwaits_s (p := p) (q := ⟨[i2, i1, i3], []⟩) (hS.bring (by repeat (first | exact t0 | apply tS))) O3.out) ?_); clear hS; rintro wv w hS)
      | (show wpList _ _ _ (⟨some 39, .call _, _, _, _, _⟩ :: _) _ _; refine wpList_val rfl (op_len slHash rfl rfl (v := wv) (xs := bys []) rfl ((hS.bring (by repeat (first | exact t0 | apply tS))).getOwn.rd)) ?_; rw [HL0.out]; go_frame)
      | (show wpList _ _ _ (⟨some 40, .binOp _ _ _ _ _, _, _, _, _⟩ :: _) _ _; refine wpList_val rfl (op_eqI' (r := true) rfl rfl rfl rfl) ?_; go_frame)
      | (go_at_call 22; (refine Ret.calls (qhas_s (p := p) (q := ⟨[i2, i1, i3], []⟩) (x := i2) (hS.bring (by repeat (first | exact t0 | apply tS))) I2.out (b := true) (decide_eq_true List.mem_cons_self)) ?_); clear hS; rintro r1 w ⟨rfl, hS⟩)
      | (go_at_call 21; (refine Ret.calls (qall_s (p := p) (q := ⟨[i2, i1, i3], []⟩) (hS.bring (by repeat (first | exact t0 | apply tS)))) ?_); clear hS; rintro av w hS)
      | (show wpList _ _ _ (⟨some 53, .buildSlice _ _ _, _, _, _, _⟩ :: _) _ _; refine wpS_buildL slHash hS rfl rfl [.agg (i2.map B8).toArray, .agg (i1.map B8).toArray, .agg (i3.map B8).toArray] rfl rfl (by omega) (by omega) C3b.out ?_; clear hS; intro v53 w hS; rw [cells3] at hS; go_frame)
      | (go_at_call 17; refine Ret.calls (hS.callNo (sameIds_w (v := av) (u := v53) (l := [i2, i1, i3]) (m := [i2, i1, i3]) ((hS.bring (by repeat (first | exact t0 | apply tS))).getOwn.rd) ((hS.bring (by repeat (first | exact t0 | apply tS))).getOwn.rd) L3b.out L3b.out (b := true) (decide_eq_true (Eq.refl [i2, i1, i3])))) ?_; clear hS; rintro r1 w ⟨rfl, hS⟩)
      )
    refine segQ_mk (⟨((hS.bring (by repeat (first | exact t0 | apply tS))).getBlk), ((hS.bring (by repeat (first | exact t0 | apply tS))).getBlk), ((hS.bring (by repeat (first | exact t0 | apply tS))).getBlk)⟩ : Blk _ na 24 (i1.map B8) ∧ Blk _ nb 24 (i2.map B8) ∧ Blk _ nc 24 (i3.map B8)) ?_
    refine ord_seg (by repeat (first | exact Clean.body | refine Clean.then ?_ | refine Clean.inBlock ?_ | refine SegQ.clean ?_ | refine FinC.clean ?_)) (n := 2) (rest := [[24, 25]]) [23] [⟨_, _, _, _, _, _⟩] rfl (by kernel_rfl) (by simp) _ _ ?_
    go_wp2_with (first
      | go_big_skip
      | (go_at_call 11; refine Ret.calls (qnew_s hS) ?_; clear hS; rintro r w ⟨p, rfl, hS⟩)
      | (show wpList _ _ _ (⟨some 9, .build _ _, _, _, _, _⟩ :: _) _ _; refine wpList_val rfl (op_build (ps := #[(0, .int .u8 1)]) rfl rfl B1 _) ?_; go_frame)
      | (show wpList _ _ _ (⟨some 10, .build _ _, _, _, _, _⟩ :: _) _ _; refine wpList_val rfl (op_build (ps := #[(0, .int .u8 2)]) rfl rfl B2 _) ?_; go_frame)
      | (show wpList _ _ _ (⟨some 11, .build _ _, _, _, _, _⟩ :: _) _ _; refine wpList_val rfl (op_build (ps := #[(0, .int .u8 3)]) rfl rfl B3 _) ?_; go_frame)
      | (show wpList _ _ _ (⟨some 2, .alloc _, _, _, _, _⟩ :: _) _ _; refine wpS_alloc hS rfl rfl Try.zeroValue24 (zs := List.replicate 32 (.int .u8 0)) rfl ?_; clear hS; intro na w hS; go_frame)
      | (show wpList _ _ _ (⟨some 3, .alloc _, _, _, _, _⟩ :: _) _ _; refine wpS_alloc hS rfl rfl Try.zeroValue24 (zs := List.replicate 32 (.int .u8 0)) rfl ?_; clear hS; intro nb w hS; go_frame)
      | (show wpList _ _ _ (⟨some 4, .alloc _, _, _, _, _⟩ :: _) _ _; refine wpS_alloc hS rfl rfl Try.zeroValue24 (zs := List.replicate 32 (.int .u8 0)) rfl ?_; clear hS; intro nc w hS; go_frame)
      | (show wpList _ _ _ (⟨_, .store 24 (.tmp 2) _, _, _, _, _⟩ :: _) _ _; (refine wpS_storeAll (b := na) aggHash (hS.bring (by repeat (first | exact t0 | apply tS))) rfl rfl rfl (vs := i1.map B8) rfl H1.out (flat_B8 i1) rfl ?_); clear hS; intro w hS; go_frame)
      | (show wpList _ _ _ (⟨_, .store 24 (.tmp 3) _, _, _, _, _⟩ :: _) _ _; (refine wpS_storeAll (b := nb) aggHash (hS.bring (by repeat (first | exact t0 | apply tS))) rfl rfl rfl (vs := i2.map B8) rfl H2.out (flat_B8 i2) rfl ?_); clear hS; intro w hS; go_frame)
      | (show wpList _ _ _ (⟨_, .store 24 (.tmp 4) _, _, _, _, _⟩ :: _) _ _; (refine wpS_storeAll (b := nc) aggHash (hS.bring (by repeat (first | exact t0 | apply tS))) rfl rfl rfl (vs := i3.map B8) rfl H3.out (flat_B8 i3) rfl ?_); clear hS; intro w hS; go_frame)
      | (show wpList _ _ _ (⟨_, .load 24 (.tmp 2), _, _, _, _⟩ :: _) _ _; refine wpList_val rfl (op_load aggHash rfl rfl (SepL.getBlk (b := na) (T := 24) ((hS.bring (by repeat (first | exact t0 | apply tS))))).cells H1.out) ?_; go_frame)
      | (show wpList _ _ _ (⟨_, .load 24 (.tmp 3), _, _, _, _⟩ :: _) _ _; refine wpList_val rfl (op_load aggHash rfl rfl (SepL.getBlk (b := nb) (T := 24) ((hS.bring (by repeat (first | exact t0 | apply tS))))).cells H2.out) ?_; go_frame)
      | (show wpList _ _ _ (⟨_, .load 24 (.tmp 4), _, _, _, _⟩ :: _) _ _; refine wpList_val rfl (op_load aggHash rfl rfl (SepL.getBlk (b := nc) (T := 24) ((hS.bring (by repeat (first | exact t0 | apply tS))))).cells H3.out) ?_; go_frame)
      | (show wpList _ _ _ (⟨some 34, .buildSlice _ _ _, _, _, _, _⟩ :: _) _ _; refine wpS_buildL slHash hS rfl rfl [.agg (i1.map B8).toArray, .agg (i3.map B8).toArray] rfl rfl (by omega) (by omega) C2b.out ?_; clear hS; intro v34 w hS; rw [cells2] at hS; go_frame)
      | (have m1 := M2; clear m1; go_at_call 17; refine Ret.calls (hS.callNo (sameIds_w (v := tv) (u := v34) (l := [i1, i3]) (m := [i1, i3]) ((hS.bring (by repeat (first | exact t0 | apply tS))).getOwn.rd) ((hS.bring (by repeat (first | exact t0 | apply tS))).getOwn.rd) L2b.out L2b.out (b := true) (decide_eq_true (Eq.refl [i1, i3])))) ?_; clear hS M2; rintro r1 w ⟨rfl, hS⟩)
      | (go_at_call 20; (refine Ret.calls (qwaits_s (p := p) (q := ⟨[i2, i1, i3], []⟩) (hS.bring (by repeat (first | exact t0 | apply tS))) O3.out) ?_); clear hS; rintro wv w hS)
      | (show wpList _ _ _ (⟨some 39, .call _, _, _, _, _⟩ :: _) _ _; refine wpList_val rfl (op_len slHash rfl rfl (v := wv) (xs := bys []) rfl ((hS.bring (by repeat (first | exact t0 | apply tS))).getOwn.rd)) ?_; rw [HL0.out]; go_frame)
      | (show wpList _ _ _ (⟨some 40, .binOp _ _ _ _ _, _, _, _, _⟩ :: _) _ _; refine wpList_val rfl (op_eqI' (r := true) rfl rfl rfl rfl) ?_; go_frame)
      | (go_at_call 22; (refine Ret.calls (qhas_s (p := p) (q := ⟨[i2, i1, i3], []⟩) (x := i2) (hS.bring (by repeat (first | exact t0 | apply tS))) I2.out (b := true) (decide_eq_true List.mem_cons_self)) ?_); clear hS; rintro r1 w ⟨rfl, hS⟩)
      | (go_at_call 21; (refine Ret.calls (qall_s (p := p) (q := ⟨[i2, i1, i3], []⟩) (hS.bring (by repeat (first | exact t0 | apply tS)))) ?_); clear hS; rintro av w hS)
      | (show wpList _ _ _ (⟨some 53, .buildSlice _ _ _, _, _, _, _⟩ :: _) _ _; refine wpS_buildL slHash hS rfl rfl [.agg (i2.map B8).toArray, .agg (i1.map B8).toArray, .agg (i3.map B8).toArray] rfl rfl (by omega) (by omega) C3b.out ?_; clear hS; intro v53 w hS; rw [cells3] at hS; go_frame)
      | (go_at_call 17; refine Ret.calls (hS.callNo (sameIds_w (v := av) (u := v53) (l := [i2, i1, i3]) (m := [i2, i1, i3]) ((hS.bring (by repeat (first | exact t0 | apply tS))).getOwn.rd) ((hS.bring (by repeat (first | exact t0 | apply tS))).getOwn.rd) L3b.out L3b.out (b := true) (decide_eq_true (Eq.refl [i2, i1, i3])))) ?_; clear hS; rintro r1 w ⟨rfl, hS⟩)
      )
    refine segQ_mk (⟨((hS.bring (by repeat (first | exact t0 | apply tS))).getBlk), ((hS.bring (by repeat (first | exact t0 | apply tS))).getBlk), ((hS.bring (by repeat (first | exact t0 | apply tS))).getBlk)⟩ : Blk _ na 24 (i1.map B8) ∧ Blk _ nb 24 (i2.map B8) ∧ Blk _ nc 24 (i3.map B8)) ?_
    refine ord_seg (by repeat (first | exact Clean.body | refine Clean.then ?_ | refine Clean.inBlock ?_ | refine SegQ.clean ?_ | refine FinC.clean ?_)) (n := 0) (rest := [[]]) [24, 25] [⟨_, _, _, _, _, _⟩, ⟨_, _, _, _, _, _⟩] rfl (by kernel_rfl) (by simp) _ _ ?_
    go_wp2_with (first
      | go_big_skip
      | (go_at_call 11; refine Ret.calls (qnew_s hS) ?_; clear hS; rintro r w ⟨p, rfl, hS⟩)
      | (show wpList _ _ _ (⟨some 9, .build _ _, _, _, _, _⟩ :: _) _ _; refine wpList_val rfl (op_build (ps := #[(0, .int .u8 1)]) rfl rfl B1 _) ?_; go_frame)
      | (show wpList _ _ _ (⟨some 10, .build _ _, _, _, _, _⟩ :: _) _ _; refine wpList_val rfl (op_build (ps := #[(0, .int .u8 2)]) rfl rfl B2 _) ?_; go_frame)
      | (show wpList _ _ _ (⟨some 11, .build _ _, _, _, _, _⟩ :: _) _ _; refine wpList_val rfl (op_build (ps := #[(0, .int .u8 3)]) rfl rfl B3 _) ?_; go_frame)
      | (show wpList _ _ _ (⟨some 2, .alloc _, _, _, _, _⟩ :: _) _ _; refine wpS_alloc hS rfl rfl Try.zeroValue24 (zs := List.replicate 32 (.int .u8 0)) rfl ?_; clear hS; intro na w hS; go_frame)
      | (show wpList _ _ _ (⟨some 3, .alloc _, _, _, _, _⟩ :: _) _ _; refine wpS_alloc hS rfl rfl Try.zeroValue24 (zs := List.replicate 32 (.int .u8 0)) rfl ?_; clear hS; intro nb w hS; go_frame)
      | (show wpList _ _ _ (⟨some 4, .alloc _, _, _, _, _⟩ :: _) _ _; refine wpS_alloc hS rfl rfl Try.zeroValue24 (zs := List.replicate 32 (.int .u8 0)) rfl ?_; clear hS; intro nc w hS; go_frame)
      | (show wpList _ _ _ (⟨_, .store 24 (.tmp 2) _, _, _, _, _⟩ :: _) _ _; (refine wpS_storeAll (b := na) aggHash (hS.bring (by repeat (first | exact t0 | apply tS))) rfl rfl rfl (vs := i1.map B8) rfl H1.out (flat_B8 i1) rfl ?_); clear hS; intro w hS; go_frame)
      | (show wpList _ _ _ (⟨_, .store 24 (.tmp 3) _, _, _, _, _⟩ :: _) _ _; (refine wpS_storeAll (b := nb) aggHash (hS.bring (by repeat (first | exact t0 | apply tS))) rfl rfl rfl (vs := i2.map B8) rfl H2.out (flat_B8 i2) rfl ?_); clear hS; intro w hS; go_frame)
      | (show wpList _ _ _ (⟨_, .store 24 (.tmp 4) _, _, _, _, _⟩ :: _) _ _; (refine wpS_storeAll (b := nc) aggHash (hS.bring (by repeat (first | exact t0 | apply tS))) rfl rfl rfl (vs := i3.map B8) rfl H3.out (flat_B8 i3) rfl ?_); clear hS; intro w hS; go_frame)
      | (show wpList _ _ _ (⟨_, .load 24 (.tmp 2), _, _, _, _⟩ :: _) _ _; refine wpList_val rfl (op_load aggHash rfl rfl (SepL.getBlk (b := na) (T := 24) ((hS.bring (by repeat (first | exact t0 | apply tS))))).cells H1.out) ?_; go_frame)
      | (show wpList _ _ _ (⟨_, .load 24 (.tmp 3), _, _, _, _⟩ :: _) _ _; refine wpList_val rfl (op_load aggHash rfl rfl (SepL.getBlk (b := nb) (T := 24) ((hS.bring (by repeat (first | exact t0 | apply tS))))).cells H2.out) ?_; go_frame)
      | (show wpList _ _ _ (⟨_, .load 24 (.tmp 4), _, _, _, _⟩ :: _) _ _; refine wpList_val rfl (op_load aggHash rfl rfl (SepL.getBlk (b := nc) (T := 24) ((hS.bring (by repeat (first | exact t0 | apply tS))))).cells H3.out) ?_; go_frame)
      | (show wpList _ _ _ (⟨some 34, .buildSlice _ _ _, _, _, _, _⟩ :: _) _ _; refine wpS_buildL slHash hS rfl rfl [.agg (i1.map B8).toArray, .agg (i3.map B8).toArray] rfl rfl (by omega) (by omega) C2b.out ?_; clear hS; intro v34 w hS; rw [cells2] at hS; go_frame)
      | (have m1 := M2; clear m1; go_at_call 17; refine Ret.calls (hS.callNo (sameIds_w (v := tv) (u := v34) (l := [i1, i3]) (m := [i1, i3]) ((hS.bring (by repeat (first | exact t0 | apply tS))).getOwn.rd) ((hS.bring (by repeat (first | exact t0 | apply tS))).getOwn.rd) L2b.out L2b.out (b := true) (decide_eq_true (Eq.refl [i1, i3])))) ?_; clear hS M2; rintro r1 w ⟨rfl, hS⟩)
      | (go_at_call 20; (refine Ret.calls (qwaits_s (p := p) (q := ⟨[i2, i1, i3], []⟩) (hS.bring (by repeat (first | exact t0 | apply tS))) O3.out) ?_); clear hS; rintro wv w hS)
      | (show wpList _ _ _ (⟨some 39, .call _, _, _, _, _⟩ :: _) _ _; refine wpList_val rfl (op_len slHash rfl rfl (v := wv) (xs := bys []) rfl ((hS.bring (by repeat (first | exact t0 | apply tS))).getOwn.rd)) ?_; rw [HL0.out]; go_frame)
      | (show wpList _ _ _ (⟨some 40, .binOp _ _ _ _ _, _, _, _, _⟩ :: _) _ _; refine wpList_val rfl (op_eqI' (r := true) rfl rfl rfl rfl) ?_; go_frame)
      | (go_at_call 22; (refine Ret.calls (qhas_s (p := p) (q := ⟨[i2, i1, i3], []⟩) (x := i2) (hS.bring (by repeat (first | exact t0 | apply tS))) I2.out (b := true) (decide_eq_true List.mem_cons_self)) ?_); clear hS; rintro r1 w ⟨rfl, hS⟩)
      | (go_at_call 21; (refine Ret.calls (qall_s (p := p) (q := ⟨[i2, i1, i3], []⟩) (hS.bring (by repeat (first | exact t0 | apply tS)))) ?_); clear hS; rintro av w hS)
      | (show wpList _ _ _ (⟨some 53, .buildSlice _ _ _, _, _, _, _⟩ :: _) _ _; refine wpS_buildL slHash hS rfl rfl [.agg (i2.map B8).toArray, .agg (i1.map B8).toArray, .agg (i3.map B8).toArray] rfl rfl (by omega) (by omega) C3b.out ?_; clear hS; intro v53 w hS; rw [cells3] at hS; go_frame)
      | (go_at_call 17; refine Ret.calls (hS.callNo (sameIds_w (v := av) (u := v53) (l := [i2, i1, i3]) (m := [i2, i1, i3]) ((hS.bring (by repeat (first | exact t0 | apply tS))).getOwn.rd) ((hS.bring (by repeat (first | exact t0 | apply tS))).getOwn.rd) L3b.out L3b.out (b := true) (decide_eq_true (Eq.refl [i2, i1, i3])))) ?_; clear hS; rintro r1 w ⟨rfl, hS⟩)
      )
    refine segQ_mk (⟨((hS.bring (by repeat (first | exact t0 | apply tS))).getBlk), ((hS.bring (by repeat (first | exact t0 | apply tS))).getBlk), ((hS.bring (by repeat (first | exact t0 | apply tS))).getBlk)⟩ : Blk _ na 24 (i1.map B8) ∧ Blk _ nb 24 (i2.map B8) ∧ Blk _ nc 24 (i3.map B8)) ?_
    refine finC_mk (by kernel_rfl) (by
      intro t ht
      simp only [List.mem_cons, List.not_mem_nil, or_false] at ht
      rcases ht with rfl | rfl | rfl
      · exact stab_blk (b := na) (fun w h => h.1) _ none
      · exact stab_blk (b := nb) (fun w h => h.2.1) _ none
      · exact stab_blk (b := nc) (fun w h => h.2.2) _ none) ?_
    go_wp2_with fail
    go_ret
    exact ⟨rfl, hS.sel (by repeat (first | exact Sel.refl | refine Sel.take (by repeat (first | exact t0 | apply tS)) ?_ | apply Sel.drop))⟩
end
end Go.Proofs.Ytffagjkjeojaaaa
