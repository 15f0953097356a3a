/- Who is gone is asked for nothing any more: the law returns true. Conditions: those that stand ahead of each theorem. -/
import Derived.Test.YtafpdpcbckpkjaaGoneP
namespace Go.Proofs.Ytafpdpcbckpkjaa
open Go.RowKit Go.Px
theorem flat_one {v : Value} (h : v.oneCell' = true) : Flat [[v]] := by
  intro x hx u hu
  rw [List.mem_singleton.1 hx, List.mem_singleton] at hu
  rw [hu]
  exact h
set_option maxRecDepth 100000 in
set_option maxHeartbeats 8000000 in
theorem askGone_w {W : World} {v : Value} {L : List PAct} {q : Int} {now : Nat} (hv0 : Rd 35 W v (L.map actC)) (ha : ∀ a ∈ L, AOk a) (hq : In64 q) (hn : now < 18446744073709551616) :
    Calls Try.prog 8 #[v, I64 q, U now] W (Ret fun r w' => r = .bool true ∧ Chg No W w') := by
  have hS := SepL.start W
  have hv := RdIn.of hv0
  have HL : Hid ((L.map actC).length = L.length) := by simp [Hid]
  have HA := hide ha
  have HNW := hide hn
  clear hv0
  by_cases h200 : 200 < L.length
  · have HG : Hid (decide ((200 : Int) < (L.length : Int)) = true) := decT (by omega)
    clear h200 ha hn hq
    go_enter Try.func8, Try.ntmps8
    go_wp2_with (first
      | go_big_skip
      | (show wpList _ _ _ (⟨some 22, .call _, _, _, _, _⟩ :: _) _ _; refine wpList_val rfl (op_len slAct rfl rfl (v := v) (xs := L.map actC) rfl (by exact hS.rd hv)) ?_; rw [HL.out]; go_frame)
      | (show wpList _ _ _ (⟨some 23, .binOp _ _ _ _ _, _, _, _, _⟩ :: _) _ _; refine wpList_val rfl (op_igtr rfl rfl rfl HG.out) ?_; go_frame)
      | (go_at_call 9; refine Ret.calls (alive_s hS) ?_; clear hS; rintro r w ⟨rfl, hS⟩)
      )
    go_ret
    exact ⟨rfl, hS.chg⟩
  have HG : Hid (decide ((200 : Int) < (L.length : Int)) = false) := decF (by omega)
  have hok := runB_ok BOk.nil ha
  have hin := runB_in (B := []) (fun _ h => by cases h) ha
  obtain ⟨B, hB0⟩ : ∃ B, runB [] L = B := ⟨_, rfl⟩
  rw [hB0] at hok hin
  have HB := hide hB0
  have HOK := hide hok
  have HN : Hid (((allB B).map wC).length = B.length) := by simp [Hid, allB]
  have hfew := hok.few
  have HFEW := hide hfew
  obtain ⟨WL, hWL⟩ : ∃ WL, eachW (goneOn q) B = WL := ⟨_, rfl⟩
  obtain ⟨B2, hB2⟩ : ∃ B2, eachB (goneOn q) now B = B2 := ⟨_, rfl⟩
  have HW2 := hide hWL
  have HB2 := hide hB2
  have HOK2 : Hid (BOk B2) := by rw [← hB2]; exact gone_ok hok hn
  have hwl : WL.length ≤ B.length := by rw [← hWL]; exact eachW_len _
  have HWN : Hid (WL.length ≤ 1000) := by unfold Hid; omega
  have HW32 : Hid (∀ y ∈ WL, y.1.length = 32) := by rw [← hWL]; exact eachW3 _ hok
  have HWLW : Hid (WOk WL) := by
    unfold Hid WOk
    intro y hy
    refine ⟨HW32.out y hy, ?_⟩
    rw [← hWL] at hy
    exact eachW_in hin (fun e he => quitE_in he) y hy
  clear ha hn hB0 hok hin h200 hWL hB2 hwl
  go_enter Try.func8, Try.ntmps8
  go_wp2_with (first
    | go_big_skip
    | (show wpList _ _ _ (⟨some 22, .call _, _, _, _, _⟩ :: _) _ _; refine wpList_val rfl (op_len slAct rfl rfl (v := v) (xs := L.map actC) rfl (by exact hS.rd hv)) ?_; rw [HL.out]; go_frame)
    | (show wpList _ _ _ (⟨some 23, .binOp _ _ _ _ _, _, _, _, _⟩ :: _) _ _; refine wpList_val rfl (op_igtr rfl rfl rfl HG.out) ?_; go_frame)
    | (go_at_call 9; refine Ret.calls (alive_s hS) ?_; clear hS; rintro r w ⟨rfl, hS⟩)
    | (go_at_call 22; refine Ret.calls (grown_s hS hv HA.out) ?_; clear hS; rintro r w ⟨p, rfl, hS⟩; rw [HB.out] at hS)
    | (go_at_call 12; refine Ret.calls (all_s hS HOK.out) ?_; clear hS; rintro av w hS)
    | (show wpList _ _ _ (⟨some 29, .call _, _, _, _, _⟩ :: _) _ _; refine wpList_val rfl (op_len slWant rfl rfl (v := av) (xs := (allB B).map wC) rfl ((hS.bring (by repeat (first | exact t0 | apply tS))).getOwn.rd)) ?_; rw [HN.out]; go_frame)
    )
  replace hS := hS.nilOwn 50 1
  go_loopw [9, 30] (fun rv iv wr => ∃ (k : Nat) (l : List (Value × List Int)), iv = .int .i64 k ∧ Hid (l.map (fun y => y.2) = (B.take k).map rowE) ∧ k ≤ B.length ∧ SepL All W wr (.own 50 1 rv (l.map rowC) :: .own 55 33 av ((allB B).map wC) :: hB p B :: rowsP l)) (fun _ iv _ => B.length - (intOf iv).toNat)
  case atStart => exact ⟨0, [], rfl, rfl, by omega, (rowsP_nil ▸ hS.sel (by repeat (first | exact Sel.refl | refine Sel.take (by repeat (first | exact t0 | apply tS)) ?_ | apply Sel.drop)))⟩
  case round =>
    clear hS
    obtain ⟨k, l, rfl, HRW, hk, hS⟩ := hrel
    have hll : l.length = k := by
      have := congrArg List.length HRW.out
      simp at this
      omega
    by_cases hlt : k < B.length
    · have hlk : k < ((allB B).map wC).length := by rw [HN.out]; exact hlt
      obtain ⟨x, hx⟩ : ∃ x, B[k] = x := ⟨_, rfl⟩
      have hxm : x ∈ B := by rw [← hx]; exact List.getElem_mem hlt
      have HXK : Hid (((allB B).map wC)[k] = x.id.map B8 ++ [.int .i64 x.peer]) := by
        unfold Hid
        simp [allB, wC, hx]
      have hx32 := HOK.out.len x hxm
      have HX32 := hide hx32
      have HXL : Hid ((x.id.map B8).length = 32) := by simp [Hid, hx32]
      have HC0 : Hid ((x.id.map B8 ++ [Value.int .i64 x.peer]).take 32 = x.id.map B8) := by
        unfold Hid
        rw [List.take_left' HXL.out]
      obtain ⟨P, hP⟩ : ∃ P, rowE x = P := ⟨_, rfl⟩
      have HPE : Hid (peersL x.id B = P) := by
        unfold Hid
        rw [peersL_at HOK.out.nodup hxm, ← hP]
        rfl
      have HRN : Hid (∀ pv : Value, (l ++ [(pv, P)]).map (fun y : Value × List Int => y.2) = (B.take (k + 1)).map rowE) := by
        intro pv
        rw [List.take_succ_eq_append_getElem hlt, List.map_append, List.map_append, HRW.out, hx, List.map_singleton, List.map_singleton, hP]
      have HRB1 : Hid (∀ pv : Value, ((l.map rowC).length + [[pv]].length) * 24 ≤ 140737488355328) := by
        intro pv
        rw [List.length_map, List.length_singleton]
        omega
      have HRB2 : Hid (∀ pv : Value, (l.map rowC).length + [[pv]].length ≤ maxLen) := by
        intro pv
        unfold maxLen
        rw [List.length_map, List.length_singleton]
        omega
      clear hx hxm hx32 hP hll
      go_wp2_with (first
        | go_big_skip
        | (show wpList _ _ _ (⟨some 32, .indexAddr _ _ _, _, _, _, _⟩ :: _) _ _; refine wpList_val rfl (op_indexAddr slWant rfl (v := av) (xs := (allB B).map wC) rfl (k := k) rfl ((hS.bring (by repeat (first | exact t0 | apply tS))).getOwn.rd) hlk) ?_; go_frame)
        | (show wpList _ _ _ (⟨some 33, .load _ _, _, _, _, _⟩ :: _) _ _; refine wpList_val rfl (op_loadE aggWant rfl (v := av) (xs := (allB B).map wC) (k := k) rfl ((hS.bring (by repeat (first | exact t0 | apply tS))).getOwn.rd) hlk) ?_; rw [HXK.out]; go_frame)
        | (show wpList _ _ _ (⟨some 11, .alloc _, _, _, _, _⟩ :: _) _ _; refine wpS_alloc hS rfl rfl Try.zeroValue55 (zs := List.replicate 32 (.int .u8 0) ++ [Value.int .i64 0]) rfl ?_; clear hS; intro nb w hS; go_frame)
        | (show wpList _ _ _ (⟨_, .store 55 (.tmp 11) _, _, _, _, _⟩ :: _) _ _; (refine wpS_storeAll (b := nb) aggWant (hS.bring (by repeat (first | exact t0 | apply tS))) rfl rfl rfl (vs := x.id.map B8 ++ [.int .i64 x.peer]) rfl (w33 HXL.out _) (flat_want _ _) (by simp) ?_); clear hS; intro w hS; go_frame)
        | (show wpList _ _ _ (⟨some 37, .load _ _, _, _, _, _⟩ :: _) _ _; refine wpList_val rfl (op_load aggHash rfl rfl ((SepL.getBlk (b := nb) (T := 55) ((hS.bring (by repeat (first | exact t0 | apply tS))))).cells.sub0 32 HC0.out) HXL.out) ?_; go_frame)
        | (go_at_call 20; (refine Ret.calls (peers_any (i := x.id) (hS.bring (by repeat (first | exact t0 | apply tS))) HOK.out HX32.out) ?_); clear hS; rintro pv w hS; rw [HPE.out] at hS; have HPC := hide hS.getOwn.rd.cells1; have HPO := hide hS.getOwn.rd.one1)
        | (show wpList _ _ _ (⟨_, .buildSlice 63 1 _, _, _, _, _⟩ :: _) _ _; refine wpS_build11 slRows hS rfl rfl (u := pv) rfl HPC.out ?_; clear hS; intro v1 w hS; go_frame)
        | (show wpList _ _ _ (⟨_, .call ⟨.builtin .append, _, _⟩, _, _, _, _⟩ :: _) _ _; (refine wpS_append slRows (hS.bring (by repeat (first | exact t0 | apply tS))) rfl rfl (sv := u9) (xs := l.map rowC) (xv := v1) rfl rfl (ys := [[pv]]) ((hS.bring (by repeat (first | exact t0 | apply tS))).getOwn.rd) (flat_one HPO.out) (HRB1.out pv) (HRB2.out pv) ?_); clear hS; intro v3 w hS; go_frame)
        )
      go_roundw
      case rel => exact ⟨k + 1, l ++ [(pv, P)], by go_num, HRN.out pv, by omega, rows_more (by rw [List.map_append, show [(pv, P)].map rowC = [[pv]] from rfl]; exact hS.sel (by repeat (first | exact Sel.refl | refine Sel.take (by repeat (first | exact t0 | apply tS)) ?_ | apply Sel.drop)))⟩
      case measure => simp [intOf]; omega
    · have hk2 : k = B.length := by omega
      subst hk2
      have HRW2 : Hid (l.map (fun y => y.2) = B.map rowE) := by
        have h := HRW.out
        rwa [List.take_length] at h
      go_wp2_with (first
        | go_big_skip
        | (go_at_call 25; (refine Ret.calls (gone_s (B := B) (q := q) (now := now) (hS.bring (by repeat (first | exact t0 | apply tS))) HOK.out HNW.out) ?_); clear hS; rintro r2 w hS; rw [HW2.out, HB2.out] at hS)
        | (go_at_call 17; (refine Ret.calls (plain_s (v := r2) (L := WL) (hS.bring (by repeat (first | exact t0 | apply tS))) HW32.out HWN.out) ?_); clear hS; rintro gv w hS)
        | (show wpList _ _ _ (⟨some 48, .call _, _, _, _, _⟩ :: _) _ _; refine wpList_val rfl (op_len slWant rfl rfl (v := av) (xs := (allB B).map wC) rfl ((hS.bring (by repeat (first | exact t0 | apply tS))).getOwn.rd)) ?_; rw [HN.out]; go_frame)
        )
      replace hS := hS.nilOwn 57 33
      go_loopw [12, 49] (fun wv iv wr => ∃ (k : Nat), iv = .int .i64 k ∧ k ≤ B.length ∧ SepL All W wr (.own 57 33 wv ((eachW (goneOn q) (B.take k)).map wC) :: .own 57 33 gv (WL.map wC) :: .own 50 1 u9 (l.map rowC) :: .own 55 33 av ((allB B).map wC) :: hB p B2 :: rowsP l)) (fun _ iv _ => B.length - (intOf iv).toNat)
      case atStart => exact ⟨0, rfl, by omega, hS.sel (by repeat (first | exact Sel.refl | refine Sel.take (by repeat (first | exact t0 | apply tS)) ?_ | apply Sel.drop))⟩
      case round =>
        clear hS
        obtain ⟨k, rfl, hk, hS⟩ := hrel
        by_cases hlt : k < B.length
        · have hlk : k < ((allB B).map wC).length := by rw [HN.out]; exact hlt
          obtain ⟨x, hx⟩ : ∃ x, B[k] = x := ⟨_, rfl⟩
          have hxm : x ∈ B := by rw [← hx]; exact List.getElem_mem hlt
          have HXK : Hid (((allB B).map wC)[k] = x.id.map B8 ++ [.int .i64 x.peer]) := by
            unfold Hid
            simp [allB, wC, hx]
          have hx32 := HOK.out.len x hxm
          have HX32 := hide hx32
          have HXL : Hid ((x.id.map B8).length = 32) := by simp [Hid, hx32]
          have HC0 : Hid ((x.id.map B8 ++ [Value.int .i64 x.peer]).take 32 = x.id.map B8) := by
            unfold Hid
            rw [List.take_left' HXL.out]
          have HP32 : Hid ((x.id.map B8 ++ [Value.int .i64 x.peer])[32]? = some (.int .i64 x.peer)) := by
            unfold Hid
            rw [List.getElem?_append_right (by rw [HXL.out]; omega), HXL.out]
            rfl
          have HKL : Hid (k < l.length) := by unfold Hid; rw [hll]; exact hlt
          have HKM : Hid (k < (l.map rowC).length) := by unfold Hid; rw [List.length_map]; exact HKL.out
          obtain ⟨u, hu⟩ : ∃ u, (l[k]'HKL.out).1 = u := ⟨_, rfl⟩
          have HU := hide hu
          obtain ⟨P, hP⟩ : ∃ P, rowE x = P := ⟨_, rfl⟩
          have hlp : (l[k]'HKL.out).2 = P := by
            have h1 : (l.map (fun y => y.2))[k]? = (B.map rowE)[k]? := by rw [HRW2.out]
            rw [List.getElem?_map, List.getElem?_map, List.getElem?_eq_getElem HKL.out, List.getElem?_eq_getElem hlt, hx] at h1
            rw [← hP]
            exact Option.some.inj h1
          have HRD : Hid (∀ w, SepL All W w (rowsP l) → Rd 1 w u (P.map fun z => [I64 z])) := by
            intro w h
            have h2 := rows_at h HKL.out
            rw [hu, hlp] at h2
            exact h2
          have HPL : Hid ((P.map fun z => [I64 z]).length = P.length) := by simp [Hid]
          obtain ⟨T, hT⟩ : ∃ T, wout q P = T := ⟨_, rfl⟩
          have HTD := hide hT
          have HPE : Hid (peersL x.id B2 = T) := by
            unfold Hid
            rw [← HB2.out, gone_row HOK.out HNW.out hxm, hP, hT]
          have HTL : Hid ((T.map fun z => [I64 z]).length = T.length) := by simp [Hid]
          have HEW : Hid (eachW (goneOn q) (B.take (k + 1)) = eachW (goneOn q) (B.take k) ++ (if x.peer = q then T.head?.map (fun h => (x.id, h)) else none).toList) := by
            unfold Hid
            rw [eachW_take hlt hx, gone_want, hP, hT]
          have hpl4 : P.length ≤ 4 := by rw [← hP]; exact rowE_len HOK.out hxm
          have hwk : (eachW (goneOn q) (B.take k)).length ≤ 32 := Nat.le_trans (eachW_len _) (by rw [List.length_take]; omega)
          clear hx hxm hx32 hu hlp hP hT
          go_wp2_with (first
            | go_big_skip
            | (show wpList _ _ _ (⟨some 52, .indexAddr _ _ _, _, _, _, _⟩ :: _) _ _; refine wpList_val rfl (op_indexAddr slWant rfl (v := av) (xs := (allB B).map wC) rfl (k := k) rfl ((hS.bring (by repeat (first | exact t0 | apply tS))).getOwn.rd) hlk) ?_; go_frame)
            | (show wpList _ _ _ (⟨some 53, .load _ _, _, _, _, _⟩ :: _) _ _; refine wpList_val rfl (op_loadE aggWant rfl (v := av) (xs := (allB B).map wC) (k := k) rfl ((hS.bring (by repeat (first | exact t0 | apply tS))).getOwn.rd) hlk) ?_; rw [HXK.out]; go_frame)
            | (show wpList _ _ _ (⟨some 15, .alloc _, _, _, _, _⟩ :: _) _ _; refine wpS_alloc hS rfl rfl Try.zeroValue55 (zs := List.replicate 32 (.int .u8 0) ++ [Value.int .i64 0]) rfl ?_; clear hS; intro nb w hS; go_frame)
            | (show wpList _ _ _ (⟨_, .store 55 (.tmp 15) _, _, _, _, _⟩ :: _) _ _; (refine wpS_storeAll (b := nb) aggWant (hS.bring (by repeat (first | exact t0 | apply tS))) rfl rfl rfl (vs := x.id.map B8 ++ [.int .i64 x.peer]) rfl (w33 HXL.out _) (flat_want _ _) (by simp) ?_); clear hS; intro w hS; go_frame)
            | (show wpList _ _ _ (⟨some 56, .indexAddr _ _ _, _, _, _, _⟩ :: _) _ _; refine wpList_val rfl (op_indexAddr slRows rfl (v := u9) (xs := l.map rowC) rfl (k := k) rfl ((hS.bring (by repeat (first | exact t0 | apply tS))).getOwn.rd) HKM.out) ?_; go_frame)
            | (show wpList _ _ _ (⟨some 57, .load _ _, _, _, _, _⟩ :: _) _ _; refine wpList_val rfl (op_loadE1 oneInts rfl (v := u9) (k := k) rfl (f := fun y : Value × List Int => y.1) (us := l) ((hS.bring (by repeat (first | exact t0 | apply tS))).getOwn.rd) HKL.out) ?_; rw [HU.out]; go_frame)
            | (show wpList _ _ _ (⟨some 58, .call _, _, _, _, _⟩ :: _) _ _; refine wpList_val rfl (op_len slInt rfl rfl (v := u) (xs := P.map fun z => [I64 z]) rfl (by exact HRD.out _ (hS.sel (by repeat (first | exact Sel.refl | refine Sel.take (by repeat (first | exact t0 | apply tS)) ?_ | apply Sel.drop))))) ?_; rw [HPL.out]; go_frame)
            )
          replace hS := hS.nilOwn 3 1
          go_loopw [16, 59] (fun tv jv wr => ∃ (j : Nat), jv = .int .i64 j ∧ j ≤ P.length ∧ SepL All W wr (.own 3 1 tv ((wout q (P.take j)).map fun z => [I64 z]) :: .blk nb 55 (x.id.map B8 ++ [.int .i64 x.peer]) :: .own 57 33 u12 ((eachW (goneOn q) (B.take k)).map wC) :: .own 57 33 gv (WL.map wC) :: .own 50 1 u9 (l.map rowC) :: .own 55 33 av ((allB B).map wC) :: hB p B2 :: rowsP l)) (fun _ jv _ => P.length - (intOf jv).toNat)
          case atStart => exact ⟨0, rfl, by omega, hS.sel (by repeat (first | exact Sel.refl | refine Sel.take (by repeat (first | exact t0 | apply tS)) ?_ | apply Sel.drop))⟩
          case round =>
            clear hS
            obtain ⟨j, rfl, hj, hS⟩ := hrel
            by_cases hjp : j < P.length
            · have hjl : j < (P.map fun z => [I64 z]).length := by rw [HPL.out]; exact hjp
              obtain ⟨z, hz⟩ : ∃ z, P[j] = z := ⟨_, rfl⟩
              have HZ := hide hz
              by_cases hzq : z = q
              · have HZQ : Hid ((z != q) = false) := by simp [Hid, hzq]
                have HTN : Hid (wout q (P.take (j + 1)) = wout q (P.take j)) := by
                  unfold Hid
                  rw [wout_next hjp, hz, if_pos hzq, List.append_nil]
                clear hz hzq
                go_wp2_with (first
                  | (show wpList _ _ _ (⟨some 61, .indexAddr _ _ _, _, _, _, _⟩ :: _) _ _; refine wpList_val rfl (op_indexAddr slInt rfl (v := u) (xs := P.map fun z => [I64 z]) rfl (k := j) rfl (by exact HRD.out _ (hS.sel (by repeat (first | exact Sel.refl | refine Sel.take (by repeat (first | exact t0 | apply tS)) ?_ | apply Sel.drop)))) hjl) ?_; go_frame)
                  | (show wpList _ _ _ (⟨some 62, .load _ _, _, _, _, _⟩ :: _) _ _; refine wpList_val rfl (op_loadE1 oneInt rfl (v := u) (k := j) rfl (f := I64) (us := P) (by exact HRD.out _ (hS.sel (by repeat (first | exact Sel.refl | refine Sel.take (by repeat (first | exact t0 | apply tS)) ?_ | apply Sel.drop)))) hjp) ?_; rw [HZ.out]; go_frame)
                  | (show wpList _ _ _ (⟨some 65, .binOp _ _ _ _ _, _, _, _, _⟩ :: _) _ _; refine wpList_val rfl (op_ineI rfl rfl rfl HZQ.out) ?_; go_frame)
                  | (show wpList _ _ _ (⟨_, .buildSlice 50 1 _, _, _, _, _⟩ :: _) _ _; refine wpS_build11 slInt hS rfl rfl (u := .int .i64 z) rfl rfl ?_; clear hS; intro v1 w hS; go_frame)
                  | (show wpList _ _ _ (⟨_, .call ⟨.builtin .append, _, _⟩, _, _, _, _⟩ :: _) _ _; (refine wpS_append slInt (hS.bring (by repeat (first | exact t0 | apply tS))) rfl rfl (sv := u16) (xs := (wout q (P.take j)).map fun z => [I64 z]) (xv := v1) rfl rfl (ys := [[.int .i64 z]]) ((hS.bring (by repeat (first | exact t0 | apply tS))).getOwn.rd) (flat_ints [z]) HTB1.out HTB2.out ?_); clear hS; intro v3 w hS; go_frame)
                  )
                go_roundw
                case rel => exact ⟨j + 1, by go_num, by omega, by rw [HTN.out]; exact hS.sel (by repeat (first | exact Sel.refl | refine Sel.take (by repeat (first | exact t0 | apply tS)) ?_ | apply Sel.drop))⟩
                case measure => simp [intOf]; omega
              · have HZQ : Hid ((z != q) = true) := by simp [Hid, hzq]
                have HTN : Hid (wout q (P.take (j + 1)) = wout q (P.take j) ++ [z]) := by
                  unfold Hid
                  rw [wout_next hjp, hz, if_neg hzq]
                have hwl := wout_len q (P.take j)
                rw [List.length_take] at hwl
                have HTB1 : Hid (((((wout q (P.take j)).map fun z => [I64 z]).length + [[Value.int .i64 z]].length) * 8 ≤ 140737488355328)) := by unfold Hid; rw [List.length_map, List.length_singleton]; omega
                have HTB2 : Hid ((((wout q (P.take j)).map fun z => [I64 z]).length + [[Value.int .i64 z]].length ≤ maxLen)) := by unfold Hid maxLen; rw [List.length_map, List.length_singleton]; omega
                clear hz hzq hwl
                go_wp2_with (first
                  | (show wpList _ _ _ (⟨some 61, .indexAddr _ _ _, _, _, _, _⟩ :: _) _ _; refine wpList_val rfl (op_indexAddr slInt rfl (v := u) (xs := P.map fun z => [I64 z]) rfl (k := j) rfl (by exact HRD.out _ (hS.sel (by repeat (first | exact Sel.refl | refine Sel.take (by repeat (first | exact t0 | apply tS)) ?_ | apply Sel.drop)))) hjl) ?_; go_frame)
                  | (show wpList _ _ _ (⟨some 62, .load _ _, _, _, _, _⟩ :: _) _ _; refine wpList_val rfl (op_loadE1 oneInt rfl (v := u) (k := j) rfl (f := I64) (us := P) (by exact HRD.out _ (hS.sel (by repeat (first | exact Sel.refl | refine Sel.take (by repeat (first | exact t0 | apply tS)) ?_ | apply Sel.drop)))) hjp) ?_; rw [HZ.out]; go_frame)
                  | (show wpList _ _ _ (⟨some 65, .binOp _ _ _ _ _, _, _, _, _⟩ :: _) _ _; refine wpList_val rfl (op_ineI rfl rfl rfl HZQ.out) ?_; go_frame)
                  | (show wpList _ _ _ (⟨_, .buildSlice 50 1 _, _, _, _, _⟩ :: _) _ _; refine wpS_build11 slInt hS rfl rfl (u := .int .i64 z) rfl rfl ?_; clear hS; intro v1 w hS; go_frame)
                  | (show wpList _ _ _ (⟨_, .call ⟨.builtin .append, _, _⟩, _, _, _, _⟩ :: _) _ _; (refine wpS_append slInt (hS.bring (by repeat (first | exact t0 | apply tS))) rfl rfl (sv := u16) (xs := (wout q (P.take j)).map fun z => [I64 z]) (xv := v1) rfl rfl (ys := [[.int .i64 z]]) ((hS.bring (by repeat (first | exact t0 | apply tS))).getOwn.rd) (flat_ints [z]) HTB1.out HTB2.out ?_); clear hS; intro v3 w hS; go_frame)
                  )
                go_roundw
                case rel => exact ⟨j + 1, by go_num, by omega, by rw [HTN.out, List.map_append]; exact hS.sel (by repeat (first | exact Sel.refl | refine Sel.take (by repeat (first | exact t0 | apply tS)) ?_ | apply Sel.drop))⟩
                case measure => simp [intOf]; omega
            · have hj2 : j = P.length := by omega
              subst hj2
              rw [List.take_length, HTD.out] at hS
              by_cases hxq : x.peer = q
              · have HXQ := eqT hxq
                by_cases hT0 : T = []
                · have HT0 : Hid (decide ((0 : Int) < (T.length : Int)) = false) := decF (by rw [hT0]; simp)
                  have HEN : Hid (eachW (goneOn q) (B.take (k + 1)) = eachW (goneOn q) (B.take k)) := by
                    unfold Hid
                    rw [HEW.out, if_pos hxq, hT0]
                    exact List.append_nil _
                  clear hxq hT0
                  go_wp2_with (first
                    | go_big_skip
                    | (show wpList _ _ _ (⟨some 73, .load _ _, _, _, _, _⟩ :: _) _ _; refine wpList_val rfl (op_load aggHash rfl rfl ((SepL.getBlk (b := nb) (T := 55) ((hS.bring (by repeat (first | exact t0 | apply tS))))).cells.sub0 32 HC0.out) HXL.out) ?_; go_frame)
                    | (go_at_call 20; (refine Ret.calls (peers_any (B := B2) (i := x.id) (hS.bring (by repeat (first | exact t0 | apply tS))) HOK2.out HX32.out) ?_); clear hS; rintro pv w hS; rw [HPE.out] at hS)
                    | (go_at_call 19; refine Ret.calls (hS.callNo (sameInts_s pv u16 T T _ ((hS.bring (by repeat (first | exact t0 | apply tS))).getOwn.rd) ((hS.bring (by repeat (first | exact t0 | apply tS))).getOwn.rd))) ?_; clear hS; rw [decide_eq_true (Eq.refl T)]; rintro r w ⟨rfl, hS⟩)
                    | (show wpList _ _ _ (⟨some 79, .load _ _, _, _, _, _⟩ :: _) _ _; refine wpList_val rfl (op_load1S (b := nb) (T := 55) oneInt ((hS.bring (by repeat (first | exact t0 | apply tS)))) rfl rfl HP32.out) ?_; go_frame)
                    | (show wpList _ _ _ (⟨some 81, .binOp _ _ _ _ _, _, _, _, _⟩ :: _) _ _; refine wpList_val rfl (op_eqI' rfl rfl rfl HXQ.out) ?_; go_frame)
                    | (show wpList _ _ _ (⟨some 84, .call _, _, _, _, _⟩ :: _) _ _; refine wpList_val rfl (op_len slInt rfl rfl (v := u16) (xs := T.map fun z => [I64 z]) rfl ((hS.bring (by repeat (first | exact t0 | apply tS))).getOwn.rd)) ?_; rw [HTL.out]; go_frame)
                    | (show wpList _ _ _ (⟨some 85, .binOp _ _ _ _ _, _, _, _, _⟩ :: _) _ _; refine wpList_val rfl (op_igtr rfl rfl rfl HT0.out) ?_; go_frame)
                    )
                  go_roundw
                  case rel => exact ⟨k + 1, by go_num, by omega, by rw [HEN.out]; exact hS.sel (by repeat (first | exact Sel.refl | refine Sel.take (by repeat (first | exact t0 | apply tS)) ?_ | apply Sel.drop))⟩
                  case measure => simp [intOf]; omega
                · obtain ⟨z, T0, hT⟩ := List.exists_cons_of_ne_nil hT0
                  have HT2 : Hid (0 < T.length) := by unfold Hid; rw [hT, List.length_cons]; omega
                  have HT0 : Hid (decide ((0 : Int) < (T.length : Int)) = true) := decT (by have := HT2.out; omega)
                  have HT1 : Hid (0 < (T.map fun z => [I64 z]).length) := by unfold Hid; rw [List.length_map]; exact HT2.out
                  have HTZ : Hid (T[0]'HT2.out = z) := by
                    unfold Hid
                    simp only [hT, List.getElem_cons_zero]
                  have HEN : Hid (eachW (goneOn q) (B.take (k + 1)) = eachW (goneOn q) (B.take k) ++ [(x.id, z)]) := by
                    unfold Hid
                    rw [HEW.out, if_pos hxq, hT]
                    rfl
                  have HAB1 : Hid ((((eachW (goneOn q) (B.take k)).map wC).length + [x.id.map B8 ++ [Value.int .i64 z]].length) * 40 ≤ 140737488355328) := by unfold Hid; rw [List.length_map, List.length_singleton]; omega
                  have HAB2 : Hid (((eachW (goneOn q) (B.take k)).map wC).length + [x.id.map B8 ++ [Value.int .i64 z]].length ≤ maxLen) := by unfold Hid maxLen; rw [List.length_map, List.length_singleton]; omega
                  clear hxq hT0 hT
                  go_wp2_with (first
                    | go_big_skip
                    | (show wpList _ _ _ (⟨some 73, .load _ _, _, _, _, _⟩ :: _) _ _; refine wpList_val rfl (op_load aggHash rfl rfl ((SepL.getBlk (b := nb) (T := 55) ((hS.bring (by repeat (first | exact t0 | apply tS))))).cells.sub0 32 HC0.out) HXL.out) ?_; go_frame)
                    | (go_at_call 20; (refine Ret.calls (peers_any (B := B2) (i := x.id) (hS.bring (by repeat (first | exact t0 | apply tS))) HOK2.out HX32.out) ?_); clear hS; rintro pv w hS; rw [HPE.out] at hS)
                    | (go_at_call 19; refine Ret.calls (hS.callNo (sameInts_s pv u16 T T _ ((hS.bring (by repeat (first | exact t0 | apply tS))).getOwn.rd) ((hS.bring (by repeat (first | exact t0 | apply tS))).getOwn.rd))) ?_; clear hS; rw [decide_eq_true (Eq.refl T)]; rintro r w ⟨rfl, hS⟩)
                    | (show wpList _ _ _ (⟨some 79, .load _ _, _, _, _, _⟩ :: _) _ _; refine wpList_val rfl (op_load1S (b := nb) (T := 55) oneInt ((hS.bring (by repeat (first | exact t0 | apply tS)))) rfl rfl HP32.out) ?_; go_frame)
                    | (show wpList _ _ _ (⟨some 81, .binOp _ _ _ _ _, _, _, _, _⟩ :: _) _ _; refine wpList_val rfl (op_eqI' rfl rfl rfl HXQ.out) ?_; go_frame)
                    | (show wpList _ _ _ (⟨some 84, .call _, _, _, _, _⟩ :: _) _ _; refine wpList_val rfl (op_len slInt rfl rfl (v := u16) (xs := T.map fun z => [I64 z]) rfl ((hS.bring (by repeat (first | exact t0 | apply tS))).getOwn.rd)) ?_; rw [HTL.out]; go_frame)
                    | (show wpList _ _ _ (⟨some 85, .binOp _ _ _ _ _, _, _, _, _⟩ :: _) _ _; refine wpList_val rfl (op_igtr rfl rfl rfl HT0.out) ?_; go_frame)
                    )
                  refine wp_region_text (by kernel_rfl) (by kernel_rfl) (by repeat (first | exact Clean.body | refine Clean.then ?_ | refine Clean.inBlock ?_)) ?_
                  replace hS := hS.drew
                  go_wp2_with (first
                    | go_big_skip
                    | (show wpList _ _ _ (⟨some 89, .load _ _, _, _, _, _⟩ :: _) _ _; refine wpList_val rfl (op_load aggHash rfl rfl ((SepL.getBlk (b := nb) (T := 55) ((hS.bring (by repeat (first | exact t0 | apply tS))))).cells.sub0 32 HC0.out) HXL.out) ?_; go_frame)
                    | (show wpList _ _ _ (⟨some 91, .indexAddr _ _ _, _, _, _, _⟩ :: _) _ _; refine wpList_val rfl (op_indexAddrZ slInt rfl (v := u16) (xs := T.map fun z => [I64 z]) rfl rfl ((hS.bring (by repeat (first | exact t0 | apply tS))).getOwn.rd) 0 rfl HT1.out) ?_; go_frame)
                    | (show wpList _ _ _ (⟨some 92, .load _ _, _, _, _, _⟩ :: _) _ _; refine wpList_val rfl (op_loadE1 oneInt rfl (v := u16) (k := 0) rfl (f := I64) (us := T) ((hS.bring (by repeat (first | exact t0 | apply tS))).getOwn.rd) HT2.out) ?_; rw [HTZ.out]; go_frame)
                    | (show wpList _ _ _ (⟨_, .build 57 _, _, _, _, _⟩ :: _) _ _; refine wpList_val rfl (op_build (ps := #[(0, .agg (x.id.map B8).toArray), (1, .int .i64 z)]) rfl rfl (buildRWant x.id HXL.out z) _) ?_; go_frame)
                    | (show wpList _ _ _ (⟨_, .buildSlice 41 1 _, _, _, _, _⟩ :: _) _ _; refine wpS_build1A slRWant (by omega) hS rfl rfl (cs := x.id.map B8 ++ [.int .i64 z]) rfl (w33 HXL.out _) ?_; clear hS; intro v2 w hS; go_frame)
                    | (show wpList _ _ _ (⟨_, .call ⟨.builtin .append, _, _⟩, _, _, _, _⟩ :: _) _ _; (refine wpS_append slRWant (hS.bring (by repeat (first | exact t0 | apply tS))) rfl rfl (sv := u12) (xs := (eachW (goneOn q) (B.take k)).map wC) (xv := v2) rfl rfl (ys := [x.id.map B8 ++ [.int .i64 z]]) ((hS.bring (by repeat (first | exact t0 | apply tS))).getOwn.rd) (flat_w1 _ _) HAB1.out HAB2.out ?_); clear hS; intro v3 w hS; go_frame)
                    | (refine fin_mk (by kernel_rfl) ?_)
                    )
                  go_wp2_with fail
                  go_roundw
                  case rel => exact ⟨k + 1, by go_num, by omega, by rw [HEN.out, List.map_append]; exact hS.sel (by repeat (first | exact Sel.refl | refine Sel.take (by repeat (first | exact t0 | apply tS)) ?_ | apply Sel.drop))⟩
                  case measure => simp [intOf]; omega
              · have HXQ := eqF hxq
                have HEN : Hid (eachW (goneOn q) (B.take (k + 1)) = eachW (goneOn q) (B.take k)) := by
                  unfold Hid
                  rw [HEW.out, if_neg hxq]
                  exact List.append_nil _
                clear hxq
                go_wp2_with (first
                  | go_big_skip
                  | (show wpList _ _ _ (⟨some 73, .load _ _, _, _, _, _⟩ :: _) _ _; refine wpList_val rfl (op_load aggHash rfl rfl ((SepL.getBlk (b := nb) (T := 55) ((hS.bring (by repeat (first | exact t0 | apply tS))))).cells.sub0 32 HC0.out) HXL.out) ?_; go_frame)
                  | (go_at_call 20; (refine Ret.calls (peers_any (B := B2) (i := x.id) (hS.bring (by repeat (first | exact t0 | apply tS))) HOK2.out HX32.out) ?_); clear hS; rintro pv w hS; rw [HPE.out] at hS)
                  | (go_at_call 19; refine Ret.calls (hS.callNo (sameInts_s pv u16 T T _ ((hS.bring (by repeat (first | exact t0 | apply tS))).getOwn.rd) ((hS.bring (by repeat (first | exact t0 | apply tS))).getOwn.rd))) ?_; clear hS; rw [decide_eq_true (Eq.refl T)]; rintro r w ⟨rfl, hS⟩)
                  | (show wpList _ _ _ (⟨some 79, .load _ _, _, _, _, _⟩ :: _) _ _; refine wpList_val rfl (op_load1S (b := nb) (T := 55) oneInt ((hS.bring (by repeat (first | exact t0 | apply tS)))) rfl rfl HP32.out) ?_; go_frame)
                  | (show wpList _ _ _ (⟨some 81, .binOp _ _ _ _ _, _, _, _, _⟩ :: _) _ _; refine wpList_val rfl (op_eqI' rfl rfl rfl HXQ.out) ?_; go_frame)
                  | (show wpList _ _ _ (⟨some 84, .call _, _, _, _, _⟩ :: _) _ _; refine wpList_val rfl (op_len slInt rfl rfl (v := u16) (xs := T.map fun z => [I64 z]) rfl ((hS.bring (by repeat (first | exact t0 | apply tS))).getOwn.rd)) ?_; rw [HTL.out]; go_frame)
                  | (show wpList _ _ _ (⟨some 85, .binOp _ _ _ _ _, _, _, _, _⟩ :: _) _ _; refine wpList_val rfl (op_igtr rfl rfl rfl HT0.out) ?_; go_frame)
                  )
                go_roundw
                case rel => exact ⟨k + 1, by go_num, by omega, by rw [HEN.out]; exact hS.sel (by repeat (first | exact Sel.refl | refine Sel.take (by repeat (first | exact t0 | apply tS)) ?_ | apply Sel.drop))⟩
                case measure => simp [intOf]; omega
        · have hk3 : k = B.length := by omega
          subst hk3
          rw [List.take_length, HW2.out] at hS
          go_wp2_with (first
            | go_big_skip
            | (go_at_call 16; refine Ret.calls (hS.callNo (same_s (v := gv) (u := u12) (L := WL) (M := WL) ((hS.bring (by repeat (first | exact t0 | apply tS))).getOwn.rd) ((hS.bring (by repeat (first | exact t0 | apply tS))).getOwn.rd) HWLW.out HWLW.out)) ?_; clear hS; rw [decide_eq_true (Eq.refl WL)]; rintro r w ⟨rfl, hS⟩)
            )
          go_ret
          exact ⟨rfl, hS.chg⟩
end Go.Proofs.Ytafpdpcbckpkjaa
