/- What is asked for too long goes on: the law returns true. Conditions: those that stand ahead of each theorem. -/
import Derived.Test.YtafpdpcbckpkjaaGLive
namespace Go.Proofs.Ytafpdpcbckpkjaa
open Go.RowKit Go.Px
set_option maxRecDepth 100000 in
set_option maxHeartbeats 4000000 in
theorem askLate_w {W : World} {v : Value} {L : List (List Byte)} {t now : Nat} (hv0 : Rd 32 W v (bys L)) (hL : ∀ a ∈ L, a.length = 32) (ht : t < 18446744073709551616) (hn : now < 18446744073709551616) :
    Calls Try.prog 3 #[v, U t, U now] W (Ret fun r w' => r = .bool true ∧ Chg No W w') := by
  have hS := SepL.start W
  have hv := RdIn.of hv0
  have HL : Hid ((bys L).length = L.length) := bys_length L
  have HLN := hide hL
  clear hL hv0
  by_cases h32 : 32 < L.length
  · have HG32 : Hid (decide ((32 : Int) < (L.length : Int)) = true) := decT (by omega)
    clear h32
    go_enter Try.func3, Try.ntmps3
    go_wp2_with (first
      | go_big_skip
      | (show wpList _ _ _ (⟨some 15, .call _, _, _, _, _⟩ :: _) _ _; refine wpList_val rfl (op_len slHash rfl rfl (v := v) (xs := bys L) rfl (by exact hS.rd hv)) ?_; rw [HL.out]; go_frame)
      | (show wpList _ _ _ (⟨some 19, .call _, _, _, _, _⟩ :: _) _ _; refine wpList_val rfl (op_len slHash rfl rfl (v := v) (xs := bys L) rfl (by exact hS.rd hv)) ?_; rw [HL.out]; go_frame)
      | (show wpList _ _ _ (⟨some 16, .binOp _ _ _ _ _, _, _, _, _⟩ :: _) _ _; refine wpList_val rfl (op_igtr rfl rfl rfl HG32.out) ?_; go_frame)
      | (go_at_call 9; refine Ret.calls (alive_s hS) ?_; clear hS; rintro r w ⟨rfl, hS⟩)
      | (go_at_call 10; refine Ret.calls (new_s hS) ?_; clear hS; rintro r w ⟨p, rfl, hS⟩)
      )
    go_ret
    exact ⟨rfl, hS.chg⟩
  · have HG32 : Hid (decide ((32 : Int) < (L.length : Int)) = false) := decF (by omega)
    go_enter Try.func3, Try.ntmps3
    go_wp2_with (first
      | go_big_skip
      | (show wpList _ _ _ (⟨some 15, .call _, _, _, _, _⟩ :: _) _ _; refine wpList_val rfl (op_len slHash rfl rfl (v := v) (xs := bys L) rfl (by exact hS.rd hv)) ?_; rw [HL.out]; go_frame)
      | (show wpList _ _ _ (⟨some 19, .call _, _, _, _, _⟩ :: _) _ _; refine wpList_val rfl (op_len slHash rfl rfl (v := v) (xs := bys L) rfl (by exact hS.rd hv)) ?_; rw [HL.out]; go_frame)
      | (show wpList _ _ _ (⟨some 16, .binOp _ _ _ _ _, _, _, _, _⟩ :: _) _ _; refine wpList_val rfl (op_igtr rfl rfl rfl HG32.out) ?_; go_frame)
      | (go_at_call 9; refine Ret.calls (alive_s hS) ?_; clear hS; rintro r w ⟨rfl, hS⟩)
      | (go_at_call 10; refine Ret.calls (new_s hS) ?_; clear hS; rintro r w ⟨p, rfl, hS⟩)
      )
    go_loopw [20] (fun iv wr => ∃ (k : Nat) (B : List Ent), iv = .int .i64 k ∧ k ≤ L.length ∧ Hid (BOk B) ∧ Hid (OneTwo t B) ∧ SepL All W wr [hB p B]) (fun iv _ => L.length - (intOf iv).toNat)
    case atStart => exact ⟨0, [], rfl, by omega, BOk.nil, (show OneTwo t [] from fun _ h => by cases h), hS⟩
    case round =>
      clear hS
      obtain ⟨k, B, rfl, hk, HOK, H12, hS⟩ := hrel
      by_cases hlt : k < L.length
      · have hlk : k < (bys L).length := by rw [HL.out]; exact hlt
        obtain ⟨i, hi⟩ : ∃ i, L[k] = i := ⟨_, rfl⟩
        have h32 : i.length = 32 := by rw [← hi]; exact HLN.out _ (List.getElem_mem hlt)
        have HX : Hid ((bys L)[k] = i.map B8) := by
          unfold Hid
          rw [bys_get hlk hlt, hi]
        have HI32 : Hid ((i.map B8).length = 32) := by simp [Hid, h32]
        have ok1 := offer_ok (p := 1) HOK.out h32 ht
        have HOK2 := hide (offer_ok (p := 2) ok1 h32 ht)
        have H122 := hide (offer_two (i := i) H12.out)
        have C1 : ∀ {w : World} {nb : Nat}, SepL All W w (hB p B :: [.blk nb 28 (i.map B8)]) → Calls Try.prog 11 #[.pointer (some ⟨p, 0, none⟩), .agg (i.map B8).toArray, .int .i64 1, U t] w (Ret fun r w' => r = .bool (offerA i B) ∧ SepL All W w' (hB p (offerB i 1 t B) :: [.blk nb 28 (i.map B8)])) := fun h => offer_any h HOK.out h32 (by omega)
        have C2 : ∀ {w : World} {nb : Nat}, SepL All W w (hB p (offerB i 1 t B) :: [.blk nb 28 (i.map B8)]) → Calls Try.prog 11 #[.pointer (some ⟨p, 0, none⟩), .agg (i.map B8).toArray, .int .i64 2, U t] w (Ret fun r w' => r = .bool (offerA i (offerB i 1 t B)) ∧ SepL All W w' (hB p (offerB i 2 t (offerB i 1 t B)) :: [.blk nb 28 (i.map B8)])) := fun h => offer_any h ok1 h32 (by omega)
        clear hi h32
        go_wp2_with (first
          | (show wpList _ _ _ (⟨some 22, .indexAddr _ _ _, _, _, _, _⟩ :: _) _ _; refine wpList_val rfl (op_indexAddr slHash rfl (v := v) (xs := bys L) rfl (k := k) rfl (by exact hS.rd hv) hlk) ?_; go_frame)
          | (show wpList _ _ _ (⟨some 23, .load _ _, _, _, _, _⟩ :: _) _ _; refine wpList_val rfl (op_loadE aggHash rfl (v := v) (xs := bys L) (k := k) rfl (by exact hS.rd hv) hlk) ?_; rw [HX.out]; go_frame)
          | (show wpList _ _ _ (⟨_, .alloc 28, _, _, _, _⟩ :: _) _ _; refine wpS_alloc hS rfl rfl Try.zeroValue28 (zs := List.replicate 32 (.int .u8 0)) rfl ?_; clear hS; intro nb w hS; go_frame)
          | (show wpList _ _ _ (⟨_, .store 28 _ _, _, _, _, _⟩ :: _) _ _; (refine wpS_storeAll aggHash (hS.bring (by repeat (first | exact t0 | apply tS))) rfl rfl rfl (vs := i.map B8) rfl HI32.out (flat_B8 _) (by simp) ?_); clear hS; intro w hS; go_frame)
          | (show wpList _ _ _ (⟨_, .load 28 _, _, _, _, _⟩ :: _) _ _; refine wpList_val rfl (op_load aggHash rfl rfl ((hS.bring (by repeat (first | exact t0 | apply tS))).getBlk.cells) HI32.out) ?_; go_frame)
          | (go_at_call 11; with_reducible refine Ret.calls (C1 (nb := nb) (by exact hS.sel (by repeat (first | exact Sel.refl | refine Sel.take (by repeat (first | exact t0 | apply tS)) ?_ | apply Sel.drop)))) ?_; clear hS; rintro r w ⟨rfl, hS⟩)
          | (go_at_call 11; with_reducible refine Ret.calls (C2 (nb := nb) (by exact hS.sel (by repeat (first | exact Sel.refl | refine Sel.take (by repeat (first | exact t0 | apply tS)) ?_ | apply Sel.drop)))) ?_; clear hS; rintro r w ⟨rfl, hS⟩)
          )
        go_roundw
        case rel => exact ⟨k + 1, _, by go_num, by omega, HOK2, H122, hS.sel (by repeat (first | exact Sel.refl | refine Sel.take (by repeat (first | exact t0 | apply tS)) ?_ | apply Sel.drop))⟩
        case measure => simp [intOf]; omega
      · have hk2 : k = L.length := by omega
        subst hk2
        have h1 := H12.out
        have HOK2 := hide (late_ok HOK.out hn)
        obtain ⟨n, hnn⟩ : ∃ n, B.length = n := ⟨_, rfl⟩
        have HA0 : Hid (((allB B).map wC).length = n) := by simp [Hid, allB, hnn]
        by_cases hlate : laterN t [30] ≤ now
        · obtain ⟨e1, e2⟩ := late_all h1 hlate
          have HA1 : Hid (((allB (eachB (lateOn now) now B)).map wC).length = n) := by simp [Hid, allB, e1, hnn]
          have HW1 : Hid (((eachW (lateOn now) B).map wC).length = n) := by simp [Hid, e2, hnn]
          by_cases hbig : 18446744073709551585 < now
          · have T4 : Hid (decide (18446744073709551585 < now) = true) := decT hbig
            by_cases h30 : t + 30 ≤ now
            · have T1 : Hid (decide (now < t) = false) := decF (by omega)
              have TS : Hid (t ≤ now) := by unfold Hid; omega
              have T2 : Hid (decide (now - t < 30) = false) := decF (by omega)
              have T5 : Hid (decide (30 ≤ now - t) = true) := decT (by omega)
              clear h1 e1 e2 hlate hbig h30 hnn
              go_wp2_with (first
                | go_big_skip
                | (go_at_call 12; first | (refine Ret.calls (all_s (B := B) (F := []) hS HOK.out) ?_; clear hS; rintro r4 w hS) | (refine Ret.calls (all_s (B := eachB (lateOn now) now B) (F := []) hS.tail HOK2.out) ?_; clear hS; rintro r5 w hS))
                | (go_at_call 13; first | (refine Ret.calls (late_s (B := B) (F := []) hS.tail HOK.out hn) ?_; clear hS; rintro r1 w hS) | (refine Ret.calls (late_s (B := eachB (lateOn now) now B) (F := []) hS.tail HOK2.out hn) ?_; clear hS; rintro r6 w hS; rw [HL2.out] at hS))
                | (show wpList _ _ _ (⟨some 35, .call _, _, _, _, _⟩ :: _) _ _; refine wpList_val rfl (op_len slWant rfl rfl (v := r4) rfl ((hS.bring (by repeat (first | exact t0 | apply tS))).getOwn.rd)) ?_; rw [HA0.out]; go_frame)
                | (show wpList _ _ _ (⟨some 53, .call _, _, _, _, _⟩ :: _) _ _; refine wpList_val rfl (op_len slWant rfl rfl (v := r1) rfl ((hS.bring (by repeat (first | exact t0 | apply tS))).getOwn.rd)) ?_; rw [HW1.out]; go_frame)
                | (show wpList _ _ _ (⟨some 67, .call _, _, _, _, _⟩ :: _) _ _; refine wpList_val rfl (op_len slWant rfl rfl (v := r1) rfl ((hS.bring (by repeat (first | exact t0 | apply tS))).getOwn.rd)) ?_; rw [HW1.out]; go_frame)
                | (show wpList _ _ _ (⟨some 58, .call _, _, _, _, _⟩ :: _) _ _; refine wpList_val rfl (op_len slWant rfl rfl (v := r5) rfl ((hS.bring (by repeat (first | exact t0 | apply tS))).getOwn.rd)) ?_; rw [HA1.out]; go_frame)
                | (show wpList _ _ _ (⟨some 82, .call _, _, _, _, _⟩ :: _) _ _; refine wpList_val rfl (op_len slWant rfl rfl (v := r5) rfl ((hS.bring (by repeat (first | exact t0 | apply tS))).getOwn.rd)) ?_; rw [HA1.out]; go_frame)
                | (show wpList _ _ _ (⟨some 77, .call _, _, _, _, _⟩ :: _) _ _; refine wpList_val rfl (op_len slWant rfl rfl (v := r6) rfl ((hS.bring (by repeat (first | exact t0 | apply tS))).getOwn.rd)) ?_; rw [HW2.out]; go_frame)
                | (show wpList _ _ _ (⟨some 41, .binOp _ _ _ _ _, _, _, _, _⟩ :: _) _ _; refine wpList_val rfl (opU_lss rfl rfl rfl T1.out) ?_; go_frame)
                | (show wpList _ _ _ (⟨some 45, .binOp _ _ _ _ _, _, _, _, _⟩ :: _) _ _; refine wpList_val rfl (opU_sub rfl rfl rfl TS.out hn) ?_; go_frame)
                | (show wpList _ _ _ (⟨some 46, .binOp _ _ _ _ _, _, _, _, _⟩ :: _) _ _; refine wpList_val rfl (opU_lss (b := 30) rfl rfl rfl T2.out) ?_; go_frame)
                | (show wpList _ _ _ (⟨some 49, .binOp _ _ _ _ _, _, _, _, _⟩ :: _) _ _; refine wpList_val rfl (opU_leq (b := 18446744073709551585) rfl rfl rfl T3.out) ?_; go_frame)
                | (show wpList _ _ _ (⟨some 64, .binOp _ _ _ _ _, _, _, _, _⟩ :: _) _ _; refine wpList_val rfl (opU_sub rfl rfl rfl TS.out hn) ?_; go_frame)
                | (show wpList _ _ _ (⟨some 65, .binOp _ _ _ _ _, _, _, _, _⟩ :: _) _ _; refine wpList_val rfl (opU_geq (b := 30) rfl rfl rfl T5.out) ?_; go_frame)
                | (show wpList _ _ _ (⟨some 72, .binOp _ _ _ _ _, _, _, _, _⟩ :: _) _ _; refine wpList_val rfl (opU_gtr (b := 18446744073709551585) rfl rfl rfl T4.out) ?_; go_frame)
                )
              go_ret
              exact ⟨rfl, hS.chg⟩
            · unfold laterN at hlate
              simp at hlate
              have T1 : Hid (decide (now < t) = false) := decF (by omega)
              have TS : Hid (t ≤ now) := by unfold Hid; omega
              have T2 : Hid (decide (now - t < 30) = true) := decT (by omega)
              have T3 : Hid (decide (t ≤ 18446744073709551585) = false) := decF (by omega)
              have T5 : Hid (decide (30 ≤ now - t) = false) := decF (by omega)
              clear h1 e1 e2 hlate hbig h30 hnn
              go_wp2_with (first
                | go_big_skip
                | (go_at_call 12; first | (refine Ret.calls (all_s (B := B) (F := []) hS HOK.out) ?_; clear hS; rintro r4 w hS) | (refine Ret.calls (all_s (B := eachB (lateOn now) now B) (F := []) hS.tail HOK2.out) ?_; clear hS; rintro r5 w hS))
                | (go_at_call 13; first | (refine Ret.calls (late_s (B := B) (F := []) hS.tail HOK.out hn) ?_; clear hS; rintro r1 w hS) | (refine Ret.calls (late_s (B := eachB (lateOn now) now B) (F := []) hS.tail HOK2.out hn) ?_; clear hS; rintro r6 w hS; rw [HL2.out] at hS))
                | (show wpList _ _ _ (⟨some 35, .call _, _, _, _, _⟩ :: _) _ _; refine wpList_val rfl (op_len slWant rfl rfl (v := r4) rfl ((hS.bring (by repeat (first | exact t0 | apply tS))).getOwn.rd)) ?_; rw [HA0.out]; go_frame)
                | (show wpList _ _ _ (⟨some 53, .call _, _, _, _, _⟩ :: _) _ _; refine wpList_val rfl (op_len slWant rfl rfl (v := r1) rfl ((hS.bring (by repeat (first | exact t0 | apply tS))).getOwn.rd)) ?_; rw [HW1.out]; go_frame)
                | (show wpList _ _ _ (⟨some 67, .call _, _, _, _, _⟩ :: _) _ _; refine wpList_val rfl (op_len slWant rfl rfl (v := r1) rfl ((hS.bring (by repeat (first | exact t0 | apply tS))).getOwn.rd)) ?_; rw [HW1.out]; go_frame)
                | (show wpList _ _ _ (⟨some 58, .call _, _, _, _, _⟩ :: _) _ _; refine wpList_val rfl (op_len slWant rfl rfl (v := r5) rfl ((hS.bring (by repeat (first | exact t0 | apply tS))).getOwn.rd)) ?_; rw [HA1.out]; go_frame)
                | (show wpList _ _ _ (⟨some 82, .call _, _, _, _, _⟩ :: _) _ _; refine wpList_val rfl (op_len slWant rfl rfl (v := r5) rfl ((hS.bring (by repeat (first | exact t0 | apply tS))).getOwn.rd)) ?_; rw [HA1.out]; go_frame)
                | (show wpList _ _ _ (⟨some 77, .call _, _, _, _, _⟩ :: _) _ _; refine wpList_val rfl (op_len slWant rfl rfl (v := r6) rfl ((hS.bring (by repeat (first | exact t0 | apply tS))).getOwn.rd)) ?_; rw [HW2.out]; go_frame)
                | (show wpList _ _ _ (⟨some 41, .binOp _ _ _ _ _, _, _, _, _⟩ :: _) _ _; refine wpList_val rfl (opU_lss rfl rfl rfl T1.out) ?_; go_frame)
                | (show wpList _ _ _ (⟨some 45, .binOp _ _ _ _ _, _, _, _, _⟩ :: _) _ _; refine wpList_val rfl (opU_sub rfl rfl rfl TS.out hn) ?_; go_frame)
                | (show wpList _ _ _ (⟨some 46, .binOp _ _ _ _ _, _, _, _, _⟩ :: _) _ _; refine wpList_val rfl (opU_lss (b := 30) rfl rfl rfl T2.out) ?_; go_frame)
                | (show wpList _ _ _ (⟨some 49, .binOp _ _ _ _ _, _, _, _, _⟩ :: _) _ _; refine wpList_val rfl (opU_leq (b := 18446744073709551585) rfl rfl rfl T3.out) ?_; go_frame)
                | (show wpList _ _ _ (⟨some 64, .binOp _ _ _ _ _, _, _, _, _⟩ :: _) _ _; refine wpList_val rfl (opU_sub rfl rfl rfl TS.out hn) ?_; go_frame)
                | (show wpList _ _ _ (⟨some 65, .binOp _ _ _ _ _, _, _, _, _⟩ :: _) _ _; refine wpList_val rfl (opU_geq (b := 30) rfl rfl rfl T5.out) ?_; go_frame)
                | (show wpList _ _ _ (⟨some 72, .binOp _ _ _ _ _, _, _, _, _⟩ :: _) _ _; refine wpList_val rfl (opU_gtr (b := 18446744073709551585) rfl rfl rfl T4.out) ?_; go_frame)
                )
              go_ret
              exact ⟨rfl, hS.chg⟩
          · have T4 : Hid (decide (18446744073709551585 < now) = false) := decF hbig
            unfold laterN at hlate
            simp at hlate
            have hno : ∀ e ∈ eachB (lateOn now) now B, ¬ laterN e.since [30] ≤ now := by
              rw [e1]
              intro e he
              obtain ⟨x, _, rfl⟩ := List.mem_map.1 he
              simp [laterN]
              omega
            obtain ⟨f1, f2⟩ := late_none hno
            have HL2 := hide f1
            have HW2 : Hid (((eachW (lateOn now) (eachB (lateOn now) now B)).map wC).length = 0) := by simp [Hid, f2]
            have T1 : Hid (decide (now < t) = false) := decF (by omega)
            have TS : Hid (t ≤ now) := by unfold Hid; omega
            have T2 : Hid (decide (now - t < 30) = false) := decF (by omega)
            have T5 : Hid (decide (30 ≤ now - t) = true) := decT (by omega)
            clear h1 e1 e2 f1 f2 hno hlate hbig hnn
            go_wp2_with (first
              | go_big_skip
              | (go_at_call 12; first | (refine Ret.calls (all_s (B := B) (F := []) hS HOK.out) ?_; clear hS; rintro r4 w hS) | (refine Ret.calls (all_s (B := eachB (lateOn now) now B) (F := []) hS.tail HOK2.out) ?_; clear hS; rintro r5 w hS))
              | (go_at_call 13; first | (refine Ret.calls (late_s (B := B) (F := []) hS.tail HOK.out hn) ?_; clear hS; rintro r1 w hS) | (refine Ret.calls (late_s (B := eachB (lateOn now) now B) (F := []) hS.tail HOK2.out hn) ?_; clear hS; rintro r6 w hS; rw [HL2.out] at hS))
              | (show wpList _ _ _ (⟨some 35, .call _, _, _, _, _⟩ :: _) _ _; refine wpList_val rfl (op_len slWant rfl rfl (v := r4) rfl ((hS.bring (by repeat (first | exact t0 | apply tS))).getOwn.rd)) ?_; rw [HA0.out]; go_frame)
              | (show wpList _ _ _ (⟨some 53, .call _, _, _, _, _⟩ :: _) _ _; refine wpList_val rfl (op_len slWant rfl rfl (v := r1) rfl ((hS.bring (by repeat (first | exact t0 | apply tS))).getOwn.rd)) ?_; rw [HW1.out]; go_frame)
              | (show wpList _ _ _ (⟨some 67, .call _, _, _, _, _⟩ :: _) _ _; refine wpList_val rfl (op_len slWant rfl rfl (v := r1) rfl ((hS.bring (by repeat (first | exact t0 | apply tS))).getOwn.rd)) ?_; rw [HW1.out]; go_frame)
              | (show wpList _ _ _ (⟨some 58, .call _, _, _, _, _⟩ :: _) _ _; refine wpList_val rfl (op_len slWant rfl rfl (v := r5) rfl ((hS.bring (by repeat (first | exact t0 | apply tS))).getOwn.rd)) ?_; rw [HA1.out]; go_frame)
              | (show wpList _ _ _ (⟨some 82, .call _, _, _, _, _⟩ :: _) _ _; refine wpList_val rfl (op_len slWant rfl rfl (v := r5) rfl ((hS.bring (by repeat (first | exact t0 | apply tS))).getOwn.rd)) ?_; rw [HA1.out]; go_frame)
              | (show wpList _ _ _ (⟨some 77, .call _, _, _, _, _⟩ :: _) _ _; refine wpList_val rfl (op_len slWant rfl rfl (v := r6) rfl ((hS.bring (by repeat (first | exact t0 | apply tS))).getOwn.rd)) ?_; rw [HW2.out]; go_frame)
              | (show wpList _ _ _ (⟨some 41, .binOp _ _ _ _ _, _, _, _, _⟩ :: _) _ _; refine wpList_val rfl (opU_lss rfl rfl rfl T1.out) ?_; go_frame)
              | (show wpList _ _ _ (⟨some 45, .binOp _ _ _ _ _, _, _, _, _⟩ :: _) _ _; refine wpList_val rfl (opU_sub rfl rfl rfl TS.out hn) ?_; go_frame)
              | (show wpList _ _ _ (⟨some 46, .binOp _ _ _ _ _, _, _, _, _⟩ :: _) _ _; refine wpList_val rfl (opU_lss (b := 30) rfl rfl rfl T2.out) ?_; go_frame)
              | (show wpList _ _ _ (⟨some 49, .binOp _ _ _ _ _, _, _, _, _⟩ :: _) _ _; refine wpList_val rfl (opU_leq (b := 18446744073709551585) rfl rfl rfl T3.out) ?_; go_frame)
              | (show wpList _ _ _ (⟨some 64, .binOp _ _ _ _ _, _, _, _, _⟩ :: _) _ _; refine wpList_val rfl (opU_sub rfl rfl rfl TS.out hn) ?_; go_frame)
              | (show wpList _ _ _ (⟨some 65, .binOp _ _ _ _ _, _, _, _, _⟩ :: _) _ _; refine wpList_val rfl (opU_geq (b := 30) rfl rfl rfl T5.out) ?_; go_frame)
              | (show wpList _ _ _ (⟨some 72, .binOp _ _ _ _ _, _, _, _, _⟩ :: _) _ _; refine wpList_val rfl (opU_gtr (b := 18446744073709551585) rfl rfl rfl T4.out) ?_; go_frame)
              )
            go_ret
            exact ⟨rfl, hS.chg⟩
        · have hno : ∀ e ∈ B, ¬ laterN e.since [30] ≤ now := fun e he => by rw [(h1 e he).2.2]; exact hlate
          obtain ⟨f1, f2⟩ := late_none hno
          have HA1 : Hid (((allB (eachB (lateOn now) now B)).map wC).length = n) := by simp [Hid, allB, f1, hnn]
          have HW1 : Hid (((eachW (lateOn now) B).map wC).length = 0) := by simp [Hid, f2]
          unfold laterN at hlate
          simp at hlate
          by_cases hlt : now < t
          · have T1 : Hid (decide (now < t) = true) := decT hlt
            clear h1 f1 f2 hno hlate hlt hnn
            go_wp2_with (first
              | go_big_skip
              | (go_at_call 12; first | (refine Ret.calls (all_s (B := B) (F := []) hS HOK.out) ?_; clear hS; rintro r4 w hS) | (refine Ret.calls (all_s (B := eachB (lateOn now) now B) (F := []) hS.tail HOK2.out) ?_; clear hS; rintro r5 w hS))
              | (go_at_call 13; first | (refine Ret.calls (late_s (B := B) (F := []) hS.tail HOK.out hn) ?_; clear hS; rintro r1 w hS) | (refine Ret.calls (late_s (B := eachB (lateOn now) now B) (F := []) hS.tail HOK2.out hn) ?_; clear hS; rintro r6 w hS; rw [HL2.out] at hS))
              | (show wpList _ _ _ (⟨some 35, .call _, _, _, _, _⟩ :: _) _ _; refine wpList_val rfl (op_len slWant rfl rfl (v := r4) rfl ((hS.bring (by repeat (first | exact t0 | apply tS))).getOwn.rd)) ?_; rw [HA0.out]; go_frame)
              | (show wpList _ _ _ (⟨some 53, .call _, _, _, _, _⟩ :: _) _ _; refine wpList_val rfl (op_len slWant rfl rfl (v := r1) rfl ((hS.bring (by repeat (first | exact t0 | apply tS))).getOwn.rd)) ?_; rw [HW1.out]; go_frame)
              | (show wpList _ _ _ (⟨some 67, .call _, _, _, _, _⟩ :: _) _ _; refine wpList_val rfl (op_len slWant rfl rfl (v := r1) rfl ((hS.bring (by repeat (first | exact t0 | apply tS))).getOwn.rd)) ?_; rw [HW1.out]; go_frame)
              | (show wpList _ _ _ (⟨some 58, .call _, _, _, _, _⟩ :: _) _ _; refine wpList_val rfl (op_len slWant rfl rfl (v := r5) rfl ((hS.bring (by repeat (first | exact t0 | apply tS))).getOwn.rd)) ?_; rw [HA1.out]; go_frame)
              | (show wpList _ _ _ (⟨some 82, .call _, _, _, _, _⟩ :: _) _ _; refine wpList_val rfl (op_len slWant rfl rfl (v := r5) rfl ((hS.bring (by repeat (first | exact t0 | apply tS))).getOwn.rd)) ?_; rw [HA1.out]; go_frame)
              | (show wpList _ _ _ (⟨some 77, .call _, _, _, _, _⟩ :: _) _ _; refine wpList_val rfl (op_len slWant rfl rfl (v := r6) rfl ((hS.bring (by repeat (first | exact t0 | apply tS))).getOwn.rd)) ?_; rw [HW2.out]; go_frame)
              | (show wpList _ _ _ (⟨some 41, .binOp _ _ _ _ _, _, _, _, _⟩ :: _) _ _; refine wpList_val rfl (opU_lss rfl rfl rfl T1.out) ?_; go_frame)
              | (show wpList _ _ _ (⟨some 45, .binOp _ _ _ _ _, _, _, _, _⟩ :: _) _ _; refine wpList_val rfl (opU_sub rfl rfl rfl TS.out hn) ?_; go_frame)
              | (show wpList _ _ _ (⟨some 46, .binOp _ _ _ _ _, _, _, _, _⟩ :: _) _ _; refine wpList_val rfl (opU_lss (b := 30) rfl rfl rfl T2.out) ?_; go_frame)
              | (show wpList _ _ _ (⟨some 49, .binOp _ _ _ _ _, _, _, _, _⟩ :: _) _ _; refine wpList_val rfl (opU_leq (b := 18446744073709551585) rfl rfl rfl T3.out) ?_; go_frame)
              | (show wpList _ _ _ (⟨some 64, .binOp _ _ _ _ _, _, _, _, _⟩ :: _) _ _; refine wpList_val rfl (opU_sub rfl rfl rfl TS.out hn) ?_; go_frame)
              | (show wpList _ _ _ (⟨some 65, .binOp _ _ _ _ _, _, _, _, _⟩ :: _) _ _; refine wpList_val rfl (opU_geq (b := 30) rfl rfl rfl T5.out) ?_; go_frame)
              | (show wpList _ _ _ (⟨some 72, .binOp _ _ _ _ _, _, _, _, _⟩ :: _) _ _; refine wpList_val rfl (opU_gtr (b := 18446744073709551585) rfl rfl rfl T4.out) ?_; go_frame)
              )
            go_ret
            exact ⟨rfl, hS.chg⟩
          · have T1 : Hid (decide (now < t) = false) := decF hlt
            have TS : Hid (t ≤ now) := by unfold Hid; omega
            have T2 : Hid (decide (now - t < 30) = true) := decT (by omega)
            by_cases ht3 : t ≤ 18446744073709551585
            · have T3 : Hid (decide (t ≤ 18446744073709551585) = true) := decT ht3
              clear h1 f1 f2 hno hlate hlt hnn ht3
              go_wp2_with (first
                | go_big_skip
                | (go_at_call 12; first | (refine Ret.calls (all_s (B := B) (F := []) hS HOK.out) ?_; clear hS; rintro r4 w hS) | (refine Ret.calls (all_s (B := eachB (lateOn now) now B) (F := []) hS.tail HOK2.out) ?_; clear hS; rintro r5 w hS))
                | (go_at_call 13; first | (refine Ret.calls (late_s (B := B) (F := []) hS.tail HOK.out hn) ?_; clear hS; rintro r1 w hS) | (refine Ret.calls (late_s (B := eachB (lateOn now) now B) (F := []) hS.tail HOK2.out hn) ?_; clear hS; rintro r6 w hS; rw [HL2.out] at hS))
                | (show wpList _ _ _ (⟨some 35, .call _, _, _, _, _⟩ :: _) _ _; refine wpList_val rfl (op_len slWant rfl rfl (v := r4) rfl ((hS.bring (by repeat (first | exact t0 | apply tS))).getOwn.rd)) ?_; rw [HA0.out]; go_frame)
                | (show wpList _ _ _ (⟨some 53, .call _, _, _, _, _⟩ :: _) _ _; refine wpList_val rfl (op_len slWant rfl rfl (v := r1) rfl ((hS.bring (by repeat (first | exact t0 | apply tS))).getOwn.rd)) ?_; rw [HW1.out]; go_frame)
                | (show wpList _ _ _ (⟨some 67, .call _, _, _, _, _⟩ :: _) _ _; refine wpList_val rfl (op_len slWant rfl rfl (v := r1) rfl ((hS.bring (by repeat (first | exact t0 | apply tS))).getOwn.rd)) ?_; rw [HW1.out]; go_frame)
                | (show wpList _ _ _ (⟨some 58, .call _, _, _, _, _⟩ :: _) _ _; refine wpList_val rfl (op_len slWant rfl rfl (v := r5) rfl ((hS.bring (by repeat (first | exact t0 | apply tS))).getOwn.rd)) ?_; rw [HA1.out]; go_frame)
                | (show wpList _ _ _ (⟨some 82, .call _, _, _, _, _⟩ :: _) _ _; refine wpList_val rfl (op_len slWant rfl rfl (v := r5) rfl ((hS.bring (by repeat (first | exact t0 | apply tS))).getOwn.rd)) ?_; rw [HA1.out]; go_frame)
                | (show wpList _ _ _ (⟨some 77, .call _, _, _, _, _⟩ :: _) _ _; refine wpList_val rfl (op_len slWant rfl rfl (v := r6) rfl ((hS.bring (by repeat (first | exact t0 | apply tS))).getOwn.rd)) ?_; rw [HW2.out]; go_frame)
                | (show wpList _ _ _ (⟨some 41, .binOp _ _ _ _ _, _, _, _, _⟩ :: _) _ _; refine wpList_val rfl (opU_lss rfl rfl rfl T1.out) ?_; go_frame)
                | (show wpList _ _ _ (⟨some 45, .binOp _ _ _ _ _, _, _, _, _⟩ :: _) _ _; refine wpList_val rfl (opU_sub rfl rfl rfl TS.out hn) ?_; go_frame)
                | (show wpList _ _ _ (⟨some 46, .binOp _ _ _ _ _, _, _, _, _⟩ :: _) _ _; refine wpList_val rfl (opU_lss (b := 30) rfl rfl rfl T2.out) ?_; go_frame)
                | (show wpList _ _ _ (⟨some 49, .binOp _ _ _ _ _, _, _, _, _⟩ :: _) _ _; refine wpList_val rfl (opU_leq (b := 18446744073709551585) rfl rfl rfl T3.out) ?_; go_frame)
                | (show wpList _ _ _ (⟨some 64, .binOp _ _ _ _ _, _, _, _, _⟩ :: _) _ _; refine wpList_val rfl (opU_sub rfl rfl rfl TS.out hn) ?_; go_frame)
                | (show wpList _ _ _ (⟨some 65, .binOp _ _ _ _ _, _, _, _, _⟩ :: _) _ _; refine wpList_val rfl (opU_geq (b := 30) rfl rfl rfl T5.out) ?_; go_frame)
                | (show wpList _ _ _ (⟨some 72, .binOp _ _ _ _ _, _, _, _, _⟩ :: _) _ _; refine wpList_val rfl (opU_gtr (b := 18446744073709551585) rfl rfl rfl T4.out) ?_; go_frame)
                )
              go_ret
              exact ⟨rfl, hS.chg⟩
            · have T3 : Hid (decide (t ≤ 18446744073709551585) = false) := decF ht3
              have T5 : Hid (decide (30 ≤ now - t) = false) := decF (by omega)
              clear h1 f1 f2 hno hlate hlt hnn ht3
              go_wp2_with (first
                | go_big_skip
                | (go_at_call 12; first | (refine Ret.calls (all_s (B := B) (F := []) hS HOK.out) ?_; clear hS; rintro r4 w hS) | (refine Ret.calls (all_s (B := eachB (lateOn now) now B) (F := []) hS.tail HOK2.out) ?_; clear hS; rintro r5 w hS))
                | (go_at_call 13; first | (refine Ret.calls (late_s (B := B) (F := []) hS.tail HOK.out hn) ?_; clear hS; rintro r1 w hS) | (refine Ret.calls (late_s (B := eachB (lateOn now) now B) (F := []) hS.tail HOK2.out hn) ?_; clear hS; rintro r6 w hS; rw [HL2.out] at hS))
                | (show wpList _ _ _ (⟨some 35, .call _, _, _, _, _⟩ :: _) _ _; refine wpList_val rfl (op_len slWant rfl rfl (v := r4) rfl ((hS.bring (by repeat (first | exact t0 | apply tS))).getOwn.rd)) ?_; rw [HA0.out]; go_frame)
                | (show wpList _ _ _ (⟨some 53, .call _, _, _, _, _⟩ :: _) _ _; refine wpList_val rfl (op_len slWant rfl rfl (v := r1) rfl ((hS.bring (by repeat (first | exact t0 | apply tS))).getOwn.rd)) ?_; rw [HW1.out]; go_frame)
                | (show wpList _ _ _ (⟨some 67, .call _, _, _, _, _⟩ :: _) _ _; refine wpList_val rfl (op_len slWant rfl rfl (v := r1) rfl ((hS.bring (by repeat (first | exact t0 | apply tS))).getOwn.rd)) ?_; rw [HW1.out]; go_frame)
                | (show wpList _ _ _ (⟨some 58, .call _, _, _, _, _⟩ :: _) _ _; refine wpList_val rfl (op_len slWant rfl rfl (v := r5) rfl ((hS.bring (by repeat (first | exact t0 | apply tS))).getOwn.rd)) ?_; rw [HA1.out]; go_frame)
                | (show wpList _ _ _ (⟨some 82, .call _, _, _, _, _⟩ :: _) _ _; refine wpList_val rfl (op_len slWant rfl rfl (v := r5) rfl ((hS.bring (by repeat (first | exact t0 | apply tS))).getOwn.rd)) ?_; rw [HA1.out]; go_frame)
                | (show wpList _ _ _ (⟨some 77, .call _, _, _, _, _⟩ :: _) _ _; refine wpList_val rfl (op_len slWant rfl rfl (v := r6) rfl ((hS.bring (by repeat (first | exact t0 | apply tS))).getOwn.rd)) ?_; rw [HW2.out]; go_frame)
                | (show wpList _ _ _ (⟨some 41, .binOp _ _ _ _ _, _, _, _, _⟩ :: _) _ _; refine wpList_val rfl (opU_lss rfl rfl rfl T1.out) ?_; go_frame)
                | (show wpList _ _ _ (⟨some 45, .binOp _ _ _ _ _, _, _, _, _⟩ :: _) _ _; refine wpList_val rfl (opU_sub rfl rfl rfl TS.out hn) ?_; go_frame)
                | (show wpList _ _ _ (⟨some 46, .binOp _ _ _ _ _, _, _, _, _⟩ :: _) _ _; refine wpList_val rfl (opU_lss (b := 30) rfl rfl rfl T2.out) ?_; go_frame)
                | (show wpList _ _ _ (⟨some 49, .binOp _ _ _ _ _, _, _, _, _⟩ :: _) _ _; refine wpList_val rfl (opU_leq (b := 18446744073709551585) rfl rfl rfl T3.out) ?_; go_frame)
                | (show wpList _ _ _ (⟨some 64, .binOp _ _ _ _ _, _, _, _, _⟩ :: _) _ _; refine wpList_val rfl (opU_sub rfl rfl rfl TS.out hn) ?_; go_frame)
                | (show wpList _ _ _ (⟨some 65, .binOp _ _ _ _ _, _, _, _, _⟩ :: _) _ _; refine wpList_val rfl (opU_geq (b := 30) rfl rfl rfl T5.out) ?_; go_frame)
                | (show wpList _ _ _ (⟨some 72, .binOp _ _ _ _ _, _, _, _, _⟩ :: _) _ _; refine wpList_val rfl (opU_gtr (b := 18446744073709551585) rfl rfl rfl T4.out) ?_; go_frame)
                )
              go_ret
              exact ⟨rfl, hS.chg⟩
end Go.Proofs.Ytafpdpcbckpkjaa
