/- The document's set: is an id among others, are two lists alike, one more is known. Conditions: those that stand ahead of each theorem. -/
import Derived.Test.YtffagjkjeojaaaaQE
namespace Go.Proofs.Ytffagjkjeojaaaa
open Go.RowKit Go.Px
set_option maxRecDepth 100000 in
set_option maxHeartbeats 2000000 in
theorem has11_w {v : Value} {l : List Id} {x : Id} {w : World} (hv : Rd 32 w v (bys l)) (hl : Is32 l) (hx : x.length = 32) {b : Bool} (hb : Hid (decide (x ∈ l) = b)) :
    Calls Try.prog 25 #[v, HV x] w (Ret fun r w' => r = .bool b ∧ Chg No w w') := by
  have hS := SepL.start w
  have hw := RdIn.of hv
  have HL : Hid ((bys l).length = l.length) := bys_length l
  have hmax := hv.len
  rw [HL.out] at hmax
  unfold maxLen at hmax
  have HX32 : Hid ((x.map B8).length = 32) := by simp [Hid, hx]
  have HXL := hide hx
  have HLL := hide hl
  clear hv hx hl
  unfold HV
  go_enter Try.func25, Try.ntmps25
  go_wp2_with (first
    | (show wpList _ _ _ (⟨_, .call ⟨.builtin .len, _, _⟩, _, _, _, _⟩ :: _) _ _; refine wpList_val rfl (op_len slHash rfl rfl (v := v) (xs := bys l) rfl (by exact hS.rd hw)) ?_; rw [HL.out]; go_frame)
    | (show wpList _ _ _ (⟨_, .box _ _, _, _, _, _⟩ :: _) _ _; refine wpS_boxA (cs := x.map B8) hS rfl rfl rfl ?_; clear hS; intro n3 w1 hS; go_frame)
    | (show wpList _ _ _ (⟨some 11, .indexAddr _ _ _, _, _, _, _⟩ :: _) _ _; refine wpList_val rfl (op_indexAddr slHash rfl (v := v) (xs := bys l) rfl (k := k) rfl (by exact hS.rd hw) hlt') ?_; go_frame)
    | (show wpList _ _ _ (⟨some 12, .load _ _, _, _, _, _⟩ :: _) _ _; refine wpList_val rfl (op_loadE aggHash rfl (v := v) (xs := bys l) (k := k) rfl (by exact hS.rd hw) hlt') ?_; rw [HX.out]; go_frame)
    | (show wpList _ _ _ (⟨_, .alloc _, _, _, _, _⟩ :: _) _ _; refine wpS_alloc hS rfl rfl Try.zeroValue24 (zs := List.replicate 32 (.int .u8 0)) rfl ?_; clear hS; intro nb w hS; go_frame)
    | (show wpList _ _ _ (⟨_, .store 24 _ _, _, _, _, _⟩ :: _) _ _; (refine wpS_storeAll (b := nb) aggHash (hS.bring (by repeat (first | exact t0 | apply tS))) rfl rfl rfl (vs := y.map B8) rfl HY32.out (flat_B8 y) rfl ?_); clear hS; intro w hS; go_frame)
    | (show wpList _ _ _ (⟨some 13, .load _ _, _, _, _, _⟩ :: _) _ _; refine wpList_val rfl (op_load aggHash rfl rfl (SepL.getBlk (b := nb) (T := 24) ((hS.bring (by repeat (first | exact t0 | apply tS))))).cells HY32.out) ?_; go_frame)
    | (show wpList _ _ _ (⟨some 14, .load _ _, _, _, _, _⟩ :: _) _ _; refine wpList_val rfl (op_load aggHash rfl rfl (SepL.getBlk (b := n3) (T := 24) ((hS.bring (by repeat (first | exact t0 | apply tS))))).cells HX32.out) ?_; go_frame)
    | (show wpList _ _ _ (⟨some 15, .binOp _ _ _ _ _, _, _, _, _⟩ :: _) _ _; refine wpList_val rfl (op_eql keyHash rfl rfl rfl KY KX) ?_; rw [HE.out]; go_frame)
    )
  go_loopw [9] (fun i wr => ∃ k : Nat, i = .int .i64 k ∧ k ≤ l.length ∧ Hid (x ∉ l.take k) ∧ SepL All w wr [.blk n3 24 (x.map B8)]) (fun i _ => l.length - (intOf i).toNat)
  case atStart => exact ⟨0, rfl, by omega, by simp [Hid], hS⟩
  case round =>
    clear hS
    obtain ⟨k, rfl, hk, HNO, hS⟩ := hrel
    by_cases hlt : k < l.length
    · have hlt' : k < (bys l).length := by rw [HL.out]; exact hlt
      obtain ⟨y, hy⟩ : ∃ y, l[k] = y := ⟨_, rfl⟩
      have hyl : y.length = 32 := by rw [← hy]; exact HLL.out _ (List.getElem_mem hlt)
      have HX : Hid ((bys l)[k] = y.map B8) := by
        unfold Hid
        rw [bys_get hlt' hlt, hy]
      have HY32 : Hid ((y.map B8).length = 32) := by simp [Hid, hyl]
      have KX := isKey HXL.out
      have KY := isKey hyl
      unfold HV at KX KY
      by_cases he : y = x
      · have HE : Hid (eqv (.agg (y.map B8).toArray) (.agg (x.map B8).toArray) = true) := (HV_eqv y x).trans (decide_eq_true he)
        have HR : Hid (b = true) := by
          unfold Hid
          rw [← hb.out]
          exact decide_eq_true (by rw [← he, ← hy]; exact List.getElem_mem hlt)
        clear he hy hyl
        go_wp2_with (first
          | (show wpList _ _ _ (⟨_, .call ⟨.builtin .len, _, _⟩, _, _, _, _⟩ :: _) _ _; refine wpList_val rfl (op_len slHash rfl rfl (v := v) (xs := bys l) rfl (by exact hS.rd hw)) ?_; rw [HL.out]; go_frame)
          | (show wpList _ _ _ (⟨_, .box _ _, _, _, _, _⟩ :: _) _ _; refine wpS_boxA (cs := x.map B8) hS rfl rfl rfl ?_; clear hS; intro n3 w1 hS; go_frame)
          | (show wpList _ _ _ (⟨some 11, .indexAddr _ _ _, _, _, _, _⟩ :: _) _ _; refine wpList_val rfl (op_indexAddr slHash rfl (v := v) (xs := bys l) rfl (k := k) rfl (by exact hS.rd hw) hlt') ?_; go_frame)
          | (show wpList _ _ _ (⟨some 12, .load _ _, _, _, _, _⟩ :: _) _ _; refine wpList_val rfl (op_loadE aggHash rfl (v := v) (xs := bys l) (k := k) rfl (by exact hS.rd hw) hlt') ?_; rw [HX.out]; go_frame)
          | (show wpList _ _ _ (⟨_, .alloc _, _, _, _, _⟩ :: _) _ _; refine wpS_alloc hS rfl rfl Try.zeroValue24 (zs := List.replicate 32 (.int .u8 0)) rfl ?_; clear hS; intro nb w hS; go_frame)
          | (show wpList _ _ _ (⟨_, .store 24 _ _, _, _, _, _⟩ :: _) _ _; (refine wpS_storeAll (b := nb) aggHash (hS.bring (by repeat (first | exact t0 | apply tS))) rfl rfl rfl (vs := y.map B8) rfl HY32.out (flat_B8 y) rfl ?_); clear hS; intro w hS; go_frame)
          | (show wpList _ _ _ (⟨some 13, .load _ _, _, _, _, _⟩ :: _) _ _; refine wpList_val rfl (op_load aggHash rfl rfl (SepL.getBlk (b := nb) (T := 24) ((hS.bring (by repeat (first | exact t0 | apply tS))))).cells HY32.out) ?_; go_frame)
          | (show wpList _ _ _ (⟨some 14, .load _ _, _, _, _, _⟩ :: _) _ _; refine wpList_val rfl (op_load aggHash rfl rfl (SepL.getBlk (b := n3) (T := 24) ((hS.bring (by repeat (first | exact t0 | apply tS))))).cells HX32.out) ?_; go_frame)
          | (show wpList _ _ _ (⟨some 15, .binOp _ _ _ _ _, _, _, _, _⟩ :: _) _ _; refine wpList_val rfl (op_eql keyHash rfl rfl rfl KY KX) ?_; rw [HE.out]; go_frame)
          )
        go_ret
        exact ⟨by rw [HR.out]; rfl, hS.chg⟩
      · have HE : Hid (eqv (.agg (y.map B8).toArray) (.agg (x.map B8).toArray) = false) := (HV_eqv y x).trans (decide_eq_false he)
        have HN2 : Hid (x ∉ l.take (k + 1)) := by
          unfold Hid
          rw [List.take_succ_eq_append_getElem hlt, hy, List.mem_append, List.mem_singleton]
          rintro (h | h)
          · exact HNO.out h
          · exact he h.symm
        clear he hy hyl
        go_wp2_with (first
          | (show wpList _ _ _ (⟨_, .call ⟨.builtin .len, _, _⟩, _, _, _, _⟩ :: _) _ _; refine wpList_val rfl (op_len slHash rfl rfl (v := v) (xs := bys l) rfl (by exact hS.rd hw)) ?_; rw [HL.out]; go_frame)
          | (show wpList _ _ _ (⟨_, .box _ _, _, _, _, _⟩ :: _) _ _; refine wpS_boxA (cs := x.map B8) hS rfl rfl rfl ?_; clear hS; intro n3 w1 hS; go_frame)
          | (show wpList _ _ _ (⟨some 11, .indexAddr _ _ _, _, _, _, _⟩ :: _) _ _; refine wpList_val rfl (op_indexAddr slHash rfl (v := v) (xs := bys l) rfl (k := k) rfl (by exact hS.rd hw) hlt') ?_; go_frame)
          | (show wpList _ _ _ (⟨some 12, .load _ _, _, _, _, _⟩ :: _) _ _; refine wpList_val rfl (op_loadE aggHash rfl (v := v) (xs := bys l) (k := k) rfl (by exact hS.rd hw) hlt') ?_; rw [HX.out]; go_frame)
          | (show wpList _ _ _ (⟨_, .alloc _, _, _, _, _⟩ :: _) _ _; refine wpS_alloc hS rfl rfl Try.zeroValue24 (zs := List.replicate 32 (.int .u8 0)) rfl ?_; clear hS; intro nb w hS; go_frame)
          | (show wpList _ _ _ (⟨_, .store 24 _ _, _, _, _, _⟩ :: _) _ _; (refine wpS_storeAll (b := nb) aggHash (hS.bring (by repeat (first | exact t0 | apply tS))) rfl rfl rfl (vs := y.map B8) rfl HY32.out (flat_B8 y) rfl ?_); clear hS; intro w hS; go_frame)
          | (show wpList _ _ _ (⟨some 13, .load _ _, _, _, _, _⟩ :: _) _ _; refine wpList_val rfl (op_load aggHash rfl rfl (SepL.getBlk (b := nb) (T := 24) ((hS.bring (by repeat (first | exact t0 | apply tS))))).cells HY32.out) ?_; go_frame)
          | (show wpList _ _ _ (⟨some 14, .load _ _, _, _, _, _⟩ :: _) _ _; refine wpList_val rfl (op_load aggHash rfl rfl (SepL.getBlk (b := n3) (T := 24) ((hS.bring (by repeat (first | exact t0 | apply tS))))).cells HX32.out) ?_; go_frame)
          | (show wpList _ _ _ (⟨some 15, .binOp _ _ _ _ _, _, _, _, _⟩ :: _) _ _; refine wpList_val rfl (op_eql keyHash rfl rfl rfl KY KX) ?_; rw [HE.out]; go_frame)
          )
        go_roundw
        case rel => exact ⟨k + 1, by go_num, by omega, HN2, hS.sel (by repeat (first | exact Sel.refl | refine Sel.take (by repeat (first | exact t0 | apply tS)) ?_ | apply Sel.drop))⟩
        case measure => simp [intOf]; omega
    · have hk2 : k = l.length := by omega
      subst hk2
      have hno := HNO.out
      rw [List.take_length] at hno
      have HR : Hid (b = false) := by
        unfold Hid
        rw [← hb.out]
        exact decide_eq_false hno
      clear hno
      go_wp2_with fail
      go_ret
      exact ⟨by rw [HR.out]; rfl, hS.chg⟩
set_option maxRecDepth 100000 in
set_option maxHeartbeats 2000000 in
theorem sameIds_w {v u : Value} {l m : List Id} {w : World} (hv0 : Rd 32 w v (bys l)) (hu0 : Rd 32 w u (bys m)) (hl0 : Is32 l) (hm0 : Is32 m) {b : Bool} (hb : Hid (decide (l = m) = b)) :
    Calls Try.prog 17 #[v, u] w (Ret fun r w' => r = .bool b ∧ Chg No w w') := by
  have hS := SepL.start w
  have hv := RdIn.of hv0
  have hu := RdIn.of hu0
  have HL : Hid ((bys l).length = l.length) := bys_length l
  have HM : Hid ((bys m).length = m.length) := bys_length m
  have hmax := hv0.len
  rw [HL.out] at hmax
  unfold maxLen at hmax
  have HL0 := hide hl0
  have HM0 := hide hm0
  clear hv0 hu0 hl0 hm0
  by_cases hlen : l.length = m.length
  · have HNE : Hid (((l.length : Int) != (m.length : Int)) = false) := by
      unfold Hid
      simp [hlen]
    go_enter Try.func17, Try.ntmps17
    go_wp2_with (first
      | (show wpList _ _ _ (⟨some 7, .call _, _, _, _, _⟩ :: _) _ _; refine wpList_val rfl (op_len slHash rfl rfl (v := v) (xs := bys l) rfl (by exact hS.rd hv)) ?_; rw [HL.out]; go_frame)
      | (show wpList _ _ _ (⟨some 9, .call _, _, _, _, _⟩ :: _) _ _; refine wpList_val rfl (op_len slHash rfl rfl (v := u) (xs := bys m) rfl (by exact hS.rd hu)) ?_; rw [HM.out]; go_frame)
      | (show wpList _ _ _ (⟨some 12, .call _, _, _, _, _⟩ :: _) _ _; refine wpList_val rfl (op_len slHash rfl rfl (v := v) (xs := bys l) rfl (by exact hS.rd hv)) ?_; rw [HL.out]; go_frame)
      | (show wpList _ _ _ (⟨some 10, .binOp _ _ _ _ _, _, _, _, _⟩ :: _) _ _; refine wpList_val rfl (op_ineI rfl rfl rfl HNE.out) ?_; go_frame)
      )
    go_loopw [13] (fun iv wr => ∃ k : Nat, iv = .int .i64 k ∧ k ≤ l.length ∧ Hid (l.take k = m.take k) ∧ SepL All w wr []) (fun iv _ => l.length - (intOf iv).toNat)
    case atStart => exact ⟨0, rfl, by omega, rfl, hS⟩
    case round =>
      clear hS
      obtain ⟨k, rfl, hk, HQ, hS⟩ := hrel
      by_cases hlt : k < l.length
      · have hm : k < m.length := by omega
        have hl' : k < (bys l).length := by rw [HL.out]; exact hlt
        have hm' : k < (bys m).length := by rw [HM.out]; exact hm
        obtain ⟨x, hx⟩ : ∃ x, l[k] = x := ⟨_, rfl⟩
        obtain ⟨y, hy⟩ : ∃ y, m[k] = y := ⟨_, rfl⟩
        have HX : Hid ((bys l)[k] = x.map B8) := by unfold Hid; rw [bys_get hl' hlt, hx]
        have HY : Hid ((bys m)[k] = y.map B8) := by unfold Hid; rw [bys_get hm' hm, hy]
        have KX := isKey (HL0.out x (by rw [← hx]; exact List.getElem_mem hlt))
        have KY := isKey (HM0.out y (by rw [← hy]; exact List.getElem_mem hm))
        unfold HV at KX KY
        by_cases he : x = y
        · have HE : Hid (eqv (.agg (x.map B8).toArray) (.agg (y.map B8).toArray) = true) := (HV_eqv x y).trans (decide_eq_true he)
          have HQ2 : Hid (l.take (k + 1) = m.take (k + 1)) := by
            unfold Hid
            rw [List.take_succ_eq_append_getElem hlt, List.take_succ_eq_append_getElem hm, HQ.out, hx, hy, he]
          clear hx hy he HNE
          go_wp2_with fail
          refine wp_region_text (by kernel_rfl) (by kernel_rfl) (by repeat (first | exact Clean.body | refine Clean.then ?_ | refine Clean.inBlock ?_)) ?_
          replace hS := hS.drew
          go_wp2_with (first
            | (show wpList _ _ _ (⟨some 18, .indexAddr _ _ _, _, _, _, _⟩ :: _) _ _; refine wpList_val rfl (op_indexAddr slHash rfl (v := v) (xs := bys l) rfl (k := k) rfl (by exact hS.rd hv) hl') ?_; go_frame)
            | (show wpList _ _ _ (⟨some 19, .load _ _, _, _, _, _⟩ :: _) _ _; refine wpList_val rfl (op_loadE aggHash rfl (v := v) (xs := bys l) (k := k) rfl (by exact hS.rd hv) hl') ?_; rw [HX.out]; go_frame)
            | (show wpList _ _ _ (⟨some 22, .indexAddr _ _ _, _, _, _, _⟩ :: _) _ _; refine wpList_val rfl (op_indexAddr slHash rfl (v := u) (xs := bys m) rfl (k := k) rfl (by exact hS.rd hu) hm') ?_; go_frame)
            | (show wpList _ _ _ (⟨some 23, .load _ _, _, _, _, _⟩ :: _) _ _; refine wpList_val rfl (op_loadE aggHash rfl (v := u) (xs := bys m) (k := k) rfl (by exact hS.rd hu) hm') ?_; rw [HY.out]; go_frame)
            | (show wpList _ _ _ (⟨some 24, .binOp _ _ _ _ _, _, _, _, _⟩ :: _) _ _; refine wpList_val rfl (op_neq keyHash rfl rfl rfl KX KY) ?_; rw [HE.out]; go_frame)
            | (refine fin_mk (by kernel_rfl) ?_)
            )
          go_roundw
          case rel => exact ⟨k + 1, by go_num, by omega, HQ2, hS⟩
          case measure => simp [intOf]; omega
        · have HE : Hid (eqv (.agg (x.map B8).toArray) (.agg (y.map B8).toArray) = false) := (HV_eqv x y).trans (decide_eq_false he)
          have HBF : Hid (b = false) := by
            unfold Hid
            rw [← hb.out, decide_eq_false_iff_not]
            rintro rfl
            exact he (hx.symm.trans hy)
          clear hx hy he HNE
          go_wp2_with fail
          refine wp_region_text (by kernel_rfl) (by kernel_rfl) (by repeat (first | exact Clean.body | refine Clean.then ?_ | refine Clean.inBlock ?_)) ?_
          replace hS := hS.drew
          go_wp2_with (first
            | (show wpList _ _ _ (⟨some 18, .indexAddr _ _ _, _, _, _, _⟩ :: _) _ _; refine wpList_val rfl (op_indexAddr slHash rfl (v := v) (xs := bys l) rfl (k := k) rfl (by exact hS.rd hv) hl') ?_; go_frame)
            | (show wpList _ _ _ (⟨some 19, .load _ _, _, _, _, _⟩ :: _) _ _; refine wpList_val rfl (op_loadE aggHash rfl (v := v) (xs := bys l) (k := k) rfl (by exact hS.rd hv) hl') ?_; rw [HX.out]; go_frame)
            | (show wpList _ _ _ (⟨some 22, .indexAddr _ _ _, _, _, _, _⟩ :: _) _ _; refine wpList_val rfl (op_indexAddr slHash rfl (v := u) (xs := bys m) rfl (k := k) rfl (by exact hS.rd hu) hm') ?_; go_frame)
            | (show wpList _ _ _ (⟨some 23, .load _ _, _, _, _, _⟩ :: _) _ _; refine wpList_val rfl (op_loadE aggHash rfl (v := u) (xs := bys m) (k := k) rfl (by exact hS.rd hu) hm') ?_; rw [HY.out]; go_frame)
            | (show wpList _ _ _ (⟨some 24, .binOp _ _ _ _ _, _, _, _, _⟩ :: _) _ _; refine wpList_val rfl (op_neq keyHash rfl rfl rfl KX KY) ?_; rw [HE.out]; go_frame)
            | (refine fin_mk (by kernel_rfl) ?_)
            )
          go_ret
          exact ⟨by rw [HBF.out]; rfl, hS.chg⟩
      · have hk2 : k = l.length := by omega
        subst hk2
        have heq := HQ.out
        rw [List.take_length, hlen, List.take_length] at heq
        have HBT : Hid (b = true) := by
          unfold Hid
          rw [← hb.out]
          exact decide_eq_true heq
        clear heq HNE
        go_wp2_with fail
        go_ret
        exact ⟨by rw [HBT.out]; rfl, hS.chg⟩
  · have HNE : Hid (((l.length : Int) != (m.length : Int)) = true) := by
      unfold Hid
      simp only [bne_iff_ne, ne_eq]
      omega
    have HBF : Hid (b = false) := by
      unfold Hid
      rw [← hb.out, decide_eq_false_iff_not]
      rintro rfl
      exact hlen rfl
    clear hlen
    go_enter Try.func17, Try.ntmps17
    go_wp2_with (first
      | (show wpList _ _ _ (⟨some 7, .call _, _, _, _, _⟩ :: _) _ _; refine wpList_val rfl (op_len slHash rfl rfl (v := v) (xs := bys l) rfl (by exact hS.rd hv)) ?_; rw [HL.out]; go_frame)
      | (show wpList _ _ _ (⟨some 9, .call _, _, _, _, _⟩ :: _) _ _; refine wpList_val rfl (op_len slHash rfl rfl (v := u) (xs := bys m) rfl (by exact hS.rd hu)) ?_; rw [HM.out]; go_frame)
      | (show wpList _ _ _ (⟨some 12, .call _, _, _, _, _⟩ :: _) _ _; refine wpList_val rfl (op_len slHash rfl rfl (v := v) (xs := bys l) rfl (by exact hS.rd hv)) ?_; rw [HL.out]; go_frame)
      | (show wpList _ _ _ (⟨some 10, .binOp _ _ _ _ _, _, _, _, _⟩ :: _) _ _; refine wpList_val rfl (op_ineI rfl rfl rfl HNE.out) ?_; go_frame)
      )
    go_ret
    exact ⟨by rw [HBF.out]; rfl, hS.chg⟩
theorem add1_yes {L : List Id} {x : Id} (h : x ∈ L) : add1 L x = L := if_pos h
theorem add1_no {L : List Id} {x : Id} (h : x ∉ L) (hl : L.length ≤ 64) : add1 L x = if L.length < 64 then L ++ [x] else (L ++ [x]).drop 1 := by
  unfold add1
  rw [if_neg h]
  split
  · rfl
  · rw [List.drop_append_of_le_length (by omega)]
section
variable {R : Nat → Prop} {base w : World} {F : List Hp}
set_option maxRecDepth 100000 in
theorem rhas_s {p : Nat} {lv wv : Value} {L : List Id} {x : Id} (hS : SepL R base w (.blk p 42 [I64 64, lv, wv] :: .own 24 32 lv (bys L) :: F)) (h32 : Is32 L) (hx : x.length = 32) {b : Bool} (hb : Hid (decide (x ∈ L) = b)) :
    Calls Try.prog 23 #[.pointer (some ⟨p, 0, none⟩), HV x] w (Ret fun r w' => r = .bool b ∧ SepL R base w' (.blk p 42 [I64 64, lv, wv] :: .own 24 32 lv (bys L) :: F)) := by
  have HX32 : Hid ((x.map B8).length = 32) := by simp [Hid, hx]
  have HX0 := hide hx
  have H32 := hide h32
  clear hx h32
  unfold HV
  go_enter Try.func23, Try.ntmps23
  go_wp2_with (first
    | (show wpList _ _ _ (⟨_, .box _ _, _, _, _, _⟩ :: _) _ _; refine wpS_boxA (cs := x.map B8) hS rfl rfl rfl ?_; clear hS; intro nb w hS; go_frame)
    )
  refine wp_region_text (by kernel_rfl) (by kernel_rfl) (by repeat (first | exact Clean.body | refine Clean.then ?_ | refine Clean.inBlock ?_)) ?_
  replace hS := hS.drew
  go_wp2_with (first
    | (show wpList _ _ _ (⟨_, .load 31 _, _, _, _, _⟩ :: _) _ _; refine wpList_val rfl (op_load1S (b := p) (T := 42) oneHashes ((hS.bring (by repeat (first | exact t0 | apply tS)))) rfl rfl rfl) ?_; go_frame)
    | (show wpList _ _ _ (⟨_, .load 24 _, _, _, _, _⟩ :: _) _ _; refine wpList_val rfl (op_load aggHash rfl rfl (SepL.getBlk (b := nb) (T := 24) ((hS.bring (by repeat (first | exact t0 | apply tS))))).cells HX32.out) ?_; go_frame)
    | (go_at_call 25; refine Ret.calls (hS.callNo (has11_w (v := lv) (l := L) (x := x) ((hS.bring (by repeat (first | exact t0 | apply tS))).getOwn.rd) H32.out HX0.out hb)) ?_; clear hS; rintro r1 w ⟨rfl, hS⟩)
    | (refine fin_mk (by kernel_rfl) ?_)
    )
  go_ret
  exact ⟨rfl, hS.sel (by repeat (first | exact Sel.refl | refine Sel.take (by repeat (first | exact t0 | apply tS)) ?_ | apply Sel.drop))⟩
set_option maxRecDepth 100000 in
set_option maxHeartbeats 4000000 in
theorem radd_s {p : Nat} {lv0 wv : Value} {L l : List Id} (hS : SepL R base w (.blk p 42 [I64 64, lv0, wv] :: .own 24 32 lv0 (bys L) :: F)) {v : Value} (hl : RdIn R base 32 v (bys l)) (h32 : Is32 l) (hL : L.length ≤ 64) (hL32 : Is32 L) (hlen : l.length ≤ 100000) :
    Calls Try.prog 34 #[.pointer (some ⟨p, 0, none⟩), v] w (Ret fun _ w' => ∃ lv, SepL R base w' (.blk p 42 [I64 64, lv, wv] :: .own 24 32 lv (bys (adds L l)) :: F)) := by
  have HL : Hid ((bys l).length = l.length) := bys_length l
  have H32 := hide h32
  have HLL := hide hL
  have HL32 := hide hL32
  clear h32 hL hL32
  go_enter Try.func34, Try.ntmps34
  go_wp2_with (first
    | (show wpList _ _ _ (⟨_, .call ⟨.builtin .len, _, _⟩, _, _, _, _⟩ :: _) _ _; refine wpList_val rfl (op_len slHash rfl rfl (v := v) (xs := bys l) rfl (by exact hS.rd hl)) ?_; rw [HL.out]; go_frame)
    )
  go_loopw [5, 10] (fun gv iv wr => ∃ (k : Nat) (lv : Value) (G : List Id), iv = .int .i64 k ∧ k ≤ l.length ∧ G.length ≤ k ∧ SepL R base wr (.own 24 32 gv (bys G) :: .blk p 42 [I64 64, lv, wv] :: .own 24 32 lv (bys (adds L (l.take k))) :: F)) (fun _ iv _ => l.length - (intOf iv).toNat)
  case atStart => exact ⟨0, lv0, [], rfl, by omega, by simp, (hS.nilOwn 24 32).sel (by repeat (first | exact Sel.refl | refine Sel.take (by repeat (first | exact t0 | apply tS)) ?_ | apply Sel.drop))⟩
  case round =>
    clear hS
    obtain ⟨k, lv, G, rfl, hk, hG, hS⟩ := hrel
    by_cases hlt : k < l.length
    · have hlk : k < (bys l).length := by rw [HL.out]; exact hlt
      obtain ⟨x, hx⟩ : ∃ x, l[k] = x := ⟨_, rfl⟩
      have hx32 : x.length = 32 := by rw [← hx]; exact H32.out _ (List.getElem_mem hlt)
      have HX0 := hide hx32
      have HX : Hid ((bys l)[k] = x.map B8) := by
        unfold Hid
        rw [bys_get hlk hlt, hx]
      have HX32 : Hid ((x.map B8).length = 32) := by simp [Hid, hx32]
      have hsn : adds L (l.take (k + 1)) = add1 (adds L (l.take k)) x := by rw [List.take_succ_eq_append_getElem hlt, hx, adds_app, adds_one]
      have hml : (adds L (l.take k)).length ≤ 64 := adds_len HLL.out
      have hm32 : Is32 (adds L (l.take k)) := HL32.out.adds fun y hy => H32.out y (List.mem_of_mem_take hy)
      obtain ⟨M, hM⟩ : ∃ M, adds L (l.take k) = M := ⟨_, rfl⟩
      rw [hM] at hS hsn hml hm32
      have HM32 := hide hm32
      clear hx hx32 hM
      by_cases hmem : x ∈ M
      · have HMK : Hid (decide (x ∈ M) = true) := decide_eq_true hmem
        have HAN := hide (hsn.trans (add1_yes hmem))
        clear hmem hsn hm32
        go_wp2_with (first
          | (show wpList _ _ _ (⟨some 12, .indexAddr _ _ _, _, _, _, _⟩ :: _) _ _; refine wpList_val rfl (op_indexAddr slHash rfl (v := v) (xs := bys l) rfl (k := k) rfl (by exact hS.rd hl) hlk) ?_; go_frame)
          | (show wpList _ _ _ (⟨some 13, .load _ _, _, _, _, _⟩ :: _) _ _; refine wpList_val rfl (op_loadE aggHash rfl (v := v) (xs := bys l) (k := k) rfl (by exact hS.rd hl) hlk) ?_; rw [HX.out]; go_frame)
          | (show wpList _ _ _ (⟨_, .alloc _, _, _, _, _⟩ :: _) _ _; refine wpS_alloc hS rfl rfl Try.zeroValue24 (zs := List.replicate 32 (.int .u8 0)) rfl ?_; clear hS; intro nb w hS; go_frame)
          | (show wpList _ _ _ (⟨_, .store 24 _ _, _, _, _, _⟩ :: _) _ _; (refine wpS_storeAll (b := nb) aggHash (hS.bring (by repeat (first | exact t0 | apply tS))) rfl rfl rfl (vs := x.map B8) rfl HX32.out (flat_B8 x) rfl ?_); clear hS; intro w hS; go_frame)
          | (show wpList _ _ _ (⟨_, .load 24 (.tmp 7), _, _, _, _⟩ :: _) _ _; refine wpList_val rfl (op_load aggHash rfl rfl (SepL.getBlk (b := nb) (T := 24) ((hS.bring (by repeat (first | exact t0 | apply tS))))).cells HX32.out) ?_; go_frame)
          | (go_at_call 23; refine Ret.calls (rhas_s (p := p) (lv := lv) (wv := wv) (L := M) (x := x) (F := .own 24 32 u5 (bys G) :: .blk nb 24 (x.map B8) :: F) (hS.sel (by repeat (first | exact Sel.refl | refine Sel.take (by repeat (first | exact t0 | apply tS)) ?_ | apply Sel.drop))) HM32.out HX0.out HMK) ?_; clear hS; rintro r1 w ⟨rfl, hS⟩)
          )
        go_roundw
        case rel =>
          refine ⟨k + 1, lv, G, by go_num, by omega, by omega, ?_⟩
          rw [HAN.out]
          exact hS.sel (by repeat (first | exact Sel.refl | refine Sel.take (by repeat (first | exact t0 | apply tS)) ?_ | apply Sel.drop))
        case measure => simp [intOf]; omega
      · have HMK : Hid (decide (x ∈ M) = false) := decide_eq_false hmem
        have han := hsn.trans (add1_no hmem hml)
        have HB1 : Hid ((([] : List (List Value)).length + (bys M).length) * 32 ≤ 140737488355328) := by
          unfold Hid
          rw [bys_length, List.length_nil]
          omega
        have HB2 : Hid (([] : List (List Value)).length + (bys M).length ≤ maxLen) := by
          unfold Hid maxLen
          rw [bys_length, List.length_nil]
          omega
        have HB3 : Hid (((bys M).length + (bys [x]).length) * 32 ≤ 140737488355328) := by
          unfold Hid
          rw [bys_length, bys_length, List.length_singleton]
          omega
        have HB4 : Hid ((bys M).length + (bys [x]).length ≤ maxLen) := by
          unfold Hid maxLen
          rw [bys_length, bys_length, List.length_singleton]
          omega
        have HLN : Hid ((bys (M ++ [x])).length = M.length + 1) := by
          unfold Hid
          rw [bys_length, List.length_append, List.length_singleton]
        by_cases hroom : M.length < 64
        · rw [if_pos hroom] at han
          have HAN := hide han
          have HGT : Hid (decide ((64 : Int) < ((M.length + 1 : Nat) : Int)) = false) := decide_eq_false (by omega)
          clear hmem hsn hm32 han
          go_wp2_with (first
            | (show wpList _ _ _ (⟨some 12, .indexAddr _ _ _, _, _, _, _⟩ :: _) _ _; refine wpList_val rfl (op_indexAddr slHash rfl (v := v) (xs := bys l) rfl (k := k) rfl (by exact hS.rd hl) hlk) ?_; go_frame)
            | (show wpList _ _ _ (⟨some 13, .load _ _, _, _, _, _⟩ :: _) _ _; refine wpList_val rfl (op_loadE aggHash rfl (v := v) (xs := bys l) (k := k) rfl (by exact hS.rd hl) hlk) ?_; rw [HX.out]; go_frame)
            | (show wpList _ _ _ (⟨_, .alloc _, _, _, _, _⟩ :: _) _ _; refine wpS_alloc hS rfl rfl Try.zeroValue24 (zs := List.replicate 32 (.int .u8 0)) rfl ?_; clear hS; intro nb w hS; go_frame)
            | (show wpList _ _ _ (⟨_, .store 24 _ _, _, _, _, _⟩ :: _) _ _; (refine wpS_storeAll (b := nb) aggHash (hS.bring (by repeat (first | exact t0 | apply tS))) rfl rfl rfl (vs := x.map B8) rfl HX32.out (flat_B8 x) rfl ?_); clear hS; intro w hS; go_frame)
            | (show wpList _ _ _ (⟨_, .load 24 (.tmp 7), _, _, _, _⟩ :: _) _ _; refine wpList_val rfl (op_load aggHash rfl rfl (SepL.getBlk (b := nb) (T := 24) ((hS.bring (by repeat (first | exact t0 | apply tS))))).cells HX32.out) ?_; go_frame)
            | (go_at_call 23; refine Ret.calls (rhas_s (p := p) (lv := lv) (wv := wv) (L := M) (x := x) (F := .own 24 32 u5 (bys G) :: .blk nb 24 (x.map B8) :: F) (hS.sel (by repeat (first | exact Sel.refl | refine Sel.take (by repeat (first | exact t0 | apply tS)) ?_ | apply Sel.drop))) HM32.out HX0.out HMK) ?_; clear hS; rintro r1 w ⟨rfl, hS⟩)
            )
          go_wp2_with fail
          refine wp_region_ord (by kernel_rfl) [7] [[0, 2, 3, 4, 5, 7, 1, 6, 8, 9, 10, 11, 12], [0, 2, 3, 4, 5, 7, 1, 8, 6, 9, 10, 11, 12], [0, 2, 3, 4, 5, 7, 8, 1, 6, 9, 10, 11, 12]] (by kernel_rfl) (by kernel_rfl) (fun w' => Blk w' nb 24 (x.map B8)) Up.blk ((hS.bring (by repeat (first | exact t0 | apply tS))).getBlk) (by repeat (first | exact Clean.body | refine Clean.then ?_ | refine Clean.inBlock ?_ | refine SegQ.clean ?_ | refine FinC.clean ?_)) ?_
          replace hS := hS.drew
          refine ord_seg (by repeat (first | exact Clean.body | refine Clean.then ?_ | refine Clean.inBlock ?_ | refine SegQ.clean ?_ | refine FinC.clean ?_)) (n := 7) (rest := [[1, 6, 8, 9, 10, 11, 12], [1, 8, 6, 9, 10, 11, 12], [8, 1, 6, 9, 10, 11, 12]]) [0, 2, 3, 4, 5, 7] [⟨_, _, _, _, _, _⟩, ⟨_, _, _, _, _, _⟩, ⟨_, _, _, _, _, _⟩, ⟨_, _, _, _, _, _⟩, ⟨_, _, _, _, _, _⟩, ⟨_, _, _, _, _, _⟩] rfl (by kernel_rfl) (by simp) _ _ ?_
          go_wp2_with (first
            | (show wpList _ _ _ (⟨some 18, .buildSlice _ _ _, _, _, _, _⟩ :: _) _ _; refine wpS_build0 slHash hS rfl rfl ?_; clear hS; intro v18 w hS; go_frame)
            | (show wpList _ _ _ (⟨some 22, .load _ _, _, _, _, _⟩ :: _) _ _; refine wpList_val rfl (op_load1S (b := p) (T := 42) oneHashes ((hS.bring (by repeat (first | exact t0 | apply tS)))) rfl rfl rfl) ?_; go_frame)
            | (show wpList _ _ _ (⟨some 23, .call _, _, _, _, _⟩ :: _) _ _; (refine wpS_append slHash (hS.bring (by repeat (first | exact t0 | apply tS))) rfl rfl (sv := v18) (xs := []) (xv := lv) rfl rfl (ys := bys M) ((hS.bring (by repeat (first | exact t0 | apply tS))).getOwn.rd) (flat_bys _) HB1.out HB2.out ?_); clear hS; intro v23 w hS; rw [List.nil_append] at hS; go_frame)
            | (show wpList _ _ _ (⟨some 24, .load _ _, _, _, _, _⟩ :: _) _ _; refine wpList_val rfl (op_load aggHash rfl rfl (SepL.getBlk (b := nb) (T := 24) ((hS.bring (by repeat (first | exact t0 | apply tS))))).cells HX32.out) ?_; go_frame)
            | (show wpList _ _ _ (⟨some 25, .buildSlice _ _ _, _, _, _, _⟩ :: _) _ _; refine wpS_build1A slHash (by omega) hS rfl rfl (cs := x.map B8) rfl HX32.out ?_; clear hS; intro v25 w hS; go_frame)
            | (show wpList _ _ _ (⟨some 26, .call _, _, _, _, _⟩ :: _) _ _; (refine wpS_append slHash (hS.bring (by repeat (first | exact t0 | apply tS))) rfl rfl (sv := v23) (xs := bys M) (xv := v25) rfl rfl (ys := bys [x]) ((hS.bring (by repeat (first | exact t0 | apply tS))).getOwn.rd) (flat_bys _) HB3.out HB4.out ?_); clear hS; intro v26 w hS; rw [← bys_app] at hS; have HU1 := hide hS.getOwn.rd.cells1; have HU2 := hide hS.getOwn.rd.one1; go_frame)
            | (show wpList _ _ _ (⟨_, .store 31 _ _, _, _, _, _⟩ :: _) _ _; (refine wpS_store1 (b := p) (T := 42) (by kernel_rfl) (hS.bring (by repeat (first | exact t0 | apply tS))) rfl rfl rfl (v := v26) rfl HU1.out HU2.out (by simp) ?_); clear hS; intro w hS; go_frame)
            )
          refine segQ_mk (((hS.bring (by repeat (first | exact t0 | apply tS))).getBlk) : Blk _ nb 24 (x.map B8)) ?_
          refine ord_fork (n := 6) (os1 := [[1, 6, 8, 9, 10, 11, 12], [1, 8, 6, 9, 10, 11, 12]]) (os2 := [[8, 1, 6, 9, 10, 11, 12]]) (by decide) ?_ ?_
          · skip
            refine ord_seg (by repeat (first | exact Clean.body | refine Clean.then ?_ | refine Clean.inBlock ?_ | refine SegQ.clean ?_ | refine FinC.clean ?_)) (n := 6) (rest := [[6, 8, 9, 10, 11, 12], [8, 6, 9, 10, 11, 12]]) [1] [⟨_, _, _, _, _, _⟩] rfl (by kernel_rfl) (by simp) _ _ ?_
            go_wp2_with (first
              | (show wpList _ _ _ (⟨some 18, .buildSlice _ _ _, _, _, _, _⟩ :: _) _ _; refine wpS_build0 slHash hS rfl rfl ?_; clear hS; intro v18 w hS; go_frame)
              | (show wpList _ _ _ (⟨some 22, .load _ _, _, _, _, _⟩ :: _) _ _; refine wpList_val rfl (op_load1S (b := p) (T := 42) oneHashes ((hS.bring (by repeat (first | exact t0 | apply tS)))) rfl rfl rfl) ?_; go_frame)
              | (show wpList _ _ _ (⟨some 23, .call _, _, _, _, _⟩ :: _) _ _; (refine wpS_append slHash (hS.bring (by repeat (first | exact t0 | apply tS))) rfl rfl (sv := v18) (xs := []) (xv := lv) rfl rfl (ys := bys M) ((hS.bring (by repeat (first | exact t0 | apply tS))).getOwn.rd) (flat_bys _) HB1.out HB2.out ?_); clear hS; intro v23 w hS; rw [List.nil_append] at hS; go_frame)
              | (show wpList _ _ _ (⟨some 24, .load _ _, _, _, _, _⟩ :: _) _ _; refine wpList_val rfl (op_load aggHash rfl rfl (SepL.getBlk (b := nb) (T := 24) ((hS.bring (by repeat (first | exact t0 | apply tS))))).cells HX32.out) ?_; go_frame)
              | (show wpList _ _ _ (⟨some 25, .buildSlice _ _ _, _, _, _, _⟩ :: _) _ _; refine wpS_build1A slHash (by omega) hS rfl rfl (cs := x.map B8) rfl HX32.out ?_; clear hS; intro v25 w hS; go_frame)
              | (show wpList _ _ _ (⟨some 26, .call _, _, _, _, _⟩ :: _) _ _; (refine wpS_append slHash (hS.bring (by repeat (first | exact t0 | apply tS))) rfl rfl (sv := v23) (xs := bys M) (xv := v25) rfl rfl (ys := bys [x]) ((hS.bring (by repeat (first | exact t0 | apply tS))).getOwn.rd) (flat_bys _) HB3.out HB4.out ?_); clear hS; intro v26 w hS; rw [← bys_app] at hS; have HU1 := hide hS.getOwn.rd.cells1; have HU2 := hide hS.getOwn.rd.one1; go_frame)
              | (show wpList _ _ _ (⟨_, .store 31 _ _, _, _, _, _⟩ :: _) _ _; (refine wpS_store1 (b := p) (T := 42) (by kernel_rfl) (hS.bring (by repeat (first | exact t0 | apply tS))) rfl rfl rfl (v := v26) rfl HU1.out HU2.out (by simp) ?_); clear hS; intro w hS; go_frame)
              )
            refine segQ_mk (((hS.bring (by repeat (first | exact t0 | apply tS))).getBlk) : Blk _ nb 24 (x.map B8)) ?_
            refine ord_fork (n := 5) (os1 := [[6, 8, 9, 10, 11, 12]]) (os2 := [[8, 6, 9, 10, 11, 12]]) (by decide) ?_ ?_
            · skip
              refine ord_seg (by repeat (first | exact Clean.body | refine Clean.then ?_ | refine Clean.inBlock ?_ | refine SegQ.clean ?_ | refine FinC.clean ?_)) (n := 5) (rest := [[8, 9, 10, 11, 12]]) [6] [⟨_, _, _, _, _, _⟩] rfl (by kernel_rfl) (by simp) _ _ ?_
              go_wp2_with (first
                | (show wpList _ _ _ (⟨some 18, .buildSlice _ _ _, _, _, _, _⟩ :: _) _ _; refine wpS_build0 slHash hS rfl rfl ?_; clear hS; intro v18 w hS; go_frame)
                | (show wpList _ _ _ (⟨some 22, .load _ _, _, _, _, _⟩ :: _) _ _; refine wpList_val rfl (op_load1S (b := p) (T := 42) oneHashes ((hS.bring (by repeat (first | exact t0 | apply tS)))) rfl rfl rfl) ?_; go_frame)
                | (show wpList _ _ _ (⟨some 23, .call _, _, _, _, _⟩ :: _) _ _; (refine wpS_append slHash (hS.bring (by repeat (first | exact t0 | apply tS))) rfl rfl (sv := v18) (xs := []) (xv := lv) rfl rfl (ys := bys M) ((hS.bring (by repeat (first | exact t0 | apply tS))).getOwn.rd) (flat_bys _) HB1.out HB2.out ?_); clear hS; intro v23 w hS; rw [List.nil_append] at hS; go_frame)
                | (show wpList _ _ _ (⟨some 24, .load _ _, _, _, _, _⟩ :: _) _ _; refine wpList_val rfl (op_load aggHash rfl rfl (SepL.getBlk (b := nb) (T := 24) ((hS.bring (by repeat (first | exact t0 | apply tS))))).cells HX32.out) ?_; go_frame)
                | (show wpList _ _ _ (⟨some 25, .buildSlice _ _ _, _, _, _, _⟩ :: _) _ _; refine wpS_build1A slHash (by omega) hS rfl rfl (cs := x.map B8) rfl HX32.out ?_; clear hS; intro v25 w hS; go_frame)
                | (show wpList _ _ _ (⟨some 26, .call _, _, _, _, _⟩ :: _) _ _; (refine wpS_append slHash (hS.bring (by repeat (first | exact t0 | apply tS))) rfl rfl (sv := v23) (xs := bys M) (xv := v25) rfl rfl (ys := bys [x]) ((hS.bring (by repeat (first | exact t0 | apply tS))).getOwn.rd) (flat_bys _) HB3.out HB4.out ?_); clear hS; intro v26 w hS; rw [← bys_app] at hS; have HU1 := hide hS.getOwn.rd.cells1; have HU2 := hide hS.getOwn.rd.one1; go_frame)
                | (show wpList _ _ _ (⟨_, .store 31 _ _, _, _, _, _⟩ :: _) _ _; (refine wpS_store1 (b := p) (T := 42) (by kernel_rfl) (hS.bring (by repeat (first | exact t0 | apply tS))) rfl rfl rfl (v := v26) rfl HU1.out HU2.out (by simp) ?_); clear hS; intro w hS; go_frame)
                )
              refine segQ_mk (((hS.bring (by repeat (first | exact t0 | apply tS))).getBlk) : Blk _ nb 24 (x.map B8)) ?_
              refine ord_seg (by repeat (first | exact Clean.body | refine Clean.then ?_ | refine Clean.inBlock ?_ | refine SegQ.clean ?_ | refine FinC.clean ?_)) (n := 3) (rest := [[10, 11, 12]]) [8, 9] [⟨_, _, _, _, _, _⟩, ⟨_, _, _, _, _, _⟩] rfl (by kernel_rfl) (by simp) _ _ ?_
              go_wp2_with (first
                | (show wpList _ _ _ (⟨some 18, .buildSlice _ _ _, _, _, _, _⟩ :: _) _ _; refine wpS_build0 slHash hS rfl rfl ?_; clear hS; intro v18 w hS; go_frame)
                | (show wpList _ _ _ (⟨some 22, .load _ _, _, _, _, _⟩ :: _) _ _; refine wpList_val rfl (op_load1S (b := p) (T := 42) oneHashes ((hS.bring (by repeat (first | exact t0 | apply tS)))) rfl rfl rfl) ?_; go_frame)
                | (show wpList _ _ _ (⟨some 23, .call _, _, _, _, _⟩ :: _) _ _; (refine wpS_append slHash (hS.bring (by repeat (first | exact t0 | apply tS))) rfl rfl (sv := v18) (xs := []) (xv := lv) rfl rfl (ys := bys M) ((hS.bring (by repeat (first | exact t0 | apply tS))).getOwn.rd) (flat_bys _) HB1.out HB2.out ?_); clear hS; intro v23 w hS; rw [List.nil_append] at hS; go_frame)
                | (show wpList _ _ _ (⟨some 24, .load _ _, _, _, _, _⟩ :: _) _ _; refine wpList_val rfl (op_load aggHash rfl rfl (SepL.getBlk (b := nb) (T := 24) ((hS.bring (by repeat (first | exact t0 | apply tS))))).cells HX32.out) ?_; go_frame)
                | (show wpList _ _ _ (⟨some 25, .buildSlice _ _ _, _, _, _, _⟩ :: _) _ _; refine wpS_build1A slHash (by omega) hS rfl rfl (cs := x.map B8) rfl HX32.out ?_; clear hS; intro v25 w hS; go_frame)
                | (show wpList _ _ _ (⟨some 26, .call _, _, _, _, _⟩ :: _) _ _; (refine wpS_append slHash (hS.bring (by repeat (first | exact t0 | apply tS))) rfl rfl (sv := v23) (xs := bys M) (xv := v25) rfl rfl (ys := bys [x]) ((hS.bring (by repeat (first | exact t0 | apply tS))).getOwn.rd) (flat_bys _) HB3.out HB4.out ?_); clear hS; intro v26 w hS; rw [← bys_app] at hS; have HU1 := hide hS.getOwn.rd.cells1; have HU2 := hide hS.getOwn.rd.one1; go_frame)
                | (show wpList _ _ _ (⟨_, .store 31 _ _, _, _, _, _⟩ :: _) _ _; (refine wpS_store1 (b := p) (T := 42) (by kernel_rfl) (hS.bring (by repeat (first | exact t0 | apply tS))) rfl rfl rfl (v := v26) rfl HU1.out HU2.out (by simp) ?_); clear hS; intro w hS; go_frame)
                )
              refine segQ_mk (((hS.bring (by repeat (first | exact t0 | apply tS))).getBlk) : Blk _ nb 24 (x.map B8)) ?_
              refine ord_seg (by repeat (first | exact Clean.body | refine Clean.then ?_ | refine Clean.inBlock ?_ | refine SegQ.clean ?_ | refine FinC.clean ?_)) (n := 0) (rest := [[]]) [10, 11, 12] [⟨_, _, _, _, _, _⟩, ⟨_, _, _, _, _, _⟩, ⟨_, _, _, _, _, _⟩] rfl (by kernel_rfl) (by simp) _ _ ?_
              go_wp2_with (first
                | (show wpList _ _ _ (⟨some 18, .buildSlice _ _ _, _, _, _, _⟩ :: _) _ _; refine wpS_build0 slHash hS rfl rfl ?_; clear hS; intro v18 w hS; go_frame)
                | (show wpList _ _ _ (⟨some 22, .load _ _, _, _, _, _⟩ :: _) _ _; refine wpList_val rfl (op_load1S (b := p) (T := 42) oneHashes ((hS.bring (by repeat (first | exact t0 | apply tS)))) rfl rfl rfl) ?_; go_frame)
                | (show wpList _ _ _ (⟨some 23, .call _, _, _, _, _⟩ :: _) _ _; (refine wpS_append slHash (hS.bring (by repeat (first | exact t0 | apply tS))) rfl rfl (sv := v18) (xs := []) (xv := lv) rfl rfl (ys := bys M) ((hS.bring (by repeat (first | exact t0 | apply tS))).getOwn.rd) (flat_bys _) HB1.out HB2.out ?_); clear hS; intro v23 w hS; rw [List.nil_append] at hS; go_frame)
                | (show wpList _ _ _ (⟨some 24, .load _ _, _, _, _, _⟩ :: _) _ _; refine wpList_val rfl (op_load aggHash rfl rfl (SepL.getBlk (b := nb) (T := 24) ((hS.bring (by repeat (first | exact t0 | apply tS))))).cells HX32.out) ?_; go_frame)
                | (show wpList _ _ _ (⟨some 25, .buildSlice _ _ _, _, _, _, _⟩ :: _) _ _; refine wpS_build1A slHash (by omega) hS rfl rfl (cs := x.map B8) rfl HX32.out ?_; clear hS; intro v25 w hS; go_frame)
                | (show wpList _ _ _ (⟨some 26, .call _, _, _, _, _⟩ :: _) _ _; (refine wpS_append slHash (hS.bring (by repeat (first | exact t0 | apply tS))) rfl rfl (sv := v23) (xs := bys M) (xv := v25) rfl rfl (ys := bys [x]) ((hS.bring (by repeat (first | exact t0 | apply tS))).getOwn.rd) (flat_bys _) HB3.out HB4.out ?_); clear hS; intro v26 w hS; rw [← bys_app] at hS; have HU1 := hide hS.getOwn.rd.cells1; have HU2 := hide hS.getOwn.rd.one1; go_frame)
                | (show wpList _ _ _ (⟨_, .store 31 _ _, _, _, _, _⟩ :: _) _ _; (refine wpS_store1 (b := p) (T := 42) (by kernel_rfl) (hS.bring (by repeat (first | exact t0 | apply tS))) rfl rfl rfl (v := v26) rfl HU1.out HU2.out (by simp) ?_); clear hS; intro w hS; go_frame)
                )
              refine segQ_mk (((hS.bring (by repeat (first | exact t0 | apply tS))).getBlk) : Blk _ nb 24 (x.map B8)) ?_
              refine finC_mk (by kernel_rfl) (by
                intro t ht
                simp only [List.mem_cons, List.not_mem_nil, or_false] at ht
                rcases ht with rfl
                exact stab_blk (b := nb) (fun w h => h) _ none) ?_
              go_wp2_with fail
              refine wp_region_text (by kernel_rfl) (by kernel_rfl) (by repeat (first | exact Clean.body | refine Clean.then ?_ | refine Clean.inBlock ?_)) ?_
              replace hS := hS.drew
              go_wp2_with (first
                | (show wpList _ _ _ (⟨_, .load 31 _, _, _, _, _⟩ :: _) _ _; refine wpList_val rfl (op_load1S (b := p) (T := 42) oneHashes ((hS.bring (by repeat (first | exact t0 | apply tS)))) rfl rfl rfl) ?_; go_frame)
                | (show wpList _ _ _ (⟨some 33, .call _, _, _, _, _⟩ :: _) _ _; refine wpList_val rfl (op_len slHash rfl rfl (v := v26) (xs := bys (M ++ [x])) rfl ((hS.bring (by repeat (first | exact t0 | apply tS))).getOwn.rd)) ?_; rw [HLN.out]; go_frame)
                | (show wpList _ _ _ (⟨_, .load 3 _, _, _, _, _⟩ :: _) _ _; refine wpList_val rfl (op_load1S (b := p) (T := 42) oneInt ((hS.bring (by repeat (first | exact t0 | apply tS)))) rfl rfl rfl) ?_; go_frame)
                | (show wpList _ _ _ (⟨some 38, .binOp _ _ _ _ _, _, _, _, _⟩ :: _) _ _; refine wpList_val rfl (op_igtr rfl rfl rfl HGT.out) ?_; go_frame)
                | (refine fin_mk (by kernel_rfl) ?_)
                | (show wpList _ _ _ (⟨some 44, .indexAddr _ _ _, _, _, _, _⟩ :: _) _ _; refine wpList_val rfl (op_indexAddrZ slHash rfl (v := v26) (xs := bys (M ++ [x])) rfl rfl ((hS.bring (by repeat (first | exact t0 | apply tS))).getOwn.rd) 0 rfl HZL.out) ?_; go_frame)
                | (show wpList _ _ _ (⟨some 45, .load _ _, _, _, _, _⟩ :: _) _ _; refine wpList_val rfl (op_loadE aggHash rfl (v := v26) (xs := bys (M ++ [x])) (k := 0) rfl ((hS.bring (by repeat (first | exact t0 | apply tS))).getOwn.rd) HZL.out) ?_; rw [HY.out]; go_frame)
                | (show wpList _ _ _ (⟨some 46, .buildSlice _ _ _, _, _, _, _⟩ :: _) _ _; refine wpS_build1A slHash (by omega) hS rfl rfl (cs := y.map B8) rfl HY32.out ?_; clear hS; intro v46 w hS; go_frame)
                | (show wpList _ _ _ (⟨some 47, .call _, _, _, _, _⟩ :: _) _ _; (refine wpS_append slHash (hS.bring (by repeat (first | exact t0 | apply tS))) rfl rfl (sv := u5) (xs := bys G) (xv := v46) rfl rfl (ys := bys [y]) ((hS.bring (by repeat (first | exact t0 | apply tS))).getOwn.rd) (flat_bys _) HG1.out HG2.out ?_); clear hS; intro v47 w hS; rw [← bys_app] at hS; go_frame)
                | (show wpList _ _ _ (⟨some 53, .slice _ _ _ _ _, _, _, _, _⟩ :: _) _ _; refine wpList_val rfl (op_cut slHash rfl (v := v26) (xs := bys (M ++ [x])) rfl ((hS.bring (by repeat (first | exact t0 | apply tS))).getOwn.rd) (l := 1) (h := _) (Or.inr rfl) (Or.inl ⟨rfl, rfl⟩) HC1.out (Nat.le_refl _)) ?_; replace hS := SepL.ownCut (T := 24) (n := 32) (v := v26) (xs := bys (M ++ [x])) ((hS.bring (by repeat (first | exact t0 | apply tS)))) (l := 1) HC1.out; have HK1 := hide hS.getOwn.rd.cells1; have HK2 := hide hS.getOwn.rd.one1; rw [← bys_drop] at hS; go_frame)
                | (show wpList _ _ _ (⟨_, .store 31 _ _, _, _, _, _⟩ :: _) _ _; (refine wpS_store1 (b := p) (T := 42) (by kernel_rfl) (hS.bring (by repeat (first | exact t0 | apply tS))) rfl rfl rfl (v := cutV 32 v26 1 (bys (M ++ [x])).length) rfl HK1.out HK2.out (by simp) ?_); clear hS; intro w hS; go_frame)
                )
              go_roundw
              case rel =>
                refine ⟨k + 1, v26, G, by go_num, by omega, by omega, ?_⟩
                rw [HAN.out]
                exact hS.sel (by repeat (first | exact Sel.refl | refine Sel.take (by repeat (first | exact t0 | apply tS)) ?_ | apply Sel.drop))
              case measure => simp [intOf]; omega
            · skip
              refine ord_seg (by repeat (first | exact Clean.body | refine Clean.then ?_ | refine Clean.inBlock ?_ | refine SegQ.clean ?_ | refine FinC.clean ?_)) (n := 4) (rest := [[9, 10, 11, 12]]) [8, 6] [⟨_, _, _, _, _, _⟩, ⟨_, _, _, _, _, _⟩] rfl (by kernel_rfl) (by simp) _ _ ?_
              go_wp2_with (first
                | (show wpList _ _ _ (⟨some 18, .buildSlice _ _ _, _, _, _, _⟩ :: _) _ _; refine wpS_build0 slHash hS rfl rfl ?_; clear hS; intro v18 w hS; go_frame)
                | (show wpList _ _ _ (⟨some 22, .load _ _, _, _, _, _⟩ :: _) _ _; refine wpList_val rfl (op_load1S (b := p) (T := 42) oneHashes ((hS.bring (by repeat (first | exact t0 | apply tS)))) rfl rfl rfl) ?_; go_frame)
                | (show wpList _ _ _ (⟨some 23, .call _, _, _, _, _⟩ :: _) _ _; (refine wpS_append slHash (hS.bring (by repeat (first | exact t0 | apply tS))) rfl rfl (sv := v18) (xs := []) (xv := lv) rfl rfl (ys := bys M) ((hS.bring (by repeat (first | exact t0 | apply tS))).getOwn.rd) (flat_bys _) HB1.out HB2.out ?_); clear hS; intro v23 w hS; rw [List.nil_append] at hS; go_frame)
                | (show wpList _ _ _ (⟨some 24, .load _ _, _, _, _, _⟩ :: _) _ _; refine wpList_val rfl (op_load aggHash rfl rfl (SepL.getBlk (b := nb) (T := 24) ((hS.bring (by repeat (first | exact t0 | apply tS))))).cells HX32.out) ?_; go_frame)
                | (show wpList _ _ _ (⟨some 25, .buildSlice _ _ _, _, _, _, _⟩ :: _) _ _; refine wpS_build1A slHash (by omega) hS rfl rfl (cs := x.map B8) rfl HX32.out ?_; clear hS; intro v25 w hS; go_frame)
                | (show wpList _ _ _ (⟨some 26, .call _, _, _, _, _⟩ :: _) _ _; (refine wpS_append slHash (hS.bring (by repeat (first | exact t0 | apply tS))) rfl rfl (sv := v23) (xs := bys M) (xv := v25) rfl rfl (ys := bys [x]) ((hS.bring (by repeat (first | exact t0 | apply tS))).getOwn.rd) (flat_bys _) HB3.out HB4.out ?_); clear hS; intro v26 w hS; rw [← bys_app] at hS; have HU1 := hide hS.getOwn.rd.cells1; have HU2 := hide hS.getOwn.rd.one1; go_frame)
                | (show wpList _ _ _ (⟨_, .store 31 _ _, _, _, _, _⟩ :: _) _ _; (refine wpS_store1 (b := p) (T := 42) (by kernel_rfl) (hS.bring (by repeat (first | exact t0 | apply tS))) rfl rfl rfl (v := v26) rfl HU1.out HU2.out (by simp) ?_); clear hS; intro w hS; go_frame)
                )
              refine segQ_mk (((hS.bring (by repeat (first | exact t0 | apply tS))).getBlk) : Blk _ nb 24 (x.map B8)) ?_
              refine ord_seg (by repeat (first | exact Clean.body | refine Clean.then ?_ | refine Clean.inBlock ?_ | refine SegQ.clean ?_ | refine FinC.clean ?_)) (n := 3) (rest := [[10, 11, 12]]) [9] [⟨_, _, _, _, _, _⟩] rfl (by kernel_rfl) (by simp) _ _ ?_
              go_wp2_with (first
                | (show wpList _ _ _ (⟨some 18, .buildSlice _ _ _, _, _, _, _⟩ :: _) _ _; refine wpS_build0 slHash hS rfl rfl ?_; clear hS; intro v18 w hS; go_frame)
                | (show wpList _ _ _ (⟨some 22, .load _ _, _, _, _, _⟩ :: _) _ _; refine wpList_val rfl (op_load1S (b := p) (T := 42) oneHashes ((hS.bring (by repeat (first | exact t0 | apply tS)))) rfl rfl rfl) ?_; go_frame)
                | (show wpList _ _ _ (⟨some 23, .call _, _, _, _, _⟩ :: _) _ _; (refine wpS_append slHash (hS.bring (by repeat (first | exact t0 | apply tS))) rfl rfl (sv := v18) (xs := []) (xv := lv) rfl rfl (ys := bys M) ((hS.bring (by repeat (first | exact t0 | apply tS))).getOwn.rd) (flat_bys _) HB1.out HB2.out ?_); clear hS; intro v23 w hS; rw [List.nil_append] at hS; go_frame)
                | (show wpList _ _ _ (⟨some 24, .load _ _, _, _, _, _⟩ :: _) _ _; refine wpList_val rfl (op_load aggHash rfl rfl (SepL.getBlk (b := nb) (T := 24) ((hS.bring (by repeat (first | exact t0 | apply tS))))).cells HX32.out) ?_; go_frame)
                | (show wpList _ _ _ (⟨some 25, .buildSlice _ _ _, _, _, _, _⟩ :: _) _ _; refine wpS_build1A slHash (by omega) hS rfl rfl (cs := x.map B8) rfl HX32.out ?_; clear hS; intro v25 w hS; go_frame)
                | (show wpList _ _ _ (⟨some 26, .call _, _, _, _, _⟩ :: _) _ _; (refine wpS_append slHash (hS.bring (by repeat (first | exact t0 | apply tS))) rfl rfl (sv := v23) (xs := bys M) (xv := v25) rfl rfl (ys := bys [x]) ((hS.bring (by repeat (first | exact t0 | apply tS))).getOwn.rd) (flat_bys _) HB3.out HB4.out ?_); clear hS; intro v26 w hS; rw [← bys_app] at hS; have HU1 := hide hS.getOwn.rd.cells1; have HU2 := hide hS.getOwn.rd.one1; go_frame)
                | (show wpList _ _ _ (⟨_, .store 31 _ _, _, _, _, _⟩ :: _) _ _; (refine wpS_store1 (b := p) (T := 42) (by kernel_rfl) (hS.bring (by repeat (first | exact t0 | apply tS))) rfl rfl rfl (v := v26) rfl HU1.out HU2.out (by simp) ?_); clear hS; intro w hS; go_frame)
                )
              refine segQ_mk (((hS.bring (by repeat (first | exact t0 | apply tS))).getBlk) : Blk _ nb 24 (x.map B8)) ?_
              refine ord_seg (by repeat (first | exact Clean.body | refine Clean.then ?_ | refine Clean.inBlock ?_ | refine SegQ.clean ?_ | refine FinC.clean ?_)) (n := 0) (rest := [[]]) [10, 11, 12] [⟨_, _, _, _, _, _⟩, ⟨_, _, _, _, _, _⟩, ⟨_, _, _, _, _, _⟩] rfl (by kernel_rfl) (by simp) _ _ ?_
              go_wp2_with (first
                | (show wpList _ _ _ (⟨some 18, .buildSlice _ _ _, _, _, _, _⟩ :: _) _ _; refine wpS_build0 slHash hS rfl rfl ?_; clear hS; intro v18 w hS; go_frame)
                | (show wpList _ _ _ (⟨some 22, .load _ _, _, _, _, _⟩ :: _) _ _; refine wpList_val rfl (op_load1S (b := p) (T := 42) oneHashes ((hS.bring (by repeat (first | exact t0 | apply tS)))) rfl rfl rfl) ?_; go_frame)
                | (show wpList _ _ _ (⟨some 23, .call _, _, _, _, _⟩ :: _) _ _; (refine wpS_append slHash (hS.bring (by repeat (first | exact t0 | apply tS))) rfl rfl (sv := v18) (xs := []) (xv := lv) rfl rfl (ys := bys M) ((hS.bring (by repeat (first | exact t0 | apply tS))).getOwn.rd) (flat_bys _) HB1.out HB2.out ?_); clear hS; intro v23 w hS; rw [List.nil_append] at hS; go_frame)
                | (show wpList _ _ _ (⟨some 24, .load _ _, _, _, _, _⟩ :: _) _ _; refine wpList_val rfl (op_load aggHash rfl rfl (SepL.getBlk (b := nb) (T := 24) ((hS.bring (by repeat (first | exact t0 | apply tS))))).cells HX32.out) ?_; go_frame)
                | (show wpList _ _ _ (⟨some 25, .buildSlice _ _ _, _, _, _, _⟩ :: _) _ _; refine wpS_build1A slHash (by omega) hS rfl rfl (cs := x.map B8) rfl HX32.out ?_; clear hS; intro v25 w hS; go_frame)
                | (show wpList _ _ _ (⟨some 26, .call _, _, _, _, _⟩ :: _) _ _; (refine wpS_append slHash (hS.bring (by repeat (first | exact t0 | apply tS))) rfl rfl (sv := v23) (xs := bys M) (xv := v25) rfl rfl (ys := bys [x]) ((hS.bring (by repeat (first | exact t0 | apply tS))).getOwn.rd) (flat_bys _) HB3.out HB4.out ?_); clear hS; intro v26 w hS; rw [← bys_app] at hS; have HU1 := hide hS.getOwn.rd.cells1; have HU2 := hide hS.getOwn.rd.one1; go_frame)
                | (show wpList _ _ _ (⟨_, .store 31 _ _, _, _, _, _⟩ :: _) _ _; (refine wpS_store1 (b := p) (T := 42) (by kernel_rfl) (hS.bring (by repeat (first | exact t0 | apply tS))) rfl rfl rfl (v := v26) rfl HU1.out HU2.out (by simp) ?_); clear hS; intro w hS; go_frame)
                )
              refine segQ_mk (((hS.bring (by repeat (first | exact t0 | apply tS))).getBlk) : Blk _ nb 24 (x.map B8)) ?_
              refine finC_mk (by kernel_rfl) (by
                intro t ht
                simp only [List.mem_cons, List.not_mem_nil, or_false] at ht
                rcases ht with rfl
                exact stab_blk (b := nb) (fun w h => h) _ none) ?_
              go_wp2_with fail
              refine wp_region_text (by kernel_rfl) (by kernel_rfl) (by repeat (first | exact Clean.body | refine Clean.then ?_ | refine Clean.inBlock ?_)) ?_
              replace hS := hS.drew
              go_wp2_with (first
                | (show wpList _ _ _ (⟨_, .load 31 _, _, _, _, _⟩ :: _) _ _; refine wpList_val rfl (op_load1S (b := p) (T := 42) oneHashes ((hS.bring (by repeat (first | exact t0 | apply tS)))) rfl rfl rfl) ?_; go_frame)
                | (show wpList _ _ _ (⟨some 33, .call _, _, _, _, _⟩ :: _) _ _; refine wpList_val rfl (op_len slHash rfl rfl (v := v26) (xs := bys (M ++ [x])) rfl ((hS.bring (by repeat (first | exact t0 | apply tS))).getOwn.rd)) ?_; rw [HLN.out]; go_frame)
                | (show wpList _ _ _ (⟨_, .load 3 _, _, _, _, _⟩ :: _) _ _; refine wpList_val rfl (op_load1S (b := p) (T := 42) oneInt ((hS.bring (by repeat (first | exact t0 | apply tS)))) rfl rfl rfl) ?_; go_frame)
                | (show wpList _ _ _ (⟨some 38, .binOp _ _ _ _ _, _, _, _, _⟩ :: _) _ _; refine wpList_val rfl (op_igtr rfl rfl rfl HGT.out) ?_; go_frame)
                | (refine fin_mk (by kernel_rfl) ?_)
                | (show wpList _ _ _ (⟨some 44, .indexAddr _ _ _, _, _, _, _⟩ :: _) _ _; refine wpList_val rfl (op_indexAddrZ slHash rfl (v := v26) (xs := bys (M ++ [x])) rfl rfl ((hS.bring (by repeat (first | exact t0 | apply tS))).getOwn.rd) 0 rfl HZL.out) ?_; go_frame)
                | (show wpList _ _ _ (⟨some 45, .load _ _, _, _, _, _⟩ :: _) _ _; refine wpList_val rfl (op_loadE aggHash rfl (v := v26) (xs := bys (M ++ [x])) (k := 0) rfl ((hS.bring (by repeat (first | exact t0 | apply tS))).getOwn.rd) HZL.out) ?_; rw [HY.out]; go_frame)
                | (show wpList _ _ _ (⟨some 46, .buildSlice _ _ _, _, _, _, _⟩ :: _) _ _; refine wpS_build1A slHash (by omega) hS rfl rfl (cs := y.map B8) rfl HY32.out ?_; clear hS; intro v46 w hS; go_frame)
                | (show wpList _ _ _ (⟨some 47, .call _, _, _, _, _⟩ :: _) _ _; (refine wpS_append slHash (hS.bring (by repeat (first | exact t0 | apply tS))) rfl rfl (sv := u5) (xs := bys G) (xv := v46) rfl rfl (ys := bys [y]) ((hS.bring (by repeat (first | exact t0 | apply tS))).getOwn.rd) (flat_bys _) HG1.out HG2.out ?_); clear hS; intro v47 w hS; rw [← bys_app] at hS; go_frame)
                | (show wpList _ _ _ (⟨some 53, .slice _ _ _ _ _, _, _, _, _⟩ :: _) _ _; refine wpList_val rfl (op_cut slHash rfl (v := v26) (xs := bys (M ++ [x])) rfl ((hS.bring (by repeat (first | exact t0 | apply tS))).getOwn.rd) (l := 1) (h := _) (Or.inr rfl) (Or.inl ⟨rfl, rfl⟩) HC1.out (Nat.le_refl _)) ?_; replace hS := SepL.ownCut (T := 24) (n := 32) (v := v26) (xs := bys (M ++ [x])) ((hS.bring (by repeat (first | exact t0 | apply tS)))) (l := 1) HC1.out; have HK1 := hide hS.getOwn.rd.cells1; have HK2 := hide hS.getOwn.rd.one1; rw [← bys_drop] at hS; go_frame)
                | (show wpList _ _ _ (⟨_, .store 31 _ _, _, _, _, _⟩ :: _) _ _; (refine wpS_store1 (b := p) (T := 42) (by kernel_rfl) (hS.bring (by repeat (first | exact t0 | apply tS))) rfl rfl rfl (v := cutV 32 v26 1 (bys (M ++ [x])).length) rfl HK1.out HK2.out (by simp) ?_); clear hS; intro w hS; go_frame)
                )
              go_roundw
              case rel =>
                refine ⟨k + 1, v26, G, by go_num, by omega, by omega, ?_⟩
                rw [HAN.out]
                exact hS.sel (by repeat (first | exact Sel.refl | refine Sel.take (by repeat (first | exact t0 | apply tS)) ?_ | apply Sel.drop))
              case measure => simp [intOf]; omega
          · skip
            refine ord_seg (by repeat (first | exact Clean.body | refine Clean.then ?_ | refine Clean.inBlock ?_ | refine SegQ.clean ?_ | refine FinC.clean ?_)) (n := 4) (rest := [[9, 10, 11, 12]]) [8, 1, 6] [⟨_, _, _, _, _, _⟩, ⟨_, _, _, _, _, _⟩, ⟨_, _, _, _, _, _⟩] rfl (by kernel_rfl) (by simp) _ _ ?_
            go_wp2_with (first
              | (show wpList _ _ _ (⟨some 18, .buildSlice _ _ _, _, _, _, _⟩ :: _) _ _; refine wpS_build0 slHash hS rfl rfl ?_; clear hS; intro v18 w hS; go_frame)
              | (show wpList _ _ _ (⟨some 22, .load _ _, _, _, _, _⟩ :: _) _ _; refine wpList_val rfl (op_load1S (b := p) (T := 42) oneHashes ((hS.bring (by repeat (first | exact t0 | apply tS)))) rfl rfl rfl) ?_; go_frame)
              | (show wpList _ _ _ (⟨some 23, .call _, _, _, _, _⟩ :: _) _ _; (refine wpS_append slHash (hS.bring (by repeat (first | exact t0 | apply tS))) rfl rfl (sv := v18) (xs := []) (xv := lv) rfl rfl (ys := bys M) ((hS.bring (by repeat (first | exact t0 | apply tS))).getOwn.rd) (flat_bys _) HB1.out HB2.out ?_); clear hS; intro v23 w hS; rw [List.nil_append] at hS; go_frame)
              | (show wpList _ _ _ (⟨some 24, .load _ _, _, _, _, _⟩ :: _) _ _; refine wpList_val rfl (op_load aggHash rfl rfl (SepL.getBlk (b := nb) (T := 24) ((hS.bring (by repeat (first | exact t0 | apply tS))))).cells HX32.out) ?_; go_frame)
              | (show wpList _ _ _ (⟨some 25, .buildSlice _ _ _, _, _, _, _⟩ :: _) _ _; refine wpS_build1A slHash (by omega) hS rfl rfl (cs := x.map B8) rfl HX32.out ?_; clear hS; intro v25 w hS; go_frame)
              | (show wpList _ _ _ (⟨some 26, .call _, _, _, _, _⟩ :: _) _ _; (refine wpS_append slHash (hS.bring (by repeat (first | exact t0 | apply tS))) rfl rfl (sv := v23) (xs := bys M) (xv := v25) rfl rfl (ys := bys [x]) ((hS.bring (by repeat (first | exact t0 | apply tS))).getOwn.rd) (flat_bys _) HB3.out HB4.out ?_); clear hS; intro v26 w hS; rw [← bys_app] at hS; have HU1 := hide hS.getOwn.rd.cells1; have HU2 := hide hS.getOwn.rd.one1; go_frame)
              | (show wpList _ _ _ (⟨_, .store 31 _ _, _, _, _, _⟩ :: _) _ _; (refine wpS_store1 (b := p) (T := 42) (by kernel_rfl) (hS.bring (by repeat (first | exact t0 | apply tS))) rfl rfl rfl (v := v26) rfl HU1.out HU2.out (by simp) ?_); clear hS; intro w hS; go_frame)
              )
            refine segQ_mk (((hS.bring (by repeat (first | exact t0 | apply tS))).getBlk) : Blk _ nb 24 (x.map B8)) ?_
            refine ord_seg (by repeat (first | exact Clean.body | refine Clean.then ?_ | refine Clean.inBlock ?_ | refine SegQ.clean ?_ | refine FinC.clean ?_)) (n := 3) (rest := [[10, 11, 12]]) [9] [⟨_, _, _, _, _, _⟩] rfl (by kernel_rfl) (by simp) _ _ ?_
            go_wp2_with (first
              | (show wpList _ _ _ (⟨some 18, .buildSlice _ _ _, _, _, _, _⟩ :: _) _ _; refine wpS_build0 slHash hS rfl rfl ?_; clear hS; intro v18 w hS; go_frame)
              | (show wpList _ _ _ (⟨some 22, .load _ _, _, _, _, _⟩ :: _) _ _; refine wpList_val rfl (op_load1S (b := p) (T := 42) oneHashes ((hS.bring (by repeat (first | exact t0 | apply tS)))) rfl rfl rfl) ?_; go_frame)
              | (show wpList _ _ _ (⟨some 23, .call _, _, _, _, _⟩ :: _) _ _; (refine wpS_append slHash (hS.bring (by repeat (first | exact t0 | apply tS))) rfl rfl (sv := v18) (xs := []) (xv := lv) rfl rfl (ys := bys M) ((hS.bring (by repeat (first | exact t0 | apply tS))).getOwn.rd) (flat_bys _) HB1.out HB2.out ?_); clear hS; intro v23 w hS; rw [List.nil_append] at hS; go_frame)
              | (show wpList _ _ _ (⟨some 24, .load _ _, _, _, _, _⟩ :: _) _ _; refine wpList_val rfl (op_load aggHash rfl rfl (SepL.getBlk (b := nb) (T := 24) ((hS.bring (by repeat (first | exact t0 | apply tS))))).cells HX32.out) ?_; go_frame)
              | (show wpList _ _ _ (⟨some 25, .buildSlice _ _ _, _, _, _, _⟩ :: _) _ _; refine wpS_build1A slHash (by omega) hS rfl rfl (cs := x.map B8) rfl HX32.out ?_; clear hS; intro v25 w hS; go_frame)
              | (show wpList _ _ _ (⟨some 26, .call _, _, _, _, _⟩ :: _) _ _; (refine wpS_append slHash (hS.bring (by repeat (first | exact t0 | apply tS))) rfl rfl (sv := v23) (xs := bys M) (xv := v25) rfl rfl (ys := bys [x]) ((hS.bring (by repeat (first | exact t0 | apply tS))).getOwn.rd) (flat_bys _) HB3.out HB4.out ?_); clear hS; intro v26 w hS; rw [← bys_app] at hS; have HU1 := hide hS.getOwn.rd.cells1; have HU2 := hide hS.getOwn.rd.one1; go_frame)
              | (show wpList _ _ _ (⟨_, .store 31 _ _, _, _, _, _⟩ :: _) _ _; (refine wpS_store1 (b := p) (T := 42) (by kernel_rfl) (hS.bring (by repeat (first | exact t0 | apply tS))) rfl rfl rfl (v := v26) rfl HU1.out HU2.out (by simp) ?_); clear hS; intro w hS; go_frame)
              )
            refine segQ_mk (((hS.bring (by repeat (first | exact t0 | apply tS))).getBlk) : Blk _ nb 24 (x.map B8)) ?_
            refine ord_seg (by repeat (first | exact Clean.body | refine Clean.then ?_ | refine Clean.inBlock ?_ | refine SegQ.clean ?_ | refine FinC.clean ?_)) (n := 0) (rest := [[]]) [10, 11, 12] [⟨_, _, _, _, _, _⟩, ⟨_, _, _, _, _, _⟩, ⟨_, _, _, _, _, _⟩] rfl (by kernel_rfl) (by simp) _ _ ?_
            go_wp2_with (first
              | (show wpList _ _ _ (⟨some 18, .buildSlice _ _ _, _, _, _, _⟩ :: _) _ _; refine wpS_build0 slHash hS rfl rfl ?_; clear hS; intro v18 w hS; go_frame)
              | (show wpList _ _ _ (⟨some 22, .load _ _, _, _, _, _⟩ :: _) _ _; refine wpList_val rfl (op_load1S (b := p) (T := 42) oneHashes ((hS.bring (by repeat (first | exact t0 | apply tS)))) rfl rfl rfl) ?_; go_frame)
              | (show wpList _ _ _ (⟨some 23, .call _, _, _, _, _⟩ :: _) _ _; (refine wpS_append slHash (hS.bring (by repeat (first | exact t0 | apply tS))) rfl rfl (sv := v18) (xs := []) (xv := lv) rfl rfl (ys := bys M) ((hS.bring (by repeat (first | exact t0 | apply tS))).getOwn.rd) (flat_bys _) HB1.out HB2.out ?_); clear hS; intro v23 w hS; rw [List.nil_append] at hS; go_frame)
              | (show wpList _ _ _ (⟨some 24, .load _ _, _, _, _, _⟩ :: _) _ _; refine wpList_val rfl (op_load aggHash rfl rfl (SepL.getBlk (b := nb) (T := 24) ((hS.bring (by repeat (first | exact t0 | apply tS))))).cells HX32.out) ?_; go_frame)
              | (show wpList _ _ _ (⟨some 25, .buildSlice _ _ _, _, _, _, _⟩ :: _) _ _; refine wpS_build1A slHash (by omega) hS rfl rfl (cs := x.map B8) rfl HX32.out ?_; clear hS; intro v25 w hS; go_frame)
              | (show wpList _ _ _ (⟨some 26, .call _, _, _, _, _⟩ :: _) _ _; (refine wpS_append slHash (hS.bring (by repeat (first | exact t0 | apply tS))) rfl rfl (sv := v23) (xs := bys M) (xv := v25) rfl rfl (ys := bys [x]) ((hS.bring (by repeat (first | exact t0 | apply tS))).getOwn.rd) (flat_bys _) HB3.out HB4.out ?_); clear hS; intro v26 w hS; rw [← bys_app] at hS; have HU1 := hide hS.getOwn.rd.cells1; have HU2 := hide hS.getOwn.rd.one1; go_frame)
              | (show wpList _ _ _ (⟨_, .store 31 _ _, _, _, _, _⟩ :: _) _ _; (refine wpS_store1 (b := p) (T := 42) (by kernel_rfl) (hS.bring (by repeat (first | exact t0 | apply tS))) rfl rfl rfl (v := v26) rfl HU1.out HU2.out (by simp) ?_); clear hS; intro w hS; go_frame)
              )
            refine segQ_mk (((hS.bring (by repeat (first | exact t0 | apply tS))).getBlk) : Blk _ nb 24 (x.map B8)) ?_
            refine finC_mk (by kernel_rfl) (by
              intro t ht
              simp only [List.mem_cons, List.not_mem_nil, or_false] at ht
              rcases ht with rfl
              exact stab_blk (b := nb) (fun w h => h) _ none) ?_
            go_wp2_with fail
            refine wp_region_text (by kernel_rfl) (by kernel_rfl) (by repeat (first | exact Clean.body | refine Clean.then ?_ | refine Clean.inBlock ?_)) ?_
            replace hS := hS.drew
            go_wp2_with (first
              | (show wpList _ _ _ (⟨_, .load 31 _, _, _, _, _⟩ :: _) _ _; refine wpList_val rfl (op_load1S (b := p) (T := 42) oneHashes ((hS.bring (by repeat (first | exact t0 | apply tS)))) rfl rfl rfl) ?_; go_frame)
              | (show wpList _ _ _ (⟨some 33, .call _, _, _, _, _⟩ :: _) _ _; refine wpList_val rfl (op_len slHash rfl rfl (v := v26) (xs := bys (M ++ [x])) rfl ((hS.bring (by repeat (first | exact t0 | apply tS))).getOwn.rd)) ?_; rw [HLN.out]; go_frame)
              | (show wpList _ _ _ (⟨_, .load 3 _, _, _, _, _⟩ :: _) _ _; refine wpList_val rfl (op_load1S (b := p) (T := 42) oneInt ((hS.bring (by repeat (first | exact t0 | apply tS)))) rfl rfl rfl) ?_; go_frame)
              | (show wpList _ _ _ (⟨some 38, .binOp _ _ _ _ _, _, _, _, _⟩ :: _) _ _; refine wpList_val rfl (op_igtr rfl rfl rfl HGT.out) ?_; go_frame)
              | (refine fin_mk (by kernel_rfl) ?_)
              | (show wpList _ _ _ (⟨some 44, .indexAddr _ _ _, _, _, _, _⟩ :: _) _ _; refine wpList_val rfl (op_indexAddrZ slHash rfl (v := v26) (xs := bys (M ++ [x])) rfl rfl ((hS.bring (by repeat (first | exact t0 | apply tS))).getOwn.rd) 0 rfl HZL.out) ?_; go_frame)
              | (show wpList _ _ _ (⟨some 45, .load _ _, _, _, _, _⟩ :: _) _ _; refine wpList_val rfl (op_loadE aggHash rfl (v := v26) (xs := bys (M ++ [x])) (k := 0) rfl ((hS.bring (by repeat (first | exact t0 | apply tS))).getOwn.rd) HZL.out) ?_; rw [HY.out]; go_frame)
              | (show wpList _ _ _ (⟨some 46, .buildSlice _ _ _, _, _, _, _⟩ :: _) _ _; refine wpS_build1A slHash (by omega) hS rfl rfl (cs := y.map B8) rfl HY32.out ?_; clear hS; intro v46 w hS; go_frame)
              | (show wpList _ _ _ (⟨some 47, .call _, _, _, _, _⟩ :: _) _ _; (refine wpS_append slHash (hS.bring (by repeat (first | exact t0 | apply tS))) rfl rfl (sv := u5) (xs := bys G) (xv := v46) rfl rfl (ys := bys [y]) ((hS.bring (by repeat (first | exact t0 | apply tS))).getOwn.rd) (flat_bys _) HG1.out HG2.out ?_); clear hS; intro v47 w hS; rw [← bys_app] at hS; go_frame)
              | (show wpList _ _ _ (⟨some 53, .slice _ _ _ _ _, _, _, _, _⟩ :: _) _ _; refine wpList_val rfl (op_cut slHash rfl (v := v26) (xs := bys (M ++ [x])) rfl ((hS.bring (by repeat (first | exact t0 | apply tS))).getOwn.rd) (l := 1) (h := _) (Or.inr rfl) (Or.inl ⟨rfl, rfl⟩) HC1.out (Nat.le_refl _)) ?_; replace hS := SepL.ownCut (T := 24) (n := 32) (v := v26) (xs := bys (M ++ [x])) ((hS.bring (by repeat (first | exact t0 | apply tS)))) (l := 1) HC1.out; have HK1 := hide hS.getOwn.rd.cells1; have HK2 := hide hS.getOwn.rd.one1; rw [← bys_drop] at hS; go_frame)
              | (show wpList _ _ _ (⟨_, .store 31 _ _, _, _, _, _⟩ :: _) _ _; (refine wpS_store1 (b := p) (T := 42) (by kernel_rfl) (hS.bring (by repeat (first | exact t0 | apply tS))) rfl rfl rfl (v := cutV 32 v26 1 (bys (M ++ [x])).length) rfl HK1.out HK2.out (by simp) ?_); clear hS; intro w hS; go_frame)
              )
            go_roundw
            case rel =>
              refine ⟨k + 1, v26, G, by go_num, by omega, by omega, ?_⟩
              rw [HAN.out]
              exact hS.sel (by repeat (first | exact Sel.refl | refine Sel.take (by repeat (first | exact t0 | apply tS)) ?_ | apply Sel.drop))
            case measure => simp [intOf]; omega
        · rw [if_neg hroom] at han
          have HAN := hide han
          have HGT : Hid (decide ((64 : Int) < ((M.length + 1 : Nat) : Int)) = true) := decide_eq_true (by omega)
          have HZL : Hid (0 < (bys (M ++ [x])).length) := by unfold Hid; rw [HLN.out]; omega
          have HC1 : Hid (1 ≤ (bys (M ++ [x])).length) := by unfold Hid; rw [HLN.out]; omega
          have hz : 0 < (M ++ [x]).length := by simp
          obtain ⟨y, hy⟩ : ∃ y, (M ++ [x])[0] = y := ⟨_, rfl⟩
          have HY : Hid ((bys (M ++ [x]))[0]'HZL.out = y.map B8) := by unfold Hid; rw [bys_get HZL.out hz, hy]
          have hy32 : y.length = 32 := by
            rw [← hy]
            exact (hm32.app (l := [x]) (by simpa [Is32] using HX0.out)) _ (List.getElem_mem hz)
          have HY32 : Hid ((y.map B8).length = 32) := by simp [Hid, hy32]
          have HG1 : Hid (((bys G).length + (bys [y]).length) * 32 ≤ 140737488355328) := by
            unfold Hid
            rw [bys_length, bys_length, List.length_singleton]
            omega
          have HG2 : Hid ((bys G).length + (bys [y]).length ≤ maxLen) := by
            unfold Hid maxLen
            rw [bys_length, bys_length, List.length_singleton]
            omega
          clear hmem hsn hm32 han hz hy hy32
          go_wp2_with (first
            | (show wpList _ _ _ (⟨some 12, .indexAddr _ _ _, _, _, _, _⟩ :: _) _ _; refine wpList_val rfl (op_indexAddr slHash rfl (v := v) (xs := bys l) rfl (k := k) rfl (by exact hS.rd hl) hlk) ?_; go_frame)
            | (show wpList _ _ _ (⟨some 13, .load _ _, _, _, _, _⟩ :: _) _ _; refine wpList_val rfl (op_loadE aggHash rfl (v := v) (xs := bys l) (k := k) rfl (by exact hS.rd hl) hlk) ?_; rw [HX.out]; go_frame)
            | (show wpList _ _ _ (⟨_, .alloc _, _, _, _, _⟩ :: _) _ _; refine wpS_alloc hS rfl rfl Try.zeroValue24 (zs := List.replicate 32 (.int .u8 0)) rfl ?_; clear hS; intro nb w hS; go_frame)
            | (show wpList _ _ _ (⟨_, .store 24 _ _, _, _, _, _⟩ :: _) _ _; (refine wpS_storeAll (b := nb) aggHash (hS.bring (by repeat (first | exact t0 | apply tS))) rfl rfl rfl (vs := x.map B8) rfl HX32.out (flat_B8 x) rfl ?_); clear hS; intro w hS; go_frame)
            | (show wpList _ _ _ (⟨_, .load 24 (.tmp 7), _, _, _, _⟩ :: _) _ _; refine wpList_val rfl (op_load aggHash rfl rfl (SepL.getBlk (b := nb) (T := 24) ((hS.bring (by repeat (first | exact t0 | apply tS))))).cells HX32.out) ?_; go_frame)
            | (go_at_call 23; refine Ret.calls (rhas_s (p := p) (lv := lv) (wv := wv) (L := M) (x := x) (F := .own 24 32 u5 (bys G) :: .blk nb 24 (x.map B8) :: F) (hS.sel (by repeat (first | exact Sel.refl | refine Sel.take (by repeat (first | exact t0 | apply tS)) ?_ | apply Sel.drop))) HM32.out HX0.out HMK) ?_; clear hS; rintro r1 w ⟨rfl, hS⟩)
            )
          go_wp2_with fail
          refine wp_region_ord (by kernel_rfl) [7] [[0, 2, 3, 4, 5, 7, 1, 6, 8, 9, 10, 11, 12], [0, 2, 3, 4, 5, 7, 1, 8, 6, 9, 10, 11, 12], [0, 2, 3, 4, 5, 7, 8, 1, 6, 9, 10, 11, 12]] (by kernel_rfl) (by kernel_rfl) (fun w' => Blk w' nb 24 (x.map B8)) Up.blk ((hS.bring (by repeat (first | exact t0 | apply tS))).getBlk) (by repeat (first | exact Clean.body | refine Clean.then ?_ | refine Clean.inBlock ?_ | refine SegQ.clean ?_ | refine FinC.clean ?_)) ?_
          replace hS := hS.drew
          refine ord_seg (by repeat (first | exact Clean.body | refine Clean.then ?_ | refine Clean.inBlock ?_ | refine SegQ.clean ?_ | refine FinC.clean ?_)) (n := 7) (rest := [[1, 6, 8, 9, 10, 11, 12], [1, 8, 6, 9, 10, 11, 12], [8, 1, 6, 9, 10, 11, 12]]) [0, 2, 3, 4, 5, 7] [⟨_, _, _, _, _, _⟩, ⟨_, _, _, _, _, _⟩, ⟨_, _, _, _, _, _⟩, ⟨_, _, _, _, _, _⟩, ⟨_, _, _, _, _, _⟩, ⟨_, _, _, _, _, _⟩] rfl (by kernel_rfl) (by simp) _ _ ?_
          go_wp2_with (first
            | (show wpList _ _ _ (⟨some 18, .buildSlice _ _ _, _, _, _, _⟩ :: _) _ _; refine wpS_build0 slHash hS rfl rfl ?_; clear hS; intro v18 w hS; go_frame)
            | (show wpList _ _ _ (⟨some 22, .load _ _, _, _, _, _⟩ :: _) _ _; refine wpList_val rfl (op_load1S (b := p) (T := 42) oneHashes ((hS.bring (by repeat (first | exact t0 | apply tS)))) rfl rfl rfl) ?_; go_frame)
            | (show wpList _ _ _ (⟨some 23, .call _, _, _, _, _⟩ :: _) _ _; (refine wpS_append slHash (hS.bring (by repeat (first | exact t0 | apply tS))) rfl rfl (sv := v18) (xs := []) (xv := lv) rfl rfl (ys := bys M) ((hS.bring (by repeat (first | exact t0 | apply tS))).getOwn.rd) (flat_bys _) HB1.out HB2.out ?_); clear hS; intro v23 w hS; rw [List.nil_append] at hS; go_frame)
            | (show wpList _ _ _ (⟨some 24, .load _ _, _, _, _, _⟩ :: _) _ _; refine wpList_val rfl (op_load aggHash rfl rfl (SepL.getBlk (b := nb) (T := 24) ((hS.bring (by repeat (first | exact t0 | apply tS))))).cells HX32.out) ?_; go_frame)
            | (show wpList _ _ _ (⟨some 25, .buildSlice _ _ _, _, _, _, _⟩ :: _) _ _; refine wpS_build1A slHash (by omega) hS rfl rfl (cs := x.map B8) rfl HX32.out ?_; clear hS; intro v25 w hS; go_frame)
            | (show wpList _ _ _ (⟨some 26, .call _, _, _, _, _⟩ :: _) _ _; (refine wpS_append slHash (hS.bring (by repeat (first | exact t0 | apply tS))) rfl rfl (sv := v23) (xs := bys M) (xv := v25) rfl rfl (ys := bys [x]) ((hS.bring (by repeat (first | exact t0 | apply tS))).getOwn.rd) (flat_bys _) HB3.out HB4.out ?_); clear hS; intro v26 w hS; rw [← bys_app] at hS; have HU1 := hide hS.getOwn.rd.cells1; have HU2 := hide hS.getOwn.rd.one1; go_frame)
            | (show wpList _ _ _ (⟨_, .store 31 _ _, _, _, _, _⟩ :: _) _ _; (refine wpS_store1 (b := p) (T := 42) (by kernel_rfl) (hS.bring (by repeat (first | exact t0 | apply tS))) rfl rfl rfl (v := v26) rfl HU1.out HU2.out (by simp) ?_); clear hS; intro w hS; go_frame)
            )
          refine segQ_mk (((hS.bring (by repeat (first | exact t0 | apply tS))).getBlk) : Blk _ nb 24 (x.map B8)) ?_
          refine ord_fork (n := 6) (os1 := [[1, 6, 8, 9, 10, 11, 12], [1, 8, 6, 9, 10, 11, 12]]) (os2 := [[8, 1, 6, 9, 10, 11, 12]]) (by decide) ?_ ?_
          · skip
            refine ord_seg (by repeat (first | exact Clean.body | refine Clean.then ?_ | refine Clean.inBlock ?_ | refine SegQ.clean ?_ | refine FinC.clean ?_)) (n := 6) (rest := [[6, 8, 9, 10, 11, 12], [8, 6, 9, 10, 11, 12]]) [1] [⟨_, _, _, _, _, _⟩] rfl (by kernel_rfl) (by simp) _ _ ?_
            go_wp2_with (first
              | (show wpList _ _ _ (⟨some 18, .buildSlice _ _ _, _, _, _, _⟩ :: _) _ _; refine wpS_build0 slHash hS rfl rfl ?_; clear hS; intro v18 w hS; go_frame)
              | (show wpList _ _ _ (⟨some 22, .load _ _, _, _, _, _⟩ :: _) _ _; refine wpList_val rfl (op_load1S (b := p) (T := 42) oneHashes ((hS.bring (by repeat (first | exact t0 | apply tS)))) rfl rfl rfl) ?_; go_frame)
              | (show wpList _ _ _ (⟨some 23, .call _, _, _, _, _⟩ :: _) _ _; (refine wpS_append slHash (hS.bring (by repeat (first | exact t0 | apply tS))) rfl rfl (sv := v18) (xs := []) (xv := lv) rfl rfl (ys := bys M) ((hS.bring (by repeat (first | exact t0 | apply tS))).getOwn.rd) (flat_bys _) HB1.out HB2.out ?_); clear hS; intro v23 w hS; rw [List.nil_append] at hS; go_frame)
              | (show wpList _ _ _ (⟨some 24, .load _ _, _, _, _, _⟩ :: _) _ _; refine wpList_val rfl (op_load aggHash rfl rfl (SepL.getBlk (b := nb) (T := 24) ((hS.bring (by repeat (first | exact t0 | apply tS))))).cells HX32.out) ?_; go_frame)
              | (show wpList _ _ _ (⟨some 25, .buildSlice _ _ _, _, _, _, _⟩ :: _) _ _; refine wpS_build1A slHash (by omega) hS rfl rfl (cs := x.map B8) rfl HX32.out ?_; clear hS; intro v25 w hS; go_frame)
              | (show wpList _ _ _ (⟨some 26, .call _, _, _, _, _⟩ :: _) _ _; (refine wpS_append slHash (hS.bring (by repeat (first | exact t0 | apply tS))) rfl rfl (sv := v23) (xs := bys M) (xv := v25) rfl rfl (ys := bys [x]) ((hS.bring (by repeat (first | exact t0 | apply tS))).getOwn.rd) (flat_bys _) HB3.out HB4.out ?_); clear hS; intro v26 w hS; rw [← bys_app] at hS; have HU1 := hide hS.getOwn.rd.cells1; have HU2 := hide hS.getOwn.rd.one1; go_frame)
              | (show wpList _ _ _ (⟨_, .store 31 _ _, _, _, _, _⟩ :: _) _ _; (refine wpS_store1 (b := p) (T := 42) (by kernel_rfl) (hS.bring (by repeat (first | exact t0 | apply tS))) rfl rfl rfl (v := v26) rfl HU1.out HU2.out (by simp) ?_); clear hS; intro w hS; go_frame)
              )
            refine segQ_mk (((hS.bring (by repeat (first | exact t0 | apply tS))).getBlk) : Blk _ nb 24 (x.map B8)) ?_
            refine ord_fork (n := 5) (os1 := [[6, 8, 9, 10, 11, 12]]) (os2 := [[8, 6, 9, 10, 11, 12]]) (by decide) ?_ ?_
            · skip
              refine ord_seg (by repeat (first | exact Clean.body | refine Clean.then ?_ | refine Clean.inBlock ?_ | refine SegQ.clean ?_ | refine FinC.clean ?_)) (n := 5) (rest := [[8, 9, 10, 11, 12]]) [6] [⟨_, _, _, _, _, _⟩] rfl (by kernel_rfl) (by simp) _ _ ?_
              go_wp2_with (first
                | (show wpList _ _ _ (⟨some 18, .buildSlice _ _ _, _, _, _, _⟩ :: _) _ _; refine wpS_build0 slHash hS rfl rfl ?_; clear hS; intro v18 w hS; go_frame)
                | (show wpList _ _ _ (⟨some 22, .load _ _, _, _, _, _⟩ :: _) _ _; refine wpList_val rfl (op_load1S (b := p) (T := 42) oneHashes ((hS.bring (by repeat (first | exact t0 | apply tS)))) rfl rfl rfl) ?_; go_frame)
                | (show wpList _ _ _ (⟨some 23, .call _, _, _, _, _⟩ :: _) _ _; (refine wpS_append slHash (hS.bring (by repeat (first | exact t0 | apply tS))) rfl rfl (sv := v18) (xs := []) (xv := lv) rfl rfl (ys := bys M) ((hS.bring (by repeat (first | exact t0 | apply tS))).getOwn.rd) (flat_bys _) HB1.out HB2.out ?_); clear hS; intro v23 w hS; rw [List.nil_append] at hS; go_frame)
                | (show wpList _ _ _ (⟨some 24, .load _ _, _, _, _, _⟩ :: _) _ _; refine wpList_val rfl (op_load aggHash rfl rfl (SepL.getBlk (b := nb) (T := 24) ((hS.bring (by repeat (first | exact t0 | apply tS))))).cells HX32.out) ?_; go_frame)
                | (show wpList _ _ _ (⟨some 25, .buildSlice _ _ _, _, _, _, _⟩ :: _) _ _; refine wpS_build1A slHash (by omega) hS rfl rfl (cs := x.map B8) rfl HX32.out ?_; clear hS; intro v25 w hS; go_frame)
                | (show wpList _ _ _ (⟨some 26, .call _, _, _, _, _⟩ :: _) _ _; (refine wpS_append slHash (hS.bring (by repeat (first | exact t0 | apply tS))) rfl rfl (sv := v23) (xs := bys M) (xv := v25) rfl rfl (ys := bys [x]) ((hS.bring (by repeat (first | exact t0 | apply tS))).getOwn.rd) (flat_bys _) HB3.out HB4.out ?_); clear hS; intro v26 w hS; rw [← bys_app] at hS; have HU1 := hide hS.getOwn.rd.cells1; have HU2 := hide hS.getOwn.rd.one1; go_frame)
                | (show wpList _ _ _ (⟨_, .store 31 _ _, _, _, _, _⟩ :: _) _ _; (refine wpS_store1 (b := p) (T := 42) (by kernel_rfl) (hS.bring (by repeat (first | exact t0 | apply tS))) rfl rfl rfl (v := v26) rfl HU1.out HU2.out (by simp) ?_); clear hS; intro w hS; go_frame)
                )
              refine segQ_mk (((hS.bring (by repeat (first | exact t0 | apply tS))).getBlk) : Blk _ nb 24 (x.map B8)) ?_
              refine ord_seg (by repeat (first | exact Clean.body | refine Clean.then ?_ | refine Clean.inBlock ?_ | refine SegQ.clean ?_ | refine FinC.clean ?_)) (n := 3) (rest := [[10, 11, 12]]) [8, 9] [⟨_, _, _, _, _, _⟩, ⟨_, _, _, _, _, _⟩] rfl (by kernel_rfl) (by simp) _ _ ?_
              go_wp2_with (first
                | (show wpList _ _ _ (⟨some 18, .buildSlice _ _ _, _, _, _, _⟩ :: _) _ _; refine wpS_build0 slHash hS rfl rfl ?_; clear hS; intro v18 w hS; go_frame)
                | (show wpList _ _ _ (⟨some 22, .load _ _, _, _, _, _⟩ :: _) _ _; refine wpList_val rfl (op_load1S (b := p) (T := 42) oneHashes ((hS.bring (by repeat (first | exact t0 | apply tS)))) rfl rfl rfl) ?_; go_frame)
                | (show wpList _ _ _ (⟨some 23, .call _, _, _, _, _⟩ :: _) _ _; (refine wpS_append slHash (hS.bring (by repeat (first | exact t0 | apply tS))) rfl rfl (sv := v18) (xs := []) (xv := lv) rfl rfl (ys := bys M) ((hS.bring (by repeat (first | exact t0 | apply tS))).getOwn.rd) (flat_bys _) HB1.out HB2.out ?_); clear hS; intro v23 w hS; rw [List.nil_append] at hS; go_frame)
                | (show wpList _ _ _ (⟨some 24, .load _ _, _, _, _, _⟩ :: _) _ _; refine wpList_val rfl (op_load aggHash rfl rfl (SepL.getBlk (b := nb) (T := 24) ((hS.bring (by repeat (first | exact t0 | apply tS))))).cells HX32.out) ?_; go_frame)
                | (show wpList _ _ _ (⟨some 25, .buildSlice _ _ _, _, _, _, _⟩ :: _) _ _; refine wpS_build1A slHash (by omega) hS rfl rfl (cs := x.map B8) rfl HX32.out ?_; clear hS; intro v25 w hS; go_frame)
                | (show wpList _ _ _ (⟨some 26, .call _, _, _, _, _⟩ :: _) _ _; (refine wpS_append slHash (hS.bring (by repeat (first | exact t0 | apply tS))) rfl rfl (sv := v23) (xs := bys M) (xv := v25) rfl rfl (ys := bys [x]) ((hS.bring (by repeat (first | exact t0 | apply tS))).getOwn.rd) (flat_bys _) HB3.out HB4.out ?_); clear hS; intro v26 w hS; rw [← bys_app] at hS; have HU1 := hide hS.getOwn.rd.cells1; have HU2 := hide hS.getOwn.rd.one1; go_frame)
                | (show wpList _ _ _ (⟨_, .store 31 _ _, _, _, _, _⟩ :: _) _ _; (refine wpS_store1 (b := p) (T := 42) (by kernel_rfl) (hS.bring (by repeat (first | exact t0 | apply tS))) rfl rfl rfl (v := v26) rfl HU1.out HU2.out (by simp) ?_); clear hS; intro w hS; go_frame)
                )
              refine segQ_mk (((hS.bring (by repeat (first | exact t0 | apply tS))).getBlk) : Blk _ nb 24 (x.map B8)) ?_
              refine ord_seg (by repeat (first | exact Clean.body | refine Clean.then ?_ | refine Clean.inBlock ?_ | refine SegQ.clean ?_ | refine FinC.clean ?_)) (n := 0) (rest := [[]]) [10, 11, 12] [⟨_, _, _, _, _, _⟩, ⟨_, _, _, _, _, _⟩, ⟨_, _, _, _, _, _⟩] rfl (by kernel_rfl) (by simp) _ _ ?_
              go_wp2_with (first
                | (show wpList _ _ _ (⟨some 18, .buildSlice _ _ _, _, _, _, _⟩ :: _) _ _; refine wpS_build0 slHash hS rfl rfl ?_; clear hS; intro v18 w hS; go_frame)
                | (show wpList _ _ _ (⟨some 22, .load _ _, _, _, _, _⟩ :: _) _ _; refine wpList_val rfl (op_load1S (b := p) (T := 42) oneHashes ((hS.bring (by repeat (first | exact t0 | apply tS)))) rfl rfl rfl) ?_; go_frame)
                | (show wpList _ _ _ (⟨some 23, .call _, _, _, _, _⟩ :: _) _ _; (refine wpS_append slHash (hS.bring (by repeat (first | exact t0 | apply tS))) rfl rfl (sv := v18) (xs := []) (xv := lv) rfl rfl (ys := bys M) ((hS.bring (by repeat (first | exact t0 | apply tS))).getOwn.rd) (flat_bys _) HB1.out HB2.out ?_); clear hS; intro v23 w hS; rw [List.nil_append] at hS; go_frame)
                | (show wpList _ _ _ (⟨some 24, .load _ _, _, _, _, _⟩ :: _) _ _; refine wpList_val rfl (op_load aggHash rfl rfl (SepL.getBlk (b := nb) (T := 24) ((hS.bring (by repeat (first | exact t0 | apply tS))))).cells HX32.out) ?_; go_frame)
                | (show wpList _ _ _ (⟨some 25, .buildSlice _ _ _, _, _, _, _⟩ :: _) _ _; refine wpS_build1A slHash (by omega) hS rfl rfl (cs := x.map B8) rfl HX32.out ?_; clear hS; intro v25 w hS; go_frame)
                | (show wpList _ _ _ (⟨some 26, .call _, _, _, _, _⟩ :: _) _ _; (refine wpS_append slHash (hS.bring (by repeat (first | exact t0 | apply tS))) rfl rfl (sv := v23) (xs := bys M) (xv := v25) rfl rfl (ys := bys [x]) ((hS.bring (by repeat (first | exact t0 | apply tS))).getOwn.rd) (flat_bys _) HB3.out HB4.out ?_); clear hS; intro v26 w hS; rw [← bys_app] at hS; have HU1 := hide hS.getOwn.rd.cells1; have HU2 := hide hS.getOwn.rd.one1; go_frame)
                | (show wpList _ _ _ (⟨_, .store 31 _ _, _, _, _, _⟩ :: _) _ _; (refine wpS_store1 (b := p) (T := 42) (by kernel_rfl) (hS.bring (by repeat (first | exact t0 | apply tS))) rfl rfl rfl (v := v26) rfl HU1.out HU2.out (by simp) ?_); clear hS; intro w hS; go_frame)
                )
              refine segQ_mk (((hS.bring (by repeat (first | exact t0 | apply tS))).getBlk) : Blk _ nb 24 (x.map B8)) ?_
              refine finC_mk (by kernel_rfl) (by
                intro t ht
                simp only [List.mem_cons, List.not_mem_nil, or_false] at ht
                rcases ht with rfl
                exact stab_blk (b := nb) (fun w h => h) _ none) ?_
              go_wp2_with fail
              refine wp_region_text (by kernel_rfl) (by kernel_rfl) (by repeat (first | exact Clean.body | refine Clean.then ?_ | refine Clean.inBlock ?_)) ?_
              replace hS := hS.drew
              go_wp2_with (first
                | (show wpList _ _ _ (⟨_, .load 31 _, _, _, _, _⟩ :: _) _ _; refine wpList_val rfl (op_load1S (b := p) (T := 42) oneHashes ((hS.bring (by repeat (first | exact t0 | apply tS)))) rfl rfl rfl) ?_; go_frame)
                | (show wpList _ _ _ (⟨some 33, .call _, _, _, _, _⟩ :: _) _ _; refine wpList_val rfl (op_len slHash rfl rfl (v := v26) (xs := bys (M ++ [x])) rfl ((hS.bring (by repeat (first | exact t0 | apply tS))).getOwn.rd)) ?_; rw [HLN.out]; go_frame)
                | (show wpList _ _ _ (⟨_, .load 3 _, _, _, _, _⟩ :: _) _ _; refine wpList_val rfl (op_load1S (b := p) (T := 42) oneInt ((hS.bring (by repeat (first | exact t0 | apply tS)))) rfl rfl rfl) ?_; go_frame)
                | (show wpList _ _ _ (⟨some 38, .binOp _ _ _ _ _, _, _, _, _⟩ :: _) _ _; refine wpList_val rfl (op_igtr rfl rfl rfl HGT.out) ?_; go_frame)
                | (refine fin_mk (by kernel_rfl) ?_)
                | (show wpList _ _ _ (⟨some 44, .indexAddr _ _ _, _, _, _, _⟩ :: _) _ _; refine wpList_val rfl (op_indexAddrZ slHash rfl (v := v26) (xs := bys (M ++ [x])) rfl rfl ((hS.bring (by repeat (first | exact t0 | apply tS))).getOwn.rd) 0 rfl HZL.out) ?_; go_frame)
                | (show wpList _ _ _ (⟨some 45, .load _ _, _, _, _, _⟩ :: _) _ _; refine wpList_val rfl (op_loadE aggHash rfl (v := v26) (xs := bys (M ++ [x])) (k := 0) rfl ((hS.bring (by repeat (first | exact t0 | apply tS))).getOwn.rd) HZL.out) ?_; rw [HY.out]; go_frame)
                | (show wpList _ _ _ (⟨some 46, .buildSlice _ _ _, _, _, _, _⟩ :: _) _ _; refine wpS_build1A slHash (by omega) hS rfl rfl (cs := y.map B8) rfl HY32.out ?_; clear hS; intro v46 w hS; go_frame)
                | (show wpList _ _ _ (⟨some 47, .call _, _, _, _, _⟩ :: _) _ _; (refine wpS_append slHash (hS.bring (by repeat (first | exact t0 | apply tS))) rfl rfl (sv := u5) (xs := bys G) (xv := v46) rfl rfl (ys := bys [y]) ((hS.bring (by repeat (first | exact t0 | apply tS))).getOwn.rd) (flat_bys _) HG1.out HG2.out ?_); clear hS; intro v47 w hS; rw [← bys_app] at hS; go_frame)
                | (show wpList _ _ _ (⟨some 53, .slice _ _ _ _ _, _, _, _, _⟩ :: _) _ _; refine wpList_val rfl (op_cut slHash rfl (v := v26) (xs := bys (M ++ [x])) rfl ((hS.bring (by repeat (first | exact t0 | apply tS))).getOwn.rd) (l := 1) (h := _) (Or.inr rfl) (Or.inl ⟨rfl, rfl⟩) HC1.out (Nat.le_refl _)) ?_; replace hS := SepL.ownCut (T := 24) (n := 32) (v := v26) (xs := bys (M ++ [x])) ((hS.bring (by repeat (first | exact t0 | apply tS)))) (l := 1) HC1.out; have HK1 := hide hS.getOwn.rd.cells1; have HK2 := hide hS.getOwn.rd.one1; rw [← bys_drop] at hS; go_frame)
                | (show wpList _ _ _ (⟨_, .store 31 _ _, _, _, _, _⟩ :: _) _ _; (refine wpS_store1 (b := p) (T := 42) (by kernel_rfl) (hS.bring (by repeat (first | exact t0 | apply tS))) rfl rfl rfl (v := cutV 32 v26 1 (bys (M ++ [x])).length) rfl HK1.out HK2.out (by simp) ?_); clear hS; intro w hS; go_frame)
                )
              go_roundw
              case rel =>
                refine ⟨k + 1, cutV 32 v26 1 (bys (M ++ [x])).length, G ++ [y], by go_num, by omega, by rw [List.length_append, List.length_singleton]; omega, ?_⟩
                rw [HAN.out]
                exact hS.sel (by repeat (first | exact Sel.refl | refine Sel.take (by repeat (first | exact t0 | apply tS)) ?_ | apply Sel.drop))
              case measure => simp [intOf]; omega
            · skip
              refine ord_seg (by repeat (first | exact Clean.body | refine Clean.then ?_ | refine Clean.inBlock ?_ | refine SegQ.clean ?_ | refine FinC.clean ?_)) (n := 4) (rest := [[9, 10, 11, 12]]) [8, 6] [⟨_, _, _, _, _, _⟩, ⟨_, _, _, _, _, _⟩] rfl (by kernel_rfl) (by simp) _ _ ?_
              go_wp2_with (first
                | (show wpList _ _ _ (⟨some 18, .buildSlice _ _ _, _, _, _, _⟩ :: _) _ _; refine wpS_build0 slHash hS rfl rfl ?_; clear hS; intro v18 w hS; go_frame)
                | (show wpList _ _ _ (⟨some 22, .load _ _, _, _, _, _⟩ :: _) _ _; refine wpList_val rfl (op_load1S (b := p) (T := 42) oneHashes ((hS.bring (by repeat (first | exact t0 | apply tS)))) rfl rfl rfl) ?_; go_frame)
                | (show wpList _ _ _ (⟨some 23, .call _, _, _, _, _⟩ :: _) _ _; (refine wpS_append slHash (hS.bring (by repeat (first | exact t0 | apply tS))) rfl rfl (sv := v18) (xs := []) (xv := lv) rfl rfl (ys := bys M) ((hS.bring (by repeat (first | exact t0 | apply tS))).getOwn.rd) (flat_bys _) HB1.out HB2.out ?_); clear hS; intro v23 w hS; rw [List.nil_append] at hS; go_frame)
                | (show wpList _ _ _ (⟨some 24, .load _ _, _, _, _, _⟩ :: _) _ _; refine wpList_val rfl (op_load aggHash rfl rfl (SepL.getBlk (b := nb) (T := 24) ((hS.bring (by repeat (first | exact t0 | apply tS))))).cells HX32.out) ?_; go_frame)
                | (show wpList _ _ _ (⟨some 25, .buildSlice _ _ _, _, _, _, _⟩ :: _) _ _; refine wpS_build1A slHash (by omega) hS rfl rfl (cs := x.map B8) rfl HX32.out ?_; clear hS; intro v25 w hS; go_frame)
                | (show wpList _ _ _ (⟨some 26, .call _, _, _, _, _⟩ :: _) _ _; (refine wpS_append slHash (hS.bring (by repeat (first | exact t0 | apply tS))) rfl rfl (sv := v23) (xs := bys M) (xv := v25) rfl rfl (ys := bys [x]) ((hS.bring (by repeat (first | exact t0 | apply tS))).getOwn.rd) (flat_bys _) HB3.out HB4.out ?_); clear hS; intro v26 w hS; rw [← bys_app] at hS; have HU1 := hide hS.getOwn.rd.cells1; have HU2 := hide hS.getOwn.rd.one1; go_frame)
                | (show wpList _ _ _ (⟨_, .store 31 _ _, _, _, _, _⟩ :: _) _ _; (refine wpS_store1 (b := p) (T := 42) (by kernel_rfl) (hS.bring (by repeat (first | exact t0 | apply tS))) rfl rfl rfl (v := v26) rfl HU1.out HU2.out (by simp) ?_); clear hS; intro w hS; go_frame)
                )
              refine segQ_mk (((hS.bring (by repeat (first | exact t0 | apply tS))).getBlk) : Blk _ nb 24 (x.map B8)) ?_
              refine ord_seg (by repeat (first | exact Clean.body | refine Clean.then ?_ | refine Clean.inBlock ?_ | refine SegQ.clean ?_ | refine FinC.clean ?_)) (n := 3) (rest := [[10, 11, 12]]) [9] [⟨_, _, _, _, _, _⟩] rfl (by kernel_rfl) (by simp) _ _ ?_
              go_wp2_with (first
                | (show wpList _ _ _ (⟨some 18, .buildSlice _ _ _, _, _, _, _⟩ :: _) _ _; refine wpS_build0 slHash hS rfl rfl ?_; clear hS; intro v18 w hS; go_frame)
                | (show wpList _ _ _ (⟨some 22, .load _ _, _, _, _, _⟩ :: _) _ _; refine wpList_val rfl (op_load1S (b := p) (T := 42) oneHashes ((hS.bring (by repeat (first | exact t0 | apply tS)))) rfl rfl rfl) ?_; go_frame)
                | (show wpList _ _ _ (⟨some 23, .call _, _, _, _, _⟩ :: _) _ _; (refine wpS_append slHash (hS.bring (by repeat (first | exact t0 | apply tS))) rfl rfl (sv := v18) (xs := []) (xv := lv) rfl rfl (ys := bys M) ((hS.bring (by repeat (first | exact t0 | apply tS))).getOwn.rd) (flat_bys _) HB1.out HB2.out ?_); clear hS; intro v23 w hS; rw [List.nil_append] at hS; go_frame)
                | (show wpList _ _ _ (⟨some 24, .load _ _, _, _, _, _⟩ :: _) _ _; refine wpList_val rfl (op_load aggHash rfl rfl (SepL.getBlk (b := nb) (T := 24) ((hS.bring (by repeat (first | exact t0 | apply tS))))).cells HX32.out) ?_; go_frame)
                | (show wpList _ _ _ (⟨some 25, .buildSlice _ _ _, _, _, _, _⟩ :: _) _ _; refine wpS_build1A slHash (by omega) hS rfl rfl (cs := x.map B8) rfl HX32.out ?_; clear hS; intro v25 w hS; go_frame)
                | (show wpList _ _ _ (⟨some 26, .call _, _, _, _, _⟩ :: _) _ _; (refine wpS_append slHash (hS.bring (by repeat (first | exact t0 | apply tS))) rfl rfl (sv := v23) (xs := bys M) (xv := v25) rfl rfl (ys := bys [x]) ((hS.bring (by repeat (first | exact t0 | apply tS))).getOwn.rd) (flat_bys _) HB3.out HB4.out ?_); clear hS; intro v26 w hS; rw [← bys_app] at hS; have HU1 := hide hS.getOwn.rd.cells1; have HU2 := hide hS.getOwn.rd.one1; go_frame)
                | (show wpList _ _ _ (⟨_, .store 31 _ _, _, _, _, _⟩ :: _) _ _; (refine wpS_store1 (b := p) (T := 42) (by kernel_rfl) (hS.bring (by repeat (first | exact t0 | apply tS))) rfl rfl rfl (v := v26) rfl HU1.out HU2.out (by simp) ?_); clear hS; intro w hS; go_frame)
                )
              refine segQ_mk (((hS.bring (by repeat (first | exact t0 | apply tS))).getBlk) : Blk _ nb 24 (x.map B8)) ?_
              refine ord_seg (by repeat (first | exact Clean.body | refine Clean.then ?_ | refine Clean.inBlock ?_ | refine SegQ.clean ?_ | refine FinC.clean ?_)) (n := 0) (rest := [[]]) [10, 11, 12] [⟨_, _, _, _, _, _⟩, ⟨_, _, _, _, _, _⟩, ⟨_, _, _, _, _, _⟩] rfl (by kernel_rfl) (by simp) _ _ ?_
              go_wp2_with (first
                | (show wpList _ _ _ (⟨some 18, .buildSlice _ _ _, _, _, _, _⟩ :: _) _ _; refine wpS_build0 slHash hS rfl rfl ?_; clear hS; intro v18 w hS; go_frame)
                | (show wpList _ _ _ (⟨some 22, .load _ _, _, _, _, _⟩ :: _) _ _; refine wpList_val rfl (op_load1S (b := p) (T := 42) oneHashes ((hS.bring (by repeat (first | exact t0 | apply tS)))) rfl rfl rfl) ?_; go_frame)
                | (show wpList _ _ _ (⟨some 23, .call _, _, _, _, _⟩ :: _) _ _; (refine wpS_append slHash (hS.bring (by repeat (first | exact t0 | apply tS))) rfl rfl (sv := v18) (xs := []) (xv := lv) rfl rfl (ys := bys M) ((hS.bring (by repeat (first | exact t0 | apply tS))).getOwn.rd) (flat_bys _) HB1.out HB2.out ?_); clear hS; intro v23 w hS; rw [List.nil_append] at hS; go_frame)
                | (show wpList _ _ _ (⟨some 24, .load _ _, _, _, _, _⟩ :: _) _ _; refine wpList_val rfl (op_load aggHash rfl rfl (SepL.getBlk (b := nb) (T := 24) ((hS.bring (by repeat (first | exact t0 | apply tS))))).cells HX32.out) ?_; go_frame)
                | (show wpList _ _ _ (⟨some 25, .buildSlice _ _ _, _, _, _, _⟩ :: _) _ _; refine wpS_build1A slHash (by omega) hS rfl rfl (cs := x.map B8) rfl HX32.out ?_; clear hS; intro v25 w hS; go_frame)
                | (show wpList _ _ _ (⟨some 26, .call _, _, _, _, _⟩ :: _) _ _; (refine wpS_append slHash (hS.bring (by repeat (first | exact t0 | apply tS))) rfl rfl (sv := v23) (xs := bys M) (xv := v25) rfl rfl (ys := bys [x]) ((hS.bring (by repeat (first | exact t0 | apply tS))).getOwn.rd) (flat_bys _) HB3.out HB4.out ?_); clear hS; intro v26 w hS; rw [← bys_app] at hS; have HU1 := hide hS.getOwn.rd.cells1; have HU2 := hide hS.getOwn.rd.one1; go_frame)
                | (show wpList _ _ _ (⟨_, .store 31 _ _, _, _, _, _⟩ :: _) _ _; (refine wpS_store1 (b := p) (T := 42) (by kernel_rfl) (hS.bring (by repeat (first | exact t0 | apply tS))) rfl rfl rfl (v := v26) rfl HU1.out HU2.out (by simp) ?_); clear hS; intro w hS; go_frame)
                )
              refine segQ_mk (((hS.bring (by repeat (first | exact t0 | apply tS))).getBlk) : Blk _ nb 24 (x.map B8)) ?_
              refine finC_mk (by kernel_rfl) (by
                intro t ht
                simp only [List.mem_cons, List.not_mem_nil, or_false] at ht
                rcases ht with rfl
                exact stab_blk (b := nb) (fun w h => h) _ none) ?_
              go_wp2_with fail
              refine wp_region_text (by kernel_rfl) (by kernel_rfl) (by repeat (first | exact Clean.body | refine Clean.then ?_ | refine Clean.inBlock ?_)) ?_
              replace hS := hS.drew
              go_wp2_with (first
                | (show wpList _ _ _ (⟨_, .load 31 _, _, _, _, _⟩ :: _) _ _; refine wpList_val rfl (op_load1S (b := p) (T := 42) oneHashes ((hS.bring (by repeat (first | exact t0 | apply tS)))) rfl rfl rfl) ?_; go_frame)
                | (show wpList _ _ _ (⟨some 33, .call _, _, _, _, _⟩ :: _) _ _; refine wpList_val rfl (op_len slHash rfl rfl (v := v26) (xs := bys (M ++ [x])) rfl ((hS.bring (by repeat (first | exact t0 | apply tS))).getOwn.rd)) ?_; rw [HLN.out]; go_frame)
                | (show wpList _ _ _ (⟨_, .load 3 _, _, _, _, _⟩ :: _) _ _; refine wpList_val rfl (op_load1S (b := p) (T := 42) oneInt ((hS.bring (by repeat (first | exact t0 | apply tS)))) rfl rfl rfl) ?_; go_frame)
                | (show wpList _ _ _ (⟨some 38, .binOp _ _ _ _ _, _, _, _, _⟩ :: _) _ _; refine wpList_val rfl (op_igtr rfl rfl rfl HGT.out) ?_; go_frame)
                | (refine fin_mk (by kernel_rfl) ?_)
                | (show wpList _ _ _ (⟨some 44, .indexAddr _ _ _, _, _, _, _⟩ :: _) _ _; refine wpList_val rfl (op_indexAddrZ slHash rfl (v := v26) (xs := bys (M ++ [x])) rfl rfl ((hS.bring (by repeat (first | exact t0 | apply tS))).getOwn.rd) 0 rfl HZL.out) ?_; go_frame)
                | (show wpList _ _ _ (⟨some 45, .load _ _, _, _, _, _⟩ :: _) _ _; refine wpList_val rfl (op_loadE aggHash rfl (v := v26) (xs := bys (M ++ [x])) (k := 0) rfl ((hS.bring (by repeat (first | exact t0 | apply tS))).getOwn.rd) HZL.out) ?_; rw [HY.out]; go_frame)
                | (show wpList _ _ _ (⟨some 46, .buildSlice _ _ _, _, _, _, _⟩ :: _) _ _; refine wpS_build1A slHash (by omega) hS rfl rfl (cs := y.map B8) rfl HY32.out ?_; clear hS; intro v46 w hS; go_frame)
                | (show wpList _ _ _ (⟨some 47, .call _, _, _, _, _⟩ :: _) _ _; (refine wpS_append slHash (hS.bring (by repeat (first | exact t0 | apply tS))) rfl rfl (sv := u5) (xs := bys G) (xv := v46) rfl rfl (ys := bys [y]) ((hS.bring (by repeat (first | exact t0 | apply tS))).getOwn.rd) (flat_bys _) HG1.out HG2.out ?_); clear hS; intro v47 w hS; rw [← bys_app] at hS; go_frame)
                | (show wpList _ _ _ (⟨some 53, .slice _ _ _ _ _, _, _, _, _⟩ :: _) _ _; refine wpList_val rfl (op_cut slHash rfl (v := v26) (xs := bys (M ++ [x])) rfl ((hS.bring (by repeat (first | exact t0 | apply tS))).getOwn.rd) (l := 1) (h := _) (Or.inr rfl) (Or.inl ⟨rfl, rfl⟩) HC1.out (Nat.le_refl _)) ?_; replace hS := SepL.ownCut (T := 24) (n := 32) (v := v26) (xs := bys (M ++ [x])) ((hS.bring (by repeat (first | exact t0 | apply tS)))) (l := 1) HC1.out; have HK1 := hide hS.getOwn.rd.cells1; have HK2 := hide hS.getOwn.rd.one1; rw [← bys_drop] at hS; go_frame)
                | (show wpList _ _ _ (⟨_, .store 31 _ _, _, _, _, _⟩ :: _) _ _; (refine wpS_store1 (b := p) (T := 42) (by kernel_rfl) (hS.bring (by repeat (first | exact t0 | apply tS))) rfl rfl rfl (v := cutV 32 v26 1 (bys (M ++ [x])).length) rfl HK1.out HK2.out (by simp) ?_); clear hS; intro w hS; go_frame)
                )
              go_roundw
              case rel =>
                refine ⟨k + 1, cutV 32 v26 1 (bys (M ++ [x])).length, G ++ [y], by go_num, by omega, by rw [List.length_append, List.length_singleton]; omega, ?_⟩
                rw [HAN.out]
                exact hS.sel (by repeat (first | exact Sel.refl | refine Sel.take (by repeat (first | exact t0 | apply tS)) ?_ | apply Sel.drop))
              case measure => simp [intOf]; omega
          · skip
            refine ord_seg (by repeat (first | exact Clean.body | refine Clean.then ?_ | refine Clean.inBlock ?_ | refine SegQ.clean ?_ | refine FinC.clean ?_)) (n := 4) (rest := [[9, 10, 11, 12]]) [8, 1, 6] [⟨_, _, _, _, _, _⟩, ⟨_, _, _, _, _, _⟩, ⟨_, _, _, _, _, _⟩] rfl (by kernel_rfl) (by simp) _ _ ?_
            go_wp2_with (first
              | (show wpList _ _ _ (⟨some 18, .buildSlice _ _ _, _, _, _, _⟩ :: _) _ _; refine wpS_build0 slHash hS rfl rfl ?_; clear hS; intro v18 w hS; go_frame)
              | (show wpList _ _ _ (⟨some 22, .load _ _, _, _, _, _⟩ :: _) _ _; refine wpList_val rfl (op_load1S (b := p) (T := 42) oneHashes ((hS.bring (by repeat (first | exact t0 | apply tS)))) rfl rfl rfl) ?_; go_frame)
              | (show wpList _ _ _ (⟨some 23, .call _, _, _, _, _⟩ :: _) _ _; (refine wpS_append slHash (hS.bring (by repeat (first | exact t0 | apply tS))) rfl rfl (sv := v18) (xs := []) (xv := lv) rfl rfl (ys := bys M) ((hS.bring (by repeat (first | exact t0 | apply tS))).getOwn.rd) (flat_bys _) HB1.out HB2.out ?_); clear hS; intro v23 w hS; rw [List.nil_append] at hS; go_frame)
              | (show wpList _ _ _ (⟨some 24, .load _ _, _, _, _, _⟩ :: _) _ _; refine wpList_val rfl (op_load aggHash rfl rfl (SepL.getBlk (b := nb) (T := 24) ((hS.bring (by repeat (first | exact t0 | apply tS))))).cells HX32.out) ?_; go_frame)
              | (show wpList _ _ _ (⟨some 25, .buildSlice _ _ _, _, _, _, _⟩ :: _) _ _; refine wpS_build1A slHash (by omega) hS rfl rfl (cs := x.map B8) rfl HX32.out ?_; clear hS; intro v25 w hS; go_frame)
              | (show wpList _ _ _ (⟨some 26, .call _, _, _, _, _⟩ :: _) _ _; (refine wpS_append slHash (hS.bring (by repeat (first | exact t0 | apply tS))) rfl rfl (sv := v23) (xs := bys M) (xv := v25) rfl rfl (ys := bys [x]) ((hS.bring (by repeat (first | exact t0 | apply tS))).getOwn.rd) (flat_bys _) HB3.out HB4.out ?_); clear hS; intro v26 w hS; rw [← bys_app] at hS; have HU1 := hide hS.getOwn.rd.cells1; have HU2 := hide hS.getOwn.rd.one1; go_frame)
              | (show wpList _ _ _ (⟨_, .store 31 _ _, _, _, _, _⟩ :: _) _ _; (refine wpS_store1 (b := p) (T := 42) (by kernel_rfl) (hS.bring (by repeat (first | exact t0 | apply tS))) rfl rfl rfl (v := v26) rfl HU1.out HU2.out (by simp) ?_); clear hS; intro w hS; go_frame)
              )
            refine segQ_mk (((hS.bring (by repeat (first | exact t0 | apply tS))).getBlk) : Blk _ nb 24 (x.map B8)) ?_
            refine ord_seg (by repeat (first | exact Clean.body | refine Clean.then ?_ | refine Clean.inBlock ?_ | refine SegQ.clean ?_ | refine FinC.clean ?_)) (n := 3) (rest := [[10, 11, 12]]) [9] [⟨_, _, _, _, _, _⟩] rfl (by kernel_rfl) (by simp) _ _ ?_
            go_wp2_with (first
              | (show wpList _ _ _ (⟨some 18, .buildSlice _ _ _, _, _, _, _⟩ :: _) _ _; refine wpS_build0 slHash hS rfl rfl ?_; clear hS; intro v18 w hS; go_frame)
              | (show wpList _ _ _ (⟨some 22, .load _ _, _, _, _, _⟩ :: _) _ _; refine wpList_val rfl (op_load1S (b := p) (T := 42) oneHashes ((hS.bring (by repeat (first | exact t0 | apply tS)))) rfl rfl rfl) ?_; go_frame)
              | (show wpList _ _ _ (⟨some 23, .call _, _, _, _, _⟩ :: _) _ _; (refine wpS_append slHash (hS.bring (by repeat (first | exact t0 | apply tS))) rfl rfl (sv := v18) (xs := []) (xv := lv) rfl rfl (ys := bys M) ((hS.bring (by repeat (first | exact t0 | apply tS))).getOwn.rd) (flat_bys _) HB1.out HB2.out ?_); clear hS; intro v23 w hS; rw [List.nil_append] at hS; go_frame)
              | (show wpList _ _ _ (⟨some 24, .load _ _, _, _, _, _⟩ :: _) _ _; refine wpList_val rfl (op_load aggHash rfl rfl (SepL.getBlk (b := nb) (T := 24) ((hS.bring (by repeat (first | exact t0 | apply tS))))).cells HX32.out) ?_; go_frame)
              | (show wpList _ _ _ (⟨some 25, .buildSlice _ _ _, _, _, _, _⟩ :: _) _ _; refine wpS_build1A slHash (by omega) hS rfl rfl (cs := x.map B8) rfl HX32.out ?_; clear hS; intro v25 w hS; go_frame)
              | (show wpList _ _ _ (⟨some 26, .call _, _, _, _, _⟩ :: _) _ _; (refine wpS_append slHash (hS.bring (by repeat (first | exact t0 | apply tS))) rfl rfl (sv := v23) (xs := bys M) (xv := v25) rfl rfl (ys := bys [x]) ((hS.bring (by repeat (first | exact t0 | apply tS))).getOwn.rd) (flat_bys _) HB3.out HB4.out ?_); clear hS; intro v26 w hS; rw [← bys_app] at hS; have HU1 := hide hS.getOwn.rd.cells1; have HU2 := hide hS.getOwn.rd.one1; go_frame)
              | (show wpList _ _ _ (⟨_, .store 31 _ _, _, _, _, _⟩ :: _) _ _; (refine wpS_store1 (b := p) (T := 42) (by kernel_rfl) (hS.bring (by repeat (first | exact t0 | apply tS))) rfl rfl rfl (v := v26) rfl HU1.out HU2.out (by simp) ?_); clear hS; intro w hS; go_frame)
              )
            refine segQ_mk (((hS.bring (by repeat (first | exact t0 | apply tS))).getBlk) : Blk _ nb 24 (x.map B8)) ?_
            refine ord_seg (by repeat (first | exact Clean.body | refine Clean.then ?_ | refine Clean.inBlock ?_ | refine SegQ.clean ?_ | refine FinC.clean ?_)) (n := 0) (rest := [[]]) [10, 11, 12] [⟨_, _, _, _, _, _⟩, ⟨_, _, _, _, _, _⟩, ⟨_, _, _, _, _, _⟩] rfl (by kernel_rfl) (by simp) _ _ ?_
            go_wp2_with (first
              | (show wpList _ _ _ (⟨some 18, .buildSlice _ _ _, _, _, _, _⟩ :: _) _ _; refine wpS_build0 slHash hS rfl rfl ?_; clear hS; intro v18 w hS; go_frame)
              | (show wpList _ _ _ (⟨some 22, .load _ _, _, _, _, _⟩ :: _) _ _; refine wpList_val rfl (op_load1S (b := p) (T := 42) oneHashes ((hS.bring (by repeat (first | exact t0 | apply tS)))) rfl rfl rfl) ?_; go_frame)
              | (show wpList _ _ _ (⟨some 23, .call _, _, _, _, _⟩ :: _) _ _; (refine wpS_append slHash (hS.bring (by repeat (first | exact t0 | apply tS))) rfl rfl (sv := v18) (xs := []) (xv := lv) rfl rfl (ys := bys M) ((hS.bring (by repeat (first | exact t0 | apply tS))).getOwn.rd) (flat_bys _) HB1.out HB2.out ?_); clear hS; intro v23 w hS; rw [List.nil_append] at hS; go_frame)
              | (show wpList _ _ _ (⟨some 24, .load _ _, _, _, _, _⟩ :: _) _ _; refine wpList_val rfl (op_load aggHash rfl rfl (SepL.getBlk (b := nb) (T := 24) ((hS.bring (by repeat (first | exact t0 | apply tS))))).cells HX32.out) ?_; go_frame)
              | (show wpList _ _ _ (⟨some 25, .buildSlice _ _ _, _, _, _, _⟩ :: _) _ _; refine wpS_build1A slHash (by omega) hS rfl rfl (cs := x.map B8) rfl HX32.out ?_; clear hS; intro v25 w hS; go_frame)
              | (show wpList _ _ _ (⟨some 26, .call _, _, _, _, _⟩ :: _) _ _; (refine wpS_append slHash (hS.bring (by repeat (first | exact t0 | apply tS))) rfl rfl (sv := v23) (xs := bys M) (xv := v25) rfl rfl (ys := bys [x]) ((hS.bring (by repeat (first | exact t0 | apply tS))).getOwn.rd) (flat_bys _) HB3.out HB4.out ?_); clear hS; intro v26 w hS; rw [← bys_app] at hS; have HU1 := hide hS.getOwn.rd.cells1; have HU2 := hide hS.getOwn.rd.one1; go_frame)
              | (show wpList _ _ _ (⟨_, .store 31 _ _, _, _, _, _⟩ :: _) _ _; (refine wpS_store1 (b := p) (T := 42) (by kernel_rfl) (hS.bring (by repeat (first | exact t0 | apply tS))) rfl rfl rfl (v := v26) rfl HU1.out HU2.out (by simp) ?_); clear hS; intro w hS; go_frame)
              )
            refine segQ_mk (((hS.bring (by repeat (first | exact t0 | apply tS))).getBlk) : Blk _ nb 24 (x.map B8)) ?_
            refine finC_mk (by kernel_rfl) (by
              intro t ht
              simp only [List.mem_cons, List.not_mem_nil, or_false] at ht
              rcases ht with rfl
              exact stab_blk (b := nb) (fun w h => h) _ none) ?_
            go_wp2_with fail
            refine wp_region_text (by kernel_rfl) (by kernel_rfl) (by repeat (first | exact Clean.body | refine Clean.then ?_ | refine Clean.inBlock ?_)) ?_
            replace hS := hS.drew
            go_wp2_with (first
              | (show wpList _ _ _ (⟨_, .load 31 _, _, _, _, _⟩ :: _) _ _; refine wpList_val rfl (op_load1S (b := p) (T := 42) oneHashes ((hS.bring (by repeat (first | exact t0 | apply tS)))) rfl rfl rfl) ?_; go_frame)
              | (show wpList _ _ _ (⟨some 33, .call _, _, _, _, _⟩ :: _) _ _; refine wpList_val rfl (op_len slHash rfl rfl (v := v26) (xs := bys (M ++ [x])) rfl ((hS.bring (by repeat (first | exact t0 | apply tS))).getOwn.rd)) ?_; rw [HLN.out]; go_frame)
              | (show wpList _ _ _ (⟨_, .load 3 _, _, _, _, _⟩ :: _) _ _; refine wpList_val rfl (op_load1S (b := p) (T := 42) oneInt ((hS.bring (by repeat (first | exact t0 | apply tS)))) rfl rfl rfl) ?_; go_frame)
              | (show wpList _ _ _ (⟨some 38, .binOp _ _ _ _ _, _, _, _, _⟩ :: _) _ _; refine wpList_val rfl (op_igtr rfl rfl rfl HGT.out) ?_; go_frame)
              | (refine fin_mk (by kernel_rfl) ?_)
              | (show wpList _ _ _ (⟨some 44, .indexAddr _ _ _, _, _, _, _⟩ :: _) _ _; refine wpList_val rfl (op_indexAddrZ slHash rfl (v := v26) (xs := bys (M ++ [x])) rfl rfl ((hS.bring (by repeat (first | exact t0 | apply tS))).getOwn.rd) 0 rfl HZL.out) ?_; go_frame)
              | (show wpList _ _ _ (⟨some 45, .load _ _, _, _, _, _⟩ :: _) _ _; refine wpList_val rfl (op_loadE aggHash rfl (v := v26) (xs := bys (M ++ [x])) (k := 0) rfl ((hS.bring (by repeat (first | exact t0 | apply tS))).getOwn.rd) HZL.out) ?_; rw [HY.out]; go_frame)
              | (show wpList _ _ _ (⟨some 46, .buildSlice _ _ _, _, _, _, _⟩ :: _) _ _; refine wpS_build1A slHash (by omega) hS rfl rfl (cs := y.map B8) rfl HY32.out ?_; clear hS; intro v46 w hS; go_frame)
              | (show wpList _ _ _ (⟨some 47, .call _, _, _, _, _⟩ :: _) _ _; (refine wpS_append slHash (hS.bring (by repeat (first | exact t0 | apply tS))) rfl rfl (sv := u5) (xs := bys G) (xv := v46) rfl rfl (ys := bys [y]) ((hS.bring (by repeat (first | exact t0 | apply tS))).getOwn.rd) (flat_bys _) HG1.out HG2.out ?_); clear hS; intro v47 w hS; rw [← bys_app] at hS; go_frame)
              | (show wpList _ _ _ (⟨some 53, .slice _ _ _ _ _, _, _, _, _⟩ :: _) _ _; refine wpList_val rfl (op_cut slHash rfl (v := v26) (xs := bys (M ++ [x])) rfl ((hS.bring (by repeat (first | exact t0 | apply tS))).getOwn.rd) (l := 1) (h := _) (Or.inr rfl) (Or.inl ⟨rfl, rfl⟩) HC1.out (Nat.le_refl _)) ?_; replace hS := SepL.ownCut (T := 24) (n := 32) (v := v26) (xs := bys (M ++ [x])) ((hS.bring (by repeat (first | exact t0 | apply tS)))) (l := 1) HC1.out; have HK1 := hide hS.getOwn.rd.cells1; have HK2 := hide hS.getOwn.rd.one1; rw [← bys_drop] at hS; go_frame)
              | (show wpList _ _ _ (⟨_, .store 31 _ _, _, _, _, _⟩ :: _) _ _; (refine wpS_store1 (b := p) (T := 42) (by kernel_rfl) (hS.bring (by repeat (first | exact t0 | apply tS))) rfl rfl rfl (v := cutV 32 v26 1 (bys (M ++ [x])).length) rfl HK1.out HK2.out (by simp) ?_); clear hS; intro w hS; go_frame)
              )
            go_roundw
            case rel =>
              refine ⟨k + 1, cutV 32 v26 1 (bys (M ++ [x])).length, G ++ [y], by go_num, by omega, by rw [List.length_append, List.length_singleton]; omega, ?_⟩
              rw [HAN.out]
              exact hS.sel (by repeat (first | exact Sel.refl | refine Sel.take (by repeat (first | exact t0 | apply tS)) ?_ | apply Sel.drop))
            case measure => simp [intOf]; omega
    · have hk2 : k = l.length := by omega
      subst hk2
      rw [List.take_length] at hS
      go_wp2_with fail
      go_ret
      exact ⟨lv, hS.sel (by repeat (first | exact Sel.refl | refine Sel.take (by repeat (first | exact t0 | apply tS)) ?_ | apply Sel.drop))⟩
end
end Go.Proofs.Ytffagjkjeojaaaa
