/- More bytes pay no less at least; a thousand pay the rate; what a transaction pays at least is more than nothing: the law returns true. Conditions: those that stand ahead of each theorem. -/
import Derived.Test.YtieobcaegegboaaDoorGWfC
import Derived.Test.YtieobcaegegboaaDoorTxS
namespace Go.Proofs.YtieobcaegegboaaDoor
open Go Go.RowKit Go.Px Go.Sha Go.Calc Go.WideMaps
theorem need_small {n : Nat} (h : n ≤ 9223372036854775807) : needN n 100 = (n * 100 + 999) / 1000 := by
  have h1 : needC n 100 < 18446744073709551616 := by unfold needC; omega
  rw [(need_near h1).1]
  unfold needC
  rfl
theorem floor_mono {x y : Int} (h : x ≤ y) (hy : In64 y) : floorN x ≤ floorN y := by
  have h2 := hy.2
  unfold floorN
  rw [need_small (by omega), need_small (by omega)]
  have : (max x 0).toNat ≤ (max y 0).toNat := by omega
  exact Nat.div_le_div_right (by omega)
theorem floor_between {s : Nat} (h1 : 6 ≤ s) (h2 : s ≤ 1200) : 0 < floorN (s : Int) ∧ floorN (s : Int) ≤ s := by
  unfold floorN
  rw [need_small (by omega)]
  have e : (max (s : Int) 0).toNat = s := by omega
  rw [e]
  omega
set_option maxRecDepth 100000 in
set_option maxHeartbeats 8000000 in
theorem feeFloor_w {W : World} (hK : CIn All W 3 (kTab.map W32)) (hF : CIn All W 0 (first.map W32)) {a : Int} (ha : In64 a) {b : Int} (hb : In64 b) {m : MT} (ht : TxIn All W m) (hver : m.ver < 4294967296) :
    Calls Tryd.prog 10 #[I64 a, I64 b, txV m] W (Ret fun r w' => r = .bool true ∧ Chg No W w') := by
  have hS := SepL.start W
  obtain ⟨g, hg⟩ : ∃ g, greatB m.pt 0 = g := ⟨_, rfl⟩
  have HGR : Hid (∀ {w : World} {F : List Hp}, SepL All W w F → Calls Tryd.prog 12 #[txV m, .slice none 0 0] w (Ret fun r w' => r = .bool g ∧ SepL All W w' F)) := fun hS => great_s (prev := []) hS ht (RdIn.nil 33) hg
  obtain ⟨fb, hfb⟩ : ∃ b, formB m.pt = b := ⟨_, rfl⟩
  have HFB := hide hfb
  have C1000 : Hid (∀ (w : World) (F : List Hp), SepL All W w F → Calls Tryd.prog 17 #[I64 1000] w (Ret fun r w' => r = U 100 ∧ SepL All W w' F)) := fun w F hS => by
    have g := floor_s (z := 1000) ⟨by omega, by omega⟩ hS
    rwa [show floorN 1000 = 100 by decide +kernel] at g
  have C0 : Hid (∀ (w : World) (F : List Hp), SepL All W w F → Calls Tryd.prog 17 #[I64 0] w (Ret fun r w' => r = U 0 ∧ SepL All W w' F)) := fun w F hS => by
    have g := floor_s (z := 0) ⟨by omega, by omega⟩ hS
    rwa [show floorN 0 = 0 by decide +kernel] at g
  clear hg hfb
  by_cases hab : b < a
  · have HAB : Hid (decide (b < a) = true) := decide_eq_true hab
    obtain ⟨x, hx⟩ : ∃ x, floorN b = x := ⟨_, rfl⟩
    obtain ⟨y, hy⟩ : ∃ y, floorN a = y := ⟨_, rfl⟩
    have hxy : x ≤ y := by rw [← hx, ← hy]; exact floor_mono (by omega) ha
    have HXY : Hid (decide (y < x) = false) := decide_eq_false (by omega)
    have CLO : Hid (∀ (w : World) (F : List Hp), SepL All W w F → Calls Tryd.prog 17 #[I64 b] w (Ret fun r w' => r = U x ∧ SepL All W w' F)) := fun w F hS => by
      have g := floor_s hb hS
      rwa [hx] at g
    have CHI : Hid (∀ (w : World) (F : List Hp), SepL All W w F → Calls Tryd.prog 17 #[I64 a] w (Ret fun r w' => r = U y ∧ SepL All W w' F)) := fun w F hS => by
      have g := floor_s ha hS
      rwa [hy] at g
    clear hx hy hxy hab
    cases g with
    | true =>
      go_enter Tryd.func10, Tryd.ntmps10
      go_wp2_with (first
        | go_big_skip
        | (show wpList _ _ _ (⟨some 5, .box _ _, _, _, _, _⟩ :: _) _ _; refine wpS_boxA (cs := [N32 m.ver, m.iv, m.ov]) hS rfl rfl rfl ?_; clear hS; intro n1 w hS; go_frame)
        | (go_at_call 11; refine Ret.calls (alive_s hS hK hF) ?_; clear hS; rintro r1 w ⟨rfl, hS⟩)
        | (show wpList _ _ _ (⟨some 15, .binOp _ _ _ _ _, _, _, _, _⟩ :: _) _ _; refine wpList_val rfl (op_igtr (a := a) (b := b) rfl rfl rfl HAB.out) ?_; go_frame)
        | (go_at_call 17; with_reducible refine Ret.calls (CLO.out _ _ hS) ?_; clear hS; rintro r1 w ⟨rfl, hS⟩)
        | (go_at_call 17; with_reducible refine Ret.calls (CHI.out _ _ hS) ?_; clear hS; rintro r1 w ⟨rfl, hS⟩)
        | (go_at_call 17; with_reducible refine Ret.calls (C1000.out _ _ hS) ?_; clear hS; rintro r1 w ⟨rfl, hS⟩)
        | (go_at_call 17; with_reducible refine Ret.calls (C0.out _ _ hS) ?_; clear hS; rintro r1 w ⟨rfl, hS⟩)
        | (show wpList _ _ _ (⟨some 22, .binOp _ _ _ _ _, _, _, _, _⟩ :: _) _ _; refine wpList_val rfl (opU_gtr (a := x) (b := y) rfl rfl rfl HXY.out) ?_; go_frame)
        | (show wpList _ _ _ (⟨some 25, .binOp _ _ _ _ _, _, _, _, _⟩ :: _) _ _; refine wpList_val rfl (opU_neq (a := 100) (b := 100) rfl rfl rfl (r := false) rfl) ?_; go_frame)
        | (show wpList _ _ _ (⟨some 29, .binOp _ _ _ _ _, _, _, _, _⟩ :: _) _ _; refine wpList_val rfl (opU_neq (a := 0) (b := 0) rfl rfl rfl (r := false) rfl) ?_; go_frame)
        | (show wpList _ _ _ (⟨_, .load 26 _, _, _, _, _⟩ :: _) _ _; refine wpList_val rfl (op_load aggTx rfl rfl (SepL.getBlk (b := n1) (T := 26) ((hS.bring (by repeat (first | exact t0 | apply tS))))).cells rfl) ?_; go_frame)
        | (go_at_call 12; refine Ret.calls (HGR.out hS) ?_; clear hS; rintro r1 w ⟨rfl, hS⟩)
        )
      go_ret
      exact ⟨rfl, (hS.sel (M := []) (by repeat (first | exact Sel.refl | refine Sel.take (by repeat (first | exact t0 | apply tS)) ?_ | apply Sel.drop))).chg⟩
    | false =>
      cases fb with
      | false =>
        have HSZ : Hid (∀ (w : World) (F : List Hp), SepL All W w F → Calls Tryd.prog 28 #[txV m] w (Ret fun r w' => r = .tuple #[I64 0, I64 5] ∧ SepL All W w' F)) := fun w F hS => by
          have g := size07_s hS ht
          rw [HFB.out] at g
          exact g
        have HRSZ : Hid (∀ (w : World) (F : List Hp), SepL All W w F → Calls Tryd.prog 29 #[txV m] w (Ret fun r w' => r = .tuple #[I64 0, I64 5] ∧ SepL All W w' F)) := fun w F hS => rsize_no hS ht HFB.out
        go_enter Tryd.func10, Tryd.ntmps10
        go_wp2_with (first
          | go_big_skip
          | (show wpList _ _ _ (⟨some 5, .box _ _, _, _, _, _⟩ :: _) _ _; refine wpS_boxA (cs := [N32 m.ver, m.iv, m.ov]) hS rfl rfl rfl ?_; clear hS; intro n1 w hS; go_frame)
          | (go_at_call 11; refine Ret.calls (alive_s hS hK hF) ?_; clear hS; rintro r1 w ⟨rfl, hS⟩)
          | (show wpList _ _ _ (⟨some 15, .binOp _ _ _ _ _, _, _, _, _⟩ :: _) _ _; refine wpList_val rfl (op_igtr (a := a) (b := b) rfl rfl rfl HAB.out) ?_; go_frame)
          | (go_at_call 17; with_reducible refine Ret.calls (CLO.out _ _ hS) ?_; clear hS; rintro r1 w ⟨rfl, hS⟩)
          | (go_at_call 17; with_reducible refine Ret.calls (CHI.out _ _ hS) ?_; clear hS; rintro r1 w ⟨rfl, hS⟩)
          | (go_at_call 17; with_reducible refine Ret.calls (C1000.out _ _ hS) ?_; clear hS; rintro r1 w ⟨rfl, hS⟩)
          | (go_at_call 17; with_reducible refine Ret.calls (C0.out _ _ hS) ?_; clear hS; rintro r1 w ⟨rfl, hS⟩)
          | (show wpList _ _ _ (⟨some 22, .binOp _ _ _ _ _, _, _, _, _⟩ :: _) _ _; refine wpList_val rfl (opU_gtr (a := x) (b := y) rfl rfl rfl HXY.out) ?_; go_frame)
          | (show wpList _ _ _ (⟨some 25, .binOp _ _ _ _ _, _, _, _, _⟩ :: _) _ _; refine wpList_val rfl (opU_neq (a := 100) (b := 100) rfl rfl rfl (r := false) rfl) ?_; go_frame)
          | (show wpList _ _ _ (⟨some 29, .binOp _ _ _ _ _, _, _, _, _⟩ :: _) _ _; refine wpList_val rfl (opU_neq (a := 0) (b := 0) rfl rfl rfl (r := false) rfl) ?_; go_frame)
          | (show wpList _ _ _ (⟨_, .load 26 _, _, _, _, _⟩ :: _) _ _; refine wpList_val rfl (op_load aggTx rfl rfl (SepL.getBlk (b := n1) (T := 26) ((hS.bring (by repeat (first | exact t0 | apply tS))))).cells rfl) ?_; go_frame)
          | (go_at_call 12; refine Ret.calls (HGR.out hS) ?_; clear hS; rintro r1 w ⟨rfl, hS⟩)
          | (go_at_call 28; refine Ret.calls (HSZ.out _ _ hS) ?_; clear hS; rintro r1 w ⟨rfl, hS⟩)
          | (go_at_call 29; refine Ret.calls (HRSZ.out _ _ hS) ?_; clear hS; rintro r1 w ⟨rfl, hS⟩)
          | (show wpList _ _ _ (⟨some 44, .binOp _ _ _ _ _, _, _, _, _⟩ :: _) _ _; refine wpList_val rfl (op_ineI (a := 5) (b := 0) rfl rfl rfl (r := true) rfl) ?_; go_frame)
          )
        go_ret
        exact ⟨rfl, (hS.sel (M := []) (by repeat (first | exact Sel.refl | refine Sel.take (by repeat (first | exact t0 | apply tS)) ?_ | apply Sel.drop))).chg⟩
      | true =>
        have hzb := size_bounds HFB.out
        obtain ⟨s, hs⟩ : ∃ s, sizeN m = s := ⟨_, rfl⟩
        have HSZ : Hid (∀ (w : World) (F : List Hp), SepL All W w F → Calls Tryd.prog 28 #[txV m] w (Ret fun r w' => r = .tuple #[I64 (s : Int), I64 0] ∧ SepL All W w' F)) := fun w F hS => by
          have g := size07_s hS ht
          rw [HFB.out, if_pos rfl, if_pos rfl, hs] at g
          exact g
        have HRSZ : Hid (∀ (w : World) (F : List Hp), SepL All W w F → Calls Tryd.prog 29 #[txV m] w (Ret fun r w' => r = .tuple #[I64 (s : Int), I64 0] ∧ SepL All W w' F)) := fun w F hS => by
          have g := rsize_s hS ht HFB.out hver
          rwa [hs] at g
        rw [hs] at hzb
        obtain ⟨q, hq⟩ : ∃ q, floorN (s : Int) = q := ⟨_, rfl⟩
        have CS : Hid (∀ (w : World) (F : List Hp), SepL All W w F → Calls Tryd.prog 17 #[I64 (s : Int)] w (Ret fun r w' => r = U q ∧ SepL All W w' F)) := fun w F hS => by
          have g := floor_s (z := (s : Int)) ⟨by omega, by omega⟩ hS
          rwa [hq] at g
        have hfb := floor_between hzb.1 hzb.2
        rw [hq] at hfb
        have HQ0 : Hid (decide (0 < q) = true) := decide_eq_true hfb.1
        have HQS : Hid (decide (q ≤ s) = true) := decide_eq_true hfb.2
        have hs6 : s ≤ 1200 := hzb.2
        clear hs hq hfb hzb
        go_enter Tryd.func10, Tryd.ntmps10
        go_wp2_with (first
          | go_big_skip
          | (show wpList _ _ _ (⟨some 5, .box _ _, _, _, _, _⟩ :: _) _ _; refine wpS_boxA (cs := [N32 m.ver, m.iv, m.ov]) hS rfl rfl rfl ?_; clear hS; intro n1 w hS; go_frame)
          | (go_at_call 11; refine Ret.calls (alive_s hS hK hF) ?_; clear hS; rintro r1 w ⟨rfl, hS⟩)
          | (show wpList _ _ _ (⟨some 15, .binOp _ _ _ _ _, _, _, _, _⟩ :: _) _ _; refine wpList_val rfl (op_igtr (a := a) (b := b) rfl rfl rfl HAB.out) ?_; go_frame)
          | (go_at_call 17; with_reducible refine Ret.calls (CLO.out _ _ hS) ?_; clear hS; rintro r1 w ⟨rfl, hS⟩)
          | (go_at_call 17; with_reducible refine Ret.calls (CHI.out _ _ hS) ?_; clear hS; rintro r1 w ⟨rfl, hS⟩)
          | (go_at_call 17; with_reducible refine Ret.calls (C1000.out _ _ hS) ?_; clear hS; rintro r1 w ⟨rfl, hS⟩)
          | (go_at_call 17; with_reducible refine Ret.calls (C0.out _ _ hS) ?_; clear hS; rintro r1 w ⟨rfl, hS⟩)
          | (show wpList _ _ _ (⟨some 22, .binOp _ _ _ _ _, _, _, _, _⟩ :: _) _ _; refine wpList_val rfl (opU_gtr (a := x) (b := y) rfl rfl rfl HXY.out) ?_; go_frame)
          | (show wpList _ _ _ (⟨some 25, .binOp _ _ _ _ _, _, _, _, _⟩ :: _) _ _; refine wpList_val rfl (opU_neq (a := 100) (b := 100) rfl rfl rfl (r := false) rfl) ?_; go_frame)
          | (show wpList _ _ _ (⟨some 29, .binOp _ _ _ _ _, _, _, _, _⟩ :: _) _ _; refine wpList_val rfl (opU_neq (a := 0) (b := 0) rfl rfl rfl (r := false) rfl) ?_; go_frame)
          | (show wpList _ _ _ (⟨_, .load 26 _, _, _, _, _⟩ :: _) _ _; refine wpList_val rfl (op_load aggTx rfl rfl (SepL.getBlk (b := n1) (T := 26) ((hS.bring (by repeat (first | exact t0 | apply tS))))).cells rfl) ?_; go_frame)
          | (go_at_call 12; refine Ret.calls (HGR.out hS) ?_; clear hS; rintro r1 w ⟨rfl, hS⟩)
          | (go_at_call 28; refine Ret.calls (HSZ.out _ _ hS) ?_; clear hS; rintro r1 w ⟨rfl, hS⟩)
          | (go_at_call 29; refine Ret.calls (HRSZ.out _ _ hS) ?_; clear hS; rintro r1 w ⟨rfl, hS⟩)
          | (go_at_call 17; with_reducible refine Ret.calls (CS.out _ _ hS) ?_; clear hS; rintro r1 w ⟨rfl, hS⟩)
          | (show wpList _ _ _ (⟨some 44, .binOp _ _ _ _ _, _, _, _, _⟩ :: _) _ _; refine wpList_val rfl (op_ineI (a := 0) (b := 0) rfl rfl rfl (r := false) rfl) ?_; go_frame)
          | (show wpList _ _ _ (⟨some 48, .binOp _ _ _ _ _, _, _, _, _⟩ :: _) _ _; refine wpList_val rfl (op_eqI' rfl rfl rfl (beq_self_eq_true (s : Int))) ?_; go_frame)
          | (show wpList _ _ _ (⟨some 52, .binOp _ _ _ _ _, _, _, _, _⟩ :: _) _ _; refine wpList_val rfl (opU_gtr (a := q) (b := 0) rfl rfl rfl HQ0.out) ?_; go_frame)
          | (show wpList _ _ _ (⟨some 58, .convert _ _ _, _, _, _, _⟩ :: _) _ _; refine wpList_val rfl (op_i64u64 undInt undU64 rfl rfl (by omega)) ?_; go_frame)
          | (show wpList _ _ _ (⟨some 59, .binOp _ _ _ _ _, _, _, _, _⟩ :: _) _ _; refine wpList_val rfl (opU_leq (a := q) (b := s) rfl rfl rfl HQS.out) ?_; go_frame)
          )
        go_ret
        exact ⟨rfl, (hS.sel (M := []) (by repeat (first | exact Sel.refl | refine Sel.take (by repeat (first | exact t0 | apply tS)) ?_ | apply Sel.drop))).chg⟩
  · have HAB : Hid (decide (b < a) = false) := decide_eq_false hab
    obtain ⟨x, hx⟩ : ∃ x, floorN a = x := ⟨_, rfl⟩
    obtain ⟨y, hy⟩ : ∃ y, floorN b = y := ⟨_, rfl⟩
    have hxy : x ≤ y := by rw [← hx, ← hy]; exact floor_mono (by omega) hb
    have HXY : Hid (decide (y < x) = false) := decide_eq_false (by omega)
    have CLO : Hid (∀ (w : World) (F : List Hp), SepL All W w F → Calls Tryd.prog 17 #[I64 a] w (Ret fun r w' => r = U x ∧ SepL All W w' F)) := fun w F hS => by
      have g := floor_s ha hS
      rwa [hx] at g
    have CHI : Hid (∀ (w : World) (F : List Hp), SepL All W w F → Calls Tryd.prog 17 #[I64 b] w (Ret fun r w' => r = U y ∧ SepL All W w' F)) := fun w F hS => by
      have g := floor_s hb hS
      rwa [hy] at g
    clear hx hy hxy hab
    cases g with
    | true =>
      go_enter Tryd.func10, Tryd.ntmps10
      go_wp2_with (first
        | go_big_skip
        | (show wpList _ _ _ (⟨some 5, .box _ _, _, _, _, _⟩ :: _) _ _; refine wpS_boxA (cs := [N32 m.ver, m.iv, m.ov]) hS rfl rfl rfl ?_; clear hS; intro n1 w hS; go_frame)
        | (go_at_call 11; refine Ret.calls (alive_s hS hK hF) ?_; clear hS; rintro r1 w ⟨rfl, hS⟩)
        | (show wpList _ _ _ (⟨some 15, .binOp _ _ _ _ _, _, _, _, _⟩ :: _) _ _; refine wpList_val rfl (op_igtr (a := a) (b := b) rfl rfl rfl HAB.out) ?_; go_frame)
        | (go_at_call 17; with_reducible refine Ret.calls (CLO.out _ _ hS) ?_; clear hS; rintro r1 w ⟨rfl, hS⟩)
        | (go_at_call 17; with_reducible refine Ret.calls (CHI.out _ _ hS) ?_; clear hS; rintro r1 w ⟨rfl, hS⟩)
        | (go_at_call 17; with_reducible refine Ret.calls (C1000.out _ _ hS) ?_; clear hS; rintro r1 w ⟨rfl, hS⟩)
        | (go_at_call 17; with_reducible refine Ret.calls (C0.out _ _ hS) ?_; clear hS; rintro r1 w ⟨rfl, hS⟩)
        | (show wpList _ _ _ (⟨some 22, .binOp _ _ _ _ _, _, _, _, _⟩ :: _) _ _; refine wpList_val rfl (opU_gtr (a := x) (b := y) rfl rfl rfl HXY.out) ?_; go_frame)
        | (show wpList _ _ _ (⟨some 25, .binOp _ _ _ _ _, _, _, _, _⟩ :: _) _ _; refine wpList_val rfl (opU_neq (a := 100) (b := 100) rfl rfl rfl (r := false) rfl) ?_; go_frame)
        | (show wpList _ _ _ (⟨some 29, .binOp _ _ _ _ _, _, _, _, _⟩ :: _) _ _; refine wpList_val rfl (opU_neq (a := 0) (b := 0) rfl rfl rfl (r := false) rfl) ?_; go_frame)
        | (show wpList _ _ _ (⟨_, .load 26 _, _, _, _, _⟩ :: _) _ _; refine wpList_val rfl (op_load aggTx rfl rfl (SepL.getBlk (b := n1) (T := 26) ((hS.bring (by repeat (first | exact t0 | apply tS))))).cells rfl) ?_; go_frame)
        | (go_at_call 12; refine Ret.calls (HGR.out hS) ?_; clear hS; rintro r1 w ⟨rfl, hS⟩)
        )
      go_ret
      exact ⟨rfl, (hS.sel (M := []) (by repeat (first | exact Sel.refl | refine Sel.take (by repeat (first | exact t0 | apply tS)) ?_ | apply Sel.drop))).chg⟩
    | false =>
      cases fb with
      | false =>
        have HSZ : Hid (∀ (w : World) (F : List Hp), SepL All W w F → Calls Tryd.prog 28 #[txV m] w (Ret fun r w' => r = .tuple #[I64 0, I64 5] ∧ SepL All W w' F)) := fun w F hS => by
          have g := size07_s hS ht
          rw [HFB.out] at g
          exact g
        have HRSZ : Hid (∀ (w : World) (F : List Hp), SepL All W w F → Calls Tryd.prog 29 #[txV m] w (Ret fun r w' => r = .tuple #[I64 0, I64 5] ∧ SepL All W w' F)) := fun w F hS => rsize_no hS ht HFB.out
        go_enter Tryd.func10, Tryd.ntmps10
        go_wp2_with (first
          | go_big_skip
          | (show wpList _ _ _ (⟨some 5, .box _ _, _, _, _, _⟩ :: _) _ _; refine wpS_boxA (cs := [N32 m.ver, m.iv, m.ov]) hS rfl rfl rfl ?_; clear hS; intro n1 w hS; go_frame)
          | (go_at_call 11; refine Ret.calls (alive_s hS hK hF) ?_; clear hS; rintro r1 w ⟨rfl, hS⟩)
          | (show wpList _ _ _ (⟨some 15, .binOp _ _ _ _ _, _, _, _, _⟩ :: _) _ _; refine wpList_val rfl (op_igtr (a := a) (b := b) rfl rfl rfl HAB.out) ?_; go_frame)
          | (go_at_call 17; with_reducible refine Ret.calls (CLO.out _ _ hS) ?_; clear hS; rintro r1 w ⟨rfl, hS⟩)
          | (go_at_call 17; with_reducible refine Ret.calls (CHI.out _ _ hS) ?_; clear hS; rintro r1 w ⟨rfl, hS⟩)
          | (go_at_call 17; with_reducible refine Ret.calls (C1000.out _ _ hS) ?_; clear hS; rintro r1 w ⟨rfl, hS⟩)
          | (go_at_call 17; with_reducible refine Ret.calls (C0.out _ _ hS) ?_; clear hS; rintro r1 w ⟨rfl, hS⟩)
          | (show wpList _ _ _ (⟨some 22, .binOp _ _ _ _ _, _, _, _, _⟩ :: _) _ _; refine wpList_val rfl (opU_gtr (a := x) (b := y) rfl rfl rfl HXY.out) ?_; go_frame)
          | (show wpList _ _ _ (⟨some 25, .binOp _ _ _ _ _, _, _, _, _⟩ :: _) _ _; refine wpList_val rfl (opU_neq (a := 100) (b := 100) rfl rfl rfl (r := false) rfl) ?_; go_frame)
          | (show wpList _ _ _ (⟨some 29, .binOp _ _ _ _ _, _, _, _, _⟩ :: _) _ _; refine wpList_val rfl (opU_neq (a := 0) (b := 0) rfl rfl rfl (r := false) rfl) ?_; go_frame)
          | (show wpList _ _ _ (⟨_, .load 26 _, _, _, _, _⟩ :: _) _ _; refine wpList_val rfl (op_load aggTx rfl rfl (SepL.getBlk (b := n1) (T := 26) ((hS.bring (by repeat (first | exact t0 | apply tS))))).cells rfl) ?_; go_frame)
          | (go_at_call 12; refine Ret.calls (HGR.out hS) ?_; clear hS; rintro r1 w ⟨rfl, hS⟩)
          | (go_at_call 28; refine Ret.calls (HSZ.out _ _ hS) ?_; clear hS; rintro r1 w ⟨rfl, hS⟩)
          | (go_at_call 29; refine Ret.calls (HRSZ.out _ _ hS) ?_; clear hS; rintro r1 w ⟨rfl, hS⟩)
          | (show wpList _ _ _ (⟨some 44, .binOp _ _ _ _ _, _, _, _, _⟩ :: _) _ _; refine wpList_val rfl (op_ineI (a := 5) (b := 0) rfl rfl rfl (r := true) rfl) ?_; go_frame)
          )
        go_ret
        exact ⟨rfl, (hS.sel (M := []) (by repeat (first | exact Sel.refl | refine Sel.take (by repeat (first | exact t0 | apply tS)) ?_ | apply Sel.drop))).chg⟩
      | true =>
        have hzb := size_bounds HFB.out
        obtain ⟨s, hs⟩ : ∃ s, sizeN m = s := ⟨_, rfl⟩
        have HSZ : Hid (∀ (w : World) (F : List Hp), SepL All W w F → Calls Tryd.prog 28 #[txV m] w (Ret fun r w' => r = .tuple #[I64 (s : Int), I64 0] ∧ SepL All W w' F)) := fun w F hS => by
          have g := size07_s hS ht
          rw [HFB.out, if_pos rfl, if_pos rfl, hs] at g
          exact g
        have HRSZ : Hid (∀ (w : World) (F : List Hp), SepL All W w F → Calls Tryd.prog 29 #[txV m] w (Ret fun r w' => r = .tuple #[I64 (s : Int), I64 0] ∧ SepL All W w' F)) := fun w F hS => by
          have g := rsize_s hS ht HFB.out hver
          rwa [hs] at g
        rw [hs] at hzb
        obtain ⟨q, hq⟩ : ∃ q, floorN (s : Int) = q := ⟨_, rfl⟩
        have CS : Hid (∀ (w : World) (F : List Hp), SepL All W w F → Calls Tryd.prog 17 #[I64 (s : Int)] w (Ret fun r w' => r = U q ∧ SepL All W w' F)) := fun w F hS => by
          have g := floor_s (z := (s : Int)) ⟨by omega, by omega⟩ hS
          rwa [hq] at g
        have hfb := floor_between hzb.1 hzb.2
        rw [hq] at hfb
        have HQ0 : Hid (decide (0 < q) = true) := decide_eq_true hfb.1
        have HQS : Hid (decide (q ≤ s) = true) := decide_eq_true hfb.2
        have hs6 : s ≤ 1200 := hzb.2
        clear hs hq hfb hzb
        go_enter Tryd.func10, Tryd.ntmps10
        go_wp2_with (first
          | go_big_skip
          | (show wpList _ _ _ (⟨some 5, .box _ _, _, _, _, _⟩ :: _) _ _; refine wpS_boxA (cs := [N32 m.ver, m.iv, m.ov]) hS rfl rfl rfl ?_; clear hS; intro n1 w hS; go_frame)
          | (go_at_call 11; refine Ret.calls (alive_s hS hK hF) ?_; clear hS; rintro r1 w ⟨rfl, hS⟩)
          | (show wpList _ _ _ (⟨some 15, .binOp _ _ _ _ _, _, _, _, _⟩ :: _) _ _; refine wpList_val rfl (op_igtr (a := a) (b := b) rfl rfl rfl HAB.out) ?_; go_frame)
          | (go_at_call 17; with_reducible refine Ret.calls (CLO.out _ _ hS) ?_; clear hS; rintro r1 w ⟨rfl, hS⟩)
          | (go_at_call 17; with_reducible refine Ret.calls (CHI.out _ _ hS) ?_; clear hS; rintro r1 w ⟨rfl, hS⟩)
          | (go_at_call 17; with_reducible refine Ret.calls (C1000.out _ _ hS) ?_; clear hS; rintro r1 w ⟨rfl, hS⟩)
          | (go_at_call 17; with_reducible refine Ret.calls (C0.out _ _ hS) ?_; clear hS; rintro r1 w ⟨rfl, hS⟩)
          | (show wpList _ _ _ (⟨some 22, .binOp _ _ _ _ _, _, _, _, _⟩ :: _) _ _; refine wpList_val rfl (opU_gtr (a := x) (b := y) rfl rfl rfl HXY.out) ?_; go_frame)
          | (show wpList _ _ _ (⟨some 25, .binOp _ _ _ _ _, _, _, _, _⟩ :: _) _ _; refine wpList_val rfl (opU_neq (a := 100) (b := 100) rfl rfl rfl (r := false) rfl) ?_; go_frame)
          | (show wpList _ _ _ (⟨some 29, .binOp _ _ _ _ _, _, _, _, _⟩ :: _) _ _; refine wpList_val rfl (opU_neq (a := 0) (b := 0) rfl rfl rfl (r := false) rfl) ?_; go_frame)
          | (show wpList _ _ _ (⟨_, .load 26 _, _, _, _, _⟩ :: _) _ _; refine wpList_val rfl (op_load aggTx rfl rfl (SepL.getBlk (b := n1) (T := 26) ((hS.bring (by repeat (first | exact t0 | apply tS))))).cells rfl) ?_; go_frame)
          | (go_at_call 12; refine Ret.calls (HGR.out hS) ?_; clear hS; rintro r1 w ⟨rfl, hS⟩)
          | (go_at_call 28; refine Ret.calls (HSZ.out _ _ hS) ?_; clear hS; rintro r1 w ⟨rfl, hS⟩)
          | (go_at_call 29; refine Ret.calls (HRSZ.out _ _ hS) ?_; clear hS; rintro r1 w ⟨rfl, hS⟩)
          | (go_at_call 17; with_reducible refine Ret.calls (CS.out _ _ hS) ?_; clear hS; rintro r1 w ⟨rfl, hS⟩)
          | (show wpList _ _ _ (⟨some 44, .binOp _ _ _ _ _, _, _, _, _⟩ :: _) _ _; refine wpList_val rfl (op_ineI (a := 0) (b := 0) rfl rfl rfl (r := false) rfl) ?_; go_frame)
          | (show wpList _ _ _ (⟨some 48, .binOp _ _ _ _ _, _, _, _, _⟩ :: _) _ _; refine wpList_val rfl (op_eqI' rfl rfl rfl (beq_self_eq_true (s : Int))) ?_; go_frame)
          | (show wpList _ _ _ (⟨some 52, .binOp _ _ _ _ _, _, _, _, _⟩ :: _) _ _; refine wpList_val rfl (opU_gtr (a := q) (b := 0) rfl rfl rfl HQ0.out) ?_; go_frame)
          | (show wpList _ _ _ (⟨some 58, .convert _ _ _, _, _, _, _⟩ :: _) _ _; refine wpList_val rfl (op_i64u64 undInt undU64 rfl rfl (by omega)) ?_; go_frame)
          | (show wpList _ _ _ (⟨some 59, .binOp _ _ _ _ _, _, _, _, _⟩ :: _) _ _; refine wpList_val rfl (opU_leq (a := q) (b := s) rfl rfl rfl HQS.out) ?_; go_frame)
          )
        go_ret
        exact ⟨rfl, (hS.sel (M := []) (by repeat (first | exact Sel.refl | refine Sel.take (by repeat (first | exact t0 | apply tS)) ?_ | apply Sel.drop))).chg⟩
end Go.Proofs.YtieobcaegegboaaDoor
