/- A way is a successor and not the source itself: the law returns true. Conditions: those that stand ahead of each theorem. -/
import Derived.Test.YtlplgobkidpgkaaDoorGRl
namespace Go.Proofs.YtlplgobkidpgkaaDoor
open Go Go.RowKit Go.Px Go.Sha
theorem way_facts (sa : List Byte) (r : Rt) (s : Int) (hs : isSrc s = true) : (wayS sa r s ≠ s ∨ wayS sa r s = -1) ∧ (wayS sa r s = -1 ∨ wayS sa r s = r.s0 ∨ wayS sa r s = r.s1) ∧ (wayS sa r s = -1 → (r.s0 = -1 ∨ r.s0 = s) ∧ (r.s1 = -1 ∨ r.s1 = s)) := by
  unfold wayS wayR
  rw [if_pos hs]
  split
  · exact ⟨way2_cases _ _ _, way2_in _ _ _, way2_none⟩
  · refine ⟨way2_cases _ _ _, ?_, fun h => ?_⟩
    · rcases way2_in r.s1 r.s0 s with h | h | h
      · exact .inl h
      · exact .inr (.inr h)
      · exact .inr (.inl h)
    · exact ⟨(way2_none h).2, (way2_none h).1⟩
theorem way_out (sa : List Byte) (r : Rt) {s : Int} (hs : isSrc s = false) : wayS sa r s = -1 := by
  unfold wayS wayR
  rw [hs]
  rfl
set_option maxRecDepth 100000 in
set_option maxHeartbeats 8000000 in
theorem routeAmong_w {W : World} (hK : CIn All W 1 (kTab.map W32)) (hF : CIn All W 0 (first.map W32)) {sa : List Byte} (hsa : sa.length = 32) {v : Value} {L : List (Value × RA)} (hv : AIn All W v L) (hao : ∀ x ∈ L, AOk x.2) :
    Calls Tryd.prog 3 #[HV sa, v] W (Ret fun r w' => r = .bool true ∧ Chg No W w') := by
  have hS := SepL.start W
  have HSL : Hid ((sa.map B8).length = 32) := by simp [Hid, hsa]
  have HAO := hide hao
  have hok := runs_ok (L.map (·.2))
  obtain ⟨r, hr⟩ : ∃ r, runs (L.map (·.2)) = r := ⟨_, rfl⟩
  have HQ := hide hr
  rw [hr] at hok
  have HOK := hide hok
  unfold HV
  clear hr hao
  cases hg : greatR (L.map (·.2)) with
  | true =>
    have HGR := hide hg
    clear hg hok
    go_enter Tryd.func3, Tryd.ntmps3
    go_wp2_with (first
      | go_big_skip
      | (show wpList _ _ _ (⟨_, .box 23 _, _, _, _, _⟩ :: _) _ _; refine wpS_boxA (cs := sa.map B8) hS rfl rfl rfl ?_; clear hS; intro nh w hS; go_frame)
      | (go_at_call 10; refine Ret.calls (alive_s hS hK hF) ?_; clear hS; rintro r1 w ⟨rfl, hS⟩)
      | (go_at_call 11; refine Ret.calls (great_s hS hv HGR.out) ?_; clear hS; rintro r1 w ⟨rfl, hS⟩)
      )
    go_ret
    exact ⟨rfl, hS.chg⟩
  | false =>
    have HGR := hide hg
    obtain ⟨a, ha⟩ : ∃ a, r.s0 = a := ⟨_, rfl⟩
    obtain ⟨b, hb⟩ : ∃ b, r.s1 = b := ⟨_, rfl⟩
    have hla := hok.lo0
    have hlb := hok.lo1
    have hne := hok.ne
    have hwy : ∀ s : Int, isSrc s = true → _ := fun s h => way_facts sa r s h
    rw [ha, hb] at hne
    rw [ha] at hla
    rw [hb] at hlb
    simp only [ha, hb] at hwy
    have HA := hide ha
    have HB := hide hb
    have HWY := hide hwy
    have HLA : Hid (decide (a < -1) = false) := decide_eq_false (by omega)
    have HLB : Hid (decide (b < -1) = false) := decide_eq_false (by omega)
    have CW1 : ∀ {w : World} {p : Nat} {F : List Hp}, SepL All W w (.blk p 58 (rtC sa r) :: F) → Calls Tryd.prog 14 #[.pointer (some ⟨p, 0, none⟩), .int .i64 (-1)] w (Ret fun y w' => y = .int .i64 (-1) ∧ SepL All W w' (.blk p 58 (rtC sa r) :: F)) := fun hS => by
      have h := way_s (s := -1) hS hK hF hsa HOK.out
      rw [way_out sa r (s := -1) (by decide)] at h
      exact h
    have CW2 : ∀ {w : World} {p : Nat} {F : List Hp}, SepL All W w (.blk p 58 (rtC sa r) :: F) → Calls Tryd.prog 14 #[.pointer (some ⟨p, 0, none⟩), .int .i64 65] w (Ret fun y w' => y = .int .i64 (-1) ∧ SepL All W w' (.blk p 58 (rtC sa r) :: F)) := fun hS => by
      have h := way_s (s := 65) hS hK hF hsa HOK.out
      rw [way_out sa r (s := 65) (by decide)] at h
      exact h
    clear hg hok ha hb hla hlb hwy
    by_cases hab : a = b
    · have HAB := eqT hab
      have HAN := neF (hne hab)
      clear hab hne
      go_enter Tryd.func3, Tryd.ntmps3
      go_wp2_with (first
        | go_big_skip
        | (show wpList _ _ _ (⟨_, .box 23 _, _, _, _, _⟩ :: _) _ _; refine wpS_boxA (cs := sa.map B8) hS rfl rfl rfl ?_; clear hS; intro nh w hS; go_frame)
        | (go_at_call 10; refine Ret.calls (alive_s hS hK hF) ?_; clear hS; rintro r1 w ⟨rfl, hS⟩)
        | (go_at_call 11; refine Ret.calls (great_s hS hv HGR.out) ?_; clear hS; rintro r1 w ⟨rfl, hS⟩)
        | (show wpList _ _ _ (⟨_, .load 23 _, _, _, _, _⟩ :: _) _ _; refine wpList_val rfl (op_load agg32b rfl rfl (SepL.getBlk (b := nh) (T := 23) ((hS.bring (by repeat (first | exact t0 | apply tS))))).cells HSL.out) ?_; go_frame)
        | (go_at_call 12; refine Ret.calls (grown_s hS hsa hv HAO.out HGR.out) ?_; clear hS; rintro r1 w ⟨p, rfl, hS⟩; rw [HQ.out] at hS)
        | (show wpList _ _ _ (⟨some 6, .alloc _, _, _, _, _⟩ :: _) _ _; refine wpS_alloc hS rfl rfl Tryd.zeroValue29 (zs := [.int .i64 0, .int .i64 0]) rfl ?_; clear hS; intro n6 w hS; go_frame)
        | (show wpList _ _ _ (⟨_, .store 29 (.tmp 6) _, _, _, _, _⟩ :: _) _ _; (refine wpS_storeAll (b := n6) agg2 (hS.bring (by repeat (first | exact t0 | apply tS))) rfl rfl rfl (vs := [I64 a, I64 b]) rfl rfl (two_one _ _) rfl ?_); clear hS; intro w hS; go_frame)
        | (go_at_call 13; refine Ret.calls (succ_s (p := p) (sa := sa) (r := r) hS hsa) ?_; clear hS; rintro r1 w ⟨rfl, hS⟩; rw [HA.out, HB.out])
        | (show wpList _ _ _ (⟨_, .indexAddr _ (.tmp 6) (.const (.int .i64 0)), _, _, _, _⟩ :: _) _ _; refine wpList_val rfl (op_indexArrZ arr2i rfl (b := n6) (off := 0) rfl rfl 0 rfl (by omega)) ?_; simp only [Nat.add_zero]; go_frame)
        | (show wpList _ _ _ (⟨_, .indexAddr _ (.tmp 6) (.const (.int .i64 1)), _, _, _, _⟩ :: _) _ _; refine wpList_val rfl (op_indexArrZ arr2i rfl (b := n6) (off := 0) rfl rfl 1 rfl (by omega)) ?_; simp only [Nat.zero_add]; go_frame)
        | (show wpList _ _ _ (⟨_, .load 3 _, _, _, _, _⟩ :: _) _ _; refine wpList_val rfl (op_load1S (b := n6) (T := 29) oneInt ((hS.bring (by repeat (first | exact t0 | apply tS)))) rfl rfl rfl) ?_; go_frame)
        | (show wpList _ _ _ (⟨some 20, .binOp _ _ _ _ _, _, _, _, _⟩ :: _) _ _; refine wpList_val rfl (op_ilss rfl rfl rfl HLA.out) ?_; go_frame)
        | (show wpList _ _ _ (⟨some 24, .binOp _ _ _ _ _, _, _, _, _⟩ :: _) _ _; refine wpList_val rfl (op_ilss rfl rfl rfl HLB.out) ?_; go_frame)
        | (show wpList _ _ _ (⟨some 31, .binOp _ _ _ _ _, _, _, _, _⟩ :: _) _ _; refine wpList_val rfl (op_eqI' rfl rfl rfl HAB.out) ?_; go_frame)
        | (show wpList _ _ _ (⟨some 35, .binOp _ _ _ _ _, _, _, _, _⟩ :: _) _ _; refine wpList_val rfl (op_ineI rfl rfl rfl HAN.out) ?_; go_frame)
        )
      go_loopw [38] (fun iv wr => ∃ k : Nat, iv = .int .i64 k ∧ k ≤ 65 ∧ SepL All W wr [.blk n6 29 [I64 a, I64 b], .blk p 58 (rtC sa r)]) (fun iv _ => 65 - (intOf iv).toNat)
      case atStart => exact ⟨0, rfl, by omega, hS.sel (by repeat (first | exact Sel.refl | refine Sel.take (by repeat (first | exact t0 | apply tS)) ?_ | apply Sel.drop))⟩
      case round =>
        clear hS
        obtain ⟨k, rfl, hk, hS⟩ := hrel
        by_cases hlt : k < 65
        · obtain ⟨y, hy⟩ : ∃ y, wayS sa r k = y := ⟨_, rfl⟩
          have hs : isSrc (k : Int) = true := by
            unfold isSrc
            rw [decide_eq_true (show (0 : Int) ≤ k by omega), decide_eq_true (show (k : Int) ≤ 64 by omega)]
            rfl
          obtain ⟨w1, w2, w3⟩ := HWY.out k hs
          rw [hy] at w1 w2 w3
          have HY := hide hy
          have hyk : y ≠ (k : Int) := by
            rcases w1 with h | h
            · exact h
            · omega
          have HYK := eqF hyk
          clear hs w1 hy hyk
          by_cases h1 : y = -1
          · have HYN := neF h1
            have HYE := eqT h1
            obtain ⟨ha, hb⟩ := w3 h1
            clear w2 w3 h1
            by_cases h2 : a = -1
            · have HA1 := neF h2
              clear h2 ha
              by_cases h3 : b = -1
              · have HB1 := neF h3
                clear h3 hb
                go_wp2_with (first
                  | go_big_skip
                  | (go_at_call 14; (refine Ret.calls (way_s (p := p) (sa := sa) (r := r) (s := (k : Nat)) (hS.bring (by repeat (first | exact t0 | apply tS))) hK hF hsa HOK.out) ?_); clear hS; rintro r1 w ⟨rfl, hS⟩; rw [HY.out])
                  | (show wpList _ _ _ (⟨_, .indexAddr _ (.tmp 6) (.const (.int .i64 0)), _, _, _, _⟩ :: _) _ _; refine wpList_val rfl (op_indexArrZ arr2i rfl (b := n6) (off := 0) rfl rfl 0 rfl (by omega)) ?_; simp only [Nat.add_zero]; go_frame)
                  | (show wpList _ _ _ (⟨_, .indexAddr _ (.tmp 6) (.const (.int .i64 1)), _, _, _, _⟩ :: _) _ _; refine wpList_val rfl (op_indexArrZ arr2i rfl (b := n6) (off := 0) rfl rfl 1 rfl (by omega)) ?_; simp only [Nat.zero_add]; go_frame)
                  | (show wpList _ _ _ (⟨_, .load 3 _, _, _, _, _⟩ :: _) _ _; refine wpList_val rfl (op_load1S (b := n6) (T := 29) oneInt ((hS.bring (by repeat (first | exact t0 | apply tS)))) rfl rfl rfl) ?_; go_frame)
                  | (show wpList _ _ _ (⟨some 46, .binOp _ _ _ _ _, _, _, _, _⟩ :: _) _ _; refine wpList_val rfl (op_eqI' rfl rfl rfl HYK.out) ?_; go_frame)
                  | (show wpList _ _ _ (⟨some 49, .binOp _ _ _ _ _, _, _, _, _⟩ :: _) _ _; refine wpList_val rfl (op_ineI rfl rfl rfl HYN.out) ?_; go_frame)
                  | (show wpList _ _ _ (⟨some 54, .binOp _ _ _ _ _, _, _, _, _⟩ :: _) _ _; refine wpList_val rfl (op_ineI rfl rfl rfl HYA.out) ?_; go_frame)
                  | (show wpList _ _ _ (⟨some 60, .binOp _ _ _ _ _, _, _, _, _⟩ :: _) _ _; refine wpList_val rfl (op_ineI rfl rfl rfl HYB.out) ?_; go_frame)
                  | (show wpList _ _ _ (⟨some 65, .binOp _ _ _ _ _, _, _, _, _⟩ :: _) _ _; refine wpList_val rfl (op_eqI' rfl rfl rfl HYE.out) ?_; go_frame)
                  | (show wpList _ _ _ (⟨some 69, .binOp _ _ _ _ _, _, _, _, _⟩ :: _) _ _; refine wpList_val rfl (op_ineI rfl rfl rfl HA1.out) ?_; go_frame)
                  | (show wpList _ _ _ (⟨some 74, .binOp _ _ _ _ _, _, _, _, _⟩ :: _) _ _; refine wpList_val rfl (op_ineI rfl rfl rfl HAK.out) ?_; go_frame)
                  | (show wpList _ _ _ (⟨some 79, .binOp _ _ _ _ _, _, _, _, _⟩ :: _) _ _; refine wpList_val rfl (op_ineI rfl rfl rfl HB1.out) ?_; go_frame)
                  | (show wpList _ _ _ (⟨some 84, .binOp _ _ _ _ _, _, _, _, _⟩ :: _) _ _; refine wpList_val rfl (op_ineI rfl rfl rfl HBK.out) ?_; go_frame)
                  )
                go_roundw
                case rel => exact ⟨k + 1, by go_num, by omega, hS.sel (by repeat (first | exact Sel.refl | refine Sel.take (by repeat (first | exact t0 | apply tS)) ?_ | apply Sel.drop))⟩
                case measure => simp [intOf]; omega
              · have HB1 := neT h3
                have HBK := neF (hb.resolve_left h3)
                clear h3 hb
                go_wp2_with (first
                  | go_big_skip
                  | (go_at_call 14; (refine Ret.calls (way_s (p := p) (sa := sa) (r := r) (s := (k : Nat)) (hS.bring (by repeat (first | exact t0 | apply tS))) hK hF hsa HOK.out) ?_); clear hS; rintro r1 w ⟨rfl, hS⟩; rw [HY.out])
                  | (show wpList _ _ _ (⟨_, .indexAddr _ (.tmp 6) (.const (.int .i64 0)), _, _, _, _⟩ :: _) _ _; refine wpList_val rfl (op_indexArrZ arr2i rfl (b := n6) (off := 0) rfl rfl 0 rfl (by omega)) ?_; simp only [Nat.add_zero]; go_frame)
                  | (show wpList _ _ _ (⟨_, .indexAddr _ (.tmp 6) (.const (.int .i64 1)), _, _, _, _⟩ :: _) _ _; refine wpList_val rfl (op_indexArrZ arr2i rfl (b := n6) (off := 0) rfl rfl 1 rfl (by omega)) ?_; simp only [Nat.zero_add]; go_frame)
                  | (show wpList _ _ _ (⟨_, .load 3 _, _, _, _, _⟩ :: _) _ _; refine wpList_val rfl (op_load1S (b := n6) (T := 29) oneInt ((hS.bring (by repeat (first | exact t0 | apply tS)))) rfl rfl rfl) ?_; go_frame)
                  | (show wpList _ _ _ (⟨some 46, .binOp _ _ _ _ _, _, _, _, _⟩ :: _) _ _; refine wpList_val rfl (op_eqI' rfl rfl rfl HYK.out) ?_; go_frame)
                  | (show wpList _ _ _ (⟨some 49, .binOp _ _ _ _ _, _, _, _, _⟩ :: _) _ _; refine wpList_val rfl (op_ineI rfl rfl rfl HYN.out) ?_; go_frame)
                  | (show wpList _ _ _ (⟨some 54, .binOp _ _ _ _ _, _, _, _, _⟩ :: _) _ _; refine wpList_val rfl (op_ineI rfl rfl rfl HYA.out) ?_; go_frame)
                  | (show wpList _ _ _ (⟨some 60, .binOp _ _ _ _ _, _, _, _, _⟩ :: _) _ _; refine wpList_val rfl (op_ineI rfl rfl rfl HYB.out) ?_; go_frame)
                  | (show wpList _ _ _ (⟨some 65, .binOp _ _ _ _ _, _, _, _, _⟩ :: _) _ _; refine wpList_val rfl (op_eqI' rfl rfl rfl HYE.out) ?_; go_frame)
                  | (show wpList _ _ _ (⟨some 69, .binOp _ _ _ _ _, _, _, _, _⟩ :: _) _ _; refine wpList_val rfl (op_ineI rfl rfl rfl HA1.out) ?_; go_frame)
                  | (show wpList _ _ _ (⟨some 74, .binOp _ _ _ _ _, _, _, _, _⟩ :: _) _ _; refine wpList_val rfl (op_ineI rfl rfl rfl HAK.out) ?_; go_frame)
                  | (show wpList _ _ _ (⟨some 79, .binOp _ _ _ _ _, _, _, _, _⟩ :: _) _ _; refine wpList_val rfl (op_ineI rfl rfl rfl HB1.out) ?_; go_frame)
                  | (show wpList _ _ _ (⟨some 84, .binOp _ _ _ _ _, _, _, _, _⟩ :: _) _ _; refine wpList_val rfl (op_ineI rfl rfl rfl HBK.out) ?_; go_frame)
                  )
                go_roundw
                case rel => exact ⟨k + 1, by go_num, by omega, hS.sel (by repeat (first | exact Sel.refl | refine Sel.take (by repeat (first | exact t0 | apply tS)) ?_ | apply Sel.drop))⟩
                case measure => simp [intOf]; omega
            · have HA1 := neT h2
              have HAK := neF (ha.resolve_left h2)
              clear h2 ha
              by_cases h3 : b = -1
              · have HB1 := neF h3
                clear h3 hb
                go_wp2_with (first
                  | go_big_skip
                  | (go_at_call 14; (refine Ret.calls (way_s (p := p) (sa := sa) (r := r) (s := (k : Nat)) (hS.bring (by repeat (first | exact t0 | apply tS))) hK hF hsa HOK.out) ?_); clear hS; rintro r1 w ⟨rfl, hS⟩; rw [HY.out])
                  | (show wpList _ _ _ (⟨_, .indexAddr _ (.tmp 6) (.const (.int .i64 0)), _, _, _, _⟩ :: _) _ _; refine wpList_val rfl (op_indexArrZ arr2i rfl (b := n6) (off := 0) rfl rfl 0 rfl (by omega)) ?_; simp only [Nat.add_zero]; go_frame)
                  | (show wpList _ _ _ (⟨_, .indexAddr _ (.tmp 6) (.const (.int .i64 1)), _, _, _, _⟩ :: _) _ _; refine wpList_val rfl (op_indexArrZ arr2i rfl (b := n6) (off := 0) rfl rfl 1 rfl (by omega)) ?_; simp only [Nat.zero_add]; go_frame)
                  | (show wpList _ _ _ (⟨_, .load 3 _, _, _, _, _⟩ :: _) _ _; refine wpList_val rfl (op_load1S (b := n6) (T := 29) oneInt ((hS.bring (by repeat (first | exact t0 | apply tS)))) rfl rfl rfl) ?_; go_frame)
                  | (show wpList _ _ _ (⟨some 46, .binOp _ _ _ _ _, _, _, _, _⟩ :: _) _ _; refine wpList_val rfl (op_eqI' rfl rfl rfl HYK.out) ?_; go_frame)
                  | (show wpList _ _ _ (⟨some 49, .binOp _ _ _ _ _, _, _, _, _⟩ :: _) _ _; refine wpList_val rfl (op_ineI rfl rfl rfl HYN.out) ?_; go_frame)
                  | (show wpList _ _ _ (⟨some 54, .binOp _ _ _ _ _, _, _, _, _⟩ :: _) _ _; refine wpList_val rfl (op_ineI rfl rfl rfl HYA.out) ?_; go_frame)
                  | (show wpList _ _ _ (⟨some 60, .binOp _ _ _ _ _, _, _, _, _⟩ :: _) _ _; refine wpList_val rfl (op_ineI rfl rfl rfl HYB.out) ?_; go_frame)
                  | (show wpList _ _ _ (⟨some 65, .binOp _ _ _ _ _, _, _, _, _⟩ :: _) _ _; refine wpList_val rfl (op_eqI' rfl rfl rfl HYE.out) ?_; go_frame)
                  | (show wpList _ _ _ (⟨some 69, .binOp _ _ _ _ _, _, _, _, _⟩ :: _) _ _; refine wpList_val rfl (op_ineI rfl rfl rfl HA1.out) ?_; go_frame)
                  | (show wpList _ _ _ (⟨some 74, .binOp _ _ _ _ _, _, _, _, _⟩ :: _) _ _; refine wpList_val rfl (op_ineI rfl rfl rfl HAK.out) ?_; go_frame)
                  | (show wpList _ _ _ (⟨some 79, .binOp _ _ _ _ _, _, _, _, _⟩ :: _) _ _; refine wpList_val rfl (op_ineI rfl rfl rfl HB1.out) ?_; go_frame)
                  | (show wpList _ _ _ (⟨some 84, .binOp _ _ _ _ _, _, _, _, _⟩ :: _) _ _; refine wpList_val rfl (op_ineI rfl rfl rfl HBK.out) ?_; go_frame)
                  )
                go_roundw
                case rel => exact ⟨k + 1, by go_num, by omega, hS.sel (by repeat (first | exact Sel.refl | refine Sel.take (by repeat (first | exact t0 | apply tS)) ?_ | apply Sel.drop))⟩
                case measure => simp [intOf]; omega
              · have HB1 := neT h3
                have HBK := neF (hb.resolve_left h3)
                clear h3 hb
                go_wp2_with (first
                  | go_big_skip
                  | (go_at_call 14; (refine Ret.calls (way_s (p := p) (sa := sa) (r := r) (s := (k : Nat)) (hS.bring (by repeat (first | exact t0 | apply tS))) hK hF hsa HOK.out) ?_); clear hS; rintro r1 w ⟨rfl, hS⟩; rw [HY.out])
                  | (show wpList _ _ _ (⟨_, .indexAddr _ (.tmp 6) (.const (.int .i64 0)), _, _, _, _⟩ :: _) _ _; refine wpList_val rfl (op_indexArrZ arr2i rfl (b := n6) (off := 0) rfl rfl 0 rfl (by omega)) ?_; simp only [Nat.add_zero]; go_frame)
                  | (show wpList _ _ _ (⟨_, .indexAddr _ (.tmp 6) (.const (.int .i64 1)), _, _, _, _⟩ :: _) _ _; refine wpList_val rfl (op_indexArrZ arr2i rfl (b := n6) (off := 0) rfl rfl 1 rfl (by omega)) ?_; simp only [Nat.zero_add]; go_frame)
                  | (show wpList _ _ _ (⟨_, .load 3 _, _, _, _, _⟩ :: _) _ _; refine wpList_val rfl (op_load1S (b := n6) (T := 29) oneInt ((hS.bring (by repeat (first | exact t0 | apply tS)))) rfl rfl rfl) ?_; go_frame)
                  | (show wpList _ _ _ (⟨some 46, .binOp _ _ _ _ _, _, _, _, _⟩ :: _) _ _; refine wpList_val rfl (op_eqI' rfl rfl rfl HYK.out) ?_; go_frame)
                  | (show wpList _ _ _ (⟨some 49, .binOp _ _ _ _ _, _, _, _, _⟩ :: _) _ _; refine wpList_val rfl (op_ineI rfl rfl rfl HYN.out) ?_; go_frame)
                  | (show wpList _ _ _ (⟨some 54, .binOp _ _ _ _ _, _, _, _, _⟩ :: _) _ _; refine wpList_val rfl (op_ineI rfl rfl rfl HYA.out) ?_; go_frame)
                  | (show wpList _ _ _ (⟨some 60, .binOp _ _ _ _ _, _, _, _, _⟩ :: _) _ _; refine wpList_val rfl (op_ineI rfl rfl rfl HYB.out) ?_; go_frame)
                  | (show wpList _ _ _ (⟨some 65, .binOp _ _ _ _ _, _, _, _, _⟩ :: _) _ _; refine wpList_val rfl (op_eqI' rfl rfl rfl HYE.out) ?_; go_frame)
                  | (show wpList _ _ _ (⟨some 69, .binOp _ _ _ _ _, _, _, _, _⟩ :: _) _ _; refine wpList_val rfl (op_ineI rfl rfl rfl HA1.out) ?_; go_frame)
                  | (show wpList _ _ _ (⟨some 74, .binOp _ _ _ _ _, _, _, _, _⟩ :: _) _ _; refine wpList_val rfl (op_ineI rfl rfl rfl HAK.out) ?_; go_frame)
                  | (show wpList _ _ _ (⟨some 79, .binOp _ _ _ _ _, _, _, _, _⟩ :: _) _ _; refine wpList_val rfl (op_ineI rfl rfl rfl HB1.out) ?_; go_frame)
                  | (show wpList _ _ _ (⟨some 84, .binOp _ _ _ _ _, _, _, _, _⟩ :: _) _ _; refine wpList_val rfl (op_ineI rfl rfl rfl HBK.out) ?_; go_frame)
                  )
                go_roundw
                case rel => exact ⟨k + 1, by go_num, by omega, hS.sel (by repeat (first | exact Sel.refl | refine Sel.take (by repeat (first | exact t0 | apply tS)) ?_ | apply Sel.drop))⟩
                case measure => simp [intOf]; omega
          · have HYN := neT h1
            have HYE := eqF h1
            have w4 := w2.resolve_left h1
            clear w2 w3 h1
            by_cases h2 : y = a
            · have HYA := neF h2
              clear h2 w4
              go_wp2_with (first
                | go_big_skip
                | (go_at_call 14; (refine Ret.calls (way_s (p := p) (sa := sa) (r := r) (s := (k : Nat)) (hS.bring (by repeat (first | exact t0 | apply tS))) hK hF hsa HOK.out) ?_); clear hS; rintro r1 w ⟨rfl, hS⟩; rw [HY.out])
                | (show wpList _ _ _ (⟨_, .indexAddr _ (.tmp 6) (.const (.int .i64 0)), _, _, _, _⟩ :: _) _ _; refine wpList_val rfl (op_indexArrZ arr2i rfl (b := n6) (off := 0) rfl rfl 0 rfl (by omega)) ?_; simp only [Nat.add_zero]; go_frame)
                | (show wpList _ _ _ (⟨_, .indexAddr _ (.tmp 6) (.const (.int .i64 1)), _, _, _, _⟩ :: _) _ _; refine wpList_val rfl (op_indexArrZ arr2i rfl (b := n6) (off := 0) rfl rfl 1 rfl (by omega)) ?_; simp only [Nat.zero_add]; go_frame)
                | (show wpList _ _ _ (⟨_, .load 3 _, _, _, _, _⟩ :: _) _ _; refine wpList_val rfl (op_load1S (b := n6) (T := 29) oneInt ((hS.bring (by repeat (first | exact t0 | apply tS)))) rfl rfl rfl) ?_; go_frame)
                | (show wpList _ _ _ (⟨some 46, .binOp _ _ _ _ _, _, _, _, _⟩ :: _) _ _; refine wpList_val rfl (op_eqI' rfl rfl rfl HYK.out) ?_; go_frame)
                | (show wpList _ _ _ (⟨some 49, .binOp _ _ _ _ _, _, _, _, _⟩ :: _) _ _; refine wpList_val rfl (op_ineI rfl rfl rfl HYN.out) ?_; go_frame)
                | (show wpList _ _ _ (⟨some 54, .binOp _ _ _ _ _, _, _, _, _⟩ :: _) _ _; refine wpList_val rfl (op_ineI rfl rfl rfl HYA.out) ?_; go_frame)
                | (show wpList _ _ _ (⟨some 60, .binOp _ _ _ _ _, _, _, _, _⟩ :: _) _ _; refine wpList_val rfl (op_ineI rfl rfl rfl HYB.out) ?_; go_frame)
                | (show wpList _ _ _ (⟨some 65, .binOp _ _ _ _ _, _, _, _, _⟩ :: _) _ _; refine wpList_val rfl (op_eqI' rfl rfl rfl HYE.out) ?_; go_frame)
                | (show wpList _ _ _ (⟨some 69, .binOp _ _ _ _ _, _, _, _, _⟩ :: _) _ _; refine wpList_val rfl (op_ineI rfl rfl rfl HA1.out) ?_; go_frame)
                | (show wpList _ _ _ (⟨some 74, .binOp _ _ _ _ _, _, _, _, _⟩ :: _) _ _; refine wpList_val rfl (op_ineI rfl rfl rfl HAK.out) ?_; go_frame)
                | (show wpList _ _ _ (⟨some 79, .binOp _ _ _ _ _, _, _, _, _⟩ :: _) _ _; refine wpList_val rfl (op_ineI rfl rfl rfl HB1.out) ?_; go_frame)
                | (show wpList _ _ _ (⟨some 84, .binOp _ _ _ _ _, _, _, _, _⟩ :: _) _ _; refine wpList_val rfl (op_ineI rfl rfl rfl HBK.out) ?_; go_frame)
                )
              go_roundw
              case rel => exact ⟨k + 1, by go_num, by omega, hS.sel (by repeat (first | exact Sel.refl | refine Sel.take (by repeat (first | exact t0 | apply tS)) ?_ | apply Sel.drop))⟩
              case measure => simp [intOf]; omega
            · have HYA := neT h2
              have HYB := neF (w4.resolve_left h2)
              clear h2 w4
              go_wp2_with (first
                | go_big_skip
                | (go_at_call 14; (refine Ret.calls (way_s (p := p) (sa := sa) (r := r) (s := (k : Nat)) (hS.bring (by repeat (first | exact t0 | apply tS))) hK hF hsa HOK.out) ?_); clear hS; rintro r1 w ⟨rfl, hS⟩; rw [HY.out])
                | (show wpList _ _ _ (⟨_, .indexAddr _ (.tmp 6) (.const (.int .i64 0)), _, _, _, _⟩ :: _) _ _; refine wpList_val rfl (op_indexArrZ arr2i rfl (b := n6) (off := 0) rfl rfl 0 rfl (by omega)) ?_; simp only [Nat.add_zero]; go_frame)
                | (show wpList _ _ _ (⟨_, .indexAddr _ (.tmp 6) (.const (.int .i64 1)), _, _, _, _⟩ :: _) _ _; refine wpList_val rfl (op_indexArrZ arr2i rfl (b := n6) (off := 0) rfl rfl 1 rfl (by omega)) ?_; simp only [Nat.zero_add]; go_frame)
                | (show wpList _ _ _ (⟨_, .load 3 _, _, _, _, _⟩ :: _) _ _; refine wpList_val rfl (op_load1S (b := n6) (T := 29) oneInt ((hS.bring (by repeat (first | exact t0 | apply tS)))) rfl rfl rfl) ?_; go_frame)
                | (show wpList _ _ _ (⟨some 46, .binOp _ _ _ _ _, _, _, _, _⟩ :: _) _ _; refine wpList_val rfl (op_eqI' rfl rfl rfl HYK.out) ?_; go_frame)
                | (show wpList _ _ _ (⟨some 49, .binOp _ _ _ _ _, _, _, _, _⟩ :: _) _ _; refine wpList_val rfl (op_ineI rfl rfl rfl HYN.out) ?_; go_frame)
                | (show wpList _ _ _ (⟨some 54, .binOp _ _ _ _ _, _, _, _, _⟩ :: _) _ _; refine wpList_val rfl (op_ineI rfl rfl rfl HYA.out) ?_; go_frame)
                | (show wpList _ _ _ (⟨some 60, .binOp _ _ _ _ _, _, _, _, _⟩ :: _) _ _; refine wpList_val rfl (op_ineI rfl rfl rfl HYB.out) ?_; go_frame)
                | (show wpList _ _ _ (⟨some 65, .binOp _ _ _ _ _, _, _, _, _⟩ :: _) _ _; refine wpList_val rfl (op_eqI' rfl rfl rfl HYE.out) ?_; go_frame)
                | (show wpList _ _ _ (⟨some 69, .binOp _ _ _ _ _, _, _, _, _⟩ :: _) _ _; refine wpList_val rfl (op_ineI rfl rfl rfl HA1.out) ?_; go_frame)
                | (show wpList _ _ _ (⟨some 74, .binOp _ _ _ _ _, _, _, _, _⟩ :: _) _ _; refine wpList_val rfl (op_ineI rfl rfl rfl HAK.out) ?_; go_frame)
                | (show wpList _ _ _ (⟨some 79, .binOp _ _ _ _ _, _, _, _, _⟩ :: _) _ _; refine wpList_val rfl (op_ineI rfl rfl rfl HB1.out) ?_; go_frame)
                | (show wpList _ _ _ (⟨some 84, .binOp _ _ _ _ _, _, _, _, _⟩ :: _) _ _; refine wpList_val rfl (op_ineI rfl rfl rfl HBK.out) ?_; go_frame)
                )
              go_roundw
              case rel => exact ⟨k + 1, by go_num, by omega, hS.sel (by repeat (first | exact Sel.refl | refine Sel.take (by repeat (first | exact t0 | apply tS)) ?_ | apply Sel.drop))⟩
              case measure => simp [intOf]; omega
        · go_wp2_with (first
            | go_big_skip
            | (go_at_call 14; (first | (with_reducible refine Ret.calls (CW1 (F := [.blk n6 29 [I64 a, I64 b]]) (by exact hS.sel (by repeat (first | exact Sel.refl | refine Sel.take (by repeat (first | exact t0 | apply tS)) ?_ | apply Sel.drop)))) ?_) | (with_reducible refine Ret.calls (CW2 hS) ?_)); clear hS; rintro r1 w ⟨rfl, hS⟩)
            | (show wpList _ _ _ (⟨_, .binOp .eql 3 _ _ _, _, _, _, _⟩ :: _) _ _; refine wpList_val rfl (op_eqI' rfl rfl rfl (r := true) rfl) ?_; go_frame)
            )
          go_ret
          exact ⟨rfl, hS.chg⟩
    · have HAB := eqF hab
      clear hab hne
      go_enter Tryd.func3, Tryd.ntmps3
      go_wp2_with (first
        | go_big_skip
        | (show wpList _ _ _ (⟨_, .box 23 _, _, _, _, _⟩ :: _) _ _; refine wpS_boxA (cs := sa.map B8) hS rfl rfl rfl ?_; clear hS; intro nh w hS; go_frame)
        | (go_at_call 10; refine Ret.calls (alive_s hS hK hF) ?_; clear hS; rintro r1 w ⟨rfl, hS⟩)
        | (go_at_call 11; refine Ret.calls (great_s hS hv HGR.out) ?_; clear hS; rintro r1 w ⟨rfl, hS⟩)
        | (show wpList _ _ _ (⟨_, .load 23 _, _, _, _, _⟩ :: _) _ _; refine wpList_val rfl (op_load agg32b rfl rfl (SepL.getBlk (b := nh) (T := 23) ((hS.bring (by repeat (first | exact t0 | apply tS))))).cells HSL.out) ?_; go_frame)
        | (go_at_call 12; refine Ret.calls (grown_s hS hsa hv HAO.out HGR.out) ?_; clear hS; rintro r1 w ⟨p, rfl, hS⟩; rw [HQ.out] at hS)
        | (show wpList _ _ _ (⟨some 6, .alloc _, _, _, _, _⟩ :: _) _ _; refine wpS_alloc hS rfl rfl Tryd.zeroValue29 (zs := [.int .i64 0, .int .i64 0]) rfl ?_; clear hS; intro n6 w hS; go_frame)
        | (show wpList _ _ _ (⟨_, .store 29 (.tmp 6) _, _, _, _, _⟩ :: _) _ _; (refine wpS_storeAll (b := n6) agg2 (hS.bring (by repeat (first | exact t0 | apply tS))) rfl rfl rfl (vs := [I64 a, I64 b]) rfl rfl (two_one _ _) rfl ?_); clear hS; intro w hS; go_frame)
        | (go_at_call 13; refine Ret.calls (succ_s (p := p) (sa := sa) (r := r) hS hsa) ?_; clear hS; rintro r1 w ⟨rfl, hS⟩; rw [HA.out, HB.out])
        | (show wpList _ _ _ (⟨_, .indexAddr _ (.tmp 6) (.const (.int .i64 0)), _, _, _, _⟩ :: _) _ _; refine wpList_val rfl (op_indexArrZ arr2i rfl (b := n6) (off := 0) rfl rfl 0 rfl (by omega)) ?_; simp only [Nat.add_zero]; go_frame)
        | (show wpList _ _ _ (⟨_, .indexAddr _ (.tmp 6) (.const (.int .i64 1)), _, _, _, _⟩ :: _) _ _; refine wpList_val rfl (op_indexArrZ arr2i rfl (b := n6) (off := 0) rfl rfl 1 rfl (by omega)) ?_; simp only [Nat.zero_add]; go_frame)
        | (show wpList _ _ _ (⟨_, .load 3 _, _, _, _, _⟩ :: _) _ _; refine wpList_val rfl (op_load1S (b := n6) (T := 29) oneInt ((hS.bring (by repeat (first | exact t0 | apply tS)))) rfl rfl rfl) ?_; go_frame)
        | (show wpList _ _ _ (⟨some 20, .binOp _ _ _ _ _, _, _, _, _⟩ :: _) _ _; refine wpList_val rfl (op_ilss rfl rfl rfl HLA.out) ?_; go_frame)
        | (show wpList _ _ _ (⟨some 24, .binOp _ _ _ _ _, _, _, _, _⟩ :: _) _ _; refine wpList_val rfl (op_ilss rfl rfl rfl HLB.out) ?_; go_frame)
        | (show wpList _ _ _ (⟨some 31, .binOp _ _ _ _ _, _, _, _, _⟩ :: _) _ _; refine wpList_val rfl (op_eqI' rfl rfl rfl HAB.out) ?_; go_frame)
        | (show wpList _ _ _ (⟨some 35, .binOp _ _ _ _ _, _, _, _, _⟩ :: _) _ _; refine wpList_val rfl (op_ineI rfl rfl rfl HAN.out) ?_; go_frame)
        )
      go_loopw [38] (fun iv wr => ∃ k : Nat, iv = .int .i64 k ∧ k ≤ 65 ∧ SepL All W wr [.blk n6 29 [I64 a, I64 b], .blk p 58 (rtC sa r)]) (fun iv _ => 65 - (intOf iv).toNat)
      case atStart => exact ⟨0, rfl, by omega, hS.sel (by repeat (first | exact Sel.refl | refine Sel.take (by repeat (first | exact t0 | apply tS)) ?_ | apply Sel.drop))⟩
      case round =>
        clear hS
        obtain ⟨k, rfl, hk, hS⟩ := hrel
        by_cases hlt : k < 65
        · obtain ⟨y, hy⟩ : ∃ y, wayS sa r k = y := ⟨_, rfl⟩
          have hs : isSrc (k : Int) = true := by
            unfold isSrc
            rw [decide_eq_true (show (0 : Int) ≤ k by omega), decide_eq_true (show (k : Int) ≤ 64 by omega)]
            rfl
          obtain ⟨w1, w2, w3⟩ := HWY.out k hs
          rw [hy] at w1 w2 w3
          have HY := hide hy
          have hyk : y ≠ (k : Int) := by
            rcases w1 with h | h
            · exact h
            · omega
          have HYK := eqF hyk
          clear hs w1 hy hyk
          by_cases h1 : y = -1
          · have HYN := neF h1
            have HYE := eqT h1
            obtain ⟨ha, hb⟩ := w3 h1
            clear w2 w3 h1
            by_cases h2 : a = -1
            · have HA1 := neF h2
              clear h2 ha
              by_cases h3 : b = -1
              · have HB1 := neF h3
                clear h3 hb
                go_wp2_with (first
                  | go_big_skip
                  | (go_at_call 14; (refine Ret.calls (way_s (p := p) (sa := sa) (r := r) (s := (k : Nat)) (hS.bring (by repeat (first | exact t0 | apply tS))) hK hF hsa HOK.out) ?_); clear hS; rintro r1 w ⟨rfl, hS⟩; rw [HY.out])
                  | (show wpList _ _ _ (⟨_, .indexAddr _ (.tmp 6) (.const (.int .i64 0)), _, _, _, _⟩ :: _) _ _; refine wpList_val rfl (op_indexArrZ arr2i rfl (b := n6) (off := 0) rfl rfl 0 rfl (by omega)) ?_; simp only [Nat.add_zero]; go_frame)
                  | (show wpList _ _ _ (⟨_, .indexAddr _ (.tmp 6) (.const (.int .i64 1)), _, _, _, _⟩ :: _) _ _; refine wpList_val rfl (op_indexArrZ arr2i rfl (b := n6) (off := 0) rfl rfl 1 rfl (by omega)) ?_; simp only [Nat.zero_add]; go_frame)
                  | (show wpList _ _ _ (⟨_, .load 3 _, _, _, _, _⟩ :: _) _ _; refine wpList_val rfl (op_load1S (b := n6) (T := 29) oneInt ((hS.bring (by repeat (first | exact t0 | apply tS)))) rfl rfl rfl) ?_; go_frame)
                  | (show wpList _ _ _ (⟨some 46, .binOp _ _ _ _ _, _, _, _, _⟩ :: _) _ _; refine wpList_val rfl (op_eqI' rfl rfl rfl HYK.out) ?_; go_frame)
                  | (show wpList _ _ _ (⟨some 49, .binOp _ _ _ _ _, _, _, _, _⟩ :: _) _ _; refine wpList_val rfl (op_ineI rfl rfl rfl HYN.out) ?_; go_frame)
                  | (show wpList _ _ _ (⟨some 54, .binOp _ _ _ _ _, _, _, _, _⟩ :: _) _ _; refine wpList_val rfl (op_ineI rfl rfl rfl HYA.out) ?_; go_frame)
                  | (show wpList _ _ _ (⟨some 60, .binOp _ _ _ _ _, _, _, _, _⟩ :: _) _ _; refine wpList_val rfl (op_ineI rfl rfl rfl HYB.out) ?_; go_frame)
                  | (show wpList _ _ _ (⟨some 65, .binOp _ _ _ _ _, _, _, _, _⟩ :: _) _ _; refine wpList_val rfl (op_eqI' rfl rfl rfl HYE.out) ?_; go_frame)
                  | (show wpList _ _ _ (⟨some 69, .binOp _ _ _ _ _, _, _, _, _⟩ :: _) _ _; refine wpList_val rfl (op_ineI rfl rfl rfl HA1.out) ?_; go_frame)
                  | (show wpList _ _ _ (⟨some 74, .binOp _ _ _ _ _, _, _, _, _⟩ :: _) _ _; refine wpList_val rfl (op_ineI rfl rfl rfl HAK.out) ?_; go_frame)
                  | (show wpList _ _ _ (⟨some 79, .binOp _ _ _ _ _, _, _, _, _⟩ :: _) _ _; refine wpList_val rfl (op_ineI rfl rfl rfl HB1.out) ?_; go_frame)
                  | (show wpList _ _ _ (⟨some 84, .binOp _ _ _ _ _, _, _, _, _⟩ :: _) _ _; refine wpList_val rfl (op_ineI rfl rfl rfl HBK.out) ?_; go_frame)
                  )
                go_roundw
                case rel => exact ⟨k + 1, by go_num, by omega, hS.sel (by repeat (first | exact Sel.refl | refine Sel.take (by repeat (first | exact t0 | apply tS)) ?_ | apply Sel.drop))⟩
                case measure => simp [intOf]; omega
              · have HB1 := neT h3
                have HBK := neF (hb.resolve_left h3)
                clear h3 hb
                go_wp2_with (first
                  | go_big_skip
                  | (go_at_call 14; (refine Ret.calls (way_s (p := p) (sa := sa) (r := r) (s := (k : Nat)) (hS.bring (by repeat (first | exact t0 | apply tS))) hK hF hsa HOK.out) ?_); clear hS; rintro r1 w ⟨rfl, hS⟩; rw [HY.out])
                  | (show wpList _ _ _ (⟨_, .indexAddr _ (.tmp 6) (.const (.int .i64 0)), _, _, _, _⟩ :: _) _ _; refine wpList_val rfl (op_indexArrZ arr2i rfl (b := n6) (off := 0) rfl rfl 0 rfl (by omega)) ?_; simp only [Nat.add_zero]; go_frame)
                  | (show wpList _ _ _ (⟨_, .indexAddr _ (.tmp 6) (.const (.int .i64 1)), _, _, _, _⟩ :: _) _ _; refine wpList_val rfl (op_indexArrZ arr2i rfl (b := n6) (off := 0) rfl rfl 1 rfl (by omega)) ?_; simp only [Nat.zero_add]; go_frame)
                  | (show wpList _ _ _ (⟨_, .load 3 _, _, _, _, _⟩ :: _) _ _; refine wpList_val rfl (op_load1S (b := n6) (T := 29) oneInt ((hS.bring (by repeat (first | exact t0 | apply tS)))) rfl rfl rfl) ?_; go_frame)
                  | (show wpList _ _ _ (⟨some 46, .binOp _ _ _ _ _, _, _, _, _⟩ :: _) _ _; refine wpList_val rfl (op_eqI' rfl rfl rfl HYK.out) ?_; go_frame)
                  | (show wpList _ _ _ (⟨some 49, .binOp _ _ _ _ _, _, _, _, _⟩ :: _) _ _; refine wpList_val rfl (op_ineI rfl rfl rfl HYN.out) ?_; go_frame)
                  | (show wpList _ _ _ (⟨some 54, .binOp _ _ _ _ _, _, _, _, _⟩ :: _) _ _; refine wpList_val rfl (op_ineI rfl rfl rfl HYA.out) ?_; go_frame)
                  | (show wpList _ _ _ (⟨some 60, .binOp _ _ _ _ _, _, _, _, _⟩ :: _) _ _; refine wpList_val rfl (op_ineI rfl rfl rfl HYB.out) ?_; go_frame)
                  | (show wpList _ _ _ (⟨some 65, .binOp _ _ _ _ _, _, _, _, _⟩ :: _) _ _; refine wpList_val rfl (op_eqI' rfl rfl rfl HYE.out) ?_; go_frame)
                  | (show wpList _ _ _ (⟨some 69, .binOp _ _ _ _ _, _, _, _, _⟩ :: _) _ _; refine wpList_val rfl (op_ineI rfl rfl rfl HA1.out) ?_; go_frame)
                  | (show wpList _ _ _ (⟨some 74, .binOp _ _ _ _ _, _, _, _, _⟩ :: _) _ _; refine wpList_val rfl (op_ineI rfl rfl rfl HAK.out) ?_; go_frame)
                  | (show wpList _ _ _ (⟨some 79, .binOp _ _ _ _ _, _, _, _, _⟩ :: _) _ _; refine wpList_val rfl (op_ineI rfl rfl rfl HB1.out) ?_; go_frame)
                  | (show wpList _ _ _ (⟨some 84, .binOp _ _ _ _ _, _, _, _, _⟩ :: _) _ _; refine wpList_val rfl (op_ineI rfl rfl rfl HBK.out) ?_; go_frame)
                  )
                go_roundw
                case rel => exact ⟨k + 1, by go_num, by omega, hS.sel (by repeat (first | exact Sel.refl | refine Sel.take (by repeat (first | exact t0 | apply tS)) ?_ | apply Sel.drop))⟩
                case measure => simp [intOf]; omega
            · have HA1 := neT h2
              have HAK := neF (ha.resolve_left h2)
              clear h2 ha
              by_cases h3 : b = -1
              · have HB1 := neF h3
                clear h3 hb
                go_wp2_with (first
                  | go_big_skip
                  | (go_at_call 14; (refine Ret.calls (way_s (p := p) (sa := sa) (r := r) (s := (k : Nat)) (hS.bring (by repeat (first | exact t0 | apply tS))) hK hF hsa HOK.out) ?_); clear hS; rintro r1 w ⟨rfl, hS⟩; rw [HY.out])
                  | (show wpList _ _ _ (⟨_, .indexAddr _ (.tmp 6) (.const (.int .i64 0)), _, _, _, _⟩ :: _) _ _; refine wpList_val rfl (op_indexArrZ arr2i rfl (b := n6) (off := 0) rfl rfl 0 rfl (by omega)) ?_; simp only [Nat.add_zero]; go_frame)
                  | (show wpList _ _ _ (⟨_, .indexAddr _ (.tmp 6) (.const (.int .i64 1)), _, _, _, _⟩ :: _) _ _; refine wpList_val rfl (op_indexArrZ arr2i rfl (b := n6) (off := 0) rfl rfl 1 rfl (by omega)) ?_; simp only [Nat.zero_add]; go_frame)
                  | (show wpList _ _ _ (⟨_, .load 3 _, _, _, _, _⟩ :: _) _ _; refine wpList_val rfl (op_load1S (b := n6) (T := 29) oneInt ((hS.bring (by repeat (first | exact t0 | apply tS)))) rfl rfl rfl) ?_; go_frame)
                  | (show wpList _ _ _ (⟨some 46, .binOp _ _ _ _ _, _, _, _, _⟩ :: _) _ _; refine wpList_val rfl (op_eqI' rfl rfl rfl HYK.out) ?_; go_frame)
                  | (show wpList _ _ _ (⟨some 49, .binOp _ _ _ _ _, _, _, _, _⟩ :: _) _ _; refine wpList_val rfl (op_ineI rfl rfl rfl HYN.out) ?_; go_frame)
                  | (show wpList _ _ _ (⟨some 54, .binOp _ _ _ _ _, _, _, _, _⟩ :: _) _ _; refine wpList_val rfl (op_ineI rfl rfl rfl HYA.out) ?_; go_frame)
                  | (show wpList _ _ _ (⟨some 60, .binOp _ _ _ _ _, _, _, _, _⟩ :: _) _ _; refine wpList_val rfl (op_ineI rfl rfl rfl HYB.out) ?_; go_frame)
                  | (show wpList _ _ _ (⟨some 65, .binOp _ _ _ _ _, _, _, _, _⟩ :: _) _ _; refine wpList_val rfl (op_eqI' rfl rfl rfl HYE.out) ?_; go_frame)
                  | (show wpList _ _ _ (⟨some 69, .binOp _ _ _ _ _, _, _, _, _⟩ :: _) _ _; refine wpList_val rfl (op_ineI rfl rfl rfl HA1.out) ?_; go_frame)
                  | (show wpList _ _ _ (⟨some 74, .binOp _ _ _ _ _, _, _, _, _⟩ :: _) _ _; refine wpList_val rfl (op_ineI rfl rfl rfl HAK.out) ?_; go_frame)
                  | (show wpList _ _ _ (⟨some 79, .binOp _ _ _ _ _, _, _, _, _⟩ :: _) _ _; refine wpList_val rfl (op_ineI rfl rfl rfl HB1.out) ?_; go_frame)
                  | (show wpList _ _ _ (⟨some 84, .binOp _ _ _ _ _, _, _, _, _⟩ :: _) _ _; refine wpList_val rfl (op_ineI rfl rfl rfl HBK.out) ?_; go_frame)
                  )
                go_roundw
                case rel => exact ⟨k + 1, by go_num, by omega, hS.sel (by repeat (first | exact Sel.refl | refine Sel.take (by repeat (first | exact t0 | apply tS)) ?_ | apply Sel.drop))⟩
                case measure => simp [intOf]; omega
              · have HB1 := neT h3
                have HBK := neF (hb.resolve_left h3)
                clear h3 hb
                go_wp2_with (first
                  | go_big_skip
                  | (go_at_call 14; (refine Ret.calls (way_s (p := p) (sa := sa) (r := r) (s := (k : Nat)) (hS.bring (by repeat (first | exact t0 | apply tS))) hK hF hsa HOK.out) ?_); clear hS; rintro r1 w ⟨rfl, hS⟩; rw [HY.out])
                  | (show wpList _ _ _ (⟨_, .indexAddr _ (.tmp 6) (.const (.int .i64 0)), _, _, _, _⟩ :: _) _ _; refine wpList_val rfl (op_indexArrZ arr2i rfl (b := n6) (off := 0) rfl rfl 0 rfl (by omega)) ?_; simp only [Nat.add_zero]; go_frame)
                  | (show wpList _ _ _ (⟨_, .indexAddr _ (.tmp 6) (.const (.int .i64 1)), _, _, _, _⟩ :: _) _ _; refine wpList_val rfl (op_indexArrZ arr2i rfl (b := n6) (off := 0) rfl rfl 1 rfl (by omega)) ?_; simp only [Nat.zero_add]; go_frame)
                  | (show wpList _ _ _ (⟨_, .load 3 _, _, _, _, _⟩ :: _) _ _; refine wpList_val rfl (op_load1S (b := n6) (T := 29) oneInt ((hS.bring (by repeat (first | exact t0 | apply tS)))) rfl rfl rfl) ?_; go_frame)
                  | (show wpList _ _ _ (⟨some 46, .binOp _ _ _ _ _, _, _, _, _⟩ :: _) _ _; refine wpList_val rfl (op_eqI' rfl rfl rfl HYK.out) ?_; go_frame)
                  | (show wpList _ _ _ (⟨some 49, .binOp _ _ _ _ _, _, _, _, _⟩ :: _) _ _; refine wpList_val rfl (op_ineI rfl rfl rfl HYN.out) ?_; go_frame)
                  | (show wpList _ _ _ (⟨some 54, .binOp _ _ _ _ _, _, _, _, _⟩ :: _) _ _; refine wpList_val rfl (op_ineI rfl rfl rfl HYA.out) ?_; go_frame)
                  | (show wpList _ _ _ (⟨some 60, .binOp _ _ _ _ _, _, _, _, _⟩ :: _) _ _; refine wpList_val rfl (op_ineI rfl rfl rfl HYB.out) ?_; go_frame)
                  | (show wpList _ _ _ (⟨some 65, .binOp _ _ _ _ _, _, _, _, _⟩ :: _) _ _; refine wpList_val rfl (op_eqI' rfl rfl rfl HYE.out) ?_; go_frame)
                  | (show wpList _ _ _ (⟨some 69, .binOp _ _ _ _ _, _, _, _, _⟩ :: _) _ _; refine wpList_val rfl (op_ineI rfl rfl rfl HA1.out) ?_; go_frame)
                  | (show wpList _ _ _ (⟨some 74, .binOp _ _ _ _ _, _, _, _, _⟩ :: _) _ _; refine wpList_val rfl (op_ineI rfl rfl rfl HAK.out) ?_; go_frame)
                  | (show wpList _ _ _ (⟨some 79, .binOp _ _ _ _ _, _, _, _, _⟩ :: _) _ _; refine wpList_val rfl (op_ineI rfl rfl rfl HB1.out) ?_; go_frame)
                  | (show wpList _ _ _ (⟨some 84, .binOp _ _ _ _ _, _, _, _, _⟩ :: _) _ _; refine wpList_val rfl (op_ineI rfl rfl rfl HBK.out) ?_; go_frame)
                  )
                go_roundw
                case rel => exact ⟨k + 1, by go_num, by omega, hS.sel (by repeat (first | exact Sel.refl | refine Sel.take (by repeat (first | exact t0 | apply tS)) ?_ | apply Sel.drop))⟩
                case measure => simp [intOf]; omega
          · have HYN := neT h1
            have HYE := eqF h1
            have w4 := w2.resolve_left h1
            clear w2 w3 h1
            by_cases h2 : y = a
            · have HYA := neF h2
              clear h2 w4
              go_wp2_with (first
                | go_big_skip
                | (go_at_call 14; (refine Ret.calls (way_s (p := p) (sa := sa) (r := r) (s := (k : Nat)) (hS.bring (by repeat (first | exact t0 | apply tS))) hK hF hsa HOK.out) ?_); clear hS; rintro r1 w ⟨rfl, hS⟩; rw [HY.out])
                | (show wpList _ _ _ (⟨_, .indexAddr _ (.tmp 6) (.const (.int .i64 0)), _, _, _, _⟩ :: _) _ _; refine wpList_val rfl (op_indexArrZ arr2i rfl (b := n6) (off := 0) rfl rfl 0 rfl (by omega)) ?_; simp only [Nat.add_zero]; go_frame)
                | (show wpList _ _ _ (⟨_, .indexAddr _ (.tmp 6) (.const (.int .i64 1)), _, _, _, _⟩ :: _) _ _; refine wpList_val rfl (op_indexArrZ arr2i rfl (b := n6) (off := 0) rfl rfl 1 rfl (by omega)) ?_; simp only [Nat.zero_add]; go_frame)
                | (show wpList _ _ _ (⟨_, .load 3 _, _, _, _, _⟩ :: _) _ _; refine wpList_val rfl (op_load1S (b := n6) (T := 29) oneInt ((hS.bring (by repeat (first | exact t0 | apply tS)))) rfl rfl rfl) ?_; go_frame)
                | (show wpList _ _ _ (⟨some 46, .binOp _ _ _ _ _, _, _, _, _⟩ :: _) _ _; refine wpList_val rfl (op_eqI' rfl rfl rfl HYK.out) ?_; go_frame)
                | (show wpList _ _ _ (⟨some 49, .binOp _ _ _ _ _, _, _, _, _⟩ :: _) _ _; refine wpList_val rfl (op_ineI rfl rfl rfl HYN.out) ?_; go_frame)
                | (show wpList _ _ _ (⟨some 54, .binOp _ _ _ _ _, _, _, _, _⟩ :: _) _ _; refine wpList_val rfl (op_ineI rfl rfl rfl HYA.out) ?_; go_frame)
                | (show wpList _ _ _ (⟨some 60, .binOp _ _ _ _ _, _, _, _, _⟩ :: _) _ _; refine wpList_val rfl (op_ineI rfl rfl rfl HYB.out) ?_; go_frame)
                | (show wpList _ _ _ (⟨some 65, .binOp _ _ _ _ _, _, _, _, _⟩ :: _) _ _; refine wpList_val rfl (op_eqI' rfl rfl rfl HYE.out) ?_; go_frame)
                | (show wpList _ _ _ (⟨some 69, .binOp _ _ _ _ _, _, _, _, _⟩ :: _) _ _; refine wpList_val rfl (op_ineI rfl rfl rfl HA1.out) ?_; go_frame)
                | (show wpList _ _ _ (⟨some 74, .binOp _ _ _ _ _, _, _, _, _⟩ :: _) _ _; refine wpList_val rfl (op_ineI rfl rfl rfl HAK.out) ?_; go_frame)
                | (show wpList _ _ _ (⟨some 79, .binOp _ _ _ _ _, _, _, _, _⟩ :: _) _ _; refine wpList_val rfl (op_ineI rfl rfl rfl HB1.out) ?_; go_frame)
                | (show wpList _ _ _ (⟨some 84, .binOp _ _ _ _ _, _, _, _, _⟩ :: _) _ _; refine wpList_val rfl (op_ineI rfl rfl rfl HBK.out) ?_; go_frame)
                )
              go_roundw
              case rel => exact ⟨k + 1, by go_num, by omega, hS.sel (by repeat (first | exact Sel.refl | refine Sel.take (by repeat (first | exact t0 | apply tS)) ?_ | apply Sel.drop))⟩
              case measure => simp [intOf]; omega
            · have HYA := neT h2
              have HYB := neF (w4.resolve_left h2)
              clear h2 w4
              go_wp2_with (first
                | go_big_skip
                | (go_at_call 14; (refine Ret.calls (way_s (p := p) (sa := sa) (r := r) (s := (k : Nat)) (hS.bring (by repeat (first | exact t0 | apply tS))) hK hF hsa HOK.out) ?_); clear hS; rintro r1 w ⟨rfl, hS⟩; rw [HY.out])
                | (show wpList _ _ _ (⟨_, .indexAddr _ (.tmp 6) (.const (.int .i64 0)), _, _, _, _⟩ :: _) _ _; refine wpList_val rfl (op_indexArrZ arr2i rfl (b := n6) (off := 0) rfl rfl 0 rfl (by omega)) ?_; simp only [Nat.add_zero]; go_frame)
                | (show wpList _ _ _ (⟨_, .indexAddr _ (.tmp 6) (.const (.int .i64 1)), _, _, _, _⟩ :: _) _ _; refine wpList_val rfl (op_indexArrZ arr2i rfl (b := n6) (off := 0) rfl rfl 1 rfl (by omega)) ?_; simp only [Nat.zero_add]; go_frame)
                | (show wpList _ _ _ (⟨_, .load 3 _, _, _, _, _⟩ :: _) _ _; refine wpList_val rfl (op_load1S (b := n6) (T := 29) oneInt ((hS.bring (by repeat (first | exact t0 | apply tS)))) rfl rfl rfl) ?_; go_frame)
                | (show wpList _ _ _ (⟨some 46, .binOp _ _ _ _ _, _, _, _, _⟩ :: _) _ _; refine wpList_val rfl (op_eqI' rfl rfl rfl HYK.out) ?_; go_frame)
                | (show wpList _ _ _ (⟨some 49, .binOp _ _ _ _ _, _, _, _, _⟩ :: _) _ _; refine wpList_val rfl (op_ineI rfl rfl rfl HYN.out) ?_; go_frame)
                | (show wpList _ _ _ (⟨some 54, .binOp _ _ _ _ _, _, _, _, _⟩ :: _) _ _; refine wpList_val rfl (op_ineI rfl rfl rfl HYA.out) ?_; go_frame)
                | (show wpList _ _ _ (⟨some 60, .binOp _ _ _ _ _, _, _, _, _⟩ :: _) _ _; refine wpList_val rfl (op_ineI rfl rfl rfl HYB.out) ?_; go_frame)
                | (show wpList _ _ _ (⟨some 65, .binOp _ _ _ _ _, _, _, _, _⟩ :: _) _ _; refine wpList_val rfl (op_eqI' rfl rfl rfl HYE.out) ?_; go_frame)
                | (show wpList _ _ _ (⟨some 69, .binOp _ _ _ _ _, _, _, _, _⟩ :: _) _ _; refine wpList_val rfl (op_ineI rfl rfl rfl HA1.out) ?_; go_frame)
                | (show wpList _ _ _ (⟨some 74, .binOp _ _ _ _ _, _, _, _, _⟩ :: _) _ _; refine wpList_val rfl (op_ineI rfl rfl rfl HAK.out) ?_; go_frame)
                | (show wpList _ _ _ (⟨some 79, .binOp _ _ _ _ _, _, _, _, _⟩ :: _) _ _; refine wpList_val rfl (op_ineI rfl rfl rfl HB1.out) ?_; go_frame)
                | (show wpList _ _ _ (⟨some 84, .binOp _ _ _ _ _, _, _, _, _⟩ :: _) _ _; refine wpList_val rfl (op_ineI rfl rfl rfl HBK.out) ?_; go_frame)
                )
              go_roundw
              case rel => exact ⟨k + 1, by go_num, by omega, hS.sel (by repeat (first | exact Sel.refl | refine Sel.take (by repeat (first | exact t0 | apply tS)) ?_ | apply Sel.drop))⟩
              case measure => simp [intOf]; omega
        · go_wp2_with (first
            | go_big_skip
            | (go_at_call 14; (first | (with_reducible refine Ret.calls (CW1 (F := [.blk n6 29 [I64 a, I64 b]]) (by exact hS.sel (by repeat (first | exact Sel.refl | refine Sel.take (by repeat (first | exact t0 | apply tS)) ?_ | apply Sel.drop)))) ?_) | (with_reducible refine Ret.calls (CW2 hS) ?_)); clear hS; rintro r1 w ⟨rfl, hS⟩)
            | (show wpList _ _ _ (⟨_, .binOp .eql 3 _ _ _, _, _, _, _⟩ :: _) _ _; refine wpList_val rfl (op_eqI' rfl rfl rfl (r := true) rfl) ?_; go_frame)
            )
          go_ret
          exact ⟨rfl, hS.chg⟩
end Go.Proofs.YtlplgobkidpgkaaDoor
