/- What time makes of the document's book; both books in one contract each. Conditions: those that stand ahead of each theorem. -/
import Derived.Test.YtafpdpcbckpkjaaGRAll
namespace Go.Proofs.Ytafpdpcbckpkjaa
open Go.RowKit Go.Px
/-- how long the slice in the document's book is -/
def lenAt (w : World) (p : Nat) : Nat := match w.cell? ⟨p, 0, none⟩ with
  | some (.slice _ n _) => n
  | _ => 0
section
variable {R : Nat → Prop} {base w : World} {F : List Hp} {p : Nat} {B : List Ent}
theorem rB_len (hS : SepL R base w (rB p B :: F)) : lenAt w p = B.length := by
  obtain ⟨ov, l, hl, h⟩ := rB_open [] hS
  have hc := (SepL.getBlk h).cell 0
  have ho := SepL.getOwn (SepL.bring h (tS t0))
  obtain ⟨A, c, e, _⟩ := ho.rd.form
  unfold lenAt
  rw [hc, e]
  simp [← hl, relist]
theorem rfocus_i (A : List Hp) {B1 B2 : List Ent} {e : Ent} {i : List Byte} {k : Nat} (hS : SepL R base w (rB p (B1 ++ e :: B2) :: (A ++ F))) (hk : B1.length = k) (hi : e.id = i) :
    ∃ (ov pv : Value) (xs : List (List Value)) (G : List Hp) (hlk : k < xs.length), Hid (xs.length = (B1 ++ e :: B2).length) ∧ Hid (xs[k] = i.map B8 ++ [pv, U e.since]) ∧
      (∀ {w : World} (A : List Hp), SepL R base w (.own 3 1 pv ((e.peer :: e.waits).map fun z => [I64 z]) :: .blk p 38 [ov] :: .own 79 34 ov xs :: (A ++ G)) → SepL R base w (rB p (B1 ++ e :: B2) :: (A ++ F))) ∧
      SepL R base w (.own 3 1 pv ((e.peer :: e.waits).map fun z => [I64 z]) :: .blk p 38 [ov] :: .own 79 34 ov xs :: (A ++ G)) := by
  subst hi
  obtain ⟨ov, pv, xs, G, hlk, h1, h2, _, h4, h5⟩ := rfocus A hS hk
  exact ⟨ov, pv, xs, G, hlk, h1, h2, h4, h5⟩
set_option maxRecDepth 100000 in
set_option maxHeartbeats 4000000 in
theorem rlate_s {now : Nat} (hS : SepL R base w (rB p B :: F)) (ok : BOk B) (hn : now < 18446744073709551616) :
    Calls Try.prog 34 #[.pointer (some ⟨p, 0, none⟩), U now] w (Ret fun r w' => SepL R base w' (.own 57 33 r ((eachW (lateOn now) B).map wC) :: rB p (eachB (lateOn now) now B) :: F)) := by
  replace hS := hS.nilOwn 57 33
  have H30 : Hid (∀ n ∈ [30], n < 18446744073709551616) := by simp [Hid]
  obtain ⟨n, hnn⟩ : ∃ n, B.length = n := ⟨_, rfl⟩
  have HN := hide hnn
  have HOK := hide ok
  have hfew := ok.few
  rw [hnn] at hfew
  clear hnn ok
  go_enter Try.func34, Try.ntmps34
  go_wp2_with fail
  go_loopw [5, 6] (fun av iv wr => ∃ m : Nat, iv = .int .i64 (eachB (lateOn now) now (B.take m)).length ∧ m ≤ n ∧ SepL R base wr (rB p (eachB (lateOn now) now (B.take m) ++ B.drop m) :: .own 57 33 av ((eachW (lateOn now) (B.take m)).map wC) :: F)) (fun _ iv wr => lenAt wr p - (intOf iv).toNat)
  case atStart => exact ⟨0, rfl, by omega, hS.perm (.swap _ _ _)⟩
  case round =>
    clear hS
    obtain ⟨m, rfl, hm, hS⟩ := hrel
    have HLA := hide (rB_len hS)
    obtain ⟨A, hA⟩ : ∃ A, (eachW (lateOn now) (B.take m)).map wC = A := ⟨_, rfl⟩
    obtain ⟨C, hC⟩ : ∃ C, eachB (lateOn now) now (B.take m) = C := ⟨_, rfl⟩
    rw [hA, hC] at hS
    rw [hC] at HLA
    obtain ⟨k, hk⟩ : ∃ k, C.length = k := ⟨_, rfl⟩
    have hkm : k ≤ m := by
      rw [← hk, ← hC]
      refine Nat.le_trans (List.length_filterMap_le _ _) ?_
      rw [List.length_take]
      omega
    have HAL : Hid (A.length ≤ 32) := by
      unfold Hid
      rw [← hA, List.length_map]
      have := eachW_len (on := lateOn now) (B.take m)
      rw [List.length_take] at this
      omega
    have HB1 : Hid ((A.length + 1) * 40 ≤ 140737488355328) := by
      have := HAL.out
      unfold Hid
      omega
    have HB2 : Hid (A.length + 1 ≤ maxLen) := by
      have := HAL.out
      unfold Hid maxLen
      omega
    by_cases hlt : m < n
    · have hmB : m < B.length := by rw [HN.out]; exact hlt
      obtain ⟨e, he⟩ : ∃ e, B[m] = e := ⟨_, rfl⟩
      have hd : B.drop m = e :: B.drop (m + 1) := by rw [List.drop_eq_getElem_cons hmB, he]
      have ok0 := HOK.out
      rw [show B = B.take m ++ e :: B.drop (m + 1) by rw [← hd, List.take_append_drop]] at ok0
      have ok1 := (mid_ok (on := lateOn now) ok0 hn (fun _ => rfl) (fun _ h => h) (fun _ => rfl)).1
      have HT1 := each_take (on := lateOn now) (t := now) hmB he
      have HT2 := eachW_take (on := lateOn now) hmB he
      obtain ⟨d, hdd⟩ : ∃ d, B.drop (m + 1) = d := ⟨_, rfl⟩
      rw [hC] at ok1 HT1
      rw [hd] at hS HLA
      rw [hdd] at ok1 hS HLA
      clear ok0 hd
      have hi : e.id.length = 32 := ok1.len e (by simp)
      have HSN := hide (ok1.since e (by simp))
      obtain ⟨i, hii⟩ : ∃ i, e.id = i := ⟨_, rfl⟩
      rw [hii] at hi
      have HIL := hide hi
      have HI32 : Hid ((i.map B8).length = 32) := by simp [Hid, hi]
      obtain ⟨ov, pv, xs, G, hlk, HLN, HX, HD, hS⟩ := rfocus_i [.own 57 33 u5 A] (F := F) hS hk hii
      have hLN := HLN.out
      simp only [List.length_append, List.length_cons] at hLN
      have HLS : Hid (decide ((k : Int) < ((C ++ e :: d).length : Int)) = true) := decT (by simp; omega)
      have HNX : Hid (∀ X, C ++ (eachE (lateOn now) now e).toList ++ d = X → eachB (lateOn now) now (B.take (m + 1)) ++ B.drop (m + 1) = X) := by
        rintro X rfl
        rw [HT1, hdd]
      have HNL : Hid (∀ X, k + (eachE (lateOn now) now e).toList.length = X → (eachB (lateOn now) now (B.take (m + 1))).length = X) := by
        rintro X rfl
        rw [HT1, List.length_append, hk]
      have HWX : Hid (∀ X, A ++ (wantE (lateOn now) e).toList.map wC = X → (eachW (lateOn now) (B.take (m + 1))).map wC = X) := by
        rintro X rfl
        rw [HT2, List.map_append, hA]
      rw [hC, hk]
      clear HT1 HT2 hdd hmB he hLN hA hC
      have HLC : Hid ((C ++ e :: d).length = k + d.length + 1) := by
        unfold Hid
        rw [List.length_append, List.length_cons]
        omega
      by_cases hl : laterN e.since [30] ≤ now
      · have HGT : Hid (decide (now < laterN e.since [30]) = false) := decF (by omega)
        have hon : (lateOn now e).2 = true := decide_eq_true hl
        have hEg : eachE (lateOn now) now e = goE now e := if_pos hon
        have hWg : wantE (lateOn now) e = e.waits.head?.map fun h => (e.id, h) := if_pos hon
        clear hl hon
        cases hwt : e.waits with
        | nil =>
          have HG : Hid (goE now e = none) := by
            unfold Hid goE
            rw [hwt]
          rw [hEg, HG.out] at HNX HNL
          rw [hWg, hwt] at HWX
          clear hEg hWg hwt
          go_wp2_with (first
            | (show wpList _ _ _ (⟨_, .call ⟨.builtin .len, _, _⟩, _, _, _, _⟩ :: _) _ _; refine wpList_val rfl (op_len slREnt rfl rfl (v := ov) (xs := xs) rfl ((hS.bring (by repeat (first | exact t0 | apply tS))).getOwn.rd)) ?_; rw [HLN.out]; go_frame)
            | (show wpList _ _ _ (⟨some 13, .binOp _ _ _ _ _, _, _, _, _⟩ :: _) _ _; refine wpList_val rfl (op_ilss rfl rfl rfl HLS.out) ?_; go_frame)
            | (show wpList _ _ _ (⟨_, .fieldAddr 79 _ 2, _, _, _, _⟩ :: _) _ _; refine wpList_val rfl (op_fieldAddrE (j := 33) (by kernel_rfl) rfl (n := 34) (v := ov) (k := k) (xs := xs) rfl ((hS.bring (by repeat (first | exact t0 | apply tS))).getOwn.rd) hlk) ?_; go_frame)
            | (show wpList _ _ _ (⟨_, .load 23 _, _, _, _, _⟩ :: _) _ _; refine wpList_val rfl (op_loadF1 oneU rfl (n := 34) (v := ov) (k := k) (j := 33) (xs := xs) rfl ((hS.bring (by repeat (first | exact t0 | apply tS))).getOwn.rd) hlk (u := U e.since) (g33 HX.out HIL.out)) ?_; go_frame)
            | (show wpList _ _ _ (⟨_, .load 36 _, _, _, _, _⟩ :: _) _ _; refine wpList_val rfl (op_load1S (T := 38) oneREnts ((hS.bring (by repeat (first | exact t0 | apply tS)))) rfl rfl rfl) ?_; go_frame)
            | (show wpList _ _ _ (⟨_, .indexAddr 36 _ _, _, _, _, _⟩ :: _) _ _; refine wpList_val rfl (op_indexAddr slREnt rfl (v := ov) (k := k) rfl rfl (xs := xs) ((hS.bring (by repeat (first | exact t0 | apply tS))).getOwn.rd) hlk) ?_; go_frame)
            | (show wpList _ _ _ (⟨_, .buildSlice 87 1 _, _, _, _, _⟩ :: _) _ _; refine wpS_build11 slU hS rfl rfl (u := U 30) rfl rfl ?_; clear hS; intro v1 w hS; go_frame)
            | (go_at_call 47; refine Ret.calls (rlater_any e.since v1 [30] _ ((hS.bring (by repeat (first | exact t0 | apply tS))).getOwn.rd) HSN.out H30.out) ?_; rintro r w ⟨rfl, rfl⟩)
            | (show wpList _ _ _ (⟨some 25, .binOp _ _ _ _ _, _, _, _, _⟩ :: _) _ _; refine wpList_val rfl (opU_gtr rfl rfl rfl HGT.out) ?_; go_frame)
            | (go_at_call 46; refine Ret.calls (ron_s (t := now) (HD [.own 57 33 u5 A] (by exact hS.sel (by repeat (first | exact Sel.refl | refine Sel.take (by repeat (first | exact t0 | apply tS)) ?_ | apply Sel.drop)))) hk ok1) ?_; clear hS; rintro r w ⟨rfl, hS⟩; rw [HG.out] at hS; rw [HG.out]; rw [Option.isSome_none]; have HLB := hide (rB_len hS))
            )
          go_roundw
          case rel =>
            refine ⟨m + 1, by rw [HNL.out k (by simp)], by omega, ?_⟩
            rw [HNX.out _ rfl, HWX.out A (by simp)]
            exact hS
          case measure =>
            have h1 := HLB.out
            have h2 := HLA.out
            rw [HLC.out] at h2
            simp at h1
            simp [intOf]
            omega
        | cons h r =>
          obtain ⟨e2, he2⟩ : ∃ e2 : Ent, { e with peer := h, since := now, waits := r } = e2 := ⟨_, rfl⟩
          have HG : Hid (goE now e = some e2) := by
            unfold Hid goE
            rw [hwt, ← he2]
          have HP2 : Hid (e2.peer = h) := by
            unfold Hid
            rw [← he2]
          have HI2 : Hid (e2.id = i) := by
            unfold Hid
            rw [← he2]
            exact hii
          rw [hEg, HG.out] at HNX HNL
          rw [hWg, hwt] at HWX
          clear hEg hWg hwt he2
          go_wp2_with (first
            | (show wpList _ _ _ (⟨_, .call ⟨.builtin .len, _, _⟩, _, _, _, _⟩ :: _) _ _; refine wpList_val rfl (op_len slREnt rfl rfl (v := ov) (xs := xs) rfl ((hS.bring (by repeat (first | exact t0 | apply tS))).getOwn.rd)) ?_; rw [HLN.out]; go_frame)
            | (show wpList _ _ _ (⟨some 13, .binOp _ _ _ _ _, _, _, _, _⟩ :: _) _ _; refine wpList_val rfl (op_ilss rfl rfl rfl HLS.out) ?_; go_frame)
            | (show wpList _ _ _ (⟨_, .fieldAddr 79 _ 2, _, _, _, _⟩ :: _) _ _; refine wpList_val rfl (op_fieldAddrE (j := 33) (by kernel_rfl) rfl (n := 34) (v := ov) (k := k) (xs := xs) rfl ((hS.bring (by repeat (first | exact t0 | apply tS))).getOwn.rd) hlk) ?_; go_frame)
            | (show wpList _ _ _ (⟨_, .load 23 _, _, _, _, _⟩ :: _) _ _; refine wpList_val rfl (op_loadF1 oneU rfl (n := 34) (v := ov) (k := k) (j := 33) (xs := xs) rfl ((hS.bring (by repeat (first | exact t0 | apply tS))).getOwn.rd) hlk (u := U e.since) (g33 HX.out HIL.out)) ?_; go_frame)
            | (show wpList _ _ _ (⟨_, .load 36 _, _, _, _, _⟩ :: _) _ _; refine wpList_val rfl (op_load1S (T := 38) oneREnts ((hS.bring (by repeat (first | exact t0 | apply tS)))) rfl rfl rfl) ?_; go_frame)
            | (show wpList _ _ _ (⟨_, .indexAddr 36 _ _, _, _, _, _⟩ :: _) _ _; refine wpList_val rfl (op_indexAddr slREnt rfl (v := ov) (k := k) rfl rfl (xs := xs) ((hS.bring (by repeat (first | exact t0 | apply tS))).getOwn.rd) hlk) ?_; go_frame)
            | (show wpList _ _ _ (⟨_, .buildSlice 87 1 _, _, _, _, _⟩ :: _) _ _; refine wpS_build11 slU hS rfl rfl (u := U 30) rfl rfl ?_; clear hS; intro v1 w hS; go_frame)
            | (go_at_call 47; refine Ret.calls (rlater_any e.since v1 [30] _ ((hS.bring (by repeat (first | exact t0 | apply tS))).getOwn.rd) HSN.out H30.out) ?_; rintro r w ⟨rfl, rfl⟩)
            | (show wpList _ _ _ (⟨some 25, .binOp _ _ _ _ _, _, _, _, _⟩ :: _) _ _; refine wpList_val rfl (opU_gtr rfl rfl rfl HGT.out) ?_; go_frame)
            | (go_at_call 46; refine Ret.calls (ron_s (t := now) (HD [.own 57 33 u5 A] (by exact hS.sel (by repeat (first | exact Sel.refl | refine Sel.take (by repeat (first | exact t0 | apply tS)) ?_ | apply Sel.drop)))) hk ok1) ?_; clear hS; rintro r w ⟨rfl, hS⟩; rw [HG.out] at hS; rw [HG.out]; rw [Option.isSome_some]; rw [Option.toList_some, List.append_assoc, List.singleton_append] at hS; have HLB := hide (rB_len hS); obtain ⟨ov2, pv2, xs2, G2, hlk2, HLN2, HX2, HD2, hS⟩ := rfocus_i [.own 57 33 u5 A] (F := F) hS hk HI2.out)
            )
          refine wp_region_text (by kernel_rfl) (by kernel_rfl) (by repeat (first | exact Clean.body | refine Clean.then ?_ | refine Clean.inBlock ?_)) ?_
          replace hS := hS.drew
          go_wp2_with (first
            | (show wpList _ _ _ (⟨_, .fieldAddr 79 _ 0, _, _, _, _⟩ :: _) _ _; refine wpList_val rfl (op_fieldAddrE (j := 0) (by kernel_rfl) rfl (n := 34) (v := ov2) (k := k) (xs := xs2) rfl ((hS.bring (by repeat (first | exact t0 | apply tS))).getOwn.rd) hlk2) ?_; go_frame)
            | (show wpList _ _ _ (⟨_, .load 28 _, _, _, _, _⟩ :: _) _ _; refine wpList_val rfl (op_loadFA aggHash rfl (n := 34) (v := ov2) (k := k) (j := 0) (xs := xs2) rfl ((hS.bring (by repeat (first | exact t0 | apply tS))).getOwn.rd) hlk2 (g0 HX2.out HIL.out) HI32.out) ?_; go_frame)
            | (show wpList _ _ _ (⟨_, .load 36 _, _, _, _, _⟩ :: _) _ _; refine wpList_val rfl (op_load1S (T := 38) oneREnts ((hS.bring (by repeat (first | exact t0 | apply tS)))) rfl rfl rfl) ?_; go_frame)
            | (show wpList _ _ _ (⟨_, .indexAddr 36 _ _, _, _, _, _⟩ :: _) _ _; refine wpList_val rfl (op_indexAddr slREnt rfl (v := ov2) (k := k) rfl rfl (xs := xs2) ((hS.bring (by repeat (first | exact t0 | apply tS))).getOwn.rd) hlk2) ?_; go_frame)
            | (show wpList _ _ _ (⟨_, .fieldAddr 79 _ 1, _, _, _, _⟩ :: _) _ _; refine wpList_val rfl (op_fieldAddrE (j := 32) (by kernel_rfl) rfl (n := 34) (v := ov2) (k := k) (xs := xs2) rfl ((hS.bring (by repeat (first | exact t0 | apply tS))).getOwn.rd) hlk2) ?_; go_frame)
            | (show wpList _ _ _ (⟨_, .load 50 _, _, _, _, _⟩ :: _) _ _; refine wpList_val rfl (op_loadF1 oneInts rfl (n := 34) (v := ov2) (k := k) (j := 32) (xs := xs2) rfl ((hS.bring (by repeat (first | exact t0 | apply tS))).getOwn.rd) hlk2 (u := pv2) (g32 HX2.out HIL.out)) ?_; go_frame)
            | (show wpList _ _ _ (⟨_, .indexAddr 50 _ _, _, _, _, _⟩ :: _) _ _; refine wpList_val rfl (op_indexAddrZ slInt rfl (v := pv2) (xs := (e2.peer :: e2.waits).map fun z => [I64 z]) rfl rfl ((hS.bring (by repeat (first | exact t0 | apply tS))).getOwn.rd) 0 rfl (by simp)) ?_; go_frame)
            | (show wpList _ _ _ (⟨_, .load 3 _, _, _, _, _⟩ :: _) _ _; refine wpList_val rfl (op_loadE1 oneInt rfl (v := pv2) (k := 0) rfl (f := I64) (us := e2.peer :: e2.waits) ((hS.bring (by repeat (first | exact t0 | apply tS))).getOwn.rd) (by simp)) ?_; rw [List.getElem_cons_zero]; go_frame)
            | (show wpList _ _ _ (⟨_, .build 57 _, _, _, _, _⟩ :: _) _ _; refine wpList_val rfl (op_build (ps := #[(0, .agg (i.map B8).toArray), (1, .int .i64 e2.peer)]) rfl rfl (buildRWant i HI32.out e2.peer) _) ?_; go_frame)
            | (show wpList _ _ _ (⟨_, .buildSlice 41 1 _, _, _, _, _⟩ :: _) _ _; refine wpS_build1A slRWant (by omega) hS rfl rfl (cs := i.map B8 ++ [.int .i64 e2.peer]) rfl (w33 HI32.out _) ?_; clear hS; intro v1 w hS; go_frame)
            | (show wpList _ _ _ (⟨_, .call ⟨.builtin .append, _, _⟩, _, _, _, _⟩ :: _) _ _; (refine wpS_append slRWant (hS.bring (by repeat (first | exact t0 | apply tS))) rfl rfl (sv := u5) rfl rfl (ys := [i.map B8 ++ [.int .i64 e2.peer]]) ((hS.bring (by repeat (first | exact t0 | apply tS))).getOwn.rd) (flat_w1 i e2.peer) HB1.out HB2.out ?_); clear hS; intro v2 w hS; go_frame)
            | (refine fin_mk (by kernel_rfl) ?_)
            )
          replace hS := HD2 [.own 57 33 v2 (A ++ [i.map B8 ++ [.int .i64 e2.peer]])] (by exact hS.sel (by repeat (first | exact Sel.refl | refine Sel.take (by repeat (first | exact t0 | apply tS)) ?_ | apply Sel.drop)))
          have HLB := hide (rB_len hS)
          go_roundw
          case rel =>
            refine ⟨m + 1, by rw [HNL.out (k + 1) (by simp)]; go_num, by omega, ?_⟩
            rw [HNX.out (C ++ e2 :: d) (by simp), HWX.out (A ++ [i.map B8 ++ [.int .i64 e2.peer]]) (by rw [HP2.out, ← hii]; rfl)]
            exact hS
          case measure =>
            have h1 := HLB.out
            have h2 := HLA.out
            rw [HLC.out] at h2
            simp at h1
            simp [intOf]
            omega
      · have HGT : Hid (decide (now < laterN e.since [30]) = true) := decT (by omega)
        have hon : ¬ (lateOn now e).2 = true := by
          intro h
          exact hl (of_decide_eq_true h)
        have hEg : eachE (lateOn now) now e = some e := if_neg hon
        have hWg : wantE (lateOn now) e = none := if_neg hon
        rw [hEg] at HNX HNL
        rw [hWg] at HWX
        clear hl hon hEg hWg
        go_wp2_with (first
          | (show wpList _ _ _ (⟨_, .call ⟨.builtin .len, _, _⟩, _, _, _, _⟩ :: _) _ _; refine wpList_val rfl (op_len slREnt rfl rfl (v := ov) (xs := xs) rfl ((hS.bring (by repeat (first | exact t0 | apply tS))).getOwn.rd)) ?_; rw [HLN.out]; go_frame)
          | (show wpList _ _ _ (⟨some 13, .binOp _ _ _ _ _, _, _, _, _⟩ :: _) _ _; refine wpList_val rfl (op_ilss rfl rfl rfl HLS.out) ?_; go_frame)
          | (show wpList _ _ _ (⟨_, .fieldAddr 79 _ 2, _, _, _, _⟩ :: _) _ _; refine wpList_val rfl (op_fieldAddrE (j := 33) (by kernel_rfl) rfl (n := 34) (v := ov) (k := k) (xs := xs) rfl ((hS.bring (by repeat (first | exact t0 | apply tS))).getOwn.rd) hlk) ?_; go_frame)
          | (show wpList _ _ _ (⟨_, .load 23 _, _, _, _, _⟩ :: _) _ _; refine wpList_val rfl (op_loadF1 oneU rfl (n := 34) (v := ov) (k := k) (j := 33) (xs := xs) rfl ((hS.bring (by repeat (first | exact t0 | apply tS))).getOwn.rd) hlk (u := U e.since) (g33 HX.out HIL.out)) ?_; go_frame)
          | (show wpList _ _ _ (⟨_, .load 36 _, _, _, _, _⟩ :: _) _ _; refine wpList_val rfl (op_load1S (T := 38) oneREnts ((hS.bring (by repeat (first | exact t0 | apply tS)))) rfl rfl rfl) ?_; go_frame)
          | (show wpList _ _ _ (⟨_, .indexAddr 36 _ _, _, _, _, _⟩ :: _) _ _; refine wpList_val rfl (op_indexAddr slREnt rfl (v := ov) (k := k) rfl rfl (xs := xs) ((hS.bring (by repeat (first | exact t0 | apply tS))).getOwn.rd) hlk) ?_; go_frame)
          | (show wpList _ _ _ (⟨_, .buildSlice 87 1 _, _, _, _, _⟩ :: _) _ _; refine wpS_build11 slU hS rfl rfl (u := U 30) rfl rfl ?_; clear hS; intro v1 w hS; go_frame)
          | (go_at_call 47; refine Ret.calls (rlater_any e.since v1 [30] _ ((hS.bring (by repeat (first | exact t0 | apply tS))).getOwn.rd) HSN.out H30.out) ?_; rintro r w ⟨rfl, rfl⟩)
          | (show wpList _ _ _ (⟨some 25, .binOp _ _ _ _ _, _, _, _, _⟩ :: _) _ _; refine wpList_val rfl (opU_gtr rfl rfl rfl HGT.out) ?_; go_frame)
          )
        replace hS := HD [.own 57 33 u5 A] (by exact hS.sel (by repeat (first | exact Sel.refl | refine Sel.take (by repeat (first | exact t0 | apply tS)) ?_ | apply Sel.drop)))
        have HLB := hide (rB_len hS)
        go_roundw
        case rel =>
          refine ⟨m + 1, by rw [HNL.out (k + 1) (by simp)]; go_num, by omega, ?_⟩
          rw [HNX.out (C ++ e :: d) (by simp), HWX.out A (by simp)]
          exact hS
        case measure =>
          have h1 := HLB.out
          have h2 := HLA.out
          rw [HLC.out] at h2
          simp at h1
          simp [intOf]
          omega
    · have hm2 : m = n := by omega
      subst hm2
      rw [hC, hk]
      have h1 : B.take m = B := List.take_of_length_le (Nat.le_of_eq HN.out)
      have h2 : B.drop m = [] := List.drop_eq_nil_of_le (Nat.le_of_eq HN.out)
      rw [h1] at hA hC
      rw [h2, List.append_nil] at hS
      obtain ⟨ov, l, hl, hS⟩ := rB_open [.own 57 33 u5 A] (F := F) hS
      have HLN : Hid ((l.map rC).length = k) := by
        unfold Hid
        rw [← hk, ← hl]
        simp [relist]
      have HLS : Hid (decide ((k : Int) < (k : Int)) = false) := decF (by omega)
      have HA := hide hA
      have HC := hide hC
      have HL := hide hl
      clear hA hC hl
      unfold rbP at hS
      go_wp2_with (first
        | (show wpList _ _ _ (⟨_, .load 36 _, _, _, _, _⟩ :: _) _ _; refine wpList_val rfl (op_load1S (T := 38) oneREnts ((hS.bring (by repeat (first | exact t0 | apply tS)))) rfl rfl rfl) ?_; go_frame)
        | (show wpList _ _ _ (⟨_, .call ⟨.builtin .len, _, _⟩, _, _, _, _⟩ :: _) _ _; refine wpList_val rfl (op_len slREnt rfl rfl (v := ov) (xs := l.map rC) rfl ((hS.bring (by repeat (first | exact t0 | apply tS))).getOwn.rd)) ?_; rw [HLN.out]; go_frame)
        | (show wpList _ _ _ (⟨some 13, .binOp _ _ _ _ _, _, _, _, _⟩ :: _) _ _; refine wpList_val rfl (op_ilss rfl rfl rfl HLS.out) ?_; go_frame)
        )
      go_ret
      rw [HA.out, HC.out, ← HL.out]
      exact (rB_close [.own 57 33 u5 A] (ov := ov) (l := l) (F := F) (by unfold rbP; exact hS.sel (by repeat (first | exact Sel.refl | refine Sel.take (by repeat (first | exact t0 | apply tS)) ?_ | apply Sel.drop)))).perm (.swap _ _ _)
end
end Go.Proofs.Ytafpdpcbckpkjaa
namespace Go.Proofs.Ytafpdpcbckpkjaa
open Go.RowKit Go.Px
section
variable {R : Nat → Prop} {base w : World} {F : List Hp} {p : Nat} {B : List Ent}
theorem rfocus_c (A : List Hp) {B1 B2 : List Ent} {e : Ent} {i : List Byte} {k : Nat} (hS : SepL R base w (rB p (B1 ++ e :: B2) :: (A ++ F))) (hk : B1.length = k) (hi : e.id = i) :
    ∃ (ov pv : Value) (xs : List (List Value)) (G : List Hp) (hlk : k < xs.length), Hid (xs.length = (B1 ++ e :: B2).length) ∧ Hid (xs[k] = i.map B8 ++ [pv, U e.since]) ∧
      (∀ {w : World} (A : List Hp) {v : Value} {f : Ent}, f.id = i → SepL R base w (.own 3 1 v ((f.peer :: f.waits).map fun z => [I64 z]) :: .blk p 38 [ov] :: .own 79 34 ov (xs.set k (i.map B8 ++ [v, U f.since])) :: (A ++ G)) → SepL R base w (rB p (B1 ++ f :: B2) :: (A ++ F))) ∧
      (∀ {w : World} (A : List Hp), SepL R base w (.own 3 1 pv ((e.peer :: e.waits).map fun z => [I64 z]) :: .blk p 38 [ov] :: .own 79 34 ov xs :: (A ++ G)) → SepL R base w (rB p (B1 ++ e :: B2) :: (A ++ F))) ∧
      SepL R base w (.own 3 1 pv ((e.peer :: e.waits).map fun z => [I64 z]) :: .blk p 38 [ov] :: .own 79 34 ov xs :: (A ++ G)) := by
  subst hi
  exact rfocus A hS hk
set_option maxRecDepth 100000 in
set_option maxHeartbeats 4000000 in
theorem rgone_s {now : Nat} {q : Int} (hS : SepL R base w (rB p B :: F)) (ok : BOk B) (hn : now < 18446744073709551616) :
    Calls Try.prog 33 #[.pointer (some ⟨p, 0, none⟩), I64 q, U now] w (Ret fun r w' => SepL R base w' (.own 57 33 r ((eachW (goneOn q) B).map wC) :: rB p (eachB (goneOn q) now B) :: F)) := by
  replace hS := hS.nilOwn 57 33
  obtain ⟨n, hnn⟩ : ∃ n, B.length = n := ⟨_, rfl⟩
  have HN := hide hnn
  have HOK := hide ok
  have hfew := ok.few
  rw [hnn] at hfew
  clear hnn ok
  go_enter Try.func33, Try.ntmps33
  go_wp2_with fail
  go_loopw [7, 8] (fun av iv wr => ∃ m : Nat, iv = .int .i64 (eachB (goneOn q) now (B.take m)).length ∧ m ≤ n ∧ SepL R base wr (rB p (eachB (goneOn q) now (B.take m) ++ B.drop m) :: .own 57 33 av ((eachW (goneOn q) (B.take m)).map wC) :: F)) (fun _ iv wr => lenAt wr p - (intOf iv).toNat)
  case atStart => exact ⟨0, rfl, by omega, hS.perm (.swap _ _ _)⟩
  case round =>
    clear hS
    obtain ⟨m, rfl, hm, hS⟩ := hrel
    have HLA := hide (rB_len hS)
    obtain ⟨A, hA⟩ : ∃ A, (eachW (goneOn q) (B.take m)).map wC = A := ⟨_, rfl⟩
    obtain ⟨C, hC⟩ : ∃ C, eachB (goneOn q) now (B.take m) = C := ⟨_, rfl⟩
    rw [hA, hC] at hS
    rw [hC] at HLA
    obtain ⟨k, hk⟩ : ∃ k, C.length = k := ⟨_, rfl⟩
    have hkm : k ≤ m := by
      rw [← hk, ← hC]
      refine Nat.le_trans (List.length_filterMap_le _ _) ?_
      rw [List.length_take]
      omega
    have HAL : Hid (A.length ≤ 32) := by
      unfold Hid
      rw [← hA, List.length_map]
      have := eachW_len (on := goneOn q) (B.take m)
      rw [List.length_take] at this
      omega
    have HB1 : Hid ((A.length + 1) * 40 ≤ 140737488355328) := by
      have := HAL.out
      unfold Hid
      omega
    have HB2 : Hid (A.length + 1 ≤ maxLen) := by
      have := HAL.out
      unfold Hid maxLen
      omega
    by_cases hlt : m < n
    · have hmB : m < B.length := by rw [HN.out]; exact hlt
      obtain ⟨e, he⟩ : ∃ e, B[m] = e := ⟨_, rfl⟩
      have hd : B.drop m = e :: B.drop (m + 1) := by rw [List.drop_eq_getElem_cons hmB, he]
      have ok0 := HOK.out
      rw [show B = B.take m ++ e :: B.drop (m + 1) by rw [← hd, List.take_append_drop]] at ok0
      have ok1 := (mid_ok (on := goneOn q) ok0 hn (fun _ => rfl) (fun _ h => quitE_ok h) (fun _ => rfl)).1
      have HT1 := each_take (on := goneOn q) (t := now) hmB he
      have HT2 := eachW_take (on := goneOn q) hmB he
      obtain ⟨d, hdd⟩ : ∃ d, B.drop (m + 1) = d := ⟨_, rfl⟩
      rw [hC] at ok1 HT1
      rw [hd] at hS HLA
      rw [hdd] at ok1 hS HLA
      clear ok0 hd
      have hi : e.id.length = 32 := ok1.len e (by simp)
      have hw := ok1.wait e (by simp)
      have HWL : Hid ((e.peer :: e.waits).length ≤ 1000000) := by
        unfold Hid
        simp
        omega
      obtain ⟨i, hii⟩ : ∃ i, e.id = i := ⟨_, rfl⟩
      rw [hii] at hi
      have HIL := hide hi
      have HI32 : Hid ((i.map B8).length = 32) := by simp [Hid, hi]
      obtain ⟨ov, pv, xs, G, hlk, HLN, HX, HCC, HD, hS⟩ := rfocus_c [.own 57 33 u7 A] (F := F) hS hk hii
      have hLN := HLN.out
      simp only [List.length_append, List.length_cons] at hLN
      have HLS : Hid (decide ((k : Int) < ((C ++ e :: d).length : Int)) = true) := decT (by simp; omega)
      have HNX : Hid (∀ X, C ++ (eachE (goneOn q) now e).toList ++ d = X → eachB (goneOn q) now (B.take (m + 1)) ++ B.drop (m + 1) = X) := by
        rintro X rfl
        rw [HT1, hdd]
      have HNL : Hid (∀ X, k + (eachE (goneOn q) now e).toList.length = X → (eachB (goneOn q) now (B.take (m + 1))).length = X) := by
        rintro X rfl
        rw [HT1, List.length_append, hk]
      have HWX : Hid (∀ X, A ++ (wantE (goneOn q) e).toList.map wC = X → (eachW (goneOn q) (B.take (m + 1))).map wC = X) := by
        rintro X rfl
        rw [HT2, List.map_append, hA]
      rw [hC, hk]
      clear HT1 HT2 hdd hmB he hLN hA hC
      have HLC : Hid ((C ++ e :: d).length = k + d.length + 1) := by
        unfold Hid
        rw [List.length_append, List.length_cons]
        omega
      by_cases hq : e.peer = q
      · have HQ : Hid ((e.peer != q) = false) := by
          unfold Hid
          simp [hq]
        have hqe : quitE q e = e := by
          unfold quitE
          rw [wout_none]
          intro h
          rw [← hq] at h
          exact (List.nodup_cons.1 hw.1).1 h
        have hon : (goneOn q e).2 = true := decide_eq_true hq
        have hEg : eachE (goneOn q) now e = goE now e := by
          unfold eachE
          rw [if_pos hon]
          show goE now (quitE q e) = _
          rw [hqe]
        have hWg : wantE (goneOn q) e = e.waits.head?.map fun h => (e.id, h) := by
          unfold wantE
          rw [if_pos hon]
          show ((quitE q e).waits.head?.map fun h => (e.id, h)) = _
          rw [hqe]
        clear hq hon hqe hw
        cases hwt : e.waits with
        | nil =>
          have HG : Hid (goE now e = none) := by
            unfold Hid goE
            rw [hwt]
          rw [hEg, HG.out] at HNX HNL
          rw [hWg, hwt] at HWX
          clear hEg hWg hwt
          go_wp2_with (first
            | (show wpList _ _ _ (⟨_, .call ⟨.builtin .len, _, _⟩, _, _, _, _⟩ :: _) _ _; refine wpList_val rfl (op_len slREnt rfl rfl (v := ov) (xs := xs) rfl ((hS.bring (by repeat (first | exact t0 | apply tS))).getOwn.rd)) ?_; rw [HLN.out]; go_frame)
            | (show wpList _ _ _ (⟨some 15, .binOp _ _ _ _ _, _, _, _, _⟩ :: _) _ _; refine wpList_val rfl (op_ilss rfl rfl rfl HLS.out) ?_; go_frame)
            | (show wpList _ _ _ (⟨_, .load 36 _, _, _, _, _⟩ :: _) _ _; refine wpList_val rfl (op_load1S (T := 38) oneREnts ((hS.bring (by repeat (first | exact t0 | apply tS)))) rfl rfl rfl) ?_; go_frame)
            | (show wpList _ _ _ (⟨_, .indexAddr 36 _ _, _, _, _, _⟩ :: _) _ _; refine wpList_val rfl (op_indexAddr slREnt rfl (v := ov) (k := k) rfl rfl (xs := xs) ((hS.bring (by repeat (first | exact t0 | apply tS))).getOwn.rd) hlk) ?_; go_frame)
            | (show wpList _ _ _ (⟨_, .fieldAddr 79 _ 1, _, _, _, _⟩ :: _) _ _; refine wpList_val rfl (op_fieldAddrE (j := 32) (by kernel_rfl) rfl (n := 34) (v := ov) (k := k) (xs := xs) rfl ((hS.bring (by repeat (first | exact t0 | apply tS))).getOwn.rd) hlk) ?_; go_frame)
            | (show wpList _ _ _ (⟨_, .load 50 _, _, _, _, _⟩ :: _) _ _; refine wpList_val rfl (op_loadF1 oneInts rfl (n := 34) (v := ov) (k := k) (j := 32) (xs := xs) rfl ((hS.bring (by repeat (first | exact t0 | apply tS))).getOwn.rd) hlk (u := pv) (g32 HX.out HIL.out)) ?_; go_frame)
            | (show wpList _ _ _ (⟨_, .indexAddr 50 _ _, _, _, _, _⟩ :: _) _ _; refine wpList_val rfl (op_indexAddrZ slInt rfl (v := pv) (xs := (e.peer :: e.waits).map fun z => [I64 z]) rfl rfl ((hS.bring (by repeat (first | exact t0 | apply tS))).getOwn.rd) 0 rfl (by simp)) ?_; go_frame)
            | (show wpList _ _ _ (⟨_, .load 3 _, _, _, _, _⟩ :: _) _ _; refine wpList_val rfl (op_loadE1 oneInt rfl (v := pv) (k := 0) rfl (f := I64) (us := e.peer :: e.waits) ((hS.bring (by repeat (first | exact t0 | apply tS))).getOwn.rd) (by simp)) ?_; rw [List.getElem_cons_zero]; go_frame)
            | (show wpList _ _ _ (⟨some 27, .binOp _ _ _ _ _, _, _, _, _⟩ :: _) _ _; refine wpList_val rfl (op_ineI rfl rfl rfl HQ.out) ?_; go_frame)
            | (go_at_call 46; refine Ret.calls (ron_s (t := now) (HD [.own 57 33 u7 A] (by exact hS.sel (by repeat (first | exact Sel.refl | refine Sel.take (by repeat (first | exact t0 | apply tS)) ?_ | apply Sel.drop)))) hk ok1) ?_; clear hS; rintro r w ⟨rfl, hS⟩; rw [HG.out] at hS; rw [HG.out]; rw [Option.isSome_none]; have HLB := hide (rB_len hS))
            )
          go_roundw
          case rel =>
            refine ⟨m + 1, by rw [HNL.out k (by simp)], by omega, ?_⟩
            rw [HNX.out _ rfl, HWX.out A (by simp)]
            exact hS
          case measure =>
            have h1 := HLB.out
            have h2 := HLA.out
            rw [HLC.out] at h2
            simp at h1
            simp [intOf]
            omega
        | cons h r =>
          obtain ⟨e2, he2⟩ : ∃ e2 : Ent, { e with peer := h, since := now, waits := r } = e2 := ⟨_, rfl⟩
          have HG : Hid (goE now e = some e2) := by
            unfold Hid goE
            rw [hwt, ← he2]
          have HP2 : Hid (e2.peer = h) := by
            unfold Hid
            rw [← he2]
          have HI2 : Hid (e2.id = i) := by
            unfold Hid
            rw [← he2]
            exact hii
          rw [hEg, HG.out] at HNX HNL
          rw [hWg, hwt] at HWX
          clear hEg hWg hwt he2
          go_wp2_with (first
            | (show wpList _ _ _ (⟨_, .call ⟨.builtin .len, _, _⟩, _, _, _, _⟩ :: _) _ _; refine wpList_val rfl (op_len slREnt rfl rfl (v := ov) (xs := xs) rfl ((hS.bring (by repeat (first | exact t0 | apply tS))).getOwn.rd)) ?_; rw [HLN.out]; go_frame)
            | (show wpList _ _ _ (⟨some 15, .binOp _ _ _ _ _, _, _, _, _⟩ :: _) _ _; refine wpList_val rfl (op_ilss rfl rfl rfl HLS.out) ?_; go_frame)
            | (show wpList _ _ _ (⟨_, .load 36 _, _, _, _, _⟩ :: _) _ _; refine wpList_val rfl (op_load1S (T := 38) oneREnts ((hS.bring (by repeat (first | exact t0 | apply tS)))) rfl rfl rfl) ?_; go_frame)
            | (show wpList _ _ _ (⟨_, .indexAddr 36 _ _, _, _, _, _⟩ :: _) _ _; refine wpList_val rfl (op_indexAddr slREnt rfl (v := ov) (k := k) rfl rfl (xs := xs) ((hS.bring (by repeat (first | exact t0 | apply tS))).getOwn.rd) hlk) ?_; go_frame)
            | (show wpList _ _ _ (⟨_, .fieldAddr 79 _ 1, _, _, _, _⟩ :: _) _ _; refine wpList_val rfl (op_fieldAddrE (j := 32) (by kernel_rfl) rfl (n := 34) (v := ov) (k := k) (xs := xs) rfl ((hS.bring (by repeat (first | exact t0 | apply tS))).getOwn.rd) hlk) ?_; go_frame)
            | (show wpList _ _ _ (⟨_, .load 50 _, _, _, _, _⟩ :: _) _ _; refine wpList_val rfl (op_loadF1 oneInts rfl (n := 34) (v := ov) (k := k) (j := 32) (xs := xs) rfl ((hS.bring (by repeat (first | exact t0 | apply tS))).getOwn.rd) hlk (u := pv) (g32 HX.out HIL.out)) ?_; go_frame)
            | (show wpList _ _ _ (⟨_, .indexAddr 50 _ _, _, _, _, _⟩ :: _) _ _; refine wpList_val rfl (op_indexAddrZ slInt rfl (v := pv) (xs := (e.peer :: e.waits).map fun z => [I64 z]) rfl rfl ((hS.bring (by repeat (first | exact t0 | apply tS))).getOwn.rd) 0 rfl (by simp)) ?_; go_frame)
            | (show wpList _ _ _ (⟨_, .load 3 _, _, _, _, _⟩ :: _) _ _; refine wpList_val rfl (op_loadE1 oneInt rfl (v := pv) (k := 0) rfl (f := I64) (us := e.peer :: e.waits) ((hS.bring (by repeat (first | exact t0 | apply tS))).getOwn.rd) (by simp)) ?_; rw [List.getElem_cons_zero]; go_frame)
            | (show wpList _ _ _ (⟨some 27, .binOp _ _ _ _ _, _, _, _, _⟩ :: _) _ _; refine wpList_val rfl (op_ineI rfl rfl rfl HQ.out) ?_; go_frame)
            | (go_at_call 46; refine Ret.calls (ron_s (t := now) (HD [.own 57 33 u7 A] (by exact hS.sel (by repeat (first | exact Sel.refl | refine Sel.take (by repeat (first | exact t0 | apply tS)) ?_ | apply Sel.drop)))) hk ok1) ?_; clear hS; rintro r w ⟨rfl, hS⟩; rw [HG.out] at hS; rw [HG.out]; rw [Option.isSome_some]; rw [Option.toList_some, List.append_assoc, List.singleton_append] at hS; have HLB := hide (rB_len hS); obtain ⟨ov2, pv2, xs2, G2, hlk2, HLN2, HX2, HD2, hS⟩ := rfocus_i [.own 57 33 u7 A] (F := F) hS hk HI2.out)
            )
          refine wp_region_text (by kernel_rfl) (by kernel_rfl) (by repeat (first | exact Clean.body | refine Clean.then ?_ | refine Clean.inBlock ?_)) ?_
          replace hS := hS.drew
          go_wp2_with (first
            | (show wpList _ _ _ (⟨_, .fieldAddr 79 _ 0, _, _, _, _⟩ :: _) _ _; refine wpList_val rfl (op_fieldAddrE (j := 0) (by kernel_rfl) rfl (n := 34) (v := ov2) (k := k) (xs := xs2) rfl ((hS.bring (by repeat (first | exact t0 | apply tS))).getOwn.rd) hlk2) ?_; go_frame)
            | (show wpList _ _ _ (⟨_, .load 28 _, _, _, _, _⟩ :: _) _ _; refine wpList_val rfl (op_loadFA aggHash rfl (n := 34) (v := ov2) (k := k) (j := 0) (xs := xs2) rfl ((hS.bring (by repeat (first | exact t0 | apply tS))).getOwn.rd) hlk2 (g0 HX2.out HIL.out) HI32.out) ?_; go_frame)
            | (show wpList _ _ _ (⟨_, .load 36 _, _, _, _, _⟩ :: _) _ _; refine wpList_val rfl (op_load1S (T := 38) oneREnts ((hS.bring (by repeat (first | exact t0 | apply tS)))) rfl rfl rfl) ?_; go_frame)
            | (show wpList _ _ _ (⟨_, .indexAddr 36 _ _, _, _, _, _⟩ :: _) _ _; refine wpList_val rfl (op_indexAddr slREnt rfl (v := ov2) (k := k) rfl rfl (xs := xs2) ((hS.bring (by repeat (first | exact t0 | apply tS))).getOwn.rd) hlk2) ?_; go_frame)
            | (show wpList _ _ _ (⟨_, .fieldAddr 79 _ 1, _, _, _, _⟩ :: _) _ _; refine wpList_val rfl (op_fieldAddrE (j := 32) (by kernel_rfl) rfl (n := 34) (v := ov2) (k := k) (xs := xs2) rfl ((hS.bring (by repeat (first | exact t0 | apply tS))).getOwn.rd) hlk2) ?_; go_frame)
            | (show wpList _ _ _ (⟨_, .load 50 _, _, _, _, _⟩ :: _) _ _; refine wpList_val rfl (op_loadF1 oneInts rfl (n := 34) (v := ov2) (k := k) (j := 32) (xs := xs2) rfl ((hS.bring (by repeat (first | exact t0 | apply tS))).getOwn.rd) hlk2 (u := pv2) (g32 HX2.out HIL.out)) ?_; go_frame)
            | (show wpList _ _ _ (⟨_, .indexAddr 50 _ _, _, _, _, _⟩ :: _) _ _; refine wpList_val rfl (op_indexAddrZ slInt rfl (v := pv2) (xs := (e2.peer :: e2.waits).map fun z => [I64 z]) rfl rfl ((hS.bring (by repeat (first | exact t0 | apply tS))).getOwn.rd) 0 rfl (by simp)) ?_; go_frame)
            | (show wpList _ _ _ (⟨_, .load 3 _, _, _, _, _⟩ :: _) _ _; refine wpList_val rfl (op_loadE1 oneInt rfl (v := pv2) (k := 0) rfl (f := I64) (us := e2.peer :: e2.waits) ((hS.bring (by repeat (first | exact t0 | apply tS))).getOwn.rd) (by simp)) ?_; rw [List.getElem_cons_zero]; go_frame)
            | (show wpList _ _ _ (⟨_, .build 57 _, _, _, _, _⟩ :: _) _ _; refine wpList_val rfl (op_build (ps := #[(0, .agg (i.map B8).toArray), (1, .int .i64 e2.peer)]) rfl rfl (buildRWant i HI32.out e2.peer) _) ?_; go_frame)
            | (show wpList _ _ _ (⟨_, .buildSlice 41 1 _, _, _, _, _⟩ :: _) _ _; refine wpS_build1A slRWant (by omega) hS rfl rfl (cs := i.map B8 ++ [.int .i64 e2.peer]) rfl (w33 HI32.out _) ?_; clear hS; intro v1 w hS; go_frame)
            | (show wpList _ _ _ (⟨_, .call ⟨.builtin .append, _, _⟩, _, _, _, _⟩ :: _) _ _; (refine wpS_append slRWant (hS.bring (by repeat (first | exact t0 | apply tS))) rfl rfl (sv := u7) rfl rfl (ys := [i.map B8 ++ [.int .i64 e2.peer]]) ((hS.bring (by repeat (first | exact t0 | apply tS))).getOwn.rd) (flat_w1 i e2.peer) HB1.out HB2.out ?_); clear hS; intro v2 w hS; go_frame)
            | (refine fin_mk (by kernel_rfl) ?_)
            )
          replace hS := HD2 [.own 57 33 v2 (A ++ [i.map B8 ++ [.int .i64 e2.peer]])] (by exact hS.sel (by repeat (first | exact Sel.refl | refine Sel.take (by repeat (first | exact t0 | apply tS)) ?_ | apply Sel.drop)))
          have HLB := hide (rB_len hS)
          go_roundw
          case rel =>
            refine ⟨m + 1, by rw [HNL.out (k + 1) (by simp)]; go_num, by omega, ?_⟩
            rw [HNX.out (C ++ e2 :: d) (by simp), HWX.out (A ++ [i.map B8 ++ [.int .i64 e2.peer]]) (by rw [HP2.out, ← hii]; rfl)]
            exact hS
          case measure =>
            have h1 := HLB.out
            have h2 := HLA.out
            rw [HLC.out] at h2
            simp at h1
            simp [intOf]
            omega
      · have HQ : Hid ((e.peer != q) = true) := by
          unfold Hid
          simp [hq]
        have hon : ¬ (goneOn q e).2 = true := by
          intro h
          exact hq (of_decide_eq_true h)
        have hEg : eachE (goneOn q) now e = some (quitE q e) := if_neg hon
        have hWg : wantE (goneOn q) e = none := if_neg hon
        have HWW : Hid (wout q (e.peer :: e.waits) = e.peer :: wout q e.waits) := by
          unfold Hid wout
          rw [List.filter_cons, if_pos (by simpa using hq)]
        rw [hEg] at HNX HNL
        rw [hWg] at HWX
        clear hq hon hEg hWg hw
        go_wp2_with (first
          | (show wpList _ _ _ (⟨_, .call ⟨.builtin .len, _, _⟩, _, _, _, _⟩ :: _) _ _; refine wpList_val rfl (op_len slREnt rfl rfl (v := ov) (xs := xs) rfl ((hS.bring (by repeat (first | exact t0 | apply tS))).getOwn.rd)) ?_; rw [HLN.out]; go_frame)
          | (show wpList _ _ _ (⟨some 15, .binOp _ _ _ _ _, _, _, _, _⟩ :: _) _ _; refine wpList_val rfl (op_ilss rfl rfl rfl HLS.out) ?_; go_frame)
          | (show wpList _ _ _ (⟨_, .load 36 _, _, _, _, _⟩ :: _) _ _; refine wpList_val rfl (op_load1S (T := 38) oneREnts ((hS.bring (by repeat (first | exact t0 | apply tS)))) rfl rfl rfl) ?_; go_frame)
          | (show wpList _ _ _ (⟨_, .indexAddr 36 _ _, _, _, _, _⟩ :: _) _ _; refine wpList_val rfl (op_indexAddr slREnt rfl (v := ov) (k := k) rfl rfl (xs := xs) ((hS.bring (by repeat (first | exact t0 | apply tS))).getOwn.rd) hlk) ?_; go_frame)
          | (show wpList _ _ _ (⟨_, .fieldAddr 79 _ 1, _, _, _, _⟩ :: _) _ _; refine wpList_val rfl (op_fieldAddrE (j := 32) (by kernel_rfl) rfl (n := 34) (v := ov) (k := k) (xs := xs) rfl ((hS.bring (by repeat (first | exact t0 | apply tS))).getOwn.rd) hlk) ?_; go_frame)
          | (show wpList _ _ _ (⟨_, .load 50 _, _, _, _, _⟩ :: _) _ _; refine wpList_val rfl (op_loadF1 oneInts rfl (n := 34) (v := ov) (k := k) (j := 32) (xs := xs) rfl ((hS.bring (by repeat (first | exact t0 | apply tS))).getOwn.rd) hlk (u := pv) (g32 HX.out HIL.out)) ?_; go_frame)
          | (show wpList _ _ _ (⟨_, .indexAddr 50 _ _, _, _, _, _⟩ :: _) _ _; refine wpList_val rfl (op_indexAddrZ slInt rfl (v := pv) (xs := (e.peer :: e.waits).map fun z => [I64 z]) rfl rfl ((hS.bring (by repeat (first | exact t0 | apply tS))).getOwn.rd) 0 rfl (by simp)) ?_; go_frame)
          | (show wpList _ _ _ (⟨_, .load 3 _, _, _, _, _⟩ :: _) _ _; refine wpList_val rfl (op_loadE1 oneInt rfl (v := pv) (k := 0) rfl (f := I64) (us := e.peer :: e.waits) ((hS.bring (by repeat (first | exact t0 | apply tS))).getOwn.rd) (by simp)) ?_; rw [List.getElem_cons_zero]; go_frame)
          | (show wpList _ _ _ (⟨some 27, .binOp _ _ _ _ _, _, _, _, _⟩ :: _) _ _; refine wpList_val rfl (op_ineI rfl rfl rfl HQ.out) ?_; go_frame)
          )
        refine wp_region_ord (by kernel_rfl) [] [[0, 1, 2, 4, 5, 6, 7, 8, 9, 10, 11, 12, 13, 3, 14, 15, 16, 17], [0, 1, 2, 4, 5, 6, 7, 8, 9, 10, 11, 12, 13, 14, 3, 15, 16, 17]] (by kernel_rfl) (by kernel_rfl) (fun _ => True) (fun _ _ _ _ => trivial) trivial (by repeat (first | exact Clean.body | refine Clean.then ?_ | refine Clean.inBlock ?_ | refine SegQ.clean ?_ | refine FinC.clean ?_)) ?_
        replace hS := hS.drew
        refine ord_seg (by repeat (first | exact Clean.body | refine Clean.then ?_ | refine Clean.inBlock ?_ | refine SegQ.clean ?_ | refine FinC.clean ?_)) (n := 5) (rest := [[3, 14, 15, 16, 17], [14, 3, 15, 16, 17]]) [0, 1, 2, 4, 5, 6, 7, 8, 9, 10, 11, 12, 13] [⟨_, _, _, _, _, _⟩, ⟨_, _, _, _, _, _⟩, ⟨_, _, _, _, _, _⟩, ⟨_, _, _, _, _, _⟩, ⟨_, _, _, _, _, _⟩, ⟨_, _, _, _, _, _⟩, ⟨_, _, _, _, _, _⟩, ⟨_, _, _, _, _, _⟩, ⟨_, _, _, _, _, _⟩, ⟨_, _, _, _, _, _⟩, ⟨_, _, _, _, _, _⟩, ⟨_, _, _, _, _, _⟩, ⟨_, _, _, _, _, _⟩] rfl (by kernel_rfl) (by simp) _ _ ?_
        go_wp2_with (first
          | (show wpList _ _ _ (⟨_, .load 36 _, _, _, _, _⟩ :: _) _ _; refine wpList_val rfl (op_load1S (T := 38) oneREnts ((hS.bring (by repeat (first | exact t0 | apply tS)))) rfl rfl rfl) ?_; go_frame)
          | (show wpList _ _ _ (⟨_, .indexAddr 36 _ _, _, _, _, _⟩ :: _) _ _; refine wpList_val rfl (op_indexAddr slREnt rfl (v := ov) (k := k) rfl rfl (xs := xs) ((hS.bring (by repeat (first | exact t0 | apply tS))).getOwn.rd) hlk) ?_; go_frame)
          | (show wpList _ _ _ (⟨_, .fieldAddr 79 _ 1, _, _, _, _⟩ :: _) _ _; refine wpList_val rfl (op_fieldAddrE (j := 32) (by kernel_rfl) rfl (n := 34) (v := ov) (k := k) (xs := xs) rfl ((hS.bring (by repeat (first | exact t0 | apply tS))).getOwn.rd) hlk) ?_; go_frame)
          | (show wpList _ _ _ (⟨_, .load 50 _, _, _, _, _⟩ :: _) _ _; refine wpList_val rfl (op_loadF1 oneInts rfl (n := 34) (v := ov) (k := k) (j := 32) (xs := xs) rfl ((hS.bring (by repeat (first | exact t0 | apply tS))).getOwn.rd) hlk (u := pv) (g32 HX.out HIL.out)) ?_; go_frame)
          )
        refine segQ_mk trivial ?_
        refine ord_fork (n := 4) (os1 := [[3, 14, 15, 16, 17]]) (os2 := [[14, 3, 15, 16, 17]]) (by decide) ?_ ?_
        ·
          refine ord_seg (by repeat (first | exact Clean.body | refine Clean.then ?_ | refine Clean.inBlock ?_ | refine SegQ.clean ?_ | refine FinC.clean ?_)) (n := 3) (rest := [[15, 16, 17]]) [3, 14] [⟨_, _, _, _, _, _⟩, ⟨_, _, _, _, _, _⟩] rfl (by kernel_rfl) (by simp) _ _ ?_
          go_wp2_with (first
            | (show wpList _ _ _ (⟨_, .load 36 _, _, _, _, _⟩ :: _) _ _; refine wpList_val rfl (op_load1S (T := 38) oneREnts ((hS.bring (by repeat (first | exact t0 | apply tS)))) rfl rfl rfl) ?_; go_frame)
            | (go_at_call 44; refine Ret.calls (without_int pv (e.peer :: e.waits) q _ ((hS.bring (by repeat (first | exact t0 | apply tS))).getOwn.rd) HWL.out) ?_; rintro v2 w2 hC; replace hS := hS.frameNew hC; clear hC; rw [HWW.out] at hS; have HV2 := hide hS.getOwn.rd.cells1; have HV3 := hide hS.getOwn.rd.one1)
            )
          refine segQ_mk trivial ?_
          refine ord_seg (by repeat (first | exact Clean.body | refine Clean.then ?_ | refine Clean.inBlock ?_ | refine SegQ.clean ?_ | refine FinC.clean ?_)) (n := 0) (rest := [[]]) [15, 16, 17] [⟨_, _, _, _, _, _⟩, ⟨_, _, _, _, _, _⟩, ⟨_, _, _, _, _, _⟩] rfl (by kernel_rfl) (by simp) _ _ ?_
          go_wp2_with (first
            | (show wpList _ _ _ (⟨_, .indexAddr 36 _ _, _, _, _, _⟩ :: _) _ _; refine wpList_val rfl (op_indexAddr slREnt rfl (v := ov) (k := k) rfl rfl (xs := xs) ((hS.bring (by repeat (first | exact t0 | apply tS))).getOwn.rd) hlk) ?_; go_frame)
            | (show wpList _ _ _ (⟨_, .fieldAddr 79 _ 1, _, _, _, _⟩ :: _) _ _; refine wpList_val rfl (op_fieldAddrE (j := 32) (by kernel_rfl) rfl (n := 34) (v := ov) (k := k) (xs := xs) rfl ((hS.bring (by repeat (first | exact t0 | apply tS))).getOwn.rd) hlk) ?_; go_frame)
            | (show wpList _ _ _ (⟨_, .store 50 _ _, _, _, _, _⟩ :: _) _ _; (refine wpS_storeF1 (by kernel_rfl) (hS.bring (by repeat (first | exact t0 | apply tS))) rfl rfl (k := k) (j := 32) rfl rfl HV2.out HV3.out hlk (by omega) ?_); clear hS; intro w hS; rw [s32 HX.out HIL.out] at hS; go_frame)
            )
          refine segQ_mk trivial ?_
          refine finC_mk (by kernel_rfl) (by
            intro t ht
            cases ht) ?_
          go_wp2_with fail
          replace hS := HCC [.own 57 33 u7 A] (f := quitE q e) (v := v2) hii (by exact hS.sel (by repeat (first | exact Sel.refl | refine Sel.take (by repeat (first | exact t0 | apply tS)) ?_ | apply Sel.drop)))
          have HLB := hide (rB_len hS)
          go_roundw
          case rel =>
            refine ⟨m + 1, by rw [HNL.out (k + 1) (by simp)]; go_num, by omega, ?_⟩
            rw [HNX.out (C ++ quitE q e :: d) (by simp), HWX.out A (by simp)]
            exact hS
          case measure =>
            have h1 := HLB.out
            have h2 := HLA.out
            rw [HLC.out] at h2
            simp at h1
            simp [intOf]
            omega
        ·
          refine ord_seg (by repeat (first | exact Clean.body | refine Clean.then ?_ | refine Clean.inBlock ?_ | refine SegQ.clean ?_ | refine FinC.clean ?_)) (n := 4) (rest := [[3, 15, 16, 17]]) [14] [⟨_, _, _, _, _, _⟩] rfl (by kernel_rfl) (by simp) _ _ ?_
          go_wp2_with (first
            | (go_at_call 44; refine Ret.calls (without_int pv (e.peer :: e.waits) q _ ((hS.bring (by repeat (first | exact t0 | apply tS))).getOwn.rd) HWL.out) ?_; rintro v2 w2 hC; replace hS := hS.frameNew hC; clear hC; rw [HWW.out] at hS; have HV2 := hide hS.getOwn.rd.cells1; have HV3 := hide hS.getOwn.rd.one1)
            )
          refine segQ_mk trivial ?_
          refine ord_seg (by repeat (first | exact Clean.body | refine Clean.then ?_ | refine Clean.inBlock ?_ | refine SegQ.clean ?_ | refine FinC.clean ?_)) (n := 0) (rest := [[]]) [3, 15, 16, 17] [⟨_, _, _, _, _, _⟩, ⟨_, _, _, _, _, _⟩, ⟨_, _, _, _, _, _⟩, ⟨_, _, _, _, _, _⟩] rfl (by kernel_rfl) (by simp) _ _ ?_
          go_wp2_with (first
            | (show wpList _ _ _ (⟨_, .load 36 _, _, _, _, _⟩ :: _) _ _; refine wpList_val rfl (op_load1S (T := 38) oneREnts ((hS.bring (by repeat (first | exact t0 | apply tS)))) rfl rfl rfl) ?_; go_frame)
            | (show wpList _ _ _ (⟨_, .indexAddr 36 _ _, _, _, _, _⟩ :: _) _ _; refine wpList_val rfl (op_indexAddr slREnt rfl (v := ov) (k := k) rfl rfl (xs := xs) ((hS.bring (by repeat (first | exact t0 | apply tS))).getOwn.rd) hlk) ?_; go_frame)
            | (show wpList _ _ _ (⟨_, .fieldAddr 79 _ 1, _, _, _, _⟩ :: _) _ _; refine wpList_val rfl (op_fieldAddrE (j := 32) (by kernel_rfl) rfl (n := 34) (v := ov) (k := k) (xs := xs) rfl ((hS.bring (by repeat (first | exact t0 | apply tS))).getOwn.rd) hlk) ?_; go_frame)
            | (show wpList _ _ _ (⟨_, .store 50 _ _, _, _, _, _⟩ :: _) _ _; (refine wpS_storeF1 (by kernel_rfl) (hS.bring (by repeat (first | exact t0 | apply tS))) rfl rfl (k := k) (j := 32) rfl rfl HV2.out HV3.out hlk (by omega) ?_); clear hS; intro w hS; rw [s32 HX.out HIL.out] at hS; go_frame)
            )
          refine segQ_mk trivial ?_
          refine finC_mk (by kernel_rfl) (by
            intro t ht
            cases ht) ?_
          go_wp2_with fail
          replace hS := HCC [.own 57 33 u7 A] (f := quitE q e) (v := v2) hii (by exact hS.sel (by repeat (first | exact Sel.refl | refine Sel.take (by repeat (first | exact t0 | apply tS)) ?_ | apply Sel.drop)))
          have HLB := hide (rB_len hS)
          go_roundw
          case rel =>
            refine ⟨m + 1, by rw [HNL.out (k + 1) (by simp)]; go_num, by omega, ?_⟩
            rw [HNX.out (C ++ quitE q e :: d) (by simp), HWX.out A (by simp)]
            exact hS
          case measure =>
            have h1 := HLB.out
            have h2 := HLA.out
            rw [HLC.out] at h2
            simp at h1
            simp [intOf]
            omega
    · have hm2 : m = n := by omega
      subst hm2
      rw [hC, hk]
      have h1 : B.take m = B := List.take_of_length_le (Nat.le_of_eq HN.out)
      have h2 : B.drop m = [] := List.drop_eq_nil_of_le (Nat.le_of_eq HN.out)
      rw [h1] at hA hC
      rw [h2, List.append_nil] at hS
      obtain ⟨ov, l, hl, hS⟩ := rB_open [.own 57 33 u7 A] (F := F) hS
      have HLN : Hid ((l.map rC).length = k) := by
        unfold Hid
        rw [← hk, ← hl]
        simp [relist]
      have HLS : Hid (decide ((k : Int) < (k : Int)) = false) := decF (by omega)
      have HA := hide hA
      have HC := hide hC
      have HL := hide hl
      clear hA hC hl
      unfold rbP at hS
      go_wp2_with (first
        | (show wpList _ _ _ (⟨_, .load 36 _, _, _, _, _⟩ :: _) _ _; refine wpList_val rfl (op_load1S (T := 38) oneREnts ((hS.bring (by repeat (first | exact t0 | apply tS)))) rfl rfl rfl) ?_; go_frame)
        | (show wpList _ _ _ (⟨_, .call ⟨.builtin .len, _, _⟩, _, _, _, _⟩ :: _) _ _; refine wpList_val rfl (op_len slREnt rfl rfl (v := ov) (xs := l.map rC) rfl ((hS.bring (by repeat (first | exact t0 | apply tS))).getOwn.rd)) ?_; rw [HLN.out]; go_frame)
        | (show wpList _ _ _ (⟨some 15, .binOp _ _ _ _ _, _, _, _, _⟩ :: _) _ _; refine wpList_val rfl (op_ilss rfl rfl rfl HLS.out) ?_; go_frame)
        )
      go_ret
      rw [HA.out, HC.out, ← HL.out]
      exact (rB_close [.own 57 33 u7 A] (ov := ov) (l := l) (F := F) (by unfold rbP; exact hS.sel (by repeat (first | exact Sel.refl | refine Sel.take (by repeat (first | exact t0 | apply tS)) ?_ | apply Sel.drop)))).perm (.swap _ _ _)
end
end Go.Proofs.Ytafpdpcbckpkjaa
namespace Go.Proofs.Ytafpdpcbckpkjaa
open Go.RowKit Go.Px
set_option maxRecDepth 100000 in
set_option maxHeartbeats 2000000 in
theorem sameInts_s (v u : Value) (l m : List Int) (w : World) (hv0 : Rd 1 w v (l.map fun z => [I64 z])) (hu0 : Rd 1 w u (m.map fun z => [I64 z])) :
    Calls Try.prog 19 #[v, u] w (Ret fun r w' => r = .bool (decide (l = m)) ∧ Chg No w w') := by
  have hS := SepL.start w
  have hv := RdIn.of hv0
  have hu := RdIn.of hu0
  have HL : Hid ((l.map fun z => [I64 z]).length = l.length) := by simp [Hid]
  have HM : Hid ((m.map fun z => [I64 z]).length = m.length) := by simp [Hid]
  have hmax : l.length ≤ maxLen := by
    have := hv0.len
    rwa [HL.out] at this
  unfold maxLen at hmax
  clear hv0 hu0
  by_cases hlen : l.length = m.length
  · have HNE : Hid (((l.length : Int) != (m.length : Int)) = false) := by
      unfold Hid
      simp [hlen]
    obtain ⟨b, hb⟩ : ∃ b, decide (l = m) = b := ⟨_, rfl⟩
    have HB := hide hb
    rw [hb]
    clear hb
    go_enter Try.func19, Try.ntmps19
    go_wp2_with (first
      | (show wpList _ _ _ (⟨some 7, .call _, _, _, _, _⟩ :: _) _ _; refine wpList_val rfl (op_len slInt rfl rfl (v := v) (xs := l.map fun z => [I64 z]) rfl (by exact hS.rd hv)) ?_; rw [HL.out]; go_frame)
      | (show wpList _ _ _ (⟨some 9, .call _, _, _, _, _⟩ :: _) _ _; refine wpList_val rfl (op_len slInt rfl rfl (v := u) (xs := m.map fun z => [I64 z]) rfl (by exact hS.rd hu)) ?_; rw [HM.out]; go_frame)
      | (show wpList _ _ _ (⟨some 12, .call _, _, _, _, _⟩ :: _) _ _; refine wpList_val rfl (op_len slInt rfl rfl (v := v) (xs := l.map fun z => [I64 z]) rfl (by exact hS.rd hv)) ?_; rw [HL.out]; go_frame)
      | (show wpList _ _ _ (⟨some 10, .binOp _ _ _ _ _, _, _, _, _⟩ :: _) _ _; refine wpList_val rfl (op_ineI rfl rfl rfl HNE.out) ?_; go_frame)
      )
    go_loopw [13] (fun iv wr => ∃ k : Nat, iv = .int .i64 k ∧ k ≤ l.length ∧ l.take k = m.take k ∧ SepL All w wr []) (fun iv _ => l.length - (intOf iv).toNat)
    case atStart => exact ⟨0, rfl, by omega, rfl, hS⟩
    case round =>
      clear hS
      obtain ⟨k, rfl, hk, heq, hS⟩ := hrel
      by_cases hlt : k < l.length
      · have hl : k < l.length := hlt
        have hm : k < m.length := by omega
        have hl' : k < (l.map fun z => [I64 z]).length := by rw [HL.out]; exact hl
        have hm' : k < (m.map fun z => [I64 z]).length := by rw [HM.out]; exact hm
        obtain ⟨x, hx⟩ : ∃ x, l[k] = x := ⟨_, rfl⟩
        obtain ⟨y, hy⟩ : ∃ y, m[k] = y := ⟨_, rfl⟩
        have HX := hide hx
        have HY := hide hy
        by_cases he : x = y
        · have HE : Hid ((x != y) = false) := by
            unfold Hid
            simp [he]
          have hnx : l.take (k + 1) = m.take (k + 1) := by
            rw [List.take_succ_eq_append_getElem hl, List.take_succ_eq_append_getElem hm, heq, hx, hy, he]
          clear heq hx hy he HNE
          go_wp2_with fail
          refine wp_region_text (by kernel_rfl) (by kernel_rfl) (by repeat (first | exact Clean.body | refine Clean.then ?_ | refine Clean.inBlock ?_)) ?_
          replace hS := hS.drew
          go_wp2_with (first
            | (show wpList _ _ _ (⟨some 18, .indexAddr _ _ _, _, _, _, _⟩ :: _) _ _; refine wpList_val rfl (op_indexAddr slInt rfl (v := v) (k := k) rfl rfl (by exact hS.rd hv) hl') ?_; go_frame)
            | (show wpList _ _ _ (⟨some 19, .load _ _, _, _, _, _⟩ :: _) _ _; refine wpList_val rfl (op_loadE1 oneInt rfl (v := v) (k := k) rfl (f := I64) (us := l) (by exact hS.rd hv) hl) ?_; rw [HX.out]; go_frame)
            | (show wpList _ _ _ (⟨some 22, .indexAddr _ _ _, _, _, _, _⟩ :: _) _ _; refine wpList_val rfl (op_indexAddr slInt rfl (v := u) (k := k) rfl rfl (by exact hS.rd hu) hm') ?_; go_frame)
            | (show wpList _ _ _ (⟨some 23, .load _ _, _, _, _, _⟩ :: _) _ _; refine wpList_val rfl (op_loadE1 oneInt rfl (v := u) (k := k) rfl (f := I64) (us := m) (by exact hS.rd hu) hm) ?_; rw [HY.out]; go_frame)
            | (show wpList _ _ _ (⟨some 24, .binOp _ _ _ _ _, _, _, _, _⟩ :: _) _ _; refine wpList_val rfl (op_ineI rfl rfl rfl HE.out) ?_; go_frame)
            | (refine fin_mk (by kernel_rfl) ?_)
            )
          go_roundw
          case rel => exact ⟨k + 1, by go_num, by omega, hnx, hS⟩
          case measure => simp [intOf]; omega
        · have HE : Hid ((x != y) = true) := by
            unfold Hid
            simp [he]
          have HBF : Hid (b = false) := by
            unfold Hid
            rw [← HB.out, decide_eq_false_iff_not]
            rintro rfl
            exact he (hx.symm.trans hy)
          clear heq hx hy he HNE
          go_wp2_with fail
          refine wp_region_text (by kernel_rfl) (by kernel_rfl) (by repeat (first | exact Clean.body | refine Clean.then ?_ | refine Clean.inBlock ?_)) ?_
          replace hS := hS.drew
          go_wp2_with (first
            | (show wpList _ _ _ (⟨some 18, .indexAddr _ _ _, _, _, _, _⟩ :: _) _ _; refine wpList_val rfl (op_indexAddr slInt rfl (v := v) (k := k) rfl rfl (by exact hS.rd hv) hl') ?_; go_frame)
            | (show wpList _ _ _ (⟨some 19, .load _ _, _, _, _, _⟩ :: _) _ _; refine wpList_val rfl (op_loadE1 oneInt rfl (v := v) (k := k) rfl (f := I64) (us := l) (by exact hS.rd hv) hl) ?_; rw [HX.out]; go_frame)
            | (show wpList _ _ _ (⟨some 22, .indexAddr _ _ _, _, _, _, _⟩ :: _) _ _; refine wpList_val rfl (op_indexAddr slInt rfl (v := u) (k := k) rfl rfl (by exact hS.rd hu) hm') ?_; go_frame)
            | (show wpList _ _ _ (⟨some 23, .load _ _, _, _, _, _⟩ :: _) _ _; refine wpList_val rfl (op_loadE1 oneInt rfl (v := u) (k := k) rfl (f := I64) (us := m) (by exact hS.rd hu) hm) ?_; rw [HY.out]; go_frame)
            | (show wpList _ _ _ (⟨some 24, .binOp _ _ _ _ _, _, _, _, _⟩ :: _) _ _; refine wpList_val rfl (op_ineI rfl rfl rfl HE.out) ?_; go_frame)
            | (refine fin_mk (by kernel_rfl) ?_)
            )
          go_ret
          exact ⟨by rw [HBF.out]; rfl, hS.chg⟩
      · have hk2 : k = l.length := by omega
        subst hk2
        have HBF : Hid (b = true) := by
          unfold Hid
          rw [← HB.out, decide_eq_true_iff]
          rwa [List.take_length, hlen, List.take_length] at heq
        clear heq HNE
        go_wp2_with fail
        go_ret
        exact ⟨by rw [HBF.out]; rfl, hS.chg⟩
  · have HNE : Hid (((l.length : Int) != (m.length : Int)) = true) := by
      unfold Hid
      simp
      omega
    have hne : l ≠ m := fun h => hlen (by rw [h])
    have HB := decF hne
    rw [HB.out]
    clear hlen hne HB
    go_enter Try.func19, Try.ntmps19
    go_wp2_with (first
      | (show wpList _ _ _ (⟨some 7, .call _, _, _, _, _⟩ :: _) _ _; refine wpList_val rfl (op_len slInt rfl rfl (v := v) (xs := l.map fun z => [I64 z]) rfl (by exact hS.rd hv)) ?_; rw [HL.out]; go_frame)
      | (show wpList _ _ _ (⟨some 9, .call _, _, _, _, _⟩ :: _) _ _; refine wpList_val rfl (op_len slInt rfl rfl (v := u) (xs := m.map fun z => [I64 z]) rfl (by exact hS.rd hu)) ?_; rw [HM.out]; go_frame)
      | (show wpList _ _ _ (⟨some 10, .binOp _ _ _ _ _, _, _, _, _⟩ :: _) _ _; refine wpList_val rfl (op_ineI rfl rfl rfl HNE.out) ?_; go_frame)
      )
    go_ret
    exact ⟨rfl, hS.chg⟩
end Go.Proofs.Ytafpdpcbckpkjaa
namespace Go.Proofs.Ytafpdpcbckpkjaa
open Go.RowKit Go.Px
/-- the entry of an id -/
def entOf (i : List Byte) (B : List Ent) : Option Ent := B.find? fun e => decide (e.id = i)
def lackV (q : Int) (i : List Byte) (B : List Ent) : Value := match entOf i B with
  | some e => lackR q e
  | none => .tuple #[.int .i64 0, .bool false]
def peersL (i : List Byte) (B : List Ent) : List Int := match entOf i B with
  | some e => e.peer :: e.waits
  | none => []
theorem entOf_none {i : List Byte} {B : List Ent} (h : i ∉ ids B) : entOf i B = none := by
  unfold entOf
  rw [List.find?_eq_none]
  intro e he hd
  exact h (List.mem_map.2 ⟨e, he, of_decide_eq_true hd⟩)
theorem entOf_mid {A C : List Ent} {e : Ent} (h : e.id ∉ ids A) : entOf e.id (A ++ e :: C) = some e := by
  unfold entOf
  rw [List.find?_append]
  have h1 : A.find? (fun x => decide (x.id = e.id)) = none := entOf_none h
  rw [h1, List.find?_cons_of_pos (by simp)]
  rfl
section
variable {R : Nat → Prop} {base w : World} {F : List Hp} {p : Nat} {B : List Ent}
theorem offer_any {i : List Byte} {q : Int} {t : Nat} (hS : SepL R base w (hB p B :: F)) (ok : BOk B) (hi : i.length = 32) (hq : -9223372036854775808 ≤ q ∧ q ≤ 9223372036854775807) :
    Calls Try.prog 11 #[.pointer (some ⟨p, 0, none⟩), HV i, .int .i64 q, U t] w (Ret fun r w' => r = .bool (offerA i B) ∧ SepL R base w' (hB p (offerB i q t B) :: F)) := by
  by_cases hin : i ∈ ids B
  · refine Ret.calls (offer_in hS ok hi hin hq) ?_
    rintro r w ⟨rfl, h⟩
    exact ⟨by simp [offerA, hin], h⟩
  · refine Ret.calls (offer_out hS ok hi hin) ?_
    rintro r w ⟨rfl, h⟩
    exact ⟨by simp [offerA, hin], h⟩
theorem roffer_any {i : List Byte} {q : Int} {t : Nat} (hS : SepL R base w (rB p B :: F)) (ok : BOk B) (hi : i.length = 32) :
    Calls Try.prog 30 #[.pointer (some ⟨p, 0, none⟩), HV i, I64 q, U t] w (Ret fun r w' => r = .bool (offerA i B) ∧ SepL R base w' (rB p (offerB i q t B) :: F)) := by
  by_cases hin : i ∈ ids B
  · obtain ⟨A, e, C, rfl, rfl, h1, h2⟩ := split_at ok.nodup hin
    refine Ret.calls (roffer_in hS ok) ?_
    rintro r w ⟨rfl, h⟩
    refine ⟨by simp [offerA, hin], ?_⟩
    have : offerB e.id q t (A ++ e :: C) = A ++ joinE q e :: C := by
      unfold offerB
      rw [if_pos hin, turn_at h1 h2]
      simp
    rw [this]
    exact h
  · refine Ret.calls (roffer_out hS ok hi hin) ?_
    rintro r w ⟨rfl, h⟩
    exact ⟨by simp [offerA, hin], h⟩
theorem got_any {i : List Byte} (hS : SepL R base w (hB p B :: F)) (ok : BOk B) (hi : i.length = 32) :
    Calls Try.prog 24 #[.pointer (some ⟨p, 0, none⟩), HV i] w (Ret fun r w' => r = .bool (decide (i ∈ ids B)) ∧ SepL R base w' (hB p (gotB i B) :: F)) := by
  by_cases hin : i ∈ ids B
  · refine Ret.calls (got_in hS ok hin) ?_
    rintro r w ⟨rfl, h⟩
    exact ⟨by simp [hin], h⟩
  · refine Ret.calls (got_out hS hi hin) ?_
    rintro r w ⟨rfl, h⟩
    refine ⟨by simp [hin], ?_⟩
    rw [show gotB i B = B from turn_other hin]
    exact h
theorem rgot_any {i : List Byte} (hS : SepL R base w (rB p B :: F)) (ok : BOk B) (hi : i.length = 32) :
    Calls Try.prog 31 #[.pointer (some ⟨p, 0, none⟩), HV i] w (Ret fun r w' => r = .bool (decide (i ∈ ids B)) ∧ SepL R base w' (rB p (gotB i B) :: F)) := by
  by_cases hin : i ∈ ids B
  · obtain ⟨A, e, C, rfl, rfl, h1, h2⟩ := split_at ok.nodup hin
    refine Ret.calls (rgot_in hS ok) ?_
    rintro r w ⟨rfl, h⟩
    refine ⟨by simp [hin], ?_⟩
    rw [show gotB e.id (A ++ e :: C) = A ++ (none : Option Ent).toList ++ C from turn_at h1 h2]
    simpa using h
  · refine Ret.calls (rgot_out hS ok hi hin) ?_
    rintro r w ⟨rfl, h⟩
    refine ⟨by simp [hin], ?_⟩
    rw [show gotB i B = B from turn_other hin]
    exact h
theorem lack_any {i : List Byte} {q : Int} {t : Nat} (hS : SepL R base w (hB p B :: F)) (ok : BOk B) (hi : i.length = 32) :
    Calls Try.prog 23 #[.pointer (some ⟨p, 0, none⟩), HV i, I64 q, U t] w (Ret fun r w' => r = lackV q i B ∧ SepL R base w' (hB p (lackB i q t B) :: F)) := by
  by_cases hin : i ∈ ids B
  · obtain ⟨A, e, C, rfl, rfl, h1, h2⟩ := split_at ok.nodup hin
    refine Ret.calls (lack_in hS ok) ?_
    rintro r w ⟨rfl, h⟩
    refine ⟨by unfold lackV; rw [entOf_mid h1], ?_⟩
    rw [show lackB e.id q t (A ++ e :: C) = _ from turn_at h1 h2]
    exact h
  · refine Ret.calls (lack_out hS hi hin) ?_
    rintro r w ⟨rfl, h⟩
    refine ⟨by unfold lackV; rw [entOf_none hin], ?_⟩
    rw [show lackB i q t B = B from turn_other hin]
    exact h
theorem rlack_any {i : List Byte} {q : Int} {t : Nat} (hS : SepL R base w (rB p B :: F)) (ok : BOk B) (hi : i.length = 32) :
    Calls Try.prog 32 #[.pointer (some ⟨p, 0, none⟩), HV i, I64 q, U t] w (Ret fun r w' => r = lackV q i B ∧ SepL R base w' (rB p (lackB i q t B) :: F)) := by
  by_cases hin : i ∈ ids B
  · obtain ⟨A, e, C, rfl, rfl, h1, h2⟩ := split_at ok.nodup hin
    refine Ret.calls (rlack_in hS ok) ?_
    rintro r w ⟨rfl, h⟩
    refine ⟨by unfold lackV; rw [entOf_mid h1], ?_⟩
    rw [show lackB e.id q t (A ++ e :: C) = _ from turn_at h1 h2]
    exact h
  · refine Ret.calls (rlack_out hS ok hi hin) ?_
    rintro r w ⟨rfl, h⟩
    refine ⟨by unfold lackV; rw [entOf_none hin], ?_⟩
    rw [show lackB i q t B = B from turn_other hin]
    exact h
theorem peers_any {i : List Byte} (hS : SepL R base w (hB p B :: F)) (ok : BOk B) (hi : i.length = 32) :
    Calls Try.prog 20 #[.pointer (some ⟨p, 0, none⟩), HV i] w (Ret fun r w' => SepL R base w' (.own 3 1 r ((peersL i B).map fun z => [I64 z]) :: hB p B :: F)) := by
  by_cases hin : i ∈ ids B
  · obtain ⟨A, e, C, rfl, rfl, h1, h2⟩ := split_at ok.nodup hin
    unfold peersL
    rw [entOf_mid h1]
    exact peers_in hS ok
  · unfold peersL
    rw [entOf_none hin]
    exact peers_out hS hi hin
theorem rpeers_any {i : List Byte} (hS : SepL R base w (rB p B :: F)) (ok : BOk B) (hi : i.length = 32) :
    Calls Try.prog 21 #[.pointer (some ⟨p, 0, none⟩), HV i] w (Ret fun r w' => SepL R base w' (.own 3 1 r ((peersL i B).map fun z => [I64 z]) :: rB p B :: F)) := by
  by_cases hin : i ∈ ids B
  · obtain ⟨A, e, C, rfl, rfl, h1, h2⟩ := split_at ok.nodup hin
    unfold peersL
    rw [entOf_mid h1]
    exact rpeers_in hS ok
  · unfold peersL
    rw [entOf_none hin]
    exact rpeers_out hS ok hi hin
end
end Go.Proofs.Ytafpdpcbckpkjaa
