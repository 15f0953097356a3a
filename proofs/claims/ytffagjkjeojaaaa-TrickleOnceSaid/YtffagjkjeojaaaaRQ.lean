/- The document's queue: made, it learns, it is put something, it tells. Conditions: those that stand ahead of each theorem. -/
import Derived.Test.YtffagjkjeojaaaaR
namespace Go.Proofs.Ytffagjkjeojaaaa
open Go.RowKit Go.Px
theorem outId_snocY {x y : Id} {l : List Id} (h : y = x) : outId x (l ++ [y]) = outId x l := by
  unfold outId
  rw [List.filter_append]
  simp [h]
theorem outId_snocN {x y : Id} {l : List Id} (h : y ≠ x) : outId x (l ++ [y]) = outId x l ++ [y] := by
  unfold outId
  rw [List.filter_append]
  simp [h]
theorem learnQ_snoc (q : Qu) (l : List Id) (x : Id) : learnQ q (l ++ [x]) = ⟨add1 (learnQ q l).known x, outId x (learnQ q l).waits⟩ := by
  unfold learnQ
  rw [adds_app, adds_one, outIds_snoc]
theorem learnQ_nil (q : Qu) : learnQ q [] = q := by
  unfold learnQ
  rw [adds_nil, outIds_nil]
theorem buildR1 (w : World) : (Instr.build 40 #[(0, I64 64)]).run Try.prog w = .ok (.agg #[I64 64, .slice none 0 0]) w := run_build w 40 _ _ (by kernel_rfl)
theorem buildR2 (w : World) : (Instr.build 42 #[(0, .agg #[I64 64, .slice none 0 0])]).run Try.prog w = .ok (.agg #[I64 64, .slice none 0 0, .slice none 0 0]) w := run_build w 42 _ _ (by kernel_rfl)
/-- how many wait, by what lies in memory -/
def waitLen (w : World) (p : Nat) : Nat := match w.cell? ⟨p, 2, none⟩ with
  | some (.slice _ l _) => l
  | _ => 0
section
variable {R : Nat → Prop} {base w : World} {F : List Hp}
theorem waitLen_of {p : Nat} {lv wv : Value} {W : List Id} (hS : SepL R base w (.blk p 42 [I64 64, lv, wv] :: .own 24 32 wv (bys W) :: F)) : waitLen w p = W.length := by
  have h1 : w.cell? ⟨p, 2, none⟩ = some wv := hS.getBlk.cell 2
  obtain ⟨A, c, e, _⟩ := (SepL.getOwn (hS.tail)).rd.form
  unfold waitLen
  rw [h1, e]
  show (bys W).length = _
  rw [bys_length]
theorem radd_o {p : Nat} {lv0 wv v : Value} {L : List Id} {x : Id} {T : TypeId} (hS : SepL R base w (.own T 32 v (bys [x]) :: .blk p 42 [I64 64, lv0, wv] :: .own 24 32 lv0 (bys L) :: F)) (hx : x.length = 32) (hL : L.length ≤ 64) (hL32 : Is32 L) :
    Calls Try.prog 34 #[.pointer (some ⟨p, 0, none⟩), v] w (Ret fun _ w' => ∃ lv, SepL R base w' (.own T 32 v (bys [x]) :: .blk p 42 [I64 64, lv, wv] :: .own 24 32 lv (bys (add1 L x)) :: F)) := by
  obtain ⟨R', h1, h2, h3, h4⟩ := hS.freezeOwn
  refine Ret.calls (radd_s h1 h2 (by simpa [Is32] using hx) hL hL32 (by simp)) ?_
  rintro r w' ⟨lv, h5⟩
  exact ⟨lv, h4 w' _ h5⟩
set_option maxRecDepth 100000 in
theorem rqnew_s (hS : SepL R base w F) : Calls Try.prog 12 #[] w (Ret fun r w' => ∃ p, r = .pointer (some ⟨p, 0, none⟩) ∧ SepL R base w' (hR p ⟨[], []⟩ :: F)) := by
  go_enter Try.func12, Try.ntmps12
  go_wp2_with (first
    | (show wpList _ _ _ (⟨some 1, .build _ _, _, _, _, _⟩ :: _) _ _; refine wpList_val rfl (op_build (ps := #[(0, I64 64)]) rfl rfl buildR1 _) ?_; go_frame)
    | (show wpList _ _ _ (⟨some 2, .build _ _, _, _, _, _⟩ :: _) _ _; refine wpList_val rfl (op_build (ps := #[(0, .agg #[I64 64, .slice none 0 0])]) rfl rfl buildR2 _) ?_; go_frame)
    | (show wpList _ _ _ (⟨_, .box _ _, _, _, _, _⟩ :: _) _ _; refine wpS_boxA (cs := [I64 64, .slice none 0 0, .slice none 0 0]) hS rfl rfl rfl ?_; clear hS; intro p w hS; go_frame)
    )
  go_ret
  exact ⟨p, rfl, hR_close (lv := .slice none 0 0) (wv := .slice none 0 0) (q := ⟨[], []⟩) (((hS.nilOwn 24 32).nilOwn 24 32).sel (by repeat (first | exact Sel.refl | refine Sel.take (by repeat (first | exact t0 | apply tS)) ?_ | apply Sel.drop)))⟩
set_option maxRecDepth 100000 in
set_option maxHeartbeats 4000000 in
theorem rqlearn_s {p : Nat} {q0 : Qu} {l : List Id} (hS : SepL R base w (hR p q0 :: F)) (hok0 : QOk q0) {v : Value} (hl : RdIn R base 32 v (bys l)) (h32 : Is32 l) :
    Calls Try.prog 16 #[.pointer (some ⟨p, 0, none⟩), v] w (Ret fun _ w' => SepL R base w' (hR p (learnQ q0 l) :: F)) := by
  have HL : Hid ((bys l).length = l.length) := bys_length l
  have hmax := (hS.rd hl).len
  rw [HL.out] at hmax
  unfold maxLen at hmax
  have H32 := hide h32
  have HOK := hide hok0
  clear h32 hok0
  go_enter Try.func16, Try.ntmps16
  go_wp2_with (first
    | (show wpList _ _ _ (⟨some 10, .call _, _, _, _, _⟩ :: _) _ _; refine wpList_val rfl (op_len slHash rfl rfl (v := v) (xs := bys l) rfl (by exact hS.rd hl)) ?_; rw [HL.out]; go_frame)
    )
  go_loopw [11] (fun iv wr => ∃ (k : Nat), iv = .int .i64 k ∧ k ≤ l.length ∧ SepL R base wr (hR p (learnQ q0 (l.take k)) :: F)) (fun iv _ => l.length - (intOf iv).toNat)
  case atStart => exact ⟨0, rfl, by omega, by rw [List.take_zero, learnQ_nil]; exact hS⟩
  case round =>
    clear hS
    obtain ⟨k, rfl, hk, hS0⟩ := hrel
    by_cases hlt : k < l.length
    · have hlk : k < (bys l).length := by rw [HL.out]; exact hlt
      obtain ⟨x, hx⟩ : ∃ x, l[k] = x := ⟨_, rfl⟩
      have hx32 : x.length = 32 := by rw [← hx]; exact H32.out _ (List.getElem_mem hlt)
      have HX0 := hide hx32
      have HX : Hid ((bys l)[k] = x.map B8) := by
        unfold Hid
        rw [bys_get hlk hlt, hx]
      have HX32 : Hid ((x.map B8).length = 32) := by simp [Hid, hx32]
      have KX := isKey hx32
      unfold HV at KX
      have hqk : QOk (learnQ q0 (l.take k)) := HOK.out.learn fun y hy => H32.out y (List.mem_of_mem_take hy)
      have hsn := learnQ_snoc q0 (l.take k) x
      have hst : l.take (k + 1) = l.take k ++ [x] := by rw [List.take_succ_eq_append_getElem hlt, hx]
      rw [← hst] at hsn
      obtain ⟨q, hq⟩ : ∃ q, learnQ q0 (l.take k) = q := ⟨_, rfl⟩
      rw [hq] at hS0 hqk hsn
      have HSN := hide hsn
      obtain ⟨lv, wv, hS⟩ := hR_open hS0
      clear hS0 hx hsn hq hst
      have HW32 := hide hqk.w32
      have HK32 := hide hqk.k32
      have HKL := hide hqk.kl
      have hwl := hqk.wl
      have HWLN : Hid ((bys q.waits).length = q.waits.length) := bys_length _
      clear hqk hx32
      go_wp2_with (first
        | (show wpList _ _ _ (⟨some 13, .indexAddr _ _ _, _, _, _, _⟩ :: _) _ _; refine wpList_val rfl (op_indexAddr slHash rfl (v := v) (xs := bys l) rfl (k := k) rfl (by exact hS.rd hl) hlk) ?_; go_frame)
        | (show wpList _ _ _ (⟨some 14, .load _ _, _, _, _, _⟩ :: _) _ _; refine wpList_val rfl (op_loadE aggHash rfl (v := v) (xs := bys l) (k := k) rfl (by exact hS.rd hl) hlk) ?_; rw [HX.out]; go_frame)
        | (show wpList _ _ _ (⟨some 5, .alloc _, _, _, _, _⟩ :: _) _ _; refine wpS_alloc hS rfl rfl Try.zeroValue24 (zs := List.replicate 32 (.int .u8 0)) rfl ?_; clear hS; intro nb w hS; go_frame)
        | (show wpList _ _ _ (⟨_, .store 24 (.tmp 5) _, _, _, _, _⟩ :: _) _ _; (refine wpS_storeAll (b := nb) aggHash (hS.bring (by repeat (first | exact t0 | apply tS))) rfl rfl rfl (vs := x.map B8) rfl HX32.out (flat_B8 x) rfl ?_); clear hS; intro w hS; go_frame)
        | (show wpList _ _ _ (⟨_, .load 31 _, _, _, _, _⟩ :: _) _ _; refine wpList_val rfl (op_load1S (b := p) (T := 42) oneHashes ((hS.bring (by repeat (first | exact t0 | apply tS)))) rfl rfl rfl) ?_; go_frame)
        | (show wpList _ _ _ (⟨_, .call ⟨.builtin .len, _, _⟩, _, _, _, _⟩ :: _) _ _; refine wpList_val rfl (op_len slHash rfl rfl (v := wv) (xs := bys q.waits) rfl ((hS.bring (by repeat (first | exact t0 | apply tS))).getOwn.rd)) ?_; rw [HWLN.out]; go_frame)
        )
      go_loopw [6, 20] (fun sv jv wr => ∃ (j : Nat), jv = .int .i64 j ∧ j ≤ q.waits.length ∧ SepL R base wr (.own 24 32 sv (bys (outId x (q.waits.take j))) :: .blk nb 24 (x.map B8) :: .blk p 42 [I64 64, lv, wv] :: .own 24 32 lv (bys q.known) :: .own 24 32 wv (bys q.waits) :: F)) (fun _ jv _ => q.waits.length - (intOf jv).toNat)
      case atStart => exact ⟨0, rfl, by omega, (hS.nilOwn 24 32).sel (by repeat (first | exact Sel.refl | refine Sel.take (by repeat (first | exact t0 | apply tS)) ?_ | apply Sel.drop))⟩
      case round =>
        clear hS
        obtain ⟨j, rfl, hj, hS⟩ := hrel
        by_cases hjt : j < q.waits.length
        · have hjl : j < (bys q.waits).length := by rw [HWLN.out]; exact hjt
          obtain ⟨y, hy⟩ : ∃ y, q.waits[j] = y := ⟨_, rfl⟩
          have hy32 : y.length = 32 := by rw [← hy]; exact HW32.out _ (List.getElem_mem hjt)
          have HY : Hid ((bys q.waits)[j] = y.map B8) := by
            unfold Hid
            rw [bys_get hjl hjt, hy]
          have HY32 : Hid ((y.map B8).length = 32) := by simp [Hid, hy32]
          have KY := isKey hy32
          unfold HV at KY
          have hol : (outId x (q.waits.take j)).length ≤ 64 := by
            have h1 := (outId_sub x (q.waits.take j)).length_le
            rw [List.length_take] at h1
            omega
          have HA1 : Hid (((bys (outId x (q.waits.take j))).length + (bys [y]).length) * 32 ≤ 140737488355328) := by
            unfold Hid
            rw [bys_length, bys_length, List.length_singleton]
            omega
          have HA2 : Hid ((bys (outId x (q.waits.take j))).length + (bys [y]).length ≤ maxLen) := by
            unfold Hid maxLen
            rw [bys_length, bys_length, List.length_singleton]
            omega
          by_cases he : y = x
          · have HE : Hid (eqv (.agg (y.map B8).toArray) (.agg (x.map B8).toArray) = true) := (HV_eqv y x).trans (decide_eq_true he)
            have HON : Hid (outId x (q.waits.take (j + 1)) = outId x (q.waits.take j)) := by
              unfold Hid
              rw [List.take_succ_eq_append_getElem hjt, hy]
              exact outId_snocY he
            clear hy hy32 hol he
            go_wp2_with (first
              | (show wpList _ _ _ (⟨some 22, .indexAddr _ _ _, _, _, _, _⟩ :: _) _ _; refine wpList_val rfl (op_indexAddr slHash rfl (v := wv) (xs := bys q.waits) rfl (k := j) rfl ((hS.bring (by repeat (first | exact t0 | apply tS))).getOwn.rd) hjl) ?_; go_frame)
              | (show wpList _ _ _ (⟨some 23, .load _ _, _, _, _, _⟩ :: _) _ _; refine wpList_val rfl (op_loadE aggHash rfl (v := wv) (xs := bys q.waits) (k := j) rfl ((hS.bring (by repeat (first | exact t0 | apply tS))).getOwn.rd) hjl) ?_; rw [HY.out]; go_frame)
              | (show wpList _ _ _ (⟨_, .alloc _, _, _, _, _⟩ :: _) _ _; refine wpS_alloc hS rfl rfl Try.zeroValue24 (zs := List.replicate 32 (.int .u8 0)) rfl ?_; clear hS; intro n8 w hS; go_frame)
              | (show wpList _ _ _ (⟨_, .store 24 (.tmp 8) _, _, _, _, _⟩ :: _) _ _; (refine wpS_storeAll (b := n8) aggHash (hS.bring (by repeat (first | exact t0 | apply tS))) rfl rfl rfl (vs := y.map B8) rfl HY32.out (flat_B8 y) rfl ?_); clear hS; intro w hS; go_frame)
              | (show wpList _ _ _ (⟨_, .load 24 (.tmp 8), _, _, _, _⟩ :: _) _ _; refine wpList_val rfl (op_load aggHash rfl rfl (SepL.getBlk (b := n8) (T := 24) ((hS.bring (by repeat (first | exact t0 | apply tS))))).cells HY32.out) ?_; go_frame)
              | (show wpList _ _ _ (⟨_, .load 24 (.tmp 5), _, _, _, _⟩ :: _) _ _; refine wpList_val rfl (op_load aggHash rfl rfl (SepL.getBlk (b := nb) (T := 24) ((hS.bring (by repeat (first | exact t0 | apply tS))))).cells HX32.out) ?_; go_frame)
              | (show wpList _ _ _ (⟨some 26, .binOp _ _ _ _ _, _, _, _, _⟩ :: _) _ _; refine wpList_val rfl (op_neq keyHash rfl rfl rfl KY KX) ?_; rw [HE.out]; go_frame)
              | (show wpList _ _ _ (⟨some 29, .buildSlice _ _ _, _, _, _, _⟩ :: _) _ _; refine wpS_build1A slHash (by omega) hS rfl rfl (cs := y.map B8) rfl HY32.out ?_; clear hS; intro vb w hS; go_frame)
              | (show wpList _ _ _ (⟨some 30, .call _, _, _, _, _⟩ :: _) _ _; (refine wpS_append slHash (hS.bring (by repeat (first | exact t0 | apply tS))) rfl rfl (sv := u6) (xs := bys (outId x (q.waits.take j))) (xv := vb) rfl rfl (ys := bys [y]) ((hS.bring (by repeat (first | exact t0 | apply tS))).getOwn.rd) (flat_bys _) HA1.out HA2.out ?_); clear hS; intro va w hS; rw [← bys_app] at hS; go_frame)
              )
            go_roundw
            case rel =>
              refine ⟨j + 1, by go_num, by omega, ?_⟩
              rw [HON.out]
              exact hS.sel (by repeat (first | exact Sel.refl | refine Sel.take (by repeat (first | exact t0 | apply tS)) ?_ | apply Sel.drop))
            case measure => simp [intOf]; omega
          · have HE : Hid (eqv (.agg (y.map B8).toArray) (.agg (x.map B8).toArray) = false) := (HV_eqv y x).trans (decide_eq_false he)
            have HON : Hid (outId x (q.waits.take (j + 1)) = outId x (q.waits.take j) ++ [y]) := by
              unfold Hid
              rw [List.take_succ_eq_append_getElem hjt, hy]
              exact outId_snocN he
            clear hy hy32 hol he
            go_wp2_with (first
              | (show wpList _ _ _ (⟨some 22, .indexAddr _ _ _, _, _, _, _⟩ :: _) _ _; refine wpList_val rfl (op_indexAddr slHash rfl (v := wv) (xs := bys q.waits) rfl (k := j) rfl ((hS.bring (by repeat (first | exact t0 | apply tS))).getOwn.rd) hjl) ?_; go_frame)
              | (show wpList _ _ _ (⟨some 23, .load _ _, _, _, _, _⟩ :: _) _ _; refine wpList_val rfl (op_loadE aggHash rfl (v := wv) (xs := bys q.waits) (k := j) rfl ((hS.bring (by repeat (first | exact t0 | apply tS))).getOwn.rd) hjl) ?_; rw [HY.out]; go_frame)
              | (show wpList _ _ _ (⟨_, .alloc _, _, _, _, _⟩ :: _) _ _; refine wpS_alloc hS rfl rfl Try.zeroValue24 (zs := List.replicate 32 (.int .u8 0)) rfl ?_; clear hS; intro n8 w hS; go_frame)
              | (show wpList _ _ _ (⟨_, .store 24 (.tmp 8) _, _, _, _, _⟩ :: _) _ _; (refine wpS_storeAll (b := n8) aggHash (hS.bring (by repeat (first | exact t0 | apply tS))) rfl rfl rfl (vs := y.map B8) rfl HY32.out (flat_B8 y) rfl ?_); clear hS; intro w hS; go_frame)
              | (show wpList _ _ _ (⟨_, .load 24 (.tmp 8), _, _, _, _⟩ :: _) _ _; refine wpList_val rfl (op_load aggHash rfl rfl (SepL.getBlk (b := n8) (T := 24) ((hS.bring (by repeat (first | exact t0 | apply tS))))).cells HY32.out) ?_; go_frame)
              | (show wpList _ _ _ (⟨_, .load 24 (.tmp 5), _, _, _, _⟩ :: _) _ _; refine wpList_val rfl (op_load aggHash rfl rfl (SepL.getBlk (b := nb) (T := 24) ((hS.bring (by repeat (first | exact t0 | apply tS))))).cells HX32.out) ?_; go_frame)
              | (show wpList _ _ _ (⟨some 26, .binOp _ _ _ _ _, _, _, _, _⟩ :: _) _ _; refine wpList_val rfl (op_neq keyHash rfl rfl rfl KY KX) ?_; rw [HE.out]; go_frame)
              | (show wpList _ _ _ (⟨some 29, .buildSlice _ _ _, _, _, _, _⟩ :: _) _ _; refine wpS_build1A slHash (by omega) hS rfl rfl (cs := y.map B8) rfl HY32.out ?_; clear hS; intro vb w hS; go_frame)
              | (show wpList _ _ _ (⟨some 30, .call _, _, _, _, _⟩ :: _) _ _; (refine wpS_append slHash (hS.bring (by repeat (first | exact t0 | apply tS))) rfl rfl (sv := u6) (xs := bys (outId x (q.waits.take j))) (xv := vb) rfl rfl (ys := bys [y]) ((hS.bring (by repeat (first | exact t0 | apply tS))).getOwn.rd) (flat_bys _) HA1.out HA2.out ?_); clear hS; intro va w hS; rw [← bys_app] at hS; go_frame)
              )
            go_roundw
            case rel =>
              refine ⟨j + 1, by go_num, by omega, ?_⟩
              rw [HON.out]
              exact hS.sel (by repeat (first | exact Sel.refl | refine Sel.take (by repeat (first | exact t0 | apply tS)) ?_ | apply Sel.drop))
            case measure => simp [intOf]; omega
        · have hj2 : j = q.waits.length := by omega
          subst hj2
          rw [List.take_length] at hS
          have HU1 := hide hS.getOwn.rd.cells1
          have HU2 := hide hS.getOwn.rd.one1
          go_wp2_with (first
            | (show wpList _ _ _ (⟨_, .store 31 (.tmp 35) _, _, _, _, _⟩ :: _) _ _; (refine wpS_store1 (b := p) (T := 42) (by kernel_rfl) (hS.bring (by repeat (first | exact t0 | apply tS))) rfl rfl rfl (v := u6) rfl HU1.out HU2.out (by simp) ?_); clear hS; intro w hS; go_frame)
            )
          refine wp_region_text (by kernel_rfl) (by kernel_rfl) (by repeat (first | exact Clean.body | refine Clean.then ?_ | refine Clean.inBlock ?_)) ?_
          replace hS := hS.drew
          go_wp2_with (first
            | (show wpList _ _ _ (⟨some 39, .load _ _, _, _, _, _⟩ :: _) _ _; refine wpList_val rfl (op_load aggHash rfl rfl (SepL.getBlk (b := nb) (T := 24) ((hS.bring (by repeat (first | exact t0 | apply tS))))).cells HX32.out) ?_; go_frame)
            | (show wpList _ _ _ (⟨some 40, .buildSlice _ _ _, _, _, _, _⟩ :: _) _ _; refine wpS_build1A slHash (by omega) hS rfl rfl (cs := x.map B8) rfl HX32.out ?_; clear hS; intro v40 w hS; go_frame)
            | (go_at_call 34; refine Ret.calls (radd_o (p := p) (lv0 := lv) (wv := u6) (L := q.known) (v := v40) (x := x) (T := 24) (F := .own 24 32 u6 (bys (outId x q.waits)) :: F) (hS.sel (by repeat (first | exact Sel.refl | refine Sel.take (by repeat (first | exact t0 | apply tS)) ?_ | apply Sel.drop))) HX0.out HKL.out HK32.out) ?_; clear hS; rintro r1 w ⟨lv2, hS⟩)
            | (refine fin_mk (by kernel_rfl) ?_)
            )
          go_roundw
          case rel =>
            have h1 := hR_close (q := ⟨add1 q.known x, outId x q.waits⟩) (hS.sel (by repeat (first | exact Sel.refl | refine Sel.take (by repeat (first | exact t0 | apply tS)) ?_ | apply Sel.drop)) : SepL R base _ (.blk p 42 [I64 64, lv2, u6] :: .own 24 32 lv2 (bys (add1 q.known x)) :: .own 24 32 u6 (bys (outId x q.waits)) :: F))
            refine ⟨k + 1, by go_num, by omega, ?_⟩
            rw [HSN.out]
            exact h1
          case measure => simp [intOf]; omega
    · have hk2 : k = l.length := by omega
      subst hk2
      rw [List.take_length] at hS0
      go_wp2_with fail
      refine bodyPost_end (results_none rfl _ _ _) rfl ?_
      exact hS0
set_option maxRecDepth 100000 in
set_option maxHeartbeats 4000000 in
theorem rqput_s {p : Nat} {q0 : Qu} {l : List Id} (hS : SepL R base w (hR p q0 :: F)) (hok0 : QOk q0) {v : Value} (hl : RdIn R base 32 v (bys l)) (h32 : Is32 l) :
    Calls Try.prog 14 #[.pointer (some ⟨p, 0, none⟩), v] w (Ret fun _ w' => SepL R base w' (hR p (putQ q0 l) :: F)) := by
  have HL : Hid ((bys l).length = l.length) := bys_length l
  have hmax := (hS.rd hl).len
  rw [HL.out] at hmax
  unfold maxLen at hmax
  have H32 := hide h32
  have HOK := hide hok0
  clear h32 hok0
  go_enter Try.func14, Try.ntmps14
  go_wp2_with (first
    | (show wpList _ _ _ (⟨some 10, .call _, _, _, _, _⟩ :: _) _ _; refine wpList_val rfl (op_len slHash rfl rfl (v := v) (xs := bys l) rfl (by exact hS.rd hl)) ?_; rw [HL.out]; go_frame)
    )
  go_loopw [11] (fun iv wr => ∃ (k : Nat), iv = .int .i64 k ∧ k ≤ l.length ∧ SepL R base wr (hR p (putQ q0 (l.take k)) :: F)) (fun iv _ => l.length - (intOf iv).toNat)
  case atStart => exact ⟨0, rfl, by omega, hS⟩
  case round =>
    clear hS
    obtain ⟨k, rfl, hk, hS0⟩ := hrel
    by_cases hlt : k < l.length
    · have hlk : k < (bys l).length := by rw [HL.out]; exact hlt
      obtain ⟨x, hx⟩ : ∃ x, l[k] = x := ⟨_, rfl⟩
      have hx32 : x.length = 32 := by rw [← hx]; exact H32.out _ (List.getElem_mem hlt)
      have HX0 := hide hx32
      have HX : Hid ((bys l)[k] = x.map B8) := by
        unfold Hid
        rw [bys_get hlk hlt, hx]
      have HX32 : Hid ((x.map B8).length = 32) := by simp [Hid, hx32]
      have KX := isKey hx32
      unfold HV at KX
      have hqk : QOk (putQ q0 (l.take k)) := HOK.out.put fun y hy => H32.out y (List.mem_of_mem_take hy)
      have hsn := putQ_snoc q0 (l.take k) x
      have hst : l.take (k + 1) = l.take k ++ [x] := by rw [List.take_succ_eq_append_getElem hlt, hx]
      rw [← hst] at hsn
      obtain ⟨q, hq⟩ : ∃ q, putQ q0 (l.take k) = q := ⟨_, rfl⟩
      rw [hq] at hS0 hqk hsn
      have HSN := hide hsn
      obtain ⟨lv, wv, hS⟩ := hR_open hS0
      clear hS0 hx hsn hq hst
      have HW32 := hide hqk.w32
      have HK32 := hide hqk.k32
      have HKL := hide hqk.kl
      have hwl := hqk.wl
      have HWLN : Hid ((bys q.waits).length = q.waits.length) := bys_length _
      by_cases hmem : x ∈ q.known
      · have HMK : Hid (decide (x ∈ q.known) = true) := decide_eq_true hmem
        have HP := hide (put_yes hmem)
        clear hmem hqk hx32
        go_wp2_with (first
          | (show wpList _ _ _ (⟨some 13, .indexAddr _ _ _, _, _, _, _⟩ :: _) _ _; refine wpList_val rfl (op_indexAddr slHash rfl (v := v) (xs := bys l) rfl (k := k) rfl (by exact hS.rd hl) hlk) ?_; go_frame)
          | (show wpList _ _ _ (⟨some 14, .load _ _, _, _, _, _⟩ :: _) _ _; refine wpList_val rfl (op_loadE aggHash rfl (v := v) (xs := bys l) (k := k) rfl (by exact hS.rd hl) hlk) ?_; rw [HX.out]; go_frame)
          | (show wpList _ _ _ (⟨some 5, .alloc _, _, _, _, _⟩ :: _) _ _; refine wpS_alloc hS rfl rfl Try.zeroValue24 (zs := List.replicate 32 (.int .u8 0)) rfl ?_; clear hS; intro nb w hS; go_frame)
          | (show wpList _ _ _ (⟨_, .store 24 (.tmp 5) _, _, _, _, _⟩ :: _) _ _; (refine wpS_storeAll (b := nb) aggHash (hS.bring (by repeat (first | exact t0 | apply tS))) rfl rfl rfl (vs := x.map B8) rfl HX32.out (flat_B8 x) rfl ?_); clear hS; intro w hS; go_frame)
          | (show wpList _ _ _ (⟨_, .load 31 _, _, _, _, _⟩ :: _) _ _; refine wpList_val rfl (op_load1S (b := p) (T := 42) oneHashes ((hS.bring (by repeat (first | exact t0 | apply tS)))) rfl rfl rfl) ?_; go_frame)
          )
        refine wp_region_text (by kernel_rfl) (by kernel_rfl) (by repeat (first | exact Clean.body | refine Clean.then ?_ | refine Clean.inBlock ?_)) ?_
        replace hS := hS.drew
        go_wp2_with (first
          | (show wpList _ _ _ (⟨_, .load 24 (.tmp 5), _, _, _, _⟩ :: _) _ _; refine wpList_val rfl (op_load aggHash rfl rfl (SepL.getBlk (b := nb) (T := 24) ((hS.bring (by repeat (first | exact t0 | apply tS))))).cells HX32.out) ?_; go_frame)
          | (go_at_call 23; refine Ret.calls (rhas_s (p := p) (lv := lv) (wv := wv) (L := q.known) (x := x) (F := .own 24 32 wv (bys q.waits) :: .blk nb 24 (x.map B8) :: F) (hS.sel (by repeat (first | exact Sel.refl | refine Sel.take (by repeat (first | exact t0 | apply tS)) ?_ | apply Sel.drop))) HK32.out HX0.out HMK) ?_; clear hS; rintro r1 w ⟨rfl, hS⟩)
          | (refine fin_mk (by kernel_rfl) ?_)
          )
        go_roundw
        case rel =>
          have h1 := hR_close (hS.sel (by repeat (first | exact Sel.refl | refine Sel.take (by repeat (first | exact t0 | apply tS)) ?_ | apply Sel.drop)) : SepL R base _ (.blk p 42 [I64 64, lv, wv] :: .own 24 32 lv (bys q.known) :: .own 24 32 wv (bys q.waits) :: F))
          refine ⟨k + 1, by go_num, by omega, ?_⟩
          rw [HSN.out, HP.out]
          exact h1
        case measure => simp [intOf]; omega
      · have HMK : Hid (decide (x ∈ q.known) = false) := decide_eq_false hmem
        have HP := hide (put_no hmem)
        clear hmem hqk hx32
        go_wp2_with (first
          | (show wpList _ _ _ (⟨some 13, .indexAddr _ _ _, _, _, _, _⟩ :: _) _ _; refine wpList_val rfl (op_indexAddr slHash rfl (v := v) (xs := bys l) rfl (k := k) rfl (by exact hS.rd hl) hlk) ?_; go_frame)
          | (show wpList _ _ _ (⟨some 14, .load _ _, _, _, _, _⟩ :: _) _ _; refine wpList_val rfl (op_loadE aggHash rfl (v := v) (xs := bys l) (k := k) rfl (by exact hS.rd hl) hlk) ?_; rw [HX.out]; go_frame)
          | (show wpList _ _ _ (⟨some 5, .alloc _, _, _, _, _⟩ :: _) _ _; refine wpS_alloc hS rfl rfl Try.zeroValue24 (zs := List.replicate 32 (.int .u8 0)) rfl ?_; clear hS; intro nb w hS; go_frame)
          | (show wpList _ _ _ (⟨_, .store 24 (.tmp 5) _, _, _, _, _⟩ :: _) _ _; (refine wpS_storeAll (b := nb) aggHash (hS.bring (by repeat (first | exact t0 | apply tS))) rfl rfl rfl (vs := x.map B8) rfl HX32.out (flat_B8 x) rfl ?_); clear hS; intro w hS; go_frame)
          | (show wpList _ _ _ (⟨_, .load 31 _, _, _, _, _⟩ :: _) _ _; refine wpList_val rfl (op_load1S (b := p) (T := 42) oneHashes ((hS.bring (by repeat (first | exact t0 | apply tS)))) rfl rfl rfl) ?_; go_frame)
          )
        refine wp_region_text (by kernel_rfl) (by kernel_rfl) (by repeat (first | exact Clean.body | refine Clean.then ?_ | refine Clean.inBlock ?_)) ?_
        replace hS := hS.drew
        go_wp2_with (first
          | (show wpList _ _ _ (⟨_, .load 24 (.tmp 5), _, _, _, _⟩ :: _) _ _; refine wpList_val rfl (op_load aggHash rfl rfl (SepL.getBlk (b := nb) (T := 24) ((hS.bring (by repeat (first | exact t0 | apply tS))))).cells HX32.out) ?_; go_frame)
          | (go_at_call 23; refine Ret.calls (rhas_s (p := p) (lv := lv) (wv := wv) (L := q.known) (x := x) (F := .own 24 32 wv (bys q.waits) :: .blk nb 24 (x.map B8) :: F) (hS.sel (by repeat (first | exact Sel.refl | refine Sel.take (by repeat (first | exact t0 | apply tS)) ?_ | apply Sel.drop))) HK32.out HX0.out HMK) ?_; clear hS; rintro r1 w ⟨rfl, hS⟩)
          | (refine fin_mk (by kernel_rfl) ?_)
          | (show wpList _ _ _ (⟨some 13, .indexAddr _ _ _, _, _, _, _⟩ :: _) _ _; refine wpList_val rfl (op_indexAddr slHash rfl (v := v) (xs := bys l) rfl (k := k) rfl (by exact hS.rd hl) hlk) ?_; go_frame)
          | (show wpList _ _ _ (⟨some 14, .load _ _, _, _, _, _⟩ :: _) _ _; refine wpList_val rfl (op_loadE aggHash rfl (v := v) (xs := bys l) (k := k) rfl (by exact hS.rd hl) hlk) ?_; rw [HX.out]; go_frame)
          | (show wpList _ _ _ (⟨some 5, .alloc _, _, _, _, _⟩ :: _) _ _; refine wpS_alloc hS rfl rfl Try.zeroValue24 (zs := List.replicate 32 (.int .u8 0)) rfl ?_; clear hS; intro nb w hS; go_frame)
          | (show wpList _ _ _ (⟨_, .store 24 (.tmp 5) _, _, _, _, _⟩ :: _) _ _; (refine wpS_storeAll (b := nb) aggHash (hS.bring (by repeat (first | exact t0 | apply tS))) rfl rfl rfl (vs := x.map B8) rfl HX32.out (flat_B8 x) rfl ?_); clear hS; intro w hS; go_frame)
          | (show wpList _ _ _ (⟨_, .load 31 _, _, _, _, _⟩ :: _) _ _; refine wpList_val rfl (op_load1S (b := p) (T := 42) oneHashes ((hS.bring (by repeat (first | exact t0 | apply tS)))) rfl rfl rfl) ?_; go_frame)
          | (show wpList _ _ _ (⟨_, .call ⟨.builtin .len, _, _⟩, _, _, _, _⟩ :: _) _ _; refine wpList_val rfl (op_len slHash rfl rfl (v := wv) (xs := bys q.waits) rfl ((hS.bring (by repeat (first | exact t0 | apply tS))).getOwn.rd)) ?_; rw [HWLN.out]; go_frame)
          )
        go_loopw [6, 25] (fun sv jv wr => ∃ (j : Nat), jv = .int .i64 j ∧ j ≤ q.waits.length ∧ SepL R base wr (.own 24 32 sv (bys (outId x (q.waits.take j))) :: .blk nb 24 (x.map B8) :: .blk p 42 [I64 64, lv, wv] :: .own 24 32 lv (bys q.known) :: .own 24 32 wv (bys q.waits) :: F)) (fun _ jv _ => q.waits.length - (intOf jv).toNat)
        case atStart => exact ⟨0, rfl, by omega, (hS.nilOwn 24 32).sel (by repeat (first | exact Sel.refl | refine Sel.take (by repeat (first | exact t0 | apply tS)) ?_ | apply Sel.drop))⟩
        case round =>
          clear hS
          obtain ⟨j, rfl, hj, hS⟩ := hrel
          by_cases hjt : j < q.waits.length
          · have hjl : j < (bys q.waits).length := by rw [HWLN.out]; exact hjt
            obtain ⟨y, hy⟩ : ∃ y, q.waits[j] = y := ⟨_, rfl⟩
            have hy32 : y.length = 32 := by rw [← hy]; exact HW32.out _ (List.getElem_mem hjt)
            have HY : Hid ((bys q.waits)[j] = y.map B8) := by
              unfold Hid
              rw [bys_get hjl hjt, hy]
            have HY32 : Hid ((y.map B8).length = 32) := by simp [Hid, hy32]
            have KY := isKey hy32
            unfold HV at KY
            have hol : (outId x (q.waits.take j)).length ≤ 64 := by
              have h1 := (outId_sub x (q.waits.take j)).length_le
              rw [List.length_take] at h1
              omega
            have HA1 : Hid (((bys (outId x (q.waits.take j))).length + (bys [y]).length) * 32 ≤ 140737488355328) := by
              unfold Hid
              rw [bys_length, bys_length, List.length_singleton]
              omega
            have HA2 : Hid ((bys (outId x (q.waits.take j))).length + (bys [y]).length ≤ maxLen) := by
              unfold Hid maxLen
              rw [bys_length, bys_length, List.length_singleton]
              omega
            by_cases he : y = x
            · have HE : Hid (eqv (.agg (y.map B8).toArray) (.agg (x.map B8).toArray) = true) := (HV_eqv y x).trans (decide_eq_true he)
              have HON : Hid (outId x (q.waits.take (j + 1)) = outId x (q.waits.take j)) := by
                unfold Hid
                rw [List.take_succ_eq_append_getElem hjt, hy]
                exact outId_snocY he
              clear hy hy32 hol he
              go_wp2_with (first
                | (show wpList _ _ _ (⟨some 27, .indexAddr _ _ _, _, _, _, _⟩ :: _) _ _; refine wpList_val rfl (op_indexAddr slHash rfl (v := wv) (xs := bys q.waits) rfl (k := j) rfl ((hS.bring (by repeat (first | exact t0 | apply tS))).getOwn.rd) hjl) ?_; go_frame)
                | (show wpList _ _ _ (⟨some 28, .load _ _, _, _, _, _⟩ :: _) _ _; refine wpList_val rfl (op_loadE aggHash rfl (v := wv) (xs := bys q.waits) (k := j) rfl ((hS.bring (by repeat (first | exact t0 | apply tS))).getOwn.rd) hjl) ?_; rw [HY.out]; go_frame)
                | (show wpList _ _ _ (⟨_, .alloc _, _, _, _, _⟩ :: _) _ _; refine wpS_alloc hS rfl rfl Try.zeroValue24 (zs := List.replicate 32 (.int .u8 0)) rfl ?_; clear hS; intro n8 w hS; go_frame)
                | (show wpList _ _ _ (⟨_, .store 24 (.tmp 8) _, _, _, _, _⟩ :: _) _ _; (refine wpS_storeAll (b := n8) aggHash (hS.bring (by repeat (first | exact t0 | apply tS))) rfl rfl rfl (vs := y.map B8) rfl HY32.out (flat_B8 y) rfl ?_); clear hS; intro w hS; go_frame)
                | (show wpList _ _ _ (⟨_, .load 24 (.tmp 8), _, _, _, _⟩ :: _) _ _; refine wpList_val rfl (op_load aggHash rfl rfl (SepL.getBlk (b := n8) (T := 24) ((hS.bring (by repeat (first | exact t0 | apply tS))))).cells HY32.out) ?_; go_frame)
                | (show wpList _ _ _ (⟨_, .load 24 (.tmp 5), _, _, _, _⟩ :: _) _ _; refine wpList_val rfl (op_load aggHash rfl rfl (SepL.getBlk (b := nb) (T := 24) ((hS.bring (by repeat (first | exact t0 | apply tS))))).cells HX32.out) ?_; go_frame)
                | (show wpList _ _ _ (⟨some 31, .binOp _ _ _ _ _, _, _, _, _⟩ :: _) _ _; refine wpList_val rfl (op_neq keyHash rfl rfl rfl KY KX) ?_; rw [HE.out]; go_frame)
                | (show wpList _ _ _ (⟨some 34, .buildSlice _ _ _, _, _, _, _⟩ :: _) _ _; refine wpS_build1A slHash (by omega) hS rfl rfl (cs := y.map B8) rfl HY32.out ?_; clear hS; intro vb w hS; go_frame)
                | (show wpList _ _ _ (⟨some 35, .call _, _, _, _, _⟩ :: _) _ _; (refine wpS_append slHash (hS.bring (by repeat (first | exact t0 | apply tS))) rfl rfl (sv := u6) (xs := bys (outId x (q.waits.take j))) (xv := vb) rfl rfl (ys := bys [y]) ((hS.bring (by repeat (first | exact t0 | apply tS))).getOwn.rd) (flat_bys _) HA1.out HA2.out ?_); clear hS; intro va w hS; rw [← bys_app] at hS; go_frame)
                )
              go_roundw
              case rel =>
                refine ⟨j + 1, by go_num, by omega, ?_⟩
                rw [HON.out]
                exact hS.sel (by repeat (first | exact Sel.refl | refine Sel.take (by repeat (first | exact t0 | apply tS)) ?_ | apply Sel.drop))
              case measure => simp [intOf]; omega
            · have HE : Hid (eqv (.agg (y.map B8).toArray) (.agg (x.map B8).toArray) = false) := (HV_eqv y x).trans (decide_eq_false he)
              have HON : Hid (outId x (q.waits.take (j + 1)) = outId x (q.waits.take j) ++ [y]) := by
                unfold Hid
                rw [List.take_succ_eq_append_getElem hjt, hy]
                exact outId_snocN he
              clear hy hy32 hol he
              go_wp2_with (first
                | (show wpList _ _ _ (⟨some 27, .indexAddr _ _ _, _, _, _, _⟩ :: _) _ _; refine wpList_val rfl (op_indexAddr slHash rfl (v := wv) (xs := bys q.waits) rfl (k := j) rfl ((hS.bring (by repeat (first | exact t0 | apply tS))).getOwn.rd) hjl) ?_; go_frame)
                | (show wpList _ _ _ (⟨some 28, .load _ _, _, _, _, _⟩ :: _) _ _; refine wpList_val rfl (op_loadE aggHash rfl (v := wv) (xs := bys q.waits) (k := j) rfl ((hS.bring (by repeat (first | exact t0 | apply tS))).getOwn.rd) hjl) ?_; rw [HY.out]; go_frame)
                | (show wpList _ _ _ (⟨_, .alloc _, _, _, _, _⟩ :: _) _ _; refine wpS_alloc hS rfl rfl Try.zeroValue24 (zs := List.replicate 32 (.int .u8 0)) rfl ?_; clear hS; intro n8 w hS; go_frame)
                | (show wpList _ _ _ (⟨_, .store 24 (.tmp 8) _, _, _, _, _⟩ :: _) _ _; (refine wpS_storeAll (b := n8) aggHash (hS.bring (by repeat (first | exact t0 | apply tS))) rfl rfl rfl (vs := y.map B8) rfl HY32.out (flat_B8 y) rfl ?_); clear hS; intro w hS; go_frame)
                | (show wpList _ _ _ (⟨_, .load 24 (.tmp 8), _, _, _, _⟩ :: _) _ _; refine wpList_val rfl (op_load aggHash rfl rfl (SepL.getBlk (b := n8) (T := 24) ((hS.bring (by repeat (first | exact t0 | apply tS))))).cells HY32.out) ?_; go_frame)
                | (show wpList _ _ _ (⟨_, .load 24 (.tmp 5), _, _, _, _⟩ :: _) _ _; refine wpList_val rfl (op_load aggHash rfl rfl (SepL.getBlk (b := nb) (T := 24) ((hS.bring (by repeat (first | exact t0 | apply tS))))).cells HX32.out) ?_; go_frame)
                | (show wpList _ _ _ (⟨some 31, .binOp _ _ _ _ _, _, _, _, _⟩ :: _) _ _; refine wpList_val rfl (op_neq keyHash rfl rfl rfl KY KX) ?_; rw [HE.out]; go_frame)
                | (show wpList _ _ _ (⟨some 34, .buildSlice _ _ _, _, _, _, _⟩ :: _) _ _; refine wpS_build1A slHash (by omega) hS rfl rfl (cs := y.map B8) rfl HY32.out ?_; clear hS; intro vb w hS; go_frame)
                | (show wpList _ _ _ (⟨some 35, .call _, _, _, _, _⟩ :: _) _ _; (refine wpS_append slHash (hS.bring (by repeat (first | exact t0 | apply tS))) rfl rfl (sv := u6) (xs := bys (outId x (q.waits.take j))) (xv := vb) rfl rfl (ys := bys [y]) ((hS.bring (by repeat (first | exact t0 | apply tS))).getOwn.rd) (flat_bys _) HA1.out HA2.out ?_); clear hS; intro va w hS; rw [← bys_app] at hS; go_frame)
                )
              go_roundw
              case rel =>
                refine ⟨j + 1, by go_num, by omega, ?_⟩
                rw [HON.out]
                exact hS.sel (by repeat (first | exact Sel.refl | refine Sel.take (by repeat (first | exact t0 | apply tS)) ?_ | apply Sel.drop))
              case measure => simp [intOf]; omega
          · have hj2 : j = q.waits.length := by omega
            subst hj2
            rw [List.take_length] at hS
            have hol : (outId x q.waits).length ≤ 64 := Nat.le_trans (outId_sub x q.waits).length_le hwl
            have HB1 : Hid (((bys (outId x q.waits)).length + (bys [x]).length) * 32 ≤ 140737488355328) := by
              unfold Hid
              rw [bys_length, bys_length, List.length_singleton]
              omega
            have HB2 : Hid ((bys (outId x q.waits)).length + (bys [x]).length ≤ maxLen) := by
              unfold Hid maxLen
              rw [bys_length, bys_length, List.length_singleton]
              omega
            have HLN : Hid ((bys (outId x q.waits ++ [x])).length = (outId x q.waits).length + 1) := by
              unfold Hid
              rw [bys_length, List.length_append, List.length_singleton]
            have HC1 : Hid (1 ≤ (bys (outId x q.waits ++ [x])).length) := by unfold Hid; rw [HLN.out]; omega
            by_cases hg : 64 < (outId x q.waits).length + 1
            · have HGT : Hid (decide ((64 : Int) < (((outId x q.waits).length + 1 : Nat) : Int)) = true) := decide_eq_true (by omega)
              have HLS : Hid (last64 (outId x q.waits ++ [x]) = (outId x q.waits ++ [x]).drop 1) := by
                unfold Hid last64
                rw [List.length_append, List.length_singleton, if_pos hg]
              clear hol hg
              go_wp2_with (first
                | (show wpList _ _ _ (⟨some 39, .load _ _, _, _, _, _⟩ :: _) _ _; refine wpList_val rfl (op_load aggHash rfl rfl (SepL.getBlk (b := nb) (T := 24) ((hS.bring (by repeat (first | exact t0 | apply tS))))).cells HX32.out) ?_; go_frame)
                | (show wpList _ _ _ (⟨some 40, .buildSlice _ _ _, _, _, _, _⟩ :: _) _ _; refine wpS_build1A slHash (by omega) hS rfl rfl (cs := x.map B8) rfl HX32.out ?_; clear hS; intro v40 w hS; go_frame)
                | (show wpList _ _ _ (⟨some 41, .call _, _, _, _, _⟩ :: _) _ _; (refine wpS_append slHash (hS.bring (by repeat (first | exact t0 | apply tS))) rfl rfl (sv := u6) (xs := bys (outId x q.waits)) (xv := v40) rfl rfl (ys := bys [x]) ((hS.bring (by repeat (first | exact t0 | apply tS))).getOwn.rd) (flat_bys _) HB1.out HB2.out ?_); clear hS; intro v41 w hS; rw [← bys_app] at hS; have HU1 := hide hS.getOwn.rd.cells1; have HU2 := hide hS.getOwn.rd.one1; go_frame)
                | (show wpList _ _ _ (⟨_, .store 31 (.tmp 43) _, _, _, _, _⟩ :: _) _ _; (refine wpS_store1 (b := p) (T := 42) (by kernel_rfl) (hS.bring (by repeat (first | exact t0 | apply tS))) rfl rfl rfl (v := v41) rfl HU1.out HU2.out (by simp) ?_); clear hS; intro w hS; go_frame)
                | (show wpList _ _ _ (⟨_, .load 31 _, _, _, _, _⟩ :: _) _ _; refine wpList_val rfl (op_load1S (b := p) (T := 42) oneHashes ((hS.bring (by repeat (first | exact t0 | apply tS)))) rfl rfl rfl) ?_; go_frame)
                | (show wpList _ _ _ (⟨some 48, .call _, _, _, _, _⟩ :: _) _ _; refine wpList_val rfl (op_len slHash rfl rfl (v := v41) (xs := bys (outId x q.waits ++ [x])) rfl ((hS.bring (by repeat (first | exact t0 | apply tS))).getOwn.rd)) ?_; rw [HLN.out]; go_frame)
                | (show wpList _ _ _ (⟨some 49, .binOp _ _ _ _ _, _, _, _, _⟩ :: _) _ _; refine wpList_val rfl (op_igtr rfl rfl rfl HGT.out) ?_; go_frame)
                | (show wpList _ _ _ (⟨some 55, .slice _ _ _ _ _, _, _, _, _⟩ :: _) _ _; refine wpList_val rfl (op_cut slHash rfl (v := v41) (xs := bys (outId x q.waits ++ [x])) rfl ((hS.bring (by repeat (first | exact t0 | apply tS))).getOwn.rd) (l := 1) (h := _) (Or.inr rfl) (Or.inl ⟨rfl, rfl⟩) HC1.out (Nat.le_refl _)) ?_; replace hS := SepL.ownCut (T := 24) (n := 32) (v := v41) (xs := bys (outId x q.waits ++ [x])) ((hS.bring (by repeat (first | exact t0 | apply tS)))) (l := 1) HC1.out; have HK1 := hide hS.getOwn.rd.cells1; have HK2 := hide hS.getOwn.rd.one1; rw [← bys_drop] at hS; go_frame)
                | (show wpList _ _ _ (⟨_, .store 31 (.tmp 57) _, _, _, _, _⟩ :: _) _ _; (refine wpS_store1 (b := p) (T := 42) (by kernel_rfl) (hS.bring (by repeat (first | exact t0 | apply tS))) rfl rfl rfl (v := cutV 32 v41 1 (bys (outId x q.waits ++ [x])).length) rfl HK1.out HK2.out (by simp) ?_); clear hS; intro w hS; go_frame)
                )
              go_roundw
              case rel =>
                have h1 := hR_close (q := ⟨q.known, (outId x q.waits ++ [x]).drop 1⟩) (hS.sel (by repeat (first | exact Sel.refl | refine Sel.take (by repeat (first | exact t0 | apply tS)) ?_ | apply Sel.drop)) : SepL R base _ (.blk p 42 [I64 64, lv, cutV 32 v41 1 (bys (outId x q.waits ++ [x])).length] :: .own 24 32 lv (bys q.known) :: .own 24 32 (cutV 32 v41 1 (bys (outId x q.waits ++ [x])).length) (bys ((outId x q.waits ++ [x]).drop 1)) :: F))
                refine ⟨k + 1, by go_num, by omega, ?_⟩
                rw [HSN.out, HP.out, HLS.out]
                exact h1
              case measure => simp [intOf]; omega
            · have HGT : Hid (decide ((64 : Int) < (((outId x q.waits).length + 1 : Nat) : Int)) = false) := decide_eq_false (by omega)
              have HLS : Hid (last64 (outId x q.waits ++ [x]) = outId x q.waits ++ [x]) := by
                unfold Hid last64
                rw [List.length_append, List.length_singleton, if_neg hg]
              clear hol hg
              go_wp2_with (first
                | (show wpList _ _ _ (⟨some 39, .load _ _, _, _, _, _⟩ :: _) _ _; refine wpList_val rfl (op_load aggHash rfl rfl (SepL.getBlk (b := nb) (T := 24) ((hS.bring (by repeat (first | exact t0 | apply tS))))).cells HX32.out) ?_; go_frame)
                | (show wpList _ _ _ (⟨some 40, .buildSlice _ _ _, _, _, _, _⟩ :: _) _ _; refine wpS_build1A slHash (by omega) hS rfl rfl (cs := x.map B8) rfl HX32.out ?_; clear hS; intro v40 w hS; go_frame)
                | (show wpList _ _ _ (⟨some 41, .call _, _, _, _, _⟩ :: _) _ _; (refine wpS_append slHash (hS.bring (by repeat (first | exact t0 | apply tS))) rfl rfl (sv := u6) (xs := bys (outId x q.waits)) (xv := v40) rfl rfl (ys := bys [x]) ((hS.bring (by repeat (first | exact t0 | apply tS))).getOwn.rd) (flat_bys _) HB1.out HB2.out ?_); clear hS; intro v41 w hS; rw [← bys_app] at hS; have HU1 := hide hS.getOwn.rd.cells1; have HU2 := hide hS.getOwn.rd.one1; go_frame)
                | (show wpList _ _ _ (⟨_, .store 31 (.tmp 43) _, _, _, _, _⟩ :: _) _ _; (refine wpS_store1 (b := p) (T := 42) (by kernel_rfl) (hS.bring (by repeat (first | exact t0 | apply tS))) rfl rfl rfl (v := v41) rfl HU1.out HU2.out (by simp) ?_); clear hS; intro w hS; go_frame)
                | (show wpList _ _ _ (⟨_, .load 31 _, _, _, _, _⟩ :: _) _ _; refine wpList_val rfl (op_load1S (b := p) (T := 42) oneHashes ((hS.bring (by repeat (first | exact t0 | apply tS)))) rfl rfl rfl) ?_; go_frame)
                | (show wpList _ _ _ (⟨some 48, .call _, _, _, _, _⟩ :: _) _ _; refine wpList_val rfl (op_len slHash rfl rfl (v := v41) (xs := bys (outId x q.waits ++ [x])) rfl ((hS.bring (by repeat (first | exact t0 | apply tS))).getOwn.rd)) ?_; rw [HLN.out]; go_frame)
                | (show wpList _ _ _ (⟨some 49, .binOp _ _ _ _ _, _, _, _, _⟩ :: _) _ _; refine wpList_val rfl (op_igtr rfl rfl rfl HGT.out) ?_; go_frame)
                | (show wpList _ _ _ (⟨some 55, .slice _ _ _ _ _, _, _, _, _⟩ :: _) _ _; refine wpList_val rfl (op_cut slHash rfl (v := v41) (xs := bys (outId x q.waits ++ [x])) rfl ((hS.bring (by repeat (first | exact t0 | apply tS))).getOwn.rd) (l := 1) (h := _) (Or.inr rfl) (Or.inl ⟨rfl, rfl⟩) HC1.out (Nat.le_refl _)) ?_; replace hS := SepL.ownCut (T := 24) (n := 32) (v := v41) (xs := bys (outId x q.waits ++ [x])) ((hS.bring (by repeat (first | exact t0 | apply tS)))) (l := 1) HC1.out; have HK1 := hide hS.getOwn.rd.cells1; have HK2 := hide hS.getOwn.rd.one1; rw [← bys_drop] at hS; go_frame)
                | (show wpList _ _ _ (⟨_, .store 31 (.tmp 57) _, _, _, _, _⟩ :: _) _ _; (refine wpS_store1 (b := p) (T := 42) (by kernel_rfl) (hS.bring (by repeat (first | exact t0 | apply tS))) rfl rfl rfl (v := cutV 32 v41 1 (bys (outId x q.waits ++ [x])).length) rfl HK1.out HK2.out (by simp) ?_); clear hS; intro w hS; go_frame)
                )
              go_roundw
              case rel =>
                have h1 := hR_close (q := ⟨q.known, outId x q.waits ++ [x]⟩) (hS.sel (by repeat (first | exact Sel.refl | refine Sel.take (by repeat (first | exact t0 | apply tS)) ?_ | apply Sel.drop)) : SepL R base _ (.blk p 42 [I64 64, lv, v41] :: .own 24 32 lv (bys q.known) :: .own 24 32 v41 (bys (outId x q.waits ++ [x])) :: F))
                refine ⟨k + 1, by go_num, by omega, ?_⟩
                rw [HSN.out, HP.out, HLS.out]
                exact h1
              case measure => simp [intOf]; omega
    · have hk2 : k = l.length := by omega
      subst hk2
      rw [List.take_length] at hS0
      go_wp2_with fail
      refine bodyPost_end (results_none rfl _ _ _) rfl ?_
      exact hS0
set_option maxRecDepth 100000 in
set_option maxHeartbeats 4000000 in
theorem rqflush_s {p : Nat} {q : Qu} {l : List Id} (hS : SepL R base w (hR p q :: F)) (hok : QOk q) {v : Value} (hl : RdIn R base 32 v (bys l)) (h32 : Is32 l) :
    Calls Try.prog 19 #[.pointer (some ⟨p, 0, none⟩), v] w (Ret fun r w' => SepL R base w' (.own 24 32 r (bys (told q l)) :: hR p (flushQ q l) :: F)) := by
  have H32 := hide h32
  have HOK := hide hok
  have hwl := hok.wl
  obtain ⟨lv0, wv0, h⟩ := hR_open hS
  clear hS h32 hok
  have hS := h
  clear h
  go_enter Try.func19, Try.ntmps19
  go_wp2_with fail
  go_loopw [5] (fun tv wr => ∃ (k : Nat) (t : List Id) (lv wv : Value), k ≤ q.waits.length ∧ t.length ≤ 32 ∧ Hid (FlOk q l t k) ∧ Hid (Is32 t) ∧ SepL R base wr (.own 24 32 tv (bys t) :: .blk p 42 [I64 64, lv, wv] :: .own 24 32 lv (bys (adds q.known t)) :: .own 24 32 wv (bys (q.waits.drop k)) :: F)) (fun _ wr => waitLen wr p)
  case atStart => exact ⟨0, [], lv0, wv0, by omega, by simp, FlOk.start q l, by simp [Hid, Is32], (hS.nilOwn 24 32).sel (by repeat (first | exact Sel.refl | refine Sel.take (by repeat (first | exact t0 | apply tS)) ?_ | apply Sel.drop))⟩
  case round =>
    clear hS
    obtain ⟨k, t, lv, wv, hk, ht, HFL, HT32, hS⟩ := hrel
    have HTL : Hid ((bys t).length = t.length) := bys_length _
    obtain ⟨W, hW⟩ : ∃ W, q.waits.drop k = W := ⟨_, rfl⟩
    rw [hW] at hS
    have hWlen : W.length = q.waits.length - k := by rw [← hW, List.length_drop]
    have HWLN : Hid ((bys W).length = W.length) := bys_length _
    have hm0 : waitLen wr p = W.length := waitLen_of (F := .own 24 32 u5 (bys t) :: .own 24 32 lv (bys (adds q.known t)) :: F) (hS.sel (by repeat (first | exact Sel.refl | refine Sel.take (by repeat (first | exact t0 | apply tS)) ?_ | apply Sel.drop)))
    have HM0 := hide hm0
    clear hm0
    have hkl : (adds q.known t).length ≤ 64 := adds_len HOK.out.kl
    have hk32 : Is32 (adds q.known t) := HOK.out.k32.adds HT32.out
    have HKL := hide hkl
    have HK32 := hide hk32
    clear hkl hk32
    by_cases ht32 : t.length < 32
    · have HC1 : Hid (decide ((t.length : Int) < 32) = true) := decide_eq_true (by omega)
      by_cases hlt : k < q.waits.length
      · have HC2 : Hid (decide ((0 : Int) < (W.length : Int)) = true) := decide_eq_true (by omega)
        have HZL : Hid (0 < (bys W).length) := by unfold Hid; rw [HWLN.out]; omega
        have HCW : Hid (1 ≤ (bys W).length) := HZL.out
        have hz : 0 < W.length := by omega
        obtain ⟨x, hx⟩ : ∃ x, q.waits[k] = x := ⟨_, rfl⟩
        have hw0 : W = x :: q.waits.drop (k + 1) := by rw [← hW, List.drop_eq_getElem_cons hlt, hx]
        have hx32 : x.length = 32 := by rw [← hx]; exact HOK.out.w32 _ (List.getElem_mem hlt)
        have HX : Hid ((bys W)[0]'HZL.out = x.map B8) := by
          unfold Hid
          rw [bys_get HZL.out hz]
          simp only [hw0, List.getElem_cons_zero]
        have HWD : Hid (W.drop 1 = q.waits.drop (k + 1)) := by unfold Hid; rw [hw0]; rfl
        have HX0 := hide hx32
        have HX32 : Hid ((x.map B8).length = 32) := by simp [Hid, hx32]
        have HA1 : Hid (((bys t).length + (bys [x]).length) * 32 ≤ 140737488355328) := by
          unfold Hid
          rw [bys_length, bys_length, List.length_singleton]
          omega
        have HA2 : Hid ((bys t).length + (bys [x]).length ≤ maxLen) := by
          unfold Hid maxLen
          rw [bys_length, bys_length, List.length_singleton]
          omega
        have HWL1 : Hid ((W.drop 1).length < W.length) := by unfold Hid; rw [List.length_drop]; omega
        by_cases hm : x ∈ l
        · have HMK : Hid (decide (x ∈ l) = true) := decide_eq_true hm
          have hf := HFL.out.take hlt ht32 (by rw [hx]; exact hm)
          rw [hx] at hf
          have HF2 := hide hf
          have HLN2 : Hid ((t ++ [x]).length ≤ 32) := by unfold Hid; rw [List.length_append, List.length_singleton]; omega
          have HT2 : Hid (Is32 (t ++ [x])) := HT32.out.app (by simpa [Is32] using hx32)
          have HAD : Hid (adds q.known (t ++ [x]) = add1 (adds q.known t) x) := by unfold Hid; rw [adds_app, adds_one]
          clear hx hw0 hx32 hm hf hW hz
          go_wp2_with (first
            | go_big_skip
            | (show wpList _ _ _ (⟨_, .load 31 _, _, _, _, _⟩ :: _) _ _; refine wpList_val rfl (op_load1S (b := p) (T := 42) oneHashes ((hS.bring (by repeat (first | exact t0 | apply tS)))) rfl rfl rfl) ?_; go_frame)
            | (show wpList _ _ _ (⟨some 8, .call _, _, _, _, _⟩ :: _) _ _; refine wpList_val rfl (op_len slHash rfl rfl (v := u5) (xs := bys t) rfl ((hS.bring (by repeat (first | exact t0 | apply tS))).getOwn.rd)) ?_; rw [HTL.out]; go_frame)
            | (show wpList _ _ _ (⟨some 9, .binOp _ _ _ _ _, _, _, _, _⟩ :: _) _ _; refine wpList_val rfl (op_ilss rfl rfl rfl HC1.out) ?_; go_frame)
            | (show wpList _ _ _ (⟨some 15, .call _, _, _, _, _⟩ :: _) _ _; refine wpList_val rfl (op_len slHash rfl rfl (v := wv) (xs := bys W) rfl ((hS.bring (by repeat (first | exact t0 | apply tS))).getOwn.rd)) ?_; rw [HWLN.out]; go_frame)
            | (show wpList _ _ _ (⟨some 16, .binOp _ _ _ _ _, _, _, _, _⟩ :: _) _ _; refine wpList_val rfl (op_igtr rfl rfl rfl HC2.out) ?_; go_frame)
            | (show wpList _ _ _ (⟨some 22, .indexAddr _ _ _, _, _, _, _⟩ :: _) _ _; refine wpList_val rfl (op_indexAddrZ slHash rfl (v := wv) (xs := bys W) rfl rfl ((hS.bring (by repeat (first | exact t0 | apply tS))).getOwn.rd) 0 rfl HZL.out) ?_; go_frame)
            | (show wpList _ _ _ (⟨some 23, .load _ _, _, _, _, _⟩ :: _) _ _; refine wpList_val rfl (op_loadE aggHash rfl (v := wv) (xs := bys W) (k := 0) rfl ((hS.bring (by repeat (first | exact t0 | apply tS))).getOwn.rd) HZL.out) ?_; rw [HX.out]; go_frame)
            | (show wpList _ _ _ (⟨some 6, .alloc _, _, _, _, _⟩ :: _) _ _; refine wpS_alloc hS rfl rfl Try.zeroValue24 (zs := List.replicate 32 (.int .u8 0)) rfl ?_; clear hS; intro nb w hS; go_frame)
            | (show wpList _ _ _ (⟨_, .store 24 (.tmp 6) _, _, _, _, _⟩ :: _) _ _; (refine wpS_storeAll (b := nb) aggHash (hS.bring (by repeat (first | exact t0 | apply tS))) rfl rfl rfl (vs := x.map B8) rfl HX32.out (flat_B8 x) rfl ?_); clear hS; intro w hS; go_frame)
            | (show wpList _ _ _ (⟨_, .load 24 (.tmp 6), _, _, _, _⟩ :: _) _ _; refine wpList_val rfl (op_load aggHash rfl rfl (SepL.getBlk (b := nb) (T := 24) ((hS.bring (by repeat (first | exact t0 | apply tS))))).cells HX32.out) ?_; go_frame)
            | (show wpList _ _ _ (⟨some 29, .slice _ _ _ _ _, _, _, _, _⟩ :: _) _ _; refine wpList_val rfl (op_cut slHash rfl (v := wv) (xs := bys W) rfl ((hS.bring (by repeat (first | exact t0 | apply tS))).getOwn.rd) (l := 1) (h := _) (Or.inr rfl) (Or.inl ⟨rfl, rfl⟩) HCW.out (Nat.le_refl _)) ?_; replace hS := SepL.ownCut (T := 24) (n := 32) (v := wv) (xs := bys W) ((hS.bring (by repeat (first | exact t0 | apply tS)))) (l := 1) HCW.out; have HK1 := hide hS.getOwn.rd.cells1; have HK2 := hide hS.getOwn.rd.one1; rw [← bys_drop] at hS; go_frame)
            | (show wpList _ _ _ (⟨_, .store 31 (.tmp 31) _, _, _, _, _⟩ :: _) _ _; (refine wpS_store1 (b := p) (T := 42) (by kernel_rfl) (hS.bring (by repeat (first | exact t0 | apply tS))) rfl rfl rfl (v := cutV 32 wv 1 (bys W).length) rfl HK1.out HK2.out (by simp) ?_); clear hS; intro w hS; go_frame)
            | (go_at_call 25; refine Ret.calls (hS.callNo (has11_w (v := v) (l := l) (x := x) (hS.rd hl) H32.out HX0.out HMK)) ?_; clear hS; rintro r1 w ⟨rfl, hS⟩)
            | (show wpList _ _ _ (⟨some 37, .buildSlice _ _ _, _, _, _, _⟩ :: _) _ _; refine wpS_build1A slHash (by omega) hS rfl rfl (cs := x.map B8) rfl HX32.out ?_; clear hS; intro v37 w hS; go_frame)
            | (show wpList _ _ _ (⟨some 38, .call _, _, _, _, _⟩ :: _) _ _; (refine wpS_append slHash (hS.bring (by repeat (first | exact t0 | apply tS))) rfl rfl (sv := u5) (xs := bys t) (xv := v37) rfl rfl (ys := bys [x]) ((hS.bring (by repeat (first | exact t0 | apply tS))).getOwn.rd) (flat_bys _) HA1.out HA2.out ?_); clear hS; intro v38 w hS; rw [← bys_app] at hS; go_frame)
            )
          refine wp_region_text (by kernel_rfl) (by kernel_rfl) (by repeat (first | exact Clean.body | refine Clean.then ?_ | refine Clean.inBlock ?_)) ?_
          replace hS := hS.drew
          go_wp2_with (first
            | (show wpList _ _ _ (⟨some 42, .load _ _, _, _, _, _⟩ :: _) _ _; refine wpList_val rfl (op_load aggHash rfl rfl (SepL.getBlk (b := nb) (T := 24) ((hS.bring (by repeat (first | exact t0 | apply tS))))).cells HX32.out) ?_; go_frame)
            | (show wpList _ _ _ (⟨some 43, .buildSlice _ _ _, _, _, _, _⟩ :: _) _ _; refine wpS_build1A slHash (by omega) hS rfl rfl (cs := x.map B8) rfl HX32.out ?_; clear hS; intro v43 w hS; go_frame)
            | (go_at_call 34; refine Ret.calls (radd_o (p := p) (lv0 := lv) (wv := cutV 32 wv 1 (bys W).length) (L := adds q.known t) (v := v43) (x := x) (T := 24) (F := .own 24 32 v38 (bys (t ++ [x])) :: .own 24 32 (cutV 32 wv 1 (bys W).length) (bys (W.drop 1)) :: F) (hS.sel (by repeat (first | exact Sel.refl | refine Sel.take (by repeat (first | exact t0 | apply tS)) ?_ | apply Sel.drop))) HX0.out HKL.out HK32.out) ?_; clear hS; rintro r1 w ⟨lv2, hS⟩)
            | (refine fin_mk (by kernel_rfl) ?_)
            )
          go_roundw
          case rel =>
            refine ⟨k + 1, t ++ [x], lv2, cutV 32 wv 1 (bys W).length, by omega, HLN2.out, HF2, HT2, ?_⟩
            rw [HAD.out, ← HWD.out]
            exact hS.sel (by repeat (first | exact Sel.refl | refine Sel.take (by repeat (first | exact t0 | apply tS)) ?_ | apply Sel.drop))
          case measure =>
            have h1 : waitLen w p = (W.drop 1).length := waitLen_of (lv := lv2) (wv := cutV 32 wv 1 (bys W).length) (F := .own 24 32 lv2 (bys (add1 (adds q.known t) x)) :: F) (hS.sel (by repeat (first | exact Sel.refl | refine Sel.take (by repeat (first | exact t0 | apply tS)) ?_ | apply Sel.drop)))
            rw [HM0.out]
            show waitLen w p < _
            rw [h1]
            exact HWL1.out
        · have HMK : Hid (decide (x ∈ l) = false) := decide_eq_false hm
          have HF2 := hide (HFL.out.skip hlt ht32 (by rw [hx]; exact hm))
          clear hx hw0 hx32 hm hW hz
          go_wp2_with (first
            | go_big_skip
            | (show wpList _ _ _ (⟨_, .load 31 _, _, _, _, _⟩ :: _) _ _; refine wpList_val rfl (op_load1S (b := p) (T := 42) oneHashes ((hS.bring (by repeat (first | exact t0 | apply tS)))) rfl rfl rfl) ?_; go_frame)
            | (show wpList _ _ _ (⟨some 8, .call _, _, _, _, _⟩ :: _) _ _; refine wpList_val rfl (op_len slHash rfl rfl (v := u5) (xs := bys t) rfl ((hS.bring (by repeat (first | exact t0 | apply tS))).getOwn.rd)) ?_; rw [HTL.out]; go_frame)
            | (show wpList _ _ _ (⟨some 9, .binOp _ _ _ _ _, _, _, _, _⟩ :: _) _ _; refine wpList_val rfl (op_ilss rfl rfl rfl HC1.out) ?_; go_frame)
            | (show wpList _ _ _ (⟨some 15, .call _, _, _, _, _⟩ :: _) _ _; refine wpList_val rfl (op_len slHash rfl rfl (v := wv) (xs := bys W) rfl ((hS.bring (by repeat (first | exact t0 | apply tS))).getOwn.rd)) ?_; rw [HWLN.out]; go_frame)
            | (show wpList _ _ _ (⟨some 16, .binOp _ _ _ _ _, _, _, _, _⟩ :: _) _ _; refine wpList_val rfl (op_igtr rfl rfl rfl HC2.out) ?_; go_frame)
            | (show wpList _ _ _ (⟨some 22, .indexAddr _ _ _, _, _, _, _⟩ :: _) _ _; refine wpList_val rfl (op_indexAddrZ slHash rfl (v := wv) (xs := bys W) rfl rfl ((hS.bring (by repeat (first | exact t0 | apply tS))).getOwn.rd) 0 rfl HZL.out) ?_; go_frame)
            | (show wpList _ _ _ (⟨some 23, .load _ _, _, _, _, _⟩ :: _) _ _; refine wpList_val rfl (op_loadE aggHash rfl (v := wv) (xs := bys W) (k := 0) rfl ((hS.bring (by repeat (first | exact t0 | apply tS))).getOwn.rd) HZL.out) ?_; rw [HX.out]; go_frame)
            | (show wpList _ _ _ (⟨some 6, .alloc _, _, _, _, _⟩ :: _) _ _; refine wpS_alloc hS rfl rfl Try.zeroValue24 (zs := List.replicate 32 (.int .u8 0)) rfl ?_; clear hS; intro nb w hS; go_frame)
            | (show wpList _ _ _ (⟨_, .store 24 (.tmp 6) _, _, _, _, _⟩ :: _) _ _; (refine wpS_storeAll (b := nb) aggHash (hS.bring (by repeat (first | exact t0 | apply tS))) rfl rfl rfl (vs := x.map B8) rfl HX32.out (flat_B8 x) rfl ?_); clear hS; intro w hS; go_frame)
            | (show wpList _ _ _ (⟨_, .load 24 (.tmp 6), _, _, _, _⟩ :: _) _ _; refine wpList_val rfl (op_load aggHash rfl rfl (SepL.getBlk (b := nb) (T := 24) ((hS.bring (by repeat (first | exact t0 | apply tS))))).cells HX32.out) ?_; go_frame)
            | (show wpList _ _ _ (⟨some 29, .slice _ _ _ _ _, _, _, _, _⟩ :: _) _ _; refine wpList_val rfl (op_cut slHash rfl (v := wv) (xs := bys W) rfl ((hS.bring (by repeat (first | exact t0 | apply tS))).getOwn.rd) (l := 1) (h := _) (Or.inr rfl) (Or.inl ⟨rfl, rfl⟩) HCW.out (Nat.le_refl _)) ?_; replace hS := SepL.ownCut (T := 24) (n := 32) (v := wv) (xs := bys W) ((hS.bring (by repeat (first | exact t0 | apply tS)))) (l := 1) HCW.out; have HK1 := hide hS.getOwn.rd.cells1; have HK2 := hide hS.getOwn.rd.one1; rw [← bys_drop] at hS; go_frame)
            | (show wpList _ _ _ (⟨_, .store 31 (.tmp 31) _, _, _, _, _⟩ :: _) _ _; (refine wpS_store1 (b := p) (T := 42) (by kernel_rfl) (hS.bring (by repeat (first | exact t0 | apply tS))) rfl rfl rfl (v := cutV 32 wv 1 (bys W).length) rfl HK1.out HK2.out (by simp) ?_); clear hS; intro w hS; go_frame)
            | (go_at_call 25; refine Ret.calls (hS.callNo (has11_w (v := v) (l := l) (x := x) (hS.rd hl) H32.out HX0.out HMK)) ?_; clear hS; rintro r1 w ⟨rfl, hS⟩)
            | (show wpList _ _ _ (⟨some 37, .buildSlice _ _ _, _, _, _, _⟩ :: _) _ _; refine wpS_build1A slHash (by omega) hS rfl rfl (cs := x.map B8) rfl HX32.out ?_; clear hS; intro v37 w hS; go_frame)
            | (show wpList _ _ _ (⟨some 38, .call _, _, _, _, _⟩ :: _) _ _; (refine wpS_append slHash (hS.bring (by repeat (first | exact t0 | apply tS))) rfl rfl (sv := u5) (xs := bys t) (xv := v37) rfl rfl (ys := bys [x]) ((hS.bring (by repeat (first | exact t0 | apply tS))).getOwn.rd) (flat_bys _) HA1.out HA2.out ?_); clear hS; intro v38 w hS; rw [← bys_app] at hS; go_frame)
            )
          go_roundw
          case rel =>
            refine ⟨k + 1, t, lv, cutV 32 wv 1 (bys W).length, by omega, ht, HF2, HT32, ?_⟩
            rw [← HWD.out]
            exact hS.sel (by repeat (first | exact Sel.refl | refine Sel.take (by repeat (first | exact t0 | apply tS)) ?_ | apply Sel.drop))
          case measure =>
            have h1 : waitLen w p = (W.drop 1).length := waitLen_of (lv := lv) (wv := cutV 32 wv 1 (bys W).length) (F := .own 24 32 lv (bys (adds q.known t)) :: F) (hS.sel (by repeat (first | exact Sel.refl | refine Sel.take (by repeat (first | exact t0 | apply tS)) ?_ | apply Sel.drop)))
            rw [HM0.out]
            show waitLen w p < _
            rw [h1]
            exact HWL1.out
      · have HC2 : Hid (decide ((0 : Int) < (W.length : Int)) = false) := decide_eq_false (by omega)
        obtain ⟨e1, e2⟩ := HFL.out.stop (.inl (by omega))
        rw [hW] at e2
        have HE : Hid (flushQ q l = ⟨adds q.known t, W⟩) := by
          unfold Hid
          rw [e2, e1]
          rfl
        have HE1 := hide e1
        clear e1 e2 hW
        go_wp2_with (first
          | go_big_skip
          | (show wpList _ _ _ (⟨_, .load 31 _, _, _, _, _⟩ :: _) _ _; refine wpList_val rfl (op_load1S (b := p) (T := 42) oneHashes ((hS.bring (by repeat (first | exact t0 | apply tS)))) rfl rfl rfl) ?_; go_frame)
          | (show wpList _ _ _ (⟨some 8, .call _, _, _, _, _⟩ :: _) _ _; refine wpList_val rfl (op_len slHash rfl rfl (v := u5) (xs := bys t) rfl ((hS.bring (by repeat (first | exact t0 | apply tS))).getOwn.rd)) ?_; rw [HTL.out]; go_frame)
          | (show wpList _ _ _ (⟨some 9, .binOp _ _ _ _ _, _, _, _, _⟩ :: _) _ _; refine wpList_val rfl (op_ilss rfl rfl rfl HC1.out) ?_; go_frame)
          | (show wpList _ _ _ (⟨some 15, .call _, _, _, _, _⟩ :: _) _ _; refine wpList_val rfl (op_len slHash rfl rfl (v := wv) (xs := bys W) rfl ((hS.bring (by repeat (first | exact t0 | apply tS))).getOwn.rd)) ?_; rw [HWLN.out]; go_frame)
          | (show wpList _ _ _ (⟨some 16, .binOp _ _ _ _ _, _, _, _, _⟩ :: _) _ _; refine wpList_val rfl (op_igtr rfl rfl rfl HC2.out) ?_; go_frame)
          | (show wpList _ _ _ (⟨some 22, .indexAddr _ _ _, _, _, _, _⟩ :: _) _ _; refine wpList_val rfl (op_indexAddrZ slHash rfl (v := wv) (xs := bys W) rfl rfl ((hS.bring (by repeat (first | exact t0 | apply tS))).getOwn.rd) 0 rfl HZL.out) ?_; go_frame)
          | (show wpList _ _ _ (⟨some 23, .load _ _, _, _, _, _⟩ :: _) _ _; refine wpList_val rfl (op_loadE aggHash rfl (v := wv) (xs := bys W) (k := 0) rfl ((hS.bring (by repeat (first | exact t0 | apply tS))).getOwn.rd) HZL.out) ?_; rw [HX.out]; go_frame)
          | (show wpList _ _ _ (⟨some 6, .alloc _, _, _, _, _⟩ :: _) _ _; refine wpS_alloc hS rfl rfl Try.zeroValue24 (zs := List.replicate 32 (.int .u8 0)) rfl ?_; clear hS; intro nb w hS; go_frame)
          | (show wpList _ _ _ (⟨_, .store 24 (.tmp 6) _, _, _, _, _⟩ :: _) _ _; (refine wpS_storeAll (b := nb) aggHash (hS.bring (by repeat (first | exact t0 | apply tS))) rfl rfl rfl (vs := x.map B8) rfl HX32.out (flat_B8 x) rfl ?_); clear hS; intro w hS; go_frame)
          | (show wpList _ _ _ (⟨_, .load 24 (.tmp 6), _, _, _, _⟩ :: _) _ _; refine wpList_val rfl (op_load aggHash rfl rfl (SepL.getBlk (b := nb) (T := 24) ((hS.bring (by repeat (first | exact t0 | apply tS))))).cells HX32.out) ?_; go_frame)
          | (show wpList _ _ _ (⟨some 29, .slice _ _ _ _ _, _, _, _, _⟩ :: _) _ _; refine wpList_val rfl (op_cut slHash rfl (v := wv) (xs := bys W) rfl ((hS.bring (by repeat (first | exact t0 | apply tS))).getOwn.rd) (l := 1) (h := _) (Or.inr rfl) (Or.inl ⟨rfl, rfl⟩) HCW.out (Nat.le_refl _)) ?_; replace hS := SepL.ownCut (T := 24) (n := 32) (v := wv) (xs := bys W) ((hS.bring (by repeat (first | exact t0 | apply tS)))) (l := 1) HCW.out; have HK1 := hide hS.getOwn.rd.cells1; have HK2 := hide hS.getOwn.rd.one1; rw [← bys_drop] at hS; go_frame)
          | (show wpList _ _ _ (⟨_, .store 31 (.tmp 31) _, _, _, _, _⟩ :: _) _ _; (refine wpS_store1 (b := p) (T := 42) (by kernel_rfl) (hS.bring (by repeat (first | exact t0 | apply tS))) rfl rfl rfl (v := cutV 32 wv 1 (bys W).length) rfl HK1.out HK2.out (by simp) ?_); clear hS; intro w hS; go_frame)
          | (go_at_call 25; refine Ret.calls (hS.callNo (has11_w (v := v) (l := l) (x := x) (hS.rd hl) H32.out HX0.out HMK)) ?_; clear hS; rintro r1 w ⟨rfl, hS⟩)
          | (show wpList _ _ _ (⟨some 37, .buildSlice _ _ _, _, _, _, _⟩ :: _) _ _; refine wpS_build1A slHash (by omega) hS rfl rfl (cs := x.map B8) rfl HX32.out ?_; clear hS; intro v37 w hS; go_frame)
          | (show wpList _ _ _ (⟨some 38, .call _, _, _, _, _⟩ :: _) _ _; (refine wpS_append slHash (hS.bring (by repeat (first | exact t0 | apply tS))) rfl rfl (sv := u5) (xs := bys t) (xv := v37) rfl rfl (ys := bys [x]) ((hS.bring (by repeat (first | exact t0 | apply tS))).getOwn.rd) (flat_bys _) HA1.out HA2.out ?_); clear hS; intro v38 w hS; rw [← bys_app] at hS; go_frame)
          )
        go_ret
        rw [HE.out, ← HE1.out]
        have h1 := hR_close (q := ⟨adds q.known t, W⟩) (hS.sel (by repeat (first | exact Sel.refl | refine Sel.take (by repeat (first | exact t0 | apply tS)) ?_ | apply Sel.drop)) : SepL R base _ (.blk p 42 [I64 64, lv, wv] :: .own 24 32 lv (bys (adds q.known t)) :: .own 24 32 wv (bys W) :: .own 24 32 u5 (bys t) :: F))
        exact h1.sel (by repeat (first | exact Sel.refl | refine Sel.take (by repeat (first | exact t0 | apply tS)) ?_ | apply Sel.drop))
    · have HC1 : Hid (decide ((t.length : Int) < 32) = false) := decide_eq_false (by omega)
      obtain ⟨e1, e2⟩ := HFL.out.stop (.inr (by omega))
      rw [hW] at e2
      have HE : Hid (flushQ q l = ⟨adds q.known t, W⟩) := by
        unfold Hid
        rw [e2, e1]
        rfl
      have HE1 := hide e1
      clear e1 e2 hW
      go_wp2_with (first
        | go_big_skip
        | (show wpList _ _ _ (⟨_, .load 31 _, _, _, _, _⟩ :: _) _ _; refine wpList_val rfl (op_load1S (b := p) (T := 42) oneHashes ((hS.bring (by repeat (first | exact t0 | apply tS)))) rfl rfl rfl) ?_; go_frame)
        | (show wpList _ _ _ (⟨some 8, .call _, _, _, _, _⟩ :: _) _ _; refine wpList_val rfl (op_len slHash rfl rfl (v := u5) (xs := bys t) rfl ((hS.bring (by repeat (first | exact t0 | apply tS))).getOwn.rd)) ?_; rw [HTL.out]; go_frame)
        | (show wpList _ _ _ (⟨some 9, .binOp _ _ _ _ _, _, _, _, _⟩ :: _) _ _; refine wpList_val rfl (op_ilss rfl rfl rfl HC1.out) ?_; go_frame)
        | (show wpList _ _ _ (⟨some 15, .call _, _, _, _, _⟩ :: _) _ _; refine wpList_val rfl (op_len slHash rfl rfl (v := wv) (xs := bys W) rfl ((hS.bring (by repeat (first | exact t0 | apply tS))).getOwn.rd)) ?_; rw [HWLN.out]; go_frame)
        | (show wpList _ _ _ (⟨some 16, .binOp _ _ _ _ _, _, _, _, _⟩ :: _) _ _; refine wpList_val rfl (op_igtr rfl rfl rfl HC2.out) ?_; go_frame)
        | (show wpList _ _ _ (⟨some 22, .indexAddr _ _ _, _, _, _, _⟩ :: _) _ _; refine wpList_val rfl (op_indexAddrZ slHash rfl (v := wv) (xs := bys W) rfl rfl ((hS.bring (by repeat (first | exact t0 | apply tS))).getOwn.rd) 0 rfl HZL.out) ?_; go_frame)
        | (show wpList _ _ _ (⟨some 23, .load _ _, _, _, _, _⟩ :: _) _ _; refine wpList_val rfl (op_loadE aggHash rfl (v := wv) (xs := bys W) (k := 0) rfl ((hS.bring (by repeat (first | exact t0 | apply tS))).getOwn.rd) HZL.out) ?_; rw [HX.out]; go_frame)
        | (show wpList _ _ _ (⟨some 6, .alloc _, _, _, _, _⟩ :: _) _ _; refine wpS_alloc hS rfl rfl Try.zeroValue24 (zs := List.replicate 32 (.int .u8 0)) rfl ?_; clear hS; intro nb w hS; go_frame)
        | (show wpList _ _ _ (⟨_, .store 24 (.tmp 6) _, _, _, _, _⟩ :: _) _ _; (refine wpS_storeAll (b := nb) aggHash (hS.bring (by repeat (first | exact t0 | apply tS))) rfl rfl rfl (vs := x.map B8) rfl HX32.out (flat_B8 x) rfl ?_); clear hS; intro w hS; go_frame)
        | (show wpList _ _ _ (⟨_, .load 24 (.tmp 6), _, _, _, _⟩ :: _) _ _; refine wpList_val rfl (op_load aggHash rfl rfl (SepL.getBlk (b := nb) (T := 24) ((hS.bring (by repeat (first | exact t0 | apply tS))))).cells HX32.out) ?_; go_frame)
        | (show wpList _ _ _ (⟨some 29, .slice _ _ _ _ _, _, _, _, _⟩ :: _) _ _; refine wpList_val rfl (op_cut slHash rfl (v := wv) (xs := bys W) rfl ((hS.bring (by repeat (first | exact t0 | apply tS))).getOwn.rd) (l := 1) (h := _) (Or.inr rfl) (Or.inl ⟨rfl, rfl⟩) HCW.out (Nat.le_refl _)) ?_; replace hS := SepL.ownCut (T := 24) (n := 32) (v := wv) (xs := bys W) ((hS.bring (by repeat (first | exact t0 | apply tS)))) (l := 1) HCW.out; have HK1 := hide hS.getOwn.rd.cells1; have HK2 := hide hS.getOwn.rd.one1; rw [← bys_drop] at hS; go_frame)
        | (show wpList _ _ _ (⟨_, .store 31 (.tmp 31) _, _, _, _, _⟩ :: _) _ _; (refine wpS_store1 (b := p) (T := 42) (by kernel_rfl) (hS.bring (by repeat (first | exact t0 | apply tS))) rfl rfl rfl (v := cutV 32 wv 1 (bys W).length) rfl HK1.out HK2.out (by simp) ?_); clear hS; intro w hS; go_frame)
        | (go_at_call 25; refine Ret.calls (hS.callNo (has11_w (v := v) (l := l) (x := x) (hS.rd hl) H32.out HX0.out HMK)) ?_; clear hS; rintro r1 w ⟨rfl, hS⟩)
        | (show wpList _ _ _ (⟨some 37, .buildSlice _ _ _, _, _, _, _⟩ :: _) _ _; refine wpS_build1A slHash (by omega) hS rfl rfl (cs := x.map B8) rfl HX32.out ?_; clear hS; intro v37 w hS; go_frame)
        | (show wpList _ _ _ (⟨some 38, .call _, _, _, _, _⟩ :: _) _ _; (refine wpS_append slHash (hS.bring (by repeat (first | exact t0 | apply tS))) rfl rfl (sv := u5) (xs := bys t) (xv := v37) rfl rfl (ys := bys [x]) ((hS.bring (by repeat (first | exact t0 | apply tS))).getOwn.rd) (flat_bys _) HA1.out HA2.out ?_); clear hS; intro v38 w hS; rw [← bys_app] at hS; go_frame)
        )
      go_ret
      rw [HE.out, ← HE1.out]
      have h1 := hR_close (q := ⟨adds q.known t, W⟩) (hS.sel (by repeat (first | exact Sel.refl | refine Sel.take (by repeat (first | exact t0 | apply tS)) ?_ | apply Sel.drop)) : SepL R base _ (.blk p 42 [I64 64, lv, wv] :: .own 24 32 lv (bys (adds q.known t)) :: .own 24 32 wv (bys W) :: .own 24 32 u5 (bys t) :: F))
      exact h1.sel (by repeat (first | exact Sel.refl | refine Sel.take (by repeat (first | exact t0 | apply tS)) ?_ | apply Sel.drop))
end
end Go.Proofs.Ytffagjkjeojaaaa
