/- Of a list of ids those that are among others are taken out, in place. Conditions: those that stand ahead of each theorem. -/
import Derived.Deep.DeepCutAuto
import Derived.Test.YtffagjkjeojaaaaQF
namespace Go.Proofs.Ytffagjkjeojaaaa
open Go.RowKit Go.Px
section
variable {R : Nat → Prop} {base w : World} {F : List Hp}
set_option maxRecDepth 100000 in
theorem contains_s {v : Value} {l : List Id} {x : Id} (hS : SepL R base w F) (hl : RdIn R base 32 v (bys l)) (h32 : Is32 l) (hx : x.length = 32) {b : Bool} (hb : Hid (decide (x ∈ l) = b)) :
    Calls Try.prog 32 #[v, HV x] w (Ret fun r w' => r = .bool b ∧ SepL R base w' F) := by
  have HX32 : Hid ((x.map B8).length = 32) := by simp [Hid, hx]
  have HX0 := hide hx
  have H32 := hide h32
  have HG : Hid (decide ((0 : Int) ≤ ixOf x l) = b) := by
    unfold Hid
    rw [← hb.out, decide_eq_decide]
    exact ix_mem
  clear hx h32
  obtain ⟨j, hj⟩ : ∃ j, ixOf x l = j := ⟨_, rfl⟩
  rw [hj] at HG
  have HJ := hide hj
  clear hj
  unfold HV
  go_enter Try.func32, Try.ntmps32
  go_wp2_with (first
    | (show wpList _ _ _ (⟨_, .box _ _, _, _, _, _⟩ :: _) _ _; refine wpS_boxA (cs := x.map B8) hS rfl rfl rfl ?_; clear hS; intro nb w hS; go_frame)
    | (show wpList _ _ _ (⟨_, .load 24 _, _, _, _, _⟩ :: _) _ _; refine wpList_val rfl (op_load aggHash rfl rfl (SepL.getBlk (b := nb) (T := 24) ((hS.bring (by repeat (first | exact t0 | apply tS))))).cells HX32.out) ?_; go_frame)
    | (go_at_call 28; refine Ret.calls (hS.callNo (index_hash v l x _ (hS.rd hl) HX0.out H32.out)) ?_; clear hS; rintro r1 w ⟨rfl, hS⟩; rw [HJ.out])
    | (show wpList _ _ _ (⟨some 8, .binOp _ _ _ _ _, _, _, _, _⟩ :: _) _ _; refine wpList_val rfl (op_igeq rfl rfl rfl HG.out) ?_; go_frame)
    )
  go_ret
  exact ⟨rfl, hS.sel (by repeat (first | exact Sel.refl | refine Sel.take (by repeat (first | exact t0 | apply tS)) ?_ | apply Sel.drop))⟩
set_option maxRecDepth 100000 in
theorem learnF {nl : Nat} {v : Value} {r : List Id} {x : Id} (hS : SepL R base w (.blk nl 31 [v] :: F)) (hv : RdIn R base 32 v (bys r)) (hr : Is32 r) (hx : x.length = 32) {b : Bool} (hb : Hid (decide (x ∈ r) = b)) :
    Calls Try.prog 31 #[HV x, .pointer (some ⟨nl, 0, none⟩)] w (Ret fun y w' => y = .bool b ∧ SepL R base w' (.blk nl 31 [v] :: F)) := by
  have HX32 : Hid ((x.map B8).length = 32) := by simp [Hid, hx]
  have HX0 := hide hx
  clear hx
  unfold HV
  go_enter Try.func31, Try.ntmps31
  go_wp2_with (first
    | (show wpList _ _ _ (⟨_, .box _ _, _, _, _, _⟩ :: _) _ _; refine wpS_boxA (cs := x.map B8) hS rfl rfl rfl ?_; clear hS; intro nb w hS; go_frame)
    | (show wpList _ _ _ (⟨_, .load 24 _, _, _, _, _⟩ :: _) _ _; refine wpList_val rfl (op_load aggHash rfl rfl (SepL.getBlk (b := nb) (T := 24) ((hS.bring (by repeat (first | exact t0 | apply tS))))).cells HX32.out) ?_; go_frame)
    | (show wpList _ _ _ (⟨_, .load 31 _, _, _, _, _⟩ :: _) _ _; refine wpList_val rfl (op_load1S (b := nl) (T := 31) oneHashes ((hS.bring (by repeat (first | exact t0 | apply tS)))) rfl rfl rfl) ?_; go_frame)
    | (go_at_call 32; refine Ret.calls (contains_s hS hv hr HX0.out hb) ?_; clear hS; rintro r1 w ⟨rfl, hS⟩)
    )
  go_ret
  exact ⟨rfl, hS.sel (by repeat (first | exact Sel.refl | refine Sel.take (by repeat (first | exact t0 | apply tS)) ?_ | apply Sel.drop))⟩
/-- where the first one of a list is that is among others -/
def FirstIn (r l : List Id) (j : Int) : Prop := (j = -1 ∧ ∀ x ∈ l, x ∉ r) ∨ ∃ (i : Nat) (h : i < l.length), j = i ∧ (∀ x ∈ l.take i, x ∉ r) ∧ l[i] ∈ r
set_option maxRecDepth 100000 in
set_option maxHeartbeats 2000000 in
theorem indexF {nl : Nat} {v wv : Value} {r l : List Id} (hS : SepL R base w (.blk nl 31 [v] :: .own 24 32 wv (bys l) :: F)) (hv : RdIn R base 32 v (bys r)) (hr : Is32 r) (h32 : Is32 l) (hlen : l.length ≤ 1000000) :
    Calls Try.prog 37 #[wv, .func (.func 31) #[] #[.pointer (some ⟨nl, 0, none⟩)]] w (Ret fun y w' => (∃ j : Int, y = .int .i64 j ∧ FirstIn r l j) ∧ SepL R base w' (.blk nl 31 [v] :: .own 24 32 wv (bys l) :: F)) := by
  have HL : Hid ((bys l).length = l.length) := bys_length l
  have H32 := hide h32
  clear h32
  go_enter Try.func37, Try.ntmps37
  go_wp2_with (first
    | (show wpList _ _ _ (⟨_, .call ⟨.builtin .len, _, _⟩, _, _, _, _⟩ :: _) _ _; refine wpList_val rfl (op_len slHash rfl rfl (v := wv) (xs := bys l) rfl ((hS.bring (by repeat (first | exact t0 | apply tS))).getOwn.rd)) ?_; rw [HL.out]; go_frame)
    | (show wpList _ _ _ (⟨some 14, .indexAddr _ _ _, _, _, _, _⟩ :: _) _ _; refine wpList_val rfl (op_indexAddr slHash rfl (v := wv) (xs := bys l) rfl (k := k) rfl ((hS.bring (by repeat (first | exact t0 | apply tS))).getOwn.rd) hlk) ?_; go_frame)
    | (show wpList _ _ _ (⟨some 15, .load _ _, _, _, _, _⟩ :: _) _ _; refine wpList_val rfl (op_loadE aggHash rfl (v := wv) (xs := bys l) (k := k) rfl ((hS.bring (by repeat (first | exact t0 | apply tS))).getOwn.rd) hlk) ?_; rw [HX.out]; go_frame)
    | (go_at_call 31; (refine Ret.calls (learnF (nl := nl) (v := v) (x := x) (hS.bring (by repeat (first | exact t0 | apply tS))) hv hr HX0.out HB) ?_); clear hS; rintro r1 w ⟨rfl, hS⟩)
    )
  go_loopw [8] (fun i wr => ∃ k : Nat, i = .int .i64 k ∧ k ≤ l.length ∧ Hid (∀ x ∈ l.take k, x ∉ r) ∧ SepL R base wr (.blk nl 31 [v] :: .own 24 32 wv (bys l) :: F)) (fun i _ => l.length - (intOf i).toNat)
  case atStart => exact ⟨0, rfl, by omega, by simp [Hid], hS⟩
  case round =>
    clear hS
    obtain ⟨k, rfl, hk, HNO, hS⟩ := hrel
    by_cases hlt : k < l.length
    · have hlk : k < (bys l).length := by rw [HL.out]; exact hlt
      obtain ⟨x, hx⟩ : ∃ x, l[k] = x := ⟨_, rfl⟩
      have HX : Hid ((bys l)[k] = x.map B8) := by
        unfold Hid
        rw [bys_get hlk hlt, hx]
      have HX0 : Hid (x.length = 32) := by unfold Hid; rw [← hx]; exact H32.out _ (List.getElem_mem hlt)
      by_cases hm : x ∈ r
      · have HB : Hid (decide (x ∈ r) = true) := decide_eq_true hm
        have HF : Hid (FirstIn r l (k : Nat)) := .inr ⟨k, hlt, rfl, HNO.out, by rw [hx]; exact hm⟩
        clear hx hm
        go_wp2_with (first
          | (show wpList _ _ _ (⟨_, .call ⟨.builtin .len, _, _⟩, _, _, _, _⟩ :: _) _ _; refine wpList_val rfl (op_len slHash rfl rfl (v := wv) (xs := bys l) rfl ((hS.bring (by repeat (first | exact t0 | apply tS))).getOwn.rd)) ?_; rw [HL.out]; go_frame)
          | (show wpList _ _ _ (⟨some 14, .indexAddr _ _ _, _, _, _, _⟩ :: _) _ _; refine wpList_val rfl (op_indexAddr slHash rfl (v := wv) (xs := bys l) rfl (k := k) rfl ((hS.bring (by repeat (first | exact t0 | apply tS))).getOwn.rd) hlk) ?_; go_frame)
          | (show wpList _ _ _ (⟨some 15, .load _ _, _, _, _, _⟩ :: _) _ _; refine wpList_val rfl (op_loadE aggHash rfl (v := wv) (xs := bys l) (k := k) rfl ((hS.bring (by repeat (first | exact t0 | apply tS))).getOwn.rd) hlk) ?_; rw [HX.out]; go_frame)
          | (go_at_call 31; (refine Ret.calls (learnF (nl := nl) (v := v) (x := x) (hS.bring (by repeat (first | exact t0 | apply tS))) hv hr HX0.out HB) ?_); clear hS; rintro r1 w ⟨rfl, hS⟩)
          )
        go_ret
        exact ⟨⟨k, rfl, HF.out⟩, hS.sel (by repeat (first | exact Sel.refl | refine Sel.take (by repeat (first | exact t0 | apply tS)) ?_ | apply Sel.drop))⟩
      · have HB : Hid (decide (x ∈ r) = false) := decide_eq_false hm
        have HN2 : Hid (∀ y ∈ l.take (k + 1), y ∉ r) := by
          intro y hy
          rw [List.take_succ_eq_append_getElem hlt, hx] at hy
          rcases List.mem_append.1 hy with h | h
          · exact HNO.out y h
          · rw [List.mem_singleton.1 h]; exact hm
        clear hx hm
        go_wp2_with (first
          | (show wpList _ _ _ (⟨_, .call ⟨.builtin .len, _, _⟩, _, _, _, _⟩ :: _) _ _; refine wpList_val rfl (op_len slHash rfl rfl (v := wv) (xs := bys l) rfl ((hS.bring (by repeat (first | exact t0 | apply tS))).getOwn.rd)) ?_; rw [HL.out]; go_frame)
          | (show wpList _ _ _ (⟨some 14, .indexAddr _ _ _, _, _, _, _⟩ :: _) _ _; refine wpList_val rfl (op_indexAddr slHash rfl (v := wv) (xs := bys l) rfl (k := k) rfl ((hS.bring (by repeat (first | exact t0 | apply tS))).getOwn.rd) hlk) ?_; go_frame)
          | (show wpList _ _ _ (⟨some 15, .load _ _, _, _, _, _⟩ :: _) _ _; refine wpList_val rfl (op_loadE aggHash rfl (v := wv) (xs := bys l) (k := k) rfl ((hS.bring (by repeat (first | exact t0 | apply tS))).getOwn.rd) hlk) ?_; rw [HX.out]; go_frame)
          | (go_at_call 31; (refine Ret.calls (learnF (nl := nl) (v := v) (x := x) (hS.bring (by repeat (first | exact t0 | apply tS))) hv hr HX0.out HB) ?_); clear hS; rintro r1 w ⟨rfl, hS⟩)
          )
        go_roundw
        case rel => exact ⟨k + 1, by go_num, by omega, HN2, hS.sel (by repeat (first | exact Sel.refl | refine Sel.take (by repeat (first | exact t0 | apply tS)) ?_ | apply Sel.drop))⟩
        case measure => simp [intOf]; omega
    · have hk2 : k = l.length := by omega
      subst hk2
      have hno := HNO.out
      rw [List.take_length] at hno
      have HF : Hid (FirstIn r l (-1)) := .inl ⟨rfl, hno⟩
      clear hno
      go_wp2_with fail
      go_ret
      exact ⟨⟨-1, rfl, HF.out⟩, hS⟩
end
theorem outIds_none {r l : List Id} (h : ∀ x ∈ l, x ∉ r) : outIds r l = l := by
  unfold outIds
  rw [List.filter_eq_self]
  intro x hx
  exact decide_eq_true (h x hx)
theorem outs_keep {r l M : List Id} {y : Id} {i j : Nat} (hl : M.length = l.length) (h1 : M.take i = outIds r (l.take j)) (h2 : M.drop j = l.drop j) (hij : i ≤ j) (hj : j < l.length) (hy : l[j] = y) (hq : y ∉ r) :
    (M.set i y).take (i + 1) = outIds r (l.take (j + 1)) ∧ (M.set i y).drop (j + 1) = l.drop (j + 1) := by
  constructor
  · rw [List.take_succ_eq_append_getElem (by simp; omega), List.take_set_of_le (by omega), h1, List.getElem_set_self, List.take_succ_eq_append_getElem hj, hy]
    unfold outIds
    rw [List.filter_append]
    simp [hq]
  · rw [List.drop_set_of_lt (by omega), ← List.drop_drop, h2, List.drop_drop]
theorem outs_skip {r l M : List Id} {y : Id} {i j : Nat} (h1 : M.take i = outIds r (l.take j)) (h2 : M.drop j = l.drop j) (hj : j < l.length) (hy : l[j] = y) (hq : y ∈ r) :
    M.take i = outIds r (l.take (j + 1)) ∧ M.drop (j + 1) = l.drop (j + 1) := by
  constructor
  · rw [h1, List.take_succ_eq_append_getElem hj, hy]
    unfold outIds
    rw [List.filter_append]
    simp [hq]
  · rw [← List.drop_drop, h2, List.drop_drop]
section
variable {R : Nat → Prop} {base w : World} {F : List Hp}
set_option maxRecDepth 100000 in
set_option maxHeartbeats 4000000 in
theorem deleteF {nl : Nat} {v wv : Value} {r l : List Id} (hS : SepL R base w (.blk nl 31 [v] :: .own 24 32 wv (bys l) :: F)) (hv : RdIn R base 32 v (bys r)) (hr : Is32 r) (h32 : Is32 l) (hlen : l.length ≤ 1000000) :
    Calls Try.prog 30 #[wv, .func (.func 31) #[] #[.pointer (some ⟨nl, 0, none⟩)]] w (Ret fun y w' => SepL R base w' (.own 24 32 y (bys (outIds r l)) :: .blk nl 31 [v] :: F)) := by
  have H := indexF hS hv hr h32 hlen
  have H32 := hide h32
  have HL : Hid ((bys l).length = l.length) := bys_length l
  clear hS h32
  go_enter Try.func30, Try.ntmps30
  go_upto_region 2 with (first
    | (go_at_call 37; refine Ret.calls H ?_; clear H; rintro r1 w ⟨⟨j0, rfl, hfi⟩, hS⟩)
    )
  rcases hfi with ⟨rfl, hno⟩ | ⟨i0, hi0, rfl, hpre, hin⟩
  · have HW := hide (outIds_none hno)
    have HE : Hid (((-1 : Int) == -1) = true) := rfl
    clear hno
    go_wp2_with (first
      | (show wpList _ _ _ (⟨some 12, .binOp _ _ _ _ _, _, _, _, _⟩ :: _) _ _; refine wpList_val rfl (op_eqI' rfl rfl rfl HE.out) ?_; go_frame)
      )
    go_ret
    rw [HW.out]
    exact hS.sel (by repeat (first | exact Sel.refl | refine Sel.take (by repeat (first | exact t0 | apply tS)) ?_ | apply Sel.drop))
  · have HE : Hid (((i0 : Int) == -1) = false) := by
      unfold Hid
      rw [beq_eq_false_iff_ne]
      omega
    have HST : Hid (l.take i0 = outIds r (l.take (i0 + 1))) := by
      unfold Hid
      rw [List.take_succ_eq_append_getElem hi0]
      unfold outIds
      rw [List.filter_append]
      simp only [List.filter_cons, hin, not_true_eq_false, decide_false, Bool.false_eq_true, if_false, List.filter_nil, List.append_nil]
      exact (outIds_none hpre).symm
    clear hpre hin
    go_wp2_with (first
      | (show wpList _ _ _ (⟨some 12, .binOp _ _ _ _ _, _, _, _, _⟩ :: _) _ _; refine wpList_val rfl (op_eqI' rfl rfl rfl HE.out) ?_; go_frame)
      )
    go_loopw [5, 6] (fun iv jv wr => ∃ (i j : Nat) (M : List Id), iv = .int .i64 i ∧ jv = .int .i64 j ∧ i ≤ j ∧ j ≤ l.length ∧ Hid (M.length = l.length) ∧ Hid (M.take i = outIds r (l.take j)) ∧ Hid (M.drop j = l.drop j) ∧ SepL R base wr (.own 24 32 wv (bys M) :: .blk nl 31 [v] :: F)) (fun _ jv _ => l.length - (intOf jv).toNat)
    case atStart => exact ⟨i0, i0 + 1, l, rfl, by go_num, by omega, by omega, rfl, HST.out, rfl, hS.sel (by repeat (first | exact Sel.refl | refine Sel.take (by repeat (first | exact t0 | apply tS)) ?_ | apply Sel.drop))⟩
    case round =>
      clear hS HST HE
      obtain ⟨i, j, M, rfl, rfl, hij, hj, HM, H1, H2, hS⟩ := hrel
      have HML : Hid ((bys M).length = l.length) := by
        unfold Hid
        rw [bys_length]
        exact HM.out
      by_cases hlt : j < l.length
      · have hjM : j < M.length := by rw [HM.out]; exact hlt
        have hjm : j < (bys M).length := by rw [HML.out]; exact hlt
        have him : i < (bys M).length := by rw [HML.out]; omega
        have hMj : M[j] = l[j] := by
          have h1 : (M.drop j)[0]? = (l.drop j)[0]? := by rw [H2.out]
          rw [List.getElem?_drop, List.getElem?_drop, Nat.add_zero, List.getElem?_eq_getElem hjM, List.getElem?_eq_getElem hlt] at h1
          injection h1
        obtain ⟨y, hy⟩ : ∃ y, l[j] = y := ⟨_, rfl⟩
        have HX : Hid ((bys M)[j] = y.map B8) := by
          unfold Hid
          rw [bys_get hjm hjM, hMj, hy]
        have HY0 : Hid (y.length = 32) := by unfold Hid; rw [← hy]; exact H32.out _ (List.getElem_mem hlt)
        have HY32 : Hid ((y.map B8).length = 32) := by unfold Hid; rw [List.length_map]; exact HY0.out
        by_cases hq : y ∈ r
        · have HB : Hid (decide (y ∈ r) = true) := decide_eq_true hq
          obtain ⟨d1, d2⟩ := outs_skip H1.out H2.out hlt hy hq
          have D1 := hide d1
          have D2 := hide d2
          clear d1 d2 hy hMj hq hjM
          go_wp2_with (first
            | (show wpList _ _ _ (⟨some 18, .call _, _, _, _, _⟩ :: _) _ _; refine wpList_val rfl (op_len slHash rfl rfl (v := wv) (xs := bys M) rfl ((hS.bring (by repeat (first | exact t0 | apply tS))).getOwn.rd)) ?_; rw [HML.out]; go_frame)
            | (show wpList _ _ _ (⟨some 24, .indexAddr _ _ _, _, _, _, _⟩ :: _) _ _; refine wpList_val rfl (op_indexAddr slHash rfl (v := wv) (xs := bys M) rfl (k := j) rfl ((hS.bring (by repeat (first | exact t0 | apply tS))).getOwn.rd) hjm) ?_; go_frame)
            | (show wpList _ _ _ (⟨some 25, .load _ _, _, _, _, _⟩ :: _) _ _; refine wpList_val rfl (op_loadE aggHash rfl (v := wv) (xs := bys M) (k := j) rfl ((hS.bring (by repeat (first | exact t0 | apply tS))).getOwn.rd) hjm) ?_; rw [HX.out]; go_frame)
            | (show wpList _ _ _ (⟨_, .alloc _, _, _, _, _⟩ :: _) _ _; refine wpS_alloc hS rfl rfl Try.zeroValue24 (zs := List.replicate 32 (.int .u8 0)) rfl ?_; clear hS; intro nb w hS; go_frame)
            | (show wpList _ _ _ (⟨_, .store 24 (.tmp 7) _, _, _, _, _⟩ :: _) _ _; (refine wpS_storeAll (b := nb) aggHash (hS.bring (by repeat (first | exact t0 | apply tS))) rfl rfl rfl (vs := y.map B8) rfl HY32.out (flat_B8 y) rfl ?_); clear hS; intro w hS; go_frame)
            | (show wpList _ _ _ (⟨_, .load 24 (.tmp 7), _, _, _, _⟩ :: _) _ _; refine wpList_val rfl (op_load aggHash rfl rfl (SepL.getBlk (b := nb) (T := 24) ((hS.bring (by repeat (first | exact t0 | apply tS))))).cells HY32.out) ?_; go_frame)
            | (go_at_call 31; (refine Ret.calls (learnF (nl := nl) (v := v) (x := y) (hS.bring (by repeat (first | exact t0 | apply tS))) hv hr HY0.out HB) ?_); clear hS; rintro r1 w ⟨rfl, hS⟩)
            | (show wpList _ _ _ (⟨some 33, .indexAddr _ _ _, _, _, _, _⟩ :: _) _ _; refine wpList_val rfl (op_indexAddr slHash rfl (v := wv) (xs := bys M) rfl (k := i) rfl ((hS.bring (by repeat (first | exact t0 | apply tS))).getOwn.rd) him) ?_; go_frame)
            | (show wpList _ _ _ (⟨_, .store 24 (.tmp 33) _, _, _, _, _⟩ :: _) _ _; (refine wpS_storeE aggHash (hS.bring (by repeat (first | exact t0 | apply tS))) rfl rfl (v := wv) (xs := bys M) (k := i) rfl (vs := y.map B8) rfl HY32.out (flat_B8 y) him ?_); clear hS; intro w hS; rw [bys_set] at hS; go_frame)
            )
          go_roundw
          case rel => exact ⟨i, j + 1, M, rfl, by go_num, by omega, by omega, HM, D1, D2, hS.sel (by repeat (first | exact Sel.refl | refine Sel.take (by repeat (first | exact t0 | apply tS)) ?_ | apply Sel.drop))⟩
          case measure => simp [intOf]; omega
        · have HB : Hid (decide (y ∈ r) = false) := decide_eq_false hq
          obtain ⟨d1, d2⟩ := outs_keep HM.out H1.out H2.out hij hlt hy hq
          have D1 := hide d1
          have D2 := hide d2
          have HM2 : Hid ((M.set i y).length = l.length) := by
            unfold Hid
            rw [List.length_set]
            exact HM.out
          clear d1 d2 hy hMj hq hjM
          go_wp2_with (first
            | (show wpList _ _ _ (⟨some 18, .call _, _, _, _, _⟩ :: _) _ _; refine wpList_val rfl (op_len slHash rfl rfl (v := wv) (xs := bys M) rfl ((hS.bring (by repeat (first | exact t0 | apply tS))).getOwn.rd)) ?_; rw [HML.out]; go_frame)
            | (show wpList _ _ _ (⟨some 24, .indexAddr _ _ _, _, _, _, _⟩ :: _) _ _; refine wpList_val rfl (op_indexAddr slHash rfl (v := wv) (xs := bys M) rfl (k := j) rfl ((hS.bring (by repeat (first | exact t0 | apply tS))).getOwn.rd) hjm) ?_; go_frame)
            | (show wpList _ _ _ (⟨some 25, .load _ _, _, _, _, _⟩ :: _) _ _; refine wpList_val rfl (op_loadE aggHash rfl (v := wv) (xs := bys M) (k := j) rfl ((hS.bring (by repeat (first | exact t0 | apply tS))).getOwn.rd) hjm) ?_; rw [HX.out]; go_frame)
            | (show wpList _ _ _ (⟨_, .alloc _, _, _, _, _⟩ :: _) _ _; refine wpS_alloc hS rfl rfl Try.zeroValue24 (zs := List.replicate 32 (.int .u8 0)) rfl ?_; clear hS; intro nb w hS; go_frame)
            | (show wpList _ _ _ (⟨_, .store 24 (.tmp 7) _, _, _, _, _⟩ :: _) _ _; (refine wpS_storeAll (b := nb) aggHash (hS.bring (by repeat (first | exact t0 | apply tS))) rfl rfl rfl (vs := y.map B8) rfl HY32.out (flat_B8 y) rfl ?_); clear hS; intro w hS; go_frame)
            | (show wpList _ _ _ (⟨_, .load 24 (.tmp 7), _, _, _, _⟩ :: _) _ _; refine wpList_val rfl (op_load aggHash rfl rfl (SepL.getBlk (b := nb) (T := 24) ((hS.bring (by repeat (first | exact t0 | apply tS))))).cells HY32.out) ?_; go_frame)
            | (go_at_call 31; (refine Ret.calls (learnF (nl := nl) (v := v) (x := y) (hS.bring (by repeat (first | exact t0 | apply tS))) hv hr HY0.out HB) ?_); clear hS; rintro r1 w ⟨rfl, hS⟩)
            | (show wpList _ _ _ (⟨some 33, .indexAddr _ _ _, _, _, _, _⟩ :: _) _ _; refine wpList_val rfl (op_indexAddr slHash rfl (v := wv) (xs := bys M) rfl (k := i) rfl ((hS.bring (by repeat (first | exact t0 | apply tS))).getOwn.rd) him) ?_; go_frame)
            | (show wpList _ _ _ (⟨_, .store 24 (.tmp 33) _, _, _, _, _⟩ :: _) _ _; (refine wpS_storeE aggHash (hS.bring (by repeat (first | exact t0 | apply tS))) rfl rfl (v := wv) (xs := bys M) (k := i) rfl (vs := y.map B8) rfl HY32.out (flat_B8 y) him ?_); clear hS; intro w hS; rw [bys_set] at hS; go_frame)
            )
          go_roundw
          case rel => exact ⟨i + 1, j + 1, M.set i y, by go_num, by go_num, by omega, by omega, HM2, D1, D2, hS.sel (by repeat (first | exact Sel.refl | refine Sel.take (by repeat (first | exact t0 | apply tS)) ?_ | apply Sel.drop))⟩
          case measure => simp [intOf]; omega
      · have hj2 : j = l.length := by omega
        subst hj2
        rw [List.take_length] at H1
        have him : i ≤ (bys M).length := by rw [HML.out]; exact hij
        have HTL : Hid (((bys M).take i).length = i) := by
          unfold Hid
          rw [List.length_take, HML.out]
          omega
        have hcap := capV_le hS.getOwn.rd
        rw [HML.out] at hcap
        obtain ⟨A, lc, cc, hform⟩ : ∃ A l c, wv = .slice A l c := by
          obtain ⟨A, c, e, _⟩ := hS.getOwn.rd.form
          exact ⟨_, _, _, e⟩
        have HF := hide hform
        have hcap2 : l.length ≤ capV (resz wv i) := by rw [capV_resz]; exact hcap
        have HHI : Hid (cutV 32 wv i l.length = cutV 32 (resz wv i) ((bys M).take i).length l.length) := by
          unfold Hid
          rw [HTL.out, cutV_resz]
        have hii : ((bys M).take i).length ≤ l.length := by rw [HTL.out]; exact hij
        clear hform
        go_wp2_with (first
          | (show wpList _ _ _ (⟨some 18, .call _, _, _, _, _⟩ :: _) _ _; refine wpList_val rfl (op_len slHash rfl rfl (v := wv) rfl (by exact hS.getOwn.rd)) ?_; rw [HML.out]; go_frame)
          | (show wpList _ _ _ (⟨some 38, .slice _ _ _ _ _, _, _, _, _⟩ :: _) _ _; refine wpList_val rfl (op_cut slHash rfl (v := wv) rfl (by exact hS.getOwn.rd) (l := i) (h := _) (Or.inr rfl) (Or.inl ⟨rfl, rfl⟩) him (Nat.le_refl _)) ?_; rw [HML.out]; go_frame)
          | (show wpList _ _ _ (⟨_, .call ⟨.builtin .clear, _, _⟩, _, _, _, _⟩ :: _) _ _; refine wpS_clearSpare slHash Try.zeroValue24 (hS.ownTake him) rfl rfl rfl (h := l.length) HHI.out hii hcap2 ?_; clear hS; intro w3 hS; go_frame)
          | (show wpList _ _ _ (⟨some 41, .slice _ _ _ _ _, _, _, _, _⟩ :: _) _ _; refine wpList_val rfl (op_cutForm slHash rfl (v := wv) rfl ⟨_, _, _, HF.out⟩ (h := i) rfl (by omega)) ?_; rw [cut0_resz 32 wv i ⟨_, _, _, HF.out⟩]; go_frame)
          )
        go_ret
        rw [← bys_take, H1.out] at hS
        exact hS
end
end Go.Proofs.Ytffagjkjeojaaaa
