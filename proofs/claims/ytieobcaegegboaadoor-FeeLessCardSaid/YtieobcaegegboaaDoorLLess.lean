/- Who is less than whom goes through three: the law returns true. Conditions: those that stand ahead of each theorem. -/
import Derived.Test.YtieobcaegegboaaDoorGWfC
namespace Go.Proofs.YtieobcaegegboaaDoor
open Go Go.RowKit Go.Px Go.Sha Go.Calc
/-- what four comparisons and two bounds may say -/
def lawful (p q r t f s : Bool) : Bool := !(p && q) && (!(p && r) || t) && (p || r || !t) && (!(f && s) || !q)
theorem lawful_b {p q r t f s : Bool} (h1 : ¬ (p = true ∧ q = true)) (h2 : p = true → r = true → t = true) (h3 : p = false → r = false → t = false) (h4 : f = true → s = true → q = false) : lawful p q r t f s = true := by
  cases p <;> cases q <;> cases r <;> cases t <;> cases f <;> cases s <;> first | rfl | (exfalso; simp at h1 h2 h3 h4)
theorem lawful_of (a b c : Wt) : lawful (decide (lessW a b)) (decide (lessW b a)) (decide (lessW b c)) (decide (lessW a c)) (decide (a.fee ≤ b.fee)) (decide (b.size ≤ a.size)) = true := by
  apply lawful_b
  · rw [decide_eq_true_eq, decide_eq_true_eq]
    exact fun h => lessW_asym h.1 h.2
  · rw [decide_eq_true_eq, decide_eq_true_eq, decide_eq_true_eq]
    exact lessW_trans
  · rw [decide_eq_false_iff_not, decide_eq_false_iff_not, decide_eq_false_iff_not]
    exact fun h h' => lessW_not.2 (leW_trans (lessW_not.1 h') (lessW_not.1 h))
  · rw [decide_eq_true_eq, decide_eq_true_eq, decide_eq_false_iff_not]
    exact more_bytes
theorem lawful_5 {p q r t f s : Bool} (h : lawful p q r t f s = true) : (!(p && q) && (!(p && r) || t)) = true := by
  unfold lawful at h
  rw [Bool.and_eq_true, Bool.and_eq_true] at h
  exact h.1.1
theorem lawful_7 {p q r t f s : Bool} (h : lawful p q r t f s = true) : (p || r || !t) = true := by
  unfold lawful at h
  rw [Bool.and_eq_true, Bool.and_eq_true] at h
  exact h.1.2
theorem lawful_9 {p q r t f s : Bool} (h : lawful p q r t f s = true) : (!(f && s) || !q) = true := by
  unfold lawful at h
  rw [Bool.and_eq_true] at h
  exact h.2
theorem szR (a b c : Wt) : ∀ v ∈ [wV a, wV b, wV c], v.cells.size = 2 := by
  intro v hv
  simp only [List.mem_cons, List.not_mem_nil, or_false] at hv
  rcases hv with rfl | rfl | rfl <;> rfl
theorem own_three {R : Nat → Prop} {base w : World} {F : List Hp} {T : Nat} {v : Value} {a b c : Wt} (hS : SepL R base w (.own T 2 v ([wV a, wV b, wV c].map fun v => v.cells.toList) :: F)) : SepL R base w (.own T 2 v ([a, b, c].map wtC) :: F) := hS
set_option maxRecDepth 100000 in
set_option maxHeartbeats 8000000 in
theorem feeLess_w {W : World} (hK : CIn All W 3 (kTab.map W32)) (hF : CIn All W 0 (first.map W32)) {a b c : Wt} (ha : WOk a) (hb : WOk b) (hc : WOk c) :
    Calls Tryd.prog 9 #[wV a, wV b, wV c] W (Ret fun r w' => r = .bool true ∧ Chg No W w') := by
  have hS := SepL.start W
  have HLAW := hide (lawful_of a b c)
  obtain ⟨p, hp⟩ : ∃ p, decide (lessW a b) = p := ⟨_, rfl⟩
  obtain ⟨q, hq⟩ : ∃ p, decide (lessW b a) = p := ⟨_, rfl⟩
  obtain ⟨r, hr⟩ : ∃ p, decide (lessW b c) = p := ⟨_, rfl⟩
  obtain ⟨t, ht⟩ : ∃ p, decide (lessW a c) = p := ⟨_, rfl⟩
  obtain ⟨f, hf⟩ : ∃ p, decide (a.fee ≤ b.fee) = p := ⟨_, rfl⟩
  obtain ⟨s, hs⟩ : ∃ p, decide (b.size ≤ a.size) = p := ⟨_, rfl⟩
  rw [hp, hq, hr, ht, hf, hs] at HLAW
  have HA := hide ha
  have HB := hide hb
  have HC := hide hc
  have HP := hide hp
  have HQ := hide hq
  have HR := hide hr
  have HT := hide ht
  have HFE := hide hf
  have HSE := hide hs
  have HWS : Hid (∀ x ∈ [a, b, c], WOk x) := by
    intro x hx
    simp only [List.mem_cons, List.not_mem_nil, or_false] at hx
    rcases hx with rfl | rfl | rfl
    · exact ha
    · exact hb
    · exact hc
  have HW3 : Hid ([a, b, c].map wtC = [wtC a, wtC b, wtC c]) := rfl
  have CAA : Hid (∀ (R : Nat → Prop) (base : World) (F : List Hp) (w : World), SepL R base w F → Calls Tryd.prog 24 #[wV a, wV a] w (Ret fun y w' => y = .bool false ∧ SepL R base w' F)) := fun R base F w hS => less_s hS HA.out HA.out (decide_eq_false (lessW_irr a))
  have CAB : Hid (∀ (R : Nat → Prop) (base : World) (F : List Hp) (w : World), SepL R base w F → Calls Tryd.prog 24 #[wV a, wV b] w (Ret fun y w' => y = .bool p ∧ SepL R base w' F)) := fun R base F w hS => less_s hS HA.out HB.out HP
  have CBA : Hid (∀ (R : Nat → Prop) (base : World) (F : List Hp) (w : World), SepL R base w F → Calls Tryd.prog 24 #[wV b, wV a] w (Ret fun y w' => y = .bool q ∧ SepL R base w' F)) := fun R base F w hS => less_s hS HB.out HA.out HQ
  have CBC : Hid (∀ (R : Nat → Prop) (base : World) (F : List Hp) (w : World), SepL R base w F → Calls Tryd.prog 24 #[wV b, wV c] w (Ret fun y w' => y = .bool r ∧ SepL R base w' F)) := fun R base F w hS => less_s hS HB.out HC.out HR
  have CAC : Hid (∀ (R : Nat → Prop) (base : World) (F : List Hp) (w : World), SepL R base w F → Calls Tryd.prog 24 #[wV a, wV c] w (Ret fun y w' => y = .bool t ∧ SepL R base w' F)) := fun R base F w hS => less_s hS HA.out HC.out HT
  clear hp hq hr ht hf hs ha hb hc
  go_enter Tryd.func9, Tryd.ntmps9
  go_upto_region 4 with (first
    | (show wpList _ _ _ (⟨some 3, .box _ _, _, _, _, _⟩ :: _) _ _; refine wpS_boxA (cs := [U a.fee, I64 a.size]) hS rfl rfl rfl ?_; clear hS; intro n3 w hS; go_frame)
    | (show wpList _ _ _ (⟨some 4, .box _ _, _, _, _, _⟩ :: _) _ _; refine wpS_boxA (cs := [U b.fee, I64 b.size]) hS rfl rfl rfl ?_; clear hS; intro n4 w hS; go_frame)
    | (show wpList _ _ _ (⟨some 5, .box _ _, _, _, _, _⟩ :: _) _ _; refine wpS_boxA (cs := [U c.fee, I64 c.size]) hS rfl rfl rfl ?_; clear hS; intro n5 w hS; go_frame)
    | (go_at_call 11; refine Ret.calls (alive_s hS hK hF) ?_; clear hS; rintro r1 w ⟨rfl, hS⟩)
    | (show wpList _ _ _ (⟨some 13, .load _ _, _, _, _, _⟩ :: _) _ _; refine wpList_val rfl (op_load aggRWt rfl rfl (SepL.getBlk (b := n3) (T := 55) ((hS.bring (by repeat (first | exact t0 | apply tS))))).cells rfl) ?_; go_frame)
    | (show wpList _ _ _ (⟨some 14, .load _ _, _, _, _, _⟩ :: _) _ _; refine wpList_val rfl (op_load aggRWt rfl rfl (SepL.getBlk (b := n4) (T := 55) ((hS.bring (by repeat (first | exact t0 | apply tS))))).cells rfl) ?_; go_frame)
    | (show wpList _ _ _ (⟨some 15, .load _ _, _, _, _, _⟩ :: _) _ _; refine wpList_val rfl (op_load aggRWt rfl rfl (SepL.getBlk (b := n5) (T := 55) ((hS.bring (by repeat (first | exact t0 | apply tS))))).cells rfl) ?_; go_frame)
    | (show wpList _ _ _ (⟨some 16, .buildSlice _ _ _, _, _, _, _⟩ :: _) _ _; refine wpS_buildL slRWt hS rfl rfl [wV a, wV b, wV c] rfl rfl (by omega) (by omega) (szR a b c) ?_; clear hS; intro v16 w hS; replace hS := own_three hS; go_frame)
    | (go_at_call 19; refine Ret.calls (weights_o hS HWS.out (by simp)) ?_; clear hS; rintro r17 w7 hS)
    )
  rw [HW3.out] at hS
  obtain ⟨R1, h1, h2, h3, h4⟩ := hS.freezeOwn
  have HBK := hide h4
  obtain ⟨b7, o7, c7, cs, T7, fr7, he7, hro⟩ := ro_of h2 (by simp)
  have HE7 := hide he7
  have HRO := hide hro
  have HRW := hide h2
  clear hS h2 h3 h4 hro he7
  have hS := h1
  clear h1
  go_cut [8, 9, 10] (fun s8 s9 s10 wx => ∃ n8 n9 n10 : Nat, s8 = .pointer (some ⟨n8, 0, none⟩) ∧ s9 = .pointer (some ⟨n9, 0, none⟩) ∧ s10 = .pointer (some ⟨n10, 0, none⟩) ∧ SepL R1 w7 wx [.blk n8 53 [U a.fee, I64 a.size], .blk n9 53 [U b.fee, I64 b.size], .blk n10 53 [U c.fee, I64 c.size], .blk n3 55 [U a.fee, I64 a.size], .blk n4 55 [U b.fee, I64 b.size]])
  case first =>
    refine wp_region_ord (by kernel_rfl) [19, 22, 25] [[0, 1, 2, 3, 4, 5, 6, 7, 8, 9, 10, 11, 12, 13, 14], [0, 1, 2, 3, 4, 5, 6, 7, 8, 9, 11, 10, 12, 13, 14], [0, 1, 2, 3, 4, 5, 6, 7, 8, 10, 9, 11, 12, 13, 14], [0, 1, 2, 3, 4, 5, 6, 7, 8, 10, 11, 9, 12, 13, 14], [0, 1, 2, 3, 4, 5, 6, 7, 8, 11, 9, 10, 12, 13, 14], [0, 1, 2, 3, 4, 5, 6, 7, 8, 11, 10, 9, 12, 13, 14]] (by kernel_rfl) (by kernel_rfl) (fun w' => w'.heap[b7]? = some (.cells cs T7 fr7)) Up.obj (HRO.out.now hS.drew) (by repeat (first | exact Clean.body | refine Clean.then ?_ | refine Clean.inBlock ?_ | refine SegQ.clean ?_ | refine FinC.clean ?_)) ?_
    replace hS := hS.drew
    refine ord_seg (by repeat (first | exact Clean.body | refine Clean.then ?_ | refine Clean.inBlock ?_ | refine SegQ.clean ?_ | refine FinC.clean ?_)) (n := 6) (rest := [[9, 10, 11, 12, 13, 14], [9, 11, 10, 12, 13, 14], [10, 9, 11, 12, 13, 14], [10, 11, 9, 12, 13, 14], [11, 9, 10, 12, 13, 14], [11, 10, 9, 12, 13, 14]]) [0, 1, 2, 3, 4, 5, 6, 7, 8] [⟨_, _, _, _, _, _⟩, ⟨_, _, _, _, _, _⟩, ⟨_, _, _, _, _, _⟩, ⟨_, _, _, _, _, _⟩, ⟨_, _, _, _, _, _⟩, ⟨_, _, _, _, _, _⟩, ⟨_, _, _, _, _, _⟩, ⟨_, _, _, _, _, _⟩, ⟨_, _, _, _, _, _⟩] rfl (by kernel_rfl) (by simp) _ _ ?_
    go_wp2_with (first
      | (show wpList _ _ _ (⟨some 19, .indexAddr _ _ _, _, _, _, _⟩ :: _) _ _; refine wpList_val rfl (op_indexAddr slWt rfl (v := r17) (xs := [wtC a, wtC b, wtC c]) rfl (k := 0) rfl (by exact hS.rd HRW.out) (by simp)) ?_; go_frame)
      | (show wpList _ _ _ (⟨some 20, .load _ _, _, _, _, _⟩ :: _) _ _; refine wpList_val rfl (op_loadE aggWt rfl (v := r17) (xs := [wtC a, wtC b, wtC c]) (k := 0) rfl (by exact hS.rd HRW.out) (by simp)) ?_; go_frame)
      | (show wpList _ _ _ (⟨some 22, .indexAddr _ _ _, _, _, _, _⟩ :: _) _ _; refine wpList_val rfl (op_indexAddr slWt rfl (v := r17) (xs := [wtC a, wtC b, wtC c]) rfl (k := 1) rfl (by exact hS.rd HRW.out) (by simp)) ?_; go_frame)
      | (show wpList _ _ _ (⟨some 23, .load _ _, _, _, _, _⟩ :: _) _ _; refine wpList_val rfl (op_loadE aggWt rfl (v := r17) (xs := [wtC a, wtC b, wtC c]) (k := 1) rfl (by exact hS.rd HRW.out) (by simp)) ?_; go_frame)
      | (show wpList _ _ _ (⟨some 25, .indexAddr _ _ _, _, _, _, _⟩ :: _) _ _; refine wpList_val rfl (op_indexAddr slWt rfl (v := r17) (xs := [wtC a, wtC b, wtC c]) rfl (k := 2) rfl (by exact hS.rd HRW.out) (by simp)) ?_; go_frame)
      | (show wpList _ _ _ (⟨some 26, .load _ _, _, _, _, _⟩ :: _) _ _; refine wpList_val rfl (op_loadE aggWt rfl (v := r17) (xs := [wtC a, wtC b, wtC c]) (k := 2) rfl (by exact hS.rd HRW.out) (by simp)) ?_; go_frame)
      | (show wpList _ _ _ (⟨some 8, .alloc _, _, _, _, _⟩ :: _) _ _; refine wpS_alloc hS rfl rfl zeroWt (zs := [U 0, I64 0]) rfl ?_; clear hS; intro n8 w hS; go_frame)
      | (show wpList _ _ _ (⟨some 9, .alloc _, _, _, _, _⟩ :: _) _ _; refine wpS_alloc hS rfl rfl zeroWt (zs := [U 0, I64 0]) rfl ?_; clear hS; intro n9 w hS; go_frame)
      | (show wpList _ _ _ (⟨some 10, .alloc _, _, _, _, _⟩ :: _) _ _; refine wpS_alloc hS rfl rfl zeroWt (zs := [U 0, I64 0]) rfl ?_; clear hS; intro n10 w hS; go_frame)
      | (show wpList _ _ _ (⟨_, .store 53 (.tmp 8) _, _, _, _, _⟩ :: _) _ _; (refine wpS_storeAll (b := n8) aggWt (hS.bring (by repeat (first | exact t0 | apply tS))) rfl rfl rfl (vs := [U a.fee, I64 a.size]) rfl rfl (by simp [U, Value.oneCell']) rfl ?_); clear hS; intro w hS; go_frame)
      | (show wpList _ _ _ (⟨_, .store 53 (.tmp 9) _, _, _, _, _⟩ :: _) _ _; (refine wpS_storeAll (b := n9) aggWt (hS.bring (by repeat (first | exact t0 | apply tS))) rfl rfl rfl (vs := [U b.fee, I64 b.size]) rfl rfl (by simp [U, Value.oneCell']) rfl ?_); clear hS; intro w hS; go_frame)
      | (show wpList _ _ _ (⟨_, .store 53 (.tmp 10) _, _, _, _, _⟩ :: _) _ _; (refine wpS_storeAll (b := n10) aggWt (hS.bring (by repeat (first | exact t0 | apply tS))) rfl rfl rfl (vs := [U c.fee, I64 c.size]) rfl rfl (by simp [U, Value.oneCell']) rfl ?_); clear hS; intro w hS; go_frame)
      )
    refine segQ_mk (HRO.out.now hS) ?_
    refine ord_fork (n := 5) (os1 := [[9, 10, 11, 12, 13, 14], [9, 11, 10, 12, 13, 14]]) (os2 := [[10, 9, 11, 12, 13, 14], [10, 11, 9, 12, 13, 14], [11, 9, 10, 12, 13, 14], [11, 10, 9, 12, 13, 14]]) (by decide) ?_ ?_
    · skip
      refine ord_seg (by repeat (first | exact Clean.body | refine Clean.then ?_ | refine Clean.inBlock ?_ | refine SegQ.clean ?_ | refine FinC.clean ?_)) (n := 5) (rest := [[10, 11, 12, 13, 14], [11, 10, 12, 13, 14]]) [9] [⟨_, _, _, _, _, _⟩] rfl (by kernel_rfl) (by simp) _ _ ?_
      go_wp2_with (first
        | (show wpList _ _ _ (⟨some 19, .indexAddr _ _ _, _, _, _, _⟩ :: _) _ _; refine wpList_val rfl (op_indexAddr slWt rfl (v := r17) (xs := [wtC a, wtC b, wtC c]) rfl (k := 0) rfl (by exact hS.rd HRW.out) (by simp)) ?_; go_frame)
        | (show wpList _ _ _ (⟨some 20, .load _ _, _, _, _, _⟩ :: _) _ _; refine wpList_val rfl (op_loadE aggWt rfl (v := r17) (xs := [wtC a, wtC b, wtC c]) (k := 0) rfl (by exact hS.rd HRW.out) (by simp)) ?_; go_frame)
        | (show wpList _ _ _ (⟨some 22, .indexAddr _ _ _, _, _, _, _⟩ :: _) _ _; refine wpList_val rfl (op_indexAddr slWt rfl (v := r17) (xs := [wtC a, wtC b, wtC c]) rfl (k := 1) rfl (by exact hS.rd HRW.out) (by simp)) ?_; go_frame)
        | (show wpList _ _ _ (⟨some 23, .load _ _, _, _, _, _⟩ :: _) _ _; refine wpList_val rfl (op_loadE aggWt rfl (v := r17) (xs := [wtC a, wtC b, wtC c]) (k := 1) rfl (by exact hS.rd HRW.out) (by simp)) ?_; go_frame)
        | (show wpList _ _ _ (⟨some 25, .indexAddr _ _ _, _, _, _, _⟩ :: _) _ _; refine wpList_val rfl (op_indexAddr slWt rfl (v := r17) (xs := [wtC a, wtC b, wtC c]) rfl (k := 2) rfl (by exact hS.rd HRW.out) (by simp)) ?_; go_frame)
        | (show wpList _ _ _ (⟨some 26, .load _ _, _, _, _, _⟩ :: _) _ _; refine wpList_val rfl (op_loadE aggWt rfl (v := r17) (xs := [wtC a, wtC b, wtC c]) (k := 2) rfl (by exact hS.rd HRW.out) (by simp)) ?_; go_frame)
        | (show wpList _ _ _ (⟨some 8, .alloc _, _, _, _, _⟩ :: _) _ _; refine wpS_alloc hS rfl rfl zeroWt (zs := [U 0, I64 0]) rfl ?_; clear hS; intro n8 w hS; go_frame)
        | (show wpList _ _ _ (⟨some 9, .alloc _, _, _, _, _⟩ :: _) _ _; refine wpS_alloc hS rfl rfl zeroWt (zs := [U 0, I64 0]) rfl ?_; clear hS; intro n9 w hS; go_frame)
        | (show wpList _ _ _ (⟨some 10, .alloc _, _, _, _, _⟩ :: _) _ _; refine wpS_alloc hS rfl rfl zeroWt (zs := [U 0, I64 0]) rfl ?_; clear hS; intro n10 w hS; go_frame)
        | (show wpList _ _ _ (⟨_, .store 53 (.tmp 8) _, _, _, _, _⟩ :: _) _ _; (refine wpS_storeAll (b := n8) aggWt (hS.bring (by repeat (first | exact t0 | apply tS))) rfl rfl rfl (vs := [U a.fee, I64 a.size]) rfl rfl (by simp [U, Value.oneCell']) rfl ?_); clear hS; intro w hS; go_frame)
        | (show wpList _ _ _ (⟨_, .store 53 (.tmp 9) _, _, _, _, _⟩ :: _) _ _; (refine wpS_storeAll (b := n9) aggWt (hS.bring (by repeat (first | exact t0 | apply tS))) rfl rfl rfl (vs := [U b.fee, I64 b.size]) rfl rfl (by simp [U, Value.oneCell']) rfl ?_); clear hS; intro w hS; go_frame)
        | (show wpList _ _ _ (⟨_, .store 53 (.tmp 10) _, _, _, _, _⟩ :: _) _ _; (refine wpS_storeAll (b := n10) aggWt (hS.bring (by repeat (first | exact t0 | apply tS))) rfl rfl rfl (vs := [U c.fee, I64 c.size]) rfl rfl (by simp [U, Value.oneCell']) rfl ?_); clear hS; intro w hS; go_frame)
        )
      refine segQ_mk (HRO.out.now hS) ?_
      refine ord_fork (n := 4) (os1 := [[10, 11, 12, 13, 14]]) (os2 := [[11, 10, 12, 13, 14]]) (by decide) ?_ ?_
      · skip
        refine ord_seg (by repeat (first | exact Clean.body | refine Clean.then ?_ | refine Clean.inBlock ?_ | refine SegQ.clean ?_ | refine FinC.clean ?_)) (n := 2) (rest := [[13, 14]]) [10, 11, 12] [⟨_, _, _, _, _, _⟩, ⟨_, _, _, _, _, _⟩, ⟨_, _, _, _, _, _⟩] rfl (by kernel_rfl) (by simp) _ _ ?_
        go_wp2_with (first
          | (show wpList _ _ _ (⟨some 19, .indexAddr _ _ _, _, _, _, _⟩ :: _) _ _; refine wpList_val rfl (op_indexAddr slWt rfl (v := r17) (xs := [wtC a, wtC b, wtC c]) rfl (k := 0) rfl (by exact hS.rd HRW.out) (by simp)) ?_; go_frame)
          | (show wpList _ _ _ (⟨some 20, .load _ _, _, _, _, _⟩ :: _) _ _; refine wpList_val rfl (op_loadE aggWt rfl (v := r17) (xs := [wtC a, wtC b, wtC c]) (k := 0) rfl (by exact hS.rd HRW.out) (by simp)) ?_; go_frame)
          | (show wpList _ _ _ (⟨some 22, .indexAddr _ _ _, _, _, _, _⟩ :: _) _ _; refine wpList_val rfl (op_indexAddr slWt rfl (v := r17) (xs := [wtC a, wtC b, wtC c]) rfl (k := 1) rfl (by exact hS.rd HRW.out) (by simp)) ?_; go_frame)
          | (show wpList _ _ _ (⟨some 23, .load _ _, _, _, _, _⟩ :: _) _ _; refine wpList_val rfl (op_loadE aggWt rfl (v := r17) (xs := [wtC a, wtC b, wtC c]) (k := 1) rfl (by exact hS.rd HRW.out) (by simp)) ?_; go_frame)
          | (show wpList _ _ _ (⟨some 25, .indexAddr _ _ _, _, _, _, _⟩ :: _) _ _; refine wpList_val rfl (op_indexAddr slWt rfl (v := r17) (xs := [wtC a, wtC b, wtC c]) rfl (k := 2) rfl (by exact hS.rd HRW.out) (by simp)) ?_; go_frame)
          | (show wpList _ _ _ (⟨some 26, .load _ _, _, _, _, _⟩ :: _) _ _; refine wpList_val rfl (op_loadE aggWt rfl (v := r17) (xs := [wtC a, wtC b, wtC c]) (k := 2) rfl (by exact hS.rd HRW.out) (by simp)) ?_; go_frame)
          | (show wpList _ _ _ (⟨some 8, .alloc _, _, _, _, _⟩ :: _) _ _; refine wpS_alloc hS rfl rfl zeroWt (zs := [U 0, I64 0]) rfl ?_; clear hS; intro n8 w hS; go_frame)
          | (show wpList _ _ _ (⟨some 9, .alloc _, _, _, _, _⟩ :: _) _ _; refine wpS_alloc hS rfl rfl zeroWt (zs := [U 0, I64 0]) rfl ?_; clear hS; intro n9 w hS; go_frame)
          | (show wpList _ _ _ (⟨some 10, .alloc _, _, _, _, _⟩ :: _) _ _; refine wpS_alloc hS rfl rfl zeroWt (zs := [U 0, I64 0]) rfl ?_; clear hS; intro n10 w hS; go_frame)
          | (show wpList _ _ _ (⟨_, .store 53 (.tmp 8) _, _, _, _, _⟩ :: _) _ _; (refine wpS_storeAll (b := n8) aggWt (hS.bring (by repeat (first | exact t0 | apply tS))) rfl rfl rfl (vs := [U a.fee, I64 a.size]) rfl rfl (by simp [U, Value.oneCell']) rfl ?_); clear hS; intro w hS; go_frame)
          | (show wpList _ _ _ (⟨_, .store 53 (.tmp 9) _, _, _, _, _⟩ :: _) _ _; (refine wpS_storeAll (b := n9) aggWt (hS.bring (by repeat (first | exact t0 | apply tS))) rfl rfl rfl (vs := [U b.fee, I64 b.size]) rfl rfl (by simp [U, Value.oneCell']) rfl ?_); clear hS; intro w hS; go_frame)
          | (show wpList _ _ _ (⟨_, .store 53 (.tmp 10) _, _, _, _, _⟩ :: _) _ _; (refine wpS_storeAll (b := n10) aggWt (hS.bring (by repeat (first | exact t0 | apply tS))) rfl rfl rfl (vs := [U c.fee, I64 c.size]) rfl rfl (by simp [U, Value.oneCell']) rfl ?_); clear hS; intro w hS; go_frame)
          )
        refine segQ_mk (HRO.out.now hS) ?_
        refine ord_seg (by repeat (first | exact Clean.body | refine Clean.then ?_ | refine Clean.inBlock ?_ | refine SegQ.clean ?_ | refine FinC.clean ?_)) (n := 1) (rest := [[14]]) [13] [⟨_, _, _, _, _, _⟩] rfl (by kernel_rfl) (by simp) _ _ ?_
        go_wp2_with (first
          | (show wpList _ _ _ (⟨some 19, .indexAddr _ _ _, _, _, _, _⟩ :: _) _ _; refine wpList_val rfl (op_indexAddr slWt rfl (v := r17) (xs := [wtC a, wtC b, wtC c]) rfl (k := 0) rfl (by exact hS.rd HRW.out) (by simp)) ?_; go_frame)
          | (show wpList _ _ _ (⟨some 20, .load _ _, _, _, _, _⟩ :: _) _ _; refine wpList_val rfl (op_loadE aggWt rfl (v := r17) (xs := [wtC a, wtC b, wtC c]) (k := 0) rfl (by exact hS.rd HRW.out) (by simp)) ?_; go_frame)
          | (show wpList _ _ _ (⟨some 22, .indexAddr _ _ _, _, _, _, _⟩ :: _) _ _; refine wpList_val rfl (op_indexAddr slWt rfl (v := r17) (xs := [wtC a, wtC b, wtC c]) rfl (k := 1) rfl (by exact hS.rd HRW.out) (by simp)) ?_; go_frame)
          | (show wpList _ _ _ (⟨some 23, .load _ _, _, _, _, _⟩ :: _) _ _; refine wpList_val rfl (op_loadE aggWt rfl (v := r17) (xs := [wtC a, wtC b, wtC c]) (k := 1) rfl (by exact hS.rd HRW.out) (by simp)) ?_; go_frame)
          | (show wpList _ _ _ (⟨some 25, .indexAddr _ _ _, _, _, _, _⟩ :: _) _ _; refine wpList_val rfl (op_indexAddr slWt rfl (v := r17) (xs := [wtC a, wtC b, wtC c]) rfl (k := 2) rfl (by exact hS.rd HRW.out) (by simp)) ?_; go_frame)
          | (show wpList _ _ _ (⟨some 26, .load _ _, _, _, _, _⟩ :: _) _ _; refine wpList_val rfl (op_loadE aggWt rfl (v := r17) (xs := [wtC a, wtC b, wtC c]) (k := 2) rfl (by exact hS.rd HRW.out) (by simp)) ?_; go_frame)
          | (show wpList _ _ _ (⟨some 8, .alloc _, _, _, _, _⟩ :: _) _ _; refine wpS_alloc hS rfl rfl zeroWt (zs := [U 0, I64 0]) rfl ?_; clear hS; intro n8 w hS; go_frame)
          | (show wpList _ _ _ (⟨some 9, .alloc _, _, _, _, _⟩ :: _) _ _; refine wpS_alloc hS rfl rfl zeroWt (zs := [U 0, I64 0]) rfl ?_; clear hS; intro n9 w hS; go_frame)
          | (show wpList _ _ _ (⟨some 10, .alloc _, _, _, _, _⟩ :: _) _ _; refine wpS_alloc hS rfl rfl zeroWt (zs := [U 0, I64 0]) rfl ?_; clear hS; intro n10 w hS; go_frame)
          | (show wpList _ _ _ (⟨_, .store 53 (.tmp 8) _, _, _, _, _⟩ :: _) _ _; (refine wpS_storeAll (b := n8) aggWt (hS.bring (by repeat (first | exact t0 | apply tS))) rfl rfl rfl (vs := [U a.fee, I64 a.size]) rfl rfl (by simp [U, Value.oneCell']) rfl ?_); clear hS; intro w hS; go_frame)
          | (show wpList _ _ _ (⟨_, .store 53 (.tmp 9) _, _, _, _, _⟩ :: _) _ _; (refine wpS_storeAll (b := n9) aggWt (hS.bring (by repeat (first | exact t0 | apply tS))) rfl rfl rfl (vs := [U b.fee, I64 b.size]) rfl rfl (by simp [U, Value.oneCell']) rfl ?_); clear hS; intro w hS; go_frame)
          | (show wpList _ _ _ (⟨_, .store 53 (.tmp 10) _, _, _, _, _⟩ :: _) _ _; (refine wpS_storeAll (b := n10) aggWt (hS.bring (by repeat (first | exact t0 | apply tS))) rfl rfl rfl (vs := [U c.fee, I64 c.size]) rfl rfl (by simp [U, Value.oneCell']) rfl ?_); clear hS; intro w hS; go_frame)
          )
        refine segQ_mk (HRO.out.now hS) ?_
        refine ord_seg (by repeat (first | exact Clean.body | refine Clean.then ?_ | refine Clean.inBlock ?_ | refine SegQ.clean ?_ | refine FinC.clean ?_)) (n := 0) (rest := [[]]) [14] [⟨_, _, _, _, _, _⟩] rfl (by kernel_rfl) (by simp) _ _ ?_
        go_wp2_with (first
          | (show wpList _ _ _ (⟨some 19, .indexAddr _ _ _, _, _, _, _⟩ :: _) _ _; refine wpList_val rfl (op_indexAddr slWt rfl (v := r17) (xs := [wtC a, wtC b, wtC c]) rfl (k := 0) rfl (by exact hS.rd HRW.out) (by simp)) ?_; go_frame)
          | (show wpList _ _ _ (⟨some 20, .load _ _, _, _, _, _⟩ :: _) _ _; refine wpList_val rfl (op_loadE aggWt rfl (v := r17) (xs := [wtC a, wtC b, wtC c]) (k := 0) rfl (by exact hS.rd HRW.out) (by simp)) ?_; go_frame)
          | (show wpList _ _ _ (⟨some 22, .indexAddr _ _ _, _, _, _, _⟩ :: _) _ _; refine wpList_val rfl (op_indexAddr slWt rfl (v := r17) (xs := [wtC a, wtC b, wtC c]) rfl (k := 1) rfl (by exact hS.rd HRW.out) (by simp)) ?_; go_frame)
          | (show wpList _ _ _ (⟨some 23, .load _ _, _, _, _, _⟩ :: _) _ _; refine wpList_val rfl (op_loadE aggWt rfl (v := r17) (xs := [wtC a, wtC b, wtC c]) (k := 1) rfl (by exact hS.rd HRW.out) (by simp)) ?_; go_frame)
          | (show wpList _ _ _ (⟨some 25, .indexAddr _ _ _, _, _, _, _⟩ :: _) _ _; refine wpList_val rfl (op_indexAddr slWt rfl (v := r17) (xs := [wtC a, wtC b, wtC c]) rfl (k := 2) rfl (by exact hS.rd HRW.out) (by simp)) ?_; go_frame)
          | (show wpList _ _ _ (⟨some 26, .load _ _, _, _, _, _⟩ :: _) _ _; refine wpList_val rfl (op_loadE aggWt rfl (v := r17) (xs := [wtC a, wtC b, wtC c]) (k := 2) rfl (by exact hS.rd HRW.out) (by simp)) ?_; go_frame)
          | (show wpList _ _ _ (⟨some 8, .alloc _, _, _, _, _⟩ :: _) _ _; refine wpS_alloc hS rfl rfl zeroWt (zs := [U 0, I64 0]) rfl ?_; clear hS; intro n8 w hS; go_frame)
          | (show wpList _ _ _ (⟨some 9, .alloc _, _, _, _, _⟩ :: _) _ _; refine wpS_alloc hS rfl rfl zeroWt (zs := [U 0, I64 0]) rfl ?_; clear hS; intro n9 w hS; go_frame)
          | (show wpList _ _ _ (⟨some 10, .alloc _, _, _, _, _⟩ :: _) _ _; refine wpS_alloc hS rfl rfl zeroWt (zs := [U 0, I64 0]) rfl ?_; clear hS; intro n10 w hS; go_frame)
          | (show wpList _ _ _ (⟨_, .store 53 (.tmp 8) _, _, _, _, _⟩ :: _) _ _; (refine wpS_storeAll (b := n8) aggWt (hS.bring (by repeat (first | exact t0 | apply tS))) rfl rfl rfl (vs := [U a.fee, I64 a.size]) rfl rfl (by simp [U, Value.oneCell']) rfl ?_); clear hS; intro w hS; go_frame)
          | (show wpList _ _ _ (⟨_, .store 53 (.tmp 9) _, _, _, _, _⟩ :: _) _ _; (refine wpS_storeAll (b := n9) aggWt (hS.bring (by repeat (first | exact t0 | apply tS))) rfl rfl rfl (vs := [U b.fee, I64 b.size]) rfl rfl (by simp [U, Value.oneCell']) rfl ?_); clear hS; intro w hS; go_frame)
          | (show wpList _ _ _ (⟨_, .store 53 (.tmp 10) _, _, _, _, _⟩ :: _) _ _; (refine wpS_storeAll (b := n10) aggWt (hS.bring (by repeat (first | exact t0 | apply tS))) rfl rfl rfl (vs := [U c.fee, I64 c.size]) rfl rfl (by simp [U, Value.oneCell']) rfl ?_); clear hS; intro w hS; go_frame)
          )
        refine segQ_mk (HRO.out.now hS) ?_
        refine finC_mk (by kernel_rfl) (by
          intro t ht
          simp only [List.mem_cons, List.not_mem_nil, or_false] at ht
          rcases ht with rfl | rfl | rfl
          · exact stab_elE (n := 2) (k := 0) HE7.out fun w h => h
          · exact stab_elE (n := 2) (k := 1) HE7.out fun w h => h
          · exact stab_elE (n := 2) (k := 2) HE7.out fun w h => h) ?_
        go_wp2_with fail
        go_meet
        exact ⟨n8, n9, n10, rfl, rfl, rfl, hS.sel (by repeat (first | exact Sel.refl | refine Sel.take (by repeat (first | exact t0 | apply tS)) ?_ | apply Sel.drop))⟩
      · skip
        refine ord_seg (by repeat (first | exact Clean.body | refine Clean.then ?_ | refine Clean.inBlock ?_ | refine SegQ.clean ?_ | refine FinC.clean ?_)) (n := 2) (rest := [[13, 14]]) [11, 10, 12] [⟨_, _, _, _, _, _⟩, ⟨_, _, _, _, _, _⟩, ⟨_, _, _, _, _, _⟩] rfl (by kernel_rfl) (by simp) _ _ ?_
        go_wp2_with (first
          | (show wpList _ _ _ (⟨some 19, .indexAddr _ _ _, _, _, _, _⟩ :: _) _ _; refine wpList_val rfl (op_indexAddr slWt rfl (v := r17) (xs := [wtC a, wtC b, wtC c]) rfl (k := 0) rfl (by exact hS.rd HRW.out) (by simp)) ?_; go_frame)
          | (show wpList _ _ _ (⟨some 20, .load _ _, _, _, _, _⟩ :: _) _ _; refine wpList_val rfl (op_loadE aggWt rfl (v := r17) (xs := [wtC a, wtC b, wtC c]) (k := 0) rfl (by exact hS.rd HRW.out) (by simp)) ?_; go_frame)
          | (show wpList _ _ _ (⟨some 22, .indexAddr _ _ _, _, _, _, _⟩ :: _) _ _; refine wpList_val rfl (op_indexAddr slWt rfl (v := r17) (xs := [wtC a, wtC b, wtC c]) rfl (k := 1) rfl (by exact hS.rd HRW.out) (by simp)) ?_; go_frame)
          | (show wpList _ _ _ (⟨some 23, .load _ _, _, _, _, _⟩ :: _) _ _; refine wpList_val rfl (op_loadE aggWt rfl (v := r17) (xs := [wtC a, wtC b, wtC c]) (k := 1) rfl (by exact hS.rd HRW.out) (by simp)) ?_; go_frame)
          | (show wpList _ _ _ (⟨some 25, .indexAddr _ _ _, _, _, _, _⟩ :: _) _ _; refine wpList_val rfl (op_indexAddr slWt rfl (v := r17) (xs := [wtC a, wtC b, wtC c]) rfl (k := 2) rfl (by exact hS.rd HRW.out) (by simp)) ?_; go_frame)
          | (show wpList _ _ _ (⟨some 26, .load _ _, _, _, _, _⟩ :: _) _ _; refine wpList_val rfl (op_loadE aggWt rfl (v := r17) (xs := [wtC a, wtC b, wtC c]) (k := 2) rfl (by exact hS.rd HRW.out) (by simp)) ?_; go_frame)
          | (show wpList _ _ _ (⟨some 8, .alloc _, _, _, _, _⟩ :: _) _ _; refine wpS_alloc hS rfl rfl zeroWt (zs := [U 0, I64 0]) rfl ?_; clear hS; intro n8 w hS; go_frame)
          | (show wpList _ _ _ (⟨some 9, .alloc _, _, _, _, _⟩ :: _) _ _; refine wpS_alloc hS rfl rfl zeroWt (zs := [U 0, I64 0]) rfl ?_; clear hS; intro n9 w hS; go_frame)
          | (show wpList _ _ _ (⟨some 10, .alloc _, _, _, _, _⟩ :: _) _ _; refine wpS_alloc hS rfl rfl zeroWt (zs := [U 0, I64 0]) rfl ?_; clear hS; intro n10 w hS; go_frame)
          | (show wpList _ _ _ (⟨_, .store 53 (.tmp 8) _, _, _, _, _⟩ :: _) _ _; (refine wpS_storeAll (b := n8) aggWt (hS.bring (by repeat (first | exact t0 | apply tS))) rfl rfl rfl (vs := [U a.fee, I64 a.size]) rfl rfl (by simp [U, Value.oneCell']) rfl ?_); clear hS; intro w hS; go_frame)
          | (show wpList _ _ _ (⟨_, .store 53 (.tmp 9) _, _, _, _, _⟩ :: _) _ _; (refine wpS_storeAll (b := n9) aggWt (hS.bring (by repeat (first | exact t0 | apply tS))) rfl rfl rfl (vs := [U b.fee, I64 b.size]) rfl rfl (by simp [U, Value.oneCell']) rfl ?_); clear hS; intro w hS; go_frame)
          | (show wpList _ _ _ (⟨_, .store 53 (.tmp 10) _, _, _, _, _⟩ :: _) _ _; (refine wpS_storeAll (b := n10) aggWt (hS.bring (by repeat (first | exact t0 | apply tS))) rfl rfl rfl (vs := [U c.fee, I64 c.size]) rfl rfl (by simp [U, Value.oneCell']) rfl ?_); clear hS; intro w hS; go_frame)
          )
        refine segQ_mk (HRO.out.now hS) ?_
        refine ord_seg (by repeat (first | exact Clean.body | refine Clean.then ?_ | refine Clean.inBlock ?_ | refine SegQ.clean ?_ | refine FinC.clean ?_)) (n := 1) (rest := [[14]]) [13] [⟨_, _, _, _, _, _⟩] rfl (by kernel_rfl) (by simp) _ _ ?_
        go_wp2_with (first
          | (show wpList _ _ _ (⟨some 19, .indexAddr _ _ _, _, _, _, _⟩ :: _) _ _; refine wpList_val rfl (op_indexAddr slWt rfl (v := r17) (xs := [wtC a, wtC b, wtC c]) rfl (k := 0) rfl (by exact hS.rd HRW.out) (by simp)) ?_; go_frame)
          | (show wpList _ _ _ (⟨some 20, .load _ _, _, _, _, _⟩ :: _) _ _; refine wpList_val rfl (op_loadE aggWt rfl (v := r17) (xs := [wtC a, wtC b, wtC c]) (k := 0) rfl (by exact hS.rd HRW.out) (by simp)) ?_; go_frame)
          | (show wpList _ _ _ (⟨some 22, .indexAddr _ _ _, _, _, _, _⟩ :: _) _ _; refine wpList_val rfl (op_indexAddr slWt rfl (v := r17) (xs := [wtC a, wtC b, wtC c]) rfl (k := 1) rfl (by exact hS.rd HRW.out) (by simp)) ?_; go_frame)
          | (show wpList _ _ _ (⟨some 23, .load _ _, _, _, _, _⟩ :: _) _ _; refine wpList_val rfl (op_loadE aggWt rfl (v := r17) (xs := [wtC a, wtC b, wtC c]) (k := 1) rfl (by exact hS.rd HRW.out) (by simp)) ?_; go_frame)
          | (show wpList _ _ _ (⟨some 25, .indexAddr _ _ _, _, _, _, _⟩ :: _) _ _; refine wpList_val rfl (op_indexAddr slWt rfl (v := r17) (xs := [wtC a, wtC b, wtC c]) rfl (k := 2) rfl (by exact hS.rd HRW.out) (by simp)) ?_; go_frame)
          | (show wpList _ _ _ (⟨some 26, .load _ _, _, _, _, _⟩ :: _) _ _; refine wpList_val rfl (op_loadE aggWt rfl (v := r17) (xs := [wtC a, wtC b, wtC c]) (k := 2) rfl (by exact hS.rd HRW.out) (by simp)) ?_; go_frame)
          | (show wpList _ _ _ (⟨some 8, .alloc _, _, _, _, _⟩ :: _) _ _; refine wpS_alloc hS rfl rfl zeroWt (zs := [U 0, I64 0]) rfl ?_; clear hS; intro n8 w hS; go_frame)
          | (show wpList _ _ _ (⟨some 9, .alloc _, _, _, _, _⟩ :: _) _ _; refine wpS_alloc hS rfl rfl zeroWt (zs := [U 0, I64 0]) rfl ?_; clear hS; intro n9 w hS; go_frame)
          | (show wpList _ _ _ (⟨some 10, .alloc _, _, _, _, _⟩ :: _) _ _; refine wpS_alloc hS rfl rfl zeroWt (zs := [U 0, I64 0]) rfl ?_; clear hS; intro n10 w hS; go_frame)
          | (show wpList _ _ _ (⟨_, .store 53 (.tmp 8) _, _, _, _, _⟩ :: _) _ _; (refine wpS_storeAll (b := n8) aggWt (hS.bring (by repeat (first | exact t0 | apply tS))) rfl rfl rfl (vs := [U a.fee, I64 a.size]) rfl rfl (by simp [U, Value.oneCell']) rfl ?_); clear hS; intro w hS; go_frame)
          | (show wpList _ _ _ (⟨_, .store 53 (.tmp 9) _, _, _, _, _⟩ :: _) _ _; (refine wpS_storeAll (b := n9) aggWt (hS.bring (by repeat (first | exact t0 | apply tS))) rfl rfl rfl (vs := [U b.fee, I64 b.size]) rfl rfl (by simp [U, Value.oneCell']) rfl ?_); clear hS; intro w hS; go_frame)
          | (show wpList _ _ _ (⟨_, .store 53 (.tmp 10) _, _, _, _, _⟩ :: _) _ _; (refine wpS_storeAll (b := n10) aggWt (hS.bring (by repeat (first | exact t0 | apply tS))) rfl rfl rfl (vs := [U c.fee, I64 c.size]) rfl rfl (by simp [U, Value.oneCell']) rfl ?_); clear hS; intro w hS; go_frame)
          )
        refine segQ_mk (HRO.out.now hS) ?_
        refine ord_seg (by repeat (first | exact Clean.body | refine Clean.then ?_ | refine Clean.inBlock ?_ | refine SegQ.clean ?_ | refine FinC.clean ?_)) (n := 0) (rest := [[]]) [14] [⟨_, _, _, _, _, _⟩] rfl (by kernel_rfl) (by simp) _ _ ?_
        go_wp2_with (first
          | (show wpList _ _ _ (⟨some 19, .indexAddr _ _ _, _, _, _, _⟩ :: _) _ _; refine wpList_val rfl (op_indexAddr slWt rfl (v := r17) (xs := [wtC a, wtC b, wtC c]) rfl (k := 0) rfl (by exact hS.rd HRW.out) (by simp)) ?_; go_frame)
          | (show wpList _ _ _ (⟨some 20, .load _ _, _, _, _, _⟩ :: _) _ _; refine wpList_val rfl (op_loadE aggWt rfl (v := r17) (xs := [wtC a, wtC b, wtC c]) (k := 0) rfl (by exact hS.rd HRW.out) (by simp)) ?_; go_frame)
          | (show wpList _ _ _ (⟨some 22, .indexAddr _ _ _, _, _, _, _⟩ :: _) _ _; refine wpList_val rfl (op_indexAddr slWt rfl (v := r17) (xs := [wtC a, wtC b, wtC c]) rfl (k := 1) rfl (by exact hS.rd HRW.out) (by simp)) ?_; go_frame)
          | (show wpList _ _ _ (⟨some 23, .load _ _, _, _, _, _⟩ :: _) _ _; refine wpList_val rfl (op_loadE aggWt rfl (v := r17) (xs := [wtC a, wtC b, wtC c]) (k := 1) rfl (by exact hS.rd HRW.out) (by simp)) ?_; go_frame)
          | (show wpList _ _ _ (⟨some 25, .indexAddr _ _ _, _, _, _, _⟩ :: _) _ _; refine wpList_val rfl (op_indexAddr slWt rfl (v := r17) (xs := [wtC a, wtC b, wtC c]) rfl (k := 2) rfl (by exact hS.rd HRW.out) (by simp)) ?_; go_frame)
          | (show wpList _ _ _ (⟨some 26, .load _ _, _, _, _, _⟩ :: _) _ _; refine wpList_val rfl (op_loadE aggWt rfl (v := r17) (xs := [wtC a, wtC b, wtC c]) (k := 2) rfl (by exact hS.rd HRW.out) (by simp)) ?_; go_frame)
          | (show wpList _ _ _ (⟨some 8, .alloc _, _, _, _, _⟩ :: _) _ _; refine wpS_alloc hS rfl rfl zeroWt (zs := [U 0, I64 0]) rfl ?_; clear hS; intro n8 w hS; go_frame)
          | (show wpList _ _ _ (⟨some 9, .alloc _, _, _, _, _⟩ :: _) _ _; refine wpS_alloc hS rfl rfl zeroWt (zs := [U 0, I64 0]) rfl ?_; clear hS; intro n9 w hS; go_frame)
          | (show wpList _ _ _ (⟨some 10, .alloc _, _, _, _, _⟩ :: _) _ _; refine wpS_alloc hS rfl rfl zeroWt (zs := [U 0, I64 0]) rfl ?_; clear hS; intro n10 w hS; go_frame)
          | (show wpList _ _ _ (⟨_, .store 53 (.tmp 8) _, _, _, _, _⟩ :: _) _ _; (refine wpS_storeAll (b := n8) aggWt (hS.bring (by repeat (first | exact t0 | apply tS))) rfl rfl rfl (vs := [U a.fee, I64 a.size]) rfl rfl (by simp [U, Value.oneCell']) rfl ?_); clear hS; intro w hS; go_frame)
          | (show wpList _ _ _ (⟨_, .store 53 (.tmp 9) _, _, _, _, _⟩ :: _) _ _; (refine wpS_storeAll (b := n9) aggWt (hS.bring (by repeat (first | exact t0 | apply tS))) rfl rfl rfl (vs := [U b.fee, I64 b.size]) rfl rfl (by simp [U, Value.oneCell']) rfl ?_); clear hS; intro w hS; go_frame)
          | (show wpList _ _ _ (⟨_, .store 53 (.tmp 10) _, _, _, _, _⟩ :: _) _ _; (refine wpS_storeAll (b := n10) aggWt (hS.bring (by repeat (first | exact t0 | apply tS))) rfl rfl rfl (vs := [U c.fee, I64 c.size]) rfl rfl (by simp [U, Value.oneCell']) rfl ?_); clear hS; intro w hS; go_frame)
          )
        refine segQ_mk (HRO.out.now hS) ?_
        refine finC_mk (by kernel_rfl) (by
          intro t ht
          simp only [List.mem_cons, List.not_mem_nil, or_false] at ht
          rcases ht with rfl | rfl | rfl
          · exact stab_elE (n := 2) (k := 0) HE7.out fun w h => h
          · exact stab_elE (n := 2) (k := 1) HE7.out fun w h => h
          · exact stab_elE (n := 2) (k := 2) HE7.out fun w h => h) ?_
        go_wp2_with fail
        go_meet
        exact ⟨n8, n9, n10, rfl, rfl, rfl, hS.sel (by repeat (first | exact Sel.refl | refine Sel.take (by repeat (first | exact t0 | apply tS)) ?_ | apply Sel.drop))⟩
    · skip
      refine ord_fork (n := 5) (os1 := [[10, 9, 11, 12, 13, 14], [10, 11, 9, 12, 13, 14]]) (os2 := [[11, 9, 10, 12, 13, 14], [11, 10, 9, 12, 13, 14]]) (by decide) ?_ ?_
      · skip
        refine ord_seg (by repeat (first | exact Clean.body | refine Clean.then ?_ | refine Clean.inBlock ?_ | refine SegQ.clean ?_ | refine FinC.clean ?_)) (n := 5) (rest := [[9, 11, 12, 13, 14], [11, 9, 12, 13, 14]]) [10] [⟨_, _, _, _, _, _⟩] rfl (by kernel_rfl) (by simp) _ _ ?_
        go_wp2_with (first
          | (show wpList _ _ _ (⟨some 19, .indexAddr _ _ _, _, _, _, _⟩ :: _) _ _; refine wpList_val rfl (op_indexAddr slWt rfl (v := r17) (xs := [wtC a, wtC b, wtC c]) rfl (k := 0) rfl (by exact hS.rd HRW.out) (by simp)) ?_; go_frame)
          | (show wpList _ _ _ (⟨some 20, .load _ _, _, _, _, _⟩ :: _) _ _; refine wpList_val rfl (op_loadE aggWt rfl (v := r17) (xs := [wtC a, wtC b, wtC c]) (k := 0) rfl (by exact hS.rd HRW.out) (by simp)) ?_; go_frame)
          | (show wpList _ _ _ (⟨some 22, .indexAddr _ _ _, _, _, _, _⟩ :: _) _ _; refine wpList_val rfl (op_indexAddr slWt rfl (v := r17) (xs := [wtC a, wtC b, wtC c]) rfl (k := 1) rfl (by exact hS.rd HRW.out) (by simp)) ?_; go_frame)
          | (show wpList _ _ _ (⟨some 23, .load _ _, _, _, _, _⟩ :: _) _ _; refine wpList_val rfl (op_loadE aggWt rfl (v := r17) (xs := [wtC a, wtC b, wtC c]) (k := 1) rfl (by exact hS.rd HRW.out) (by simp)) ?_; go_frame)
          | (show wpList _ _ _ (⟨some 25, .indexAddr _ _ _, _, _, _, _⟩ :: _) _ _; refine wpList_val rfl (op_indexAddr slWt rfl (v := r17) (xs := [wtC a, wtC b, wtC c]) rfl (k := 2) rfl (by exact hS.rd HRW.out) (by simp)) ?_; go_frame)
          | (show wpList _ _ _ (⟨some 26, .load _ _, _, _, _, _⟩ :: _) _ _; refine wpList_val rfl (op_loadE aggWt rfl (v := r17) (xs := [wtC a, wtC b, wtC c]) (k := 2) rfl (by exact hS.rd HRW.out) (by simp)) ?_; go_frame)
          | (show wpList _ _ _ (⟨some 8, .alloc _, _, _, _, _⟩ :: _) _ _; refine wpS_alloc hS rfl rfl zeroWt (zs := [U 0, I64 0]) rfl ?_; clear hS; intro n8 w hS; go_frame)
          | (show wpList _ _ _ (⟨some 9, .alloc _, _, _, _, _⟩ :: _) _ _; refine wpS_alloc hS rfl rfl zeroWt (zs := [U 0, I64 0]) rfl ?_; clear hS; intro n9 w hS; go_frame)
          | (show wpList _ _ _ (⟨some 10, .alloc _, _, _, _, _⟩ :: _) _ _; refine wpS_alloc hS rfl rfl zeroWt (zs := [U 0, I64 0]) rfl ?_; clear hS; intro n10 w hS; go_frame)
          | (show wpList _ _ _ (⟨_, .store 53 (.tmp 8) _, _, _, _, _⟩ :: _) _ _; (refine wpS_storeAll (b := n8) aggWt (hS.bring (by repeat (first | exact t0 | apply tS))) rfl rfl rfl (vs := [U a.fee, I64 a.size]) rfl rfl (by simp [U, Value.oneCell']) rfl ?_); clear hS; intro w hS; go_frame)
          | (show wpList _ _ _ (⟨_, .store 53 (.tmp 9) _, _, _, _, _⟩ :: _) _ _; (refine wpS_storeAll (b := n9) aggWt (hS.bring (by repeat (first | exact t0 | apply tS))) rfl rfl rfl (vs := [U b.fee, I64 b.size]) rfl rfl (by simp [U, Value.oneCell']) rfl ?_); clear hS; intro w hS; go_frame)
          | (show wpList _ _ _ (⟨_, .store 53 (.tmp 10) _, _, _, _, _⟩ :: _) _ _; (refine wpS_storeAll (b := n10) aggWt (hS.bring (by repeat (first | exact t0 | apply tS))) rfl rfl rfl (vs := [U c.fee, I64 c.size]) rfl rfl (by simp [U, Value.oneCell']) rfl ?_); clear hS; intro w hS; go_frame)
          )
        refine segQ_mk (HRO.out.now hS) ?_
        refine ord_fork (n := 4) (os1 := [[9, 11, 12, 13, 14]]) (os2 := [[11, 9, 12, 13, 14]]) (by decide) ?_ ?_
        · skip
          refine ord_seg (by repeat (first | exact Clean.body | refine Clean.then ?_ | refine Clean.inBlock ?_ | refine SegQ.clean ?_ | refine FinC.clean ?_)) (n := 2) (rest := [[13, 14]]) [9, 11, 12] [⟨_, _, _, _, _, _⟩, ⟨_, _, _, _, _, _⟩, ⟨_, _, _, _, _, _⟩] rfl (by kernel_rfl) (by simp) _ _ ?_
          go_wp2_with (first
            | (show wpList _ _ _ (⟨some 19, .indexAddr _ _ _, _, _, _, _⟩ :: _) _ _; refine wpList_val rfl (op_indexAddr slWt rfl (v := r17) (xs := [wtC a, wtC b, wtC c]) rfl (k := 0) rfl (by exact hS.rd HRW.out) (by simp)) ?_; go_frame)
            | (show wpList _ _ _ (⟨some 20, .load _ _, _, _, _, _⟩ :: _) _ _; refine wpList_val rfl (op_loadE aggWt rfl (v := r17) (xs := [wtC a, wtC b, wtC c]) (k := 0) rfl (by exact hS.rd HRW.out) (by simp)) ?_; go_frame)
            | (show wpList _ _ _ (⟨some 22, .indexAddr _ _ _, _, _, _, _⟩ :: _) _ _; refine wpList_val rfl (op_indexAddr slWt rfl (v := r17) (xs := [wtC a, wtC b, wtC c]) rfl (k := 1) rfl (by exact hS.rd HRW.out) (by simp)) ?_; go_frame)
            | (show wpList _ _ _ (⟨some 23, .load _ _, _, _, _, _⟩ :: _) _ _; refine wpList_val rfl (op_loadE aggWt rfl (v := r17) (xs := [wtC a, wtC b, wtC c]) (k := 1) rfl (by exact hS.rd HRW.out) (by simp)) ?_; go_frame)
            | (show wpList _ _ _ (⟨some 25, .indexAddr _ _ _, _, _, _, _⟩ :: _) _ _; refine wpList_val rfl (op_indexAddr slWt rfl (v := r17) (xs := [wtC a, wtC b, wtC c]) rfl (k := 2) rfl (by exact hS.rd HRW.out) (by simp)) ?_; go_frame)
            | (show wpList _ _ _ (⟨some 26, .load _ _, _, _, _, _⟩ :: _) _ _; refine wpList_val rfl (op_loadE aggWt rfl (v := r17) (xs := [wtC a, wtC b, wtC c]) (k := 2) rfl (by exact hS.rd HRW.out) (by simp)) ?_; go_frame)
            | (show wpList _ _ _ (⟨some 8, .alloc _, _, _, _, _⟩ :: _) _ _; refine wpS_alloc hS rfl rfl zeroWt (zs := [U 0, I64 0]) rfl ?_; clear hS; intro n8 w hS; go_frame)
            | (show wpList _ _ _ (⟨some 9, .alloc _, _, _, _, _⟩ :: _) _ _; refine wpS_alloc hS rfl rfl zeroWt (zs := [U 0, I64 0]) rfl ?_; clear hS; intro n9 w hS; go_frame)
            | (show wpList _ _ _ (⟨some 10, .alloc _, _, _, _, _⟩ :: _) _ _; refine wpS_alloc hS rfl rfl zeroWt (zs := [U 0, I64 0]) rfl ?_; clear hS; intro n10 w hS; go_frame)
            | (show wpList _ _ _ (⟨_, .store 53 (.tmp 8) _, _, _, _, _⟩ :: _) _ _; (refine wpS_storeAll (b := n8) aggWt (hS.bring (by repeat (first | exact t0 | apply tS))) rfl rfl rfl (vs := [U a.fee, I64 a.size]) rfl rfl (by simp [U, Value.oneCell']) rfl ?_); clear hS; intro w hS; go_frame)
            | (show wpList _ _ _ (⟨_, .store 53 (.tmp 9) _, _, _, _, _⟩ :: _) _ _; (refine wpS_storeAll (b := n9) aggWt (hS.bring (by repeat (first | exact t0 | apply tS))) rfl rfl rfl (vs := [U b.fee, I64 b.size]) rfl rfl (by simp [U, Value.oneCell']) rfl ?_); clear hS; intro w hS; go_frame)
            | (show wpList _ _ _ (⟨_, .store 53 (.tmp 10) _, _, _, _, _⟩ :: _) _ _; (refine wpS_storeAll (b := n10) aggWt (hS.bring (by repeat (first | exact t0 | apply tS))) rfl rfl rfl (vs := [U c.fee, I64 c.size]) rfl rfl (by simp [U, Value.oneCell']) rfl ?_); clear hS; intro w hS; go_frame)
            )
          refine segQ_mk (HRO.out.now hS) ?_
          refine ord_seg (by repeat (first | exact Clean.body | refine Clean.then ?_ | refine Clean.inBlock ?_ | refine SegQ.clean ?_ | refine FinC.clean ?_)) (n := 1) (rest := [[14]]) [13] [⟨_, _, _, _, _, _⟩] rfl (by kernel_rfl) (by simp) _ _ ?_
          go_wp2_with (first
            | (show wpList _ _ _ (⟨some 19, .indexAddr _ _ _, _, _, _, _⟩ :: _) _ _; refine wpList_val rfl (op_indexAddr slWt rfl (v := r17) (xs := [wtC a, wtC b, wtC c]) rfl (k := 0) rfl (by exact hS.rd HRW.out) (by simp)) ?_; go_frame)
            | (show wpList _ _ _ (⟨some 20, .load _ _, _, _, _, _⟩ :: _) _ _; refine wpList_val rfl (op_loadE aggWt rfl (v := r17) (xs := [wtC a, wtC b, wtC c]) (k := 0) rfl (by exact hS.rd HRW.out) (by simp)) ?_; go_frame)
            | (show wpList _ _ _ (⟨some 22, .indexAddr _ _ _, _, _, _, _⟩ :: _) _ _; refine wpList_val rfl (op_indexAddr slWt rfl (v := r17) (xs := [wtC a, wtC b, wtC c]) rfl (k := 1) rfl (by exact hS.rd HRW.out) (by simp)) ?_; go_frame)
            | (show wpList _ _ _ (⟨some 23, .load _ _, _, _, _, _⟩ :: _) _ _; refine wpList_val rfl (op_loadE aggWt rfl (v := r17) (xs := [wtC a, wtC b, wtC c]) (k := 1) rfl (by exact hS.rd HRW.out) (by simp)) ?_; go_frame)
            | (show wpList _ _ _ (⟨some 25, .indexAddr _ _ _, _, _, _, _⟩ :: _) _ _; refine wpList_val rfl (op_indexAddr slWt rfl (v := r17) (xs := [wtC a, wtC b, wtC c]) rfl (k := 2) rfl (by exact hS.rd HRW.out) (by simp)) ?_; go_frame)
            | (show wpList _ _ _ (⟨some 26, .load _ _, _, _, _, _⟩ :: _) _ _; refine wpList_val rfl (op_loadE aggWt rfl (v := r17) (xs := [wtC a, wtC b, wtC c]) (k := 2) rfl (by exact hS.rd HRW.out) (by simp)) ?_; go_frame)
            | (show wpList _ _ _ (⟨some 8, .alloc _, _, _, _, _⟩ :: _) _ _; refine wpS_alloc hS rfl rfl zeroWt (zs := [U 0, I64 0]) rfl ?_; clear hS; intro n8 w hS; go_frame)
            | (show wpList _ _ _ (⟨some 9, .alloc _, _, _, _, _⟩ :: _) _ _; refine wpS_alloc hS rfl rfl zeroWt (zs := [U 0, I64 0]) rfl ?_; clear hS; intro n9 w hS; go_frame)
            | (show wpList _ _ _ (⟨some 10, .alloc _, _, _, _, _⟩ :: _) _ _; refine wpS_alloc hS rfl rfl zeroWt (zs := [U 0, I64 0]) rfl ?_; clear hS; intro n10 w hS; go_frame)
            | (show wpList _ _ _ (⟨_, .store 53 (.tmp 8) _, _, _, _, _⟩ :: _) _ _; (refine wpS_storeAll (b := n8) aggWt (hS.bring (by repeat (first | exact t0 | apply tS))) rfl rfl rfl (vs := [U a.fee, I64 a.size]) rfl rfl (by simp [U, Value.oneCell']) rfl ?_); clear hS; intro w hS; go_frame)
            | (show wpList _ _ _ (⟨_, .store 53 (.tmp 9) _, _, _, _, _⟩ :: _) _ _; (refine wpS_storeAll (b := n9) aggWt (hS.bring (by repeat (first | exact t0 | apply tS))) rfl rfl rfl (vs := [U b.fee, I64 b.size]) rfl rfl (by simp [U, Value.oneCell']) rfl ?_); clear hS; intro w hS; go_frame)
            | (show wpList _ _ _ (⟨_, .store 53 (.tmp 10) _, _, _, _, _⟩ :: _) _ _; (refine wpS_storeAll (b := n10) aggWt (hS.bring (by repeat (first | exact t0 | apply tS))) rfl rfl rfl (vs := [U c.fee, I64 c.size]) rfl rfl (by simp [U, Value.oneCell']) rfl ?_); clear hS; intro w hS; go_frame)
            )
          refine segQ_mk (HRO.out.now hS) ?_
          refine ord_seg (by repeat (first | exact Clean.body | refine Clean.then ?_ | refine Clean.inBlock ?_ | refine SegQ.clean ?_ | refine FinC.clean ?_)) (n := 0) (rest := [[]]) [14] [⟨_, _, _, _, _, _⟩] rfl (by kernel_rfl) (by simp) _ _ ?_
          go_wp2_with (first
            | (show wpList _ _ _ (⟨some 19, .indexAddr _ _ _, _, _, _, _⟩ :: _) _ _; refine wpList_val rfl (op_indexAddr slWt rfl (v := r17) (xs := [wtC a, wtC b, wtC c]) rfl (k := 0) rfl (by exact hS.rd HRW.out) (by simp)) ?_; go_frame)
            | (show wpList _ _ _ (⟨some 20, .load _ _, _, _, _, _⟩ :: _) _ _; refine wpList_val rfl (op_loadE aggWt rfl (v := r17) (xs := [wtC a, wtC b, wtC c]) (k := 0) rfl (by exact hS.rd HRW.out) (by simp)) ?_; go_frame)
            | (show wpList _ _ _ (⟨some 22, .indexAddr _ _ _, _, _, _, _⟩ :: _) _ _; refine wpList_val rfl (op_indexAddr slWt rfl (v := r17) (xs := [wtC a, wtC b, wtC c]) rfl (k := 1) rfl (by exact hS.rd HRW.out) (by simp)) ?_; go_frame)
            | (show wpList _ _ _ (⟨some 23, .load _ _, _, _, _, _⟩ :: _) _ _; refine wpList_val rfl (op_loadE aggWt rfl (v := r17) (xs := [wtC a, wtC b, wtC c]) (k := 1) rfl (by exact hS.rd HRW.out) (by simp)) ?_; go_frame)
            | (show wpList _ _ _ (⟨some 25, .indexAddr _ _ _, _, _, _, _⟩ :: _) _ _; refine wpList_val rfl (op_indexAddr slWt rfl (v := r17) (xs := [wtC a, wtC b, wtC c]) rfl (k := 2) rfl (by exact hS.rd HRW.out) (by simp)) ?_; go_frame)
            | (show wpList _ _ _ (⟨some 26, .load _ _, _, _, _, _⟩ :: _) _ _; refine wpList_val rfl (op_loadE aggWt rfl (v := r17) (xs := [wtC a, wtC b, wtC c]) (k := 2) rfl (by exact hS.rd HRW.out) (by simp)) ?_; go_frame)
            | (show wpList _ _ _ (⟨some 8, .alloc _, _, _, _, _⟩ :: _) _ _; refine wpS_alloc hS rfl rfl zeroWt (zs := [U 0, I64 0]) rfl ?_; clear hS; intro n8 w hS; go_frame)
            | (show wpList _ _ _ (⟨some 9, .alloc _, _, _, _, _⟩ :: _) _ _; refine wpS_alloc hS rfl rfl zeroWt (zs := [U 0, I64 0]) rfl ?_; clear hS; intro n9 w hS; go_frame)
            | (show wpList _ _ _ (⟨some 10, .alloc _, _, _, _, _⟩ :: _) _ _; refine wpS_alloc hS rfl rfl zeroWt (zs := [U 0, I64 0]) rfl ?_; clear hS; intro n10 w hS; go_frame)
            | (show wpList _ _ _ (⟨_, .store 53 (.tmp 8) _, _, _, _, _⟩ :: _) _ _; (refine wpS_storeAll (b := n8) aggWt (hS.bring (by repeat (first | exact t0 | apply tS))) rfl rfl rfl (vs := [U a.fee, I64 a.size]) rfl rfl (by simp [U, Value.oneCell']) rfl ?_); clear hS; intro w hS; go_frame)
            | (show wpList _ _ _ (⟨_, .store 53 (.tmp 9) _, _, _, _, _⟩ :: _) _ _; (refine wpS_storeAll (b := n9) aggWt (hS.bring (by repeat (first | exact t0 | apply tS))) rfl rfl rfl (vs := [U b.fee, I64 b.size]) rfl rfl (by simp [U, Value.oneCell']) rfl ?_); clear hS; intro w hS; go_frame)
            | (show wpList _ _ _ (⟨_, .store 53 (.tmp 10) _, _, _, _, _⟩ :: _) _ _; (refine wpS_storeAll (b := n10) aggWt (hS.bring (by repeat (first | exact t0 | apply tS))) rfl rfl rfl (vs := [U c.fee, I64 c.size]) rfl rfl (by simp [U, Value.oneCell']) rfl ?_); clear hS; intro w hS; go_frame)
            )
          refine segQ_mk (HRO.out.now hS) ?_
          refine finC_mk (by kernel_rfl) (by
            intro t ht
            simp only [List.mem_cons, List.not_mem_nil, or_false] at ht
            rcases ht with rfl | rfl | rfl
            · exact stab_elE (n := 2) (k := 0) HE7.out fun w h => h
            · exact stab_elE (n := 2) (k := 1) HE7.out fun w h => h
            · exact stab_elE (n := 2) (k := 2) HE7.out fun w h => h) ?_
          go_wp2_with fail
          go_meet
          exact ⟨n8, n9, n10, rfl, rfl, rfl, hS.sel (by repeat (first | exact Sel.refl | refine Sel.take (by repeat (first | exact t0 | apply tS)) ?_ | apply Sel.drop))⟩
        · skip
          refine ord_seg (by repeat (first | exact Clean.body | refine Clean.then ?_ | refine Clean.inBlock ?_ | refine SegQ.clean ?_ | refine FinC.clean ?_)) (n := 2) (rest := [[13, 14]]) [11, 9, 12] [⟨_, _, _, _, _, _⟩, ⟨_, _, _, _, _, _⟩, ⟨_, _, _, _, _, _⟩] rfl (by kernel_rfl) (by simp) _ _ ?_
          go_wp2_with (first
            | (show wpList _ _ _ (⟨some 19, .indexAddr _ _ _, _, _, _, _⟩ :: _) _ _; refine wpList_val rfl (op_indexAddr slWt rfl (v := r17) (xs := [wtC a, wtC b, wtC c]) rfl (k := 0) rfl (by exact hS.rd HRW.out) (by simp)) ?_; go_frame)
            | (show wpList _ _ _ (⟨some 20, .load _ _, _, _, _, _⟩ :: _) _ _; refine wpList_val rfl (op_loadE aggWt rfl (v := r17) (xs := [wtC a, wtC b, wtC c]) (k := 0) rfl (by exact hS.rd HRW.out) (by simp)) ?_; go_frame)
            | (show wpList _ _ _ (⟨some 22, .indexAddr _ _ _, _, _, _, _⟩ :: _) _ _; refine wpList_val rfl (op_indexAddr slWt rfl (v := r17) (xs := [wtC a, wtC b, wtC c]) rfl (k := 1) rfl (by exact hS.rd HRW.out) (by simp)) ?_; go_frame)
            | (show wpList _ _ _ (⟨some 23, .load _ _, _, _, _, _⟩ :: _) _ _; refine wpList_val rfl (op_loadE aggWt rfl (v := r17) (xs := [wtC a, wtC b, wtC c]) (k := 1) rfl (by exact hS.rd HRW.out) (by simp)) ?_; go_frame)
            | (show wpList _ _ _ (⟨some 25, .indexAddr _ _ _, _, _, _, _⟩ :: _) _ _; refine wpList_val rfl (op_indexAddr slWt rfl (v := r17) (xs := [wtC a, wtC b, wtC c]) rfl (k := 2) rfl (by exact hS.rd HRW.out) (by simp)) ?_; go_frame)
            | (show wpList _ _ _ (⟨some 26, .load _ _, _, _, _, _⟩ :: _) _ _; refine wpList_val rfl (op_loadE aggWt rfl (v := r17) (xs := [wtC a, wtC b, wtC c]) (k := 2) rfl (by exact hS.rd HRW.out) (by simp)) ?_; go_frame)
            | (show wpList _ _ _ (⟨some 8, .alloc _, _, _, _, _⟩ :: _) _ _; refine wpS_alloc hS rfl rfl zeroWt (zs := [U 0, I64 0]) rfl ?_; clear hS; intro n8 w hS; go_frame)
            | (show wpList _ _ _ (⟨some 9, .alloc _, _, _, _, _⟩ :: _) _ _; refine wpS_alloc hS rfl rfl zeroWt (zs := [U 0, I64 0]) rfl ?_; clear hS; intro n9 w hS; go_frame)
            | (show wpList _ _ _ (⟨some 10, .alloc _, _, _, _, _⟩ :: _) _ _; refine wpS_alloc hS rfl rfl zeroWt (zs := [U 0, I64 0]) rfl ?_; clear hS; intro n10 w hS; go_frame)
            | (show wpList _ _ _ (⟨_, .store 53 (.tmp 8) _, _, _, _, _⟩ :: _) _ _; (refine wpS_storeAll (b := n8) aggWt (hS.bring (by repeat (first | exact t0 | apply tS))) rfl rfl rfl (vs := [U a.fee, I64 a.size]) rfl rfl (by simp [U, Value.oneCell']) rfl ?_); clear hS; intro w hS; go_frame)
            | (show wpList _ _ _ (⟨_, .store 53 (.tmp 9) _, _, _, _, _⟩ :: _) _ _; (refine wpS_storeAll (b := n9) aggWt (hS.bring (by repeat (first | exact t0 | apply tS))) rfl rfl rfl (vs := [U b.fee, I64 b.size]) rfl rfl (by simp [U, Value.oneCell']) rfl ?_); clear hS; intro w hS; go_frame)
            | (show wpList _ _ _ (⟨_, .store 53 (.tmp 10) _, _, _, _, _⟩ :: _) _ _; (refine wpS_storeAll (b := n10) aggWt (hS.bring (by repeat (first | exact t0 | apply tS))) rfl rfl rfl (vs := [U c.fee, I64 c.size]) rfl rfl (by simp [U, Value.oneCell']) rfl ?_); clear hS; intro w hS; go_frame)
            )
          refine segQ_mk (HRO.out.now hS) ?_
          refine ord_seg (by repeat (first | exact Clean.body | refine Clean.then ?_ | refine Clean.inBlock ?_ | refine SegQ.clean ?_ | refine FinC.clean ?_)) (n := 1) (rest := [[14]]) [13] [⟨_, _, _, _, _, _⟩] rfl (by kernel_rfl) (by simp) _ _ ?_
          go_wp2_with (first
            | (show wpList _ _ _ (⟨some 19, .indexAddr _ _ _, _, _, _, _⟩ :: _) _ _; refine wpList_val rfl (op_indexAddr slWt rfl (v := r17) (xs := [wtC a, wtC b, wtC c]) rfl (k := 0) rfl (by exact hS.rd HRW.out) (by simp)) ?_; go_frame)
            | (show wpList _ _ _ (⟨some 20, .load _ _, _, _, _, _⟩ :: _) _ _; refine wpList_val rfl (op_loadE aggWt rfl (v := r17) (xs := [wtC a, wtC b, wtC c]) (k := 0) rfl (by exact hS.rd HRW.out) (by simp)) ?_; go_frame)
            | (show wpList _ _ _ (⟨some 22, .indexAddr _ _ _, _, _, _, _⟩ :: _) _ _; refine wpList_val rfl (op_indexAddr slWt rfl (v := r17) (xs := [wtC a, wtC b, wtC c]) rfl (k := 1) rfl (by exact hS.rd HRW.out) (by simp)) ?_; go_frame)
            | (show wpList _ _ _ (⟨some 23, .load _ _, _, _, _, _⟩ :: _) _ _; refine wpList_val rfl (op_loadE aggWt rfl (v := r17) (xs := [wtC a, wtC b, wtC c]) (k := 1) rfl (by exact hS.rd HRW.out) (by simp)) ?_; go_frame)
            | (show wpList _ _ _ (⟨some 25, .indexAddr _ _ _, _, _, _, _⟩ :: _) _ _; refine wpList_val rfl (op_indexAddr slWt rfl (v := r17) (xs := [wtC a, wtC b, wtC c]) rfl (k := 2) rfl (by exact hS.rd HRW.out) (by simp)) ?_; go_frame)
            | (show wpList _ _ _ (⟨some 26, .load _ _, _, _, _, _⟩ :: _) _ _; refine wpList_val rfl (op_loadE aggWt rfl (v := r17) (xs := [wtC a, wtC b, wtC c]) (k := 2) rfl (by exact hS.rd HRW.out) (by simp)) ?_; go_frame)
            | (show wpList _ _ _ (⟨some 8, .alloc _, _, _, _, _⟩ :: _) _ _; refine wpS_alloc hS rfl rfl zeroWt (zs := [U 0, I64 0]) rfl ?_; clear hS; intro n8 w hS; go_frame)
            | (show wpList _ _ _ (⟨some 9, .alloc _, _, _, _, _⟩ :: _) _ _; refine wpS_alloc hS rfl rfl zeroWt (zs := [U 0, I64 0]) rfl ?_; clear hS; intro n9 w hS; go_frame)
            | (show wpList _ _ _ (⟨some 10, .alloc _, _, _, _, _⟩ :: _) _ _; refine wpS_alloc hS rfl rfl zeroWt (zs := [U 0, I64 0]) rfl ?_; clear hS; intro n10 w hS; go_frame)
            | (show wpList _ _ _ (⟨_, .store 53 (.tmp 8) _, _, _, _, _⟩ :: _) _ _; (refine wpS_storeAll (b := n8) aggWt (hS.bring (by repeat (first | exact t0 | apply tS))) rfl rfl rfl (vs := [U a.fee, I64 a.size]) rfl rfl (by simp [U, Value.oneCell']) rfl ?_); clear hS; intro w hS; go_frame)
            | (show wpList _ _ _ (⟨_, .store 53 (.tmp 9) _, _, _, _, _⟩ :: _) _ _; (refine wpS_storeAll (b := n9) aggWt (hS.bring (by repeat (first | exact t0 | apply tS))) rfl rfl rfl (vs := [U b.fee, I64 b.size]) rfl rfl (by simp [U, Value.oneCell']) rfl ?_); clear hS; intro w hS; go_frame)
            | (show wpList _ _ _ (⟨_, .store 53 (.tmp 10) _, _, _, _, _⟩ :: _) _ _; (refine wpS_storeAll (b := n10) aggWt (hS.bring (by repeat (first | exact t0 | apply tS))) rfl rfl rfl (vs := [U c.fee, I64 c.size]) rfl rfl (by simp [U, Value.oneCell']) rfl ?_); clear hS; intro w hS; go_frame)
            )
          refine segQ_mk (HRO.out.now hS) ?_
          refine ord_seg (by repeat (first | exact Clean.body | refine Clean.then ?_ | refine Clean.inBlock ?_ | refine SegQ.clean ?_ | refine FinC.clean ?_)) (n := 0) (rest := [[]]) [14] [⟨_, _, _, _, _, _⟩] rfl (by kernel_rfl) (by simp) _ _ ?_
          go_wp2_with (first
            | (show wpList _ _ _ (⟨some 19, .indexAddr _ _ _, _, _, _, _⟩ :: _) _ _; refine wpList_val rfl (op_indexAddr slWt rfl (v := r17) (xs := [wtC a, wtC b, wtC c]) rfl (k := 0) rfl (by exact hS.rd HRW.out) (by simp)) ?_; go_frame)
            | (show wpList _ _ _ (⟨some 20, .load _ _, _, _, _, _⟩ :: _) _ _; refine wpList_val rfl (op_loadE aggWt rfl (v := r17) (xs := [wtC a, wtC b, wtC c]) (k := 0) rfl (by exact hS.rd HRW.out) (by simp)) ?_; go_frame)
            | (show wpList _ _ _ (⟨some 22, .indexAddr _ _ _, _, _, _, _⟩ :: _) _ _; refine wpList_val rfl (op_indexAddr slWt rfl (v := r17) (xs := [wtC a, wtC b, wtC c]) rfl (k := 1) rfl (by exact hS.rd HRW.out) (by simp)) ?_; go_frame)
            | (show wpList _ _ _ (⟨some 23, .load _ _, _, _, _, _⟩ :: _) _ _; refine wpList_val rfl (op_loadE aggWt rfl (v := r17) (xs := [wtC a, wtC b, wtC c]) (k := 1) rfl (by exact hS.rd HRW.out) (by simp)) ?_; go_frame)
            | (show wpList _ _ _ (⟨some 25, .indexAddr _ _ _, _, _, _, _⟩ :: _) _ _; refine wpList_val rfl (op_indexAddr slWt rfl (v := r17) (xs := [wtC a, wtC b, wtC c]) rfl (k := 2) rfl (by exact hS.rd HRW.out) (by simp)) ?_; go_frame)
            | (show wpList _ _ _ (⟨some 26, .load _ _, _, _, _, _⟩ :: _) _ _; refine wpList_val rfl (op_loadE aggWt rfl (v := r17) (xs := [wtC a, wtC b, wtC c]) (k := 2) rfl (by exact hS.rd HRW.out) (by simp)) ?_; go_frame)
            | (show wpList _ _ _ (⟨some 8, .alloc _, _, _, _, _⟩ :: _) _ _; refine wpS_alloc hS rfl rfl zeroWt (zs := [U 0, I64 0]) rfl ?_; clear hS; intro n8 w hS; go_frame)
            | (show wpList _ _ _ (⟨some 9, .alloc _, _, _, _, _⟩ :: _) _ _; refine wpS_alloc hS rfl rfl zeroWt (zs := [U 0, I64 0]) rfl ?_; clear hS; intro n9 w hS; go_frame)
            | (show wpList _ _ _ (⟨some 10, .alloc _, _, _, _, _⟩ :: _) _ _; refine wpS_alloc hS rfl rfl zeroWt (zs := [U 0, I64 0]) rfl ?_; clear hS; intro n10 w hS; go_frame)
            | (show wpList _ _ _ (⟨_, .store 53 (.tmp 8) _, _, _, _, _⟩ :: _) _ _; (refine wpS_storeAll (b := n8) aggWt (hS.bring (by repeat (first | exact t0 | apply tS))) rfl rfl rfl (vs := [U a.fee, I64 a.size]) rfl rfl (by simp [U, Value.oneCell']) rfl ?_); clear hS; intro w hS; go_frame)
            | (show wpList _ _ _ (⟨_, .store 53 (.tmp 9) _, _, _, _, _⟩ :: _) _ _; (refine wpS_storeAll (b := n9) aggWt (hS.bring (by repeat (first | exact t0 | apply tS))) rfl rfl rfl (vs := [U b.fee, I64 b.size]) rfl rfl (by simp [U, Value.oneCell']) rfl ?_); clear hS; intro w hS; go_frame)
            | (show wpList _ _ _ (⟨_, .store 53 (.tmp 10) _, _, _, _, _⟩ :: _) _ _; (refine wpS_storeAll (b := n10) aggWt (hS.bring (by repeat (first | exact t0 | apply tS))) rfl rfl rfl (vs := [U c.fee, I64 c.size]) rfl rfl (by simp [U, Value.oneCell']) rfl ?_); clear hS; intro w hS; go_frame)
            )
          refine segQ_mk (HRO.out.now hS) ?_
          refine finC_mk (by kernel_rfl) (by
            intro t ht
            simp only [List.mem_cons, List.not_mem_nil, or_false] at ht
            rcases ht with rfl | rfl | rfl
            · exact stab_elE (n := 2) (k := 0) HE7.out fun w h => h
            · exact stab_elE (n := 2) (k := 1) HE7.out fun w h => h
            · exact stab_elE (n := 2) (k := 2) HE7.out fun w h => h) ?_
          go_wp2_with fail
          go_meet
          exact ⟨n8, n9, n10, rfl, rfl, rfl, hS.sel (by repeat (first | exact Sel.refl | refine Sel.take (by repeat (first | exact t0 | apply tS)) ?_ | apply Sel.drop))⟩
      · skip
        refine ord_seg (by repeat (first | exact Clean.body | refine Clean.then ?_ | refine Clean.inBlock ?_ | refine SegQ.clean ?_ | refine FinC.clean ?_)) (n := 5) (rest := [[9, 10, 12, 13, 14], [10, 9, 12, 13, 14]]) [11] [⟨_, _, _, _, _, _⟩] rfl (by kernel_rfl) (by simp) _ _ ?_
        go_wp2_with (first
          | (show wpList _ _ _ (⟨some 19, .indexAddr _ _ _, _, _, _, _⟩ :: _) _ _; refine wpList_val rfl (op_indexAddr slWt rfl (v := r17) (xs := [wtC a, wtC b, wtC c]) rfl (k := 0) rfl (by exact hS.rd HRW.out) (by simp)) ?_; go_frame)
          | (show wpList _ _ _ (⟨some 20, .load _ _, _, _, _, _⟩ :: _) _ _; refine wpList_val rfl (op_loadE aggWt rfl (v := r17) (xs := [wtC a, wtC b, wtC c]) (k := 0) rfl (by exact hS.rd HRW.out) (by simp)) ?_; go_frame)
          | (show wpList _ _ _ (⟨some 22, .indexAddr _ _ _, _, _, _, _⟩ :: _) _ _; refine wpList_val rfl (op_indexAddr slWt rfl (v := r17) (xs := [wtC a, wtC b, wtC c]) rfl (k := 1) rfl (by exact hS.rd HRW.out) (by simp)) ?_; go_frame)
          | (show wpList _ _ _ (⟨some 23, .load _ _, _, _, _, _⟩ :: _) _ _; refine wpList_val rfl (op_loadE aggWt rfl (v := r17) (xs := [wtC a, wtC b, wtC c]) (k := 1) rfl (by exact hS.rd HRW.out) (by simp)) ?_; go_frame)
          | (show wpList _ _ _ (⟨some 25, .indexAddr _ _ _, _, _, _, _⟩ :: _) _ _; refine wpList_val rfl (op_indexAddr slWt rfl (v := r17) (xs := [wtC a, wtC b, wtC c]) rfl (k := 2) rfl (by exact hS.rd HRW.out) (by simp)) ?_; go_frame)
          | (show wpList _ _ _ (⟨some 26, .load _ _, _, _, _, _⟩ :: _) _ _; refine wpList_val rfl (op_loadE aggWt rfl (v := r17) (xs := [wtC a, wtC b, wtC c]) (k := 2) rfl (by exact hS.rd HRW.out) (by simp)) ?_; go_frame)
          | (show wpList _ _ _ (⟨some 8, .alloc _, _, _, _, _⟩ :: _) _ _; refine wpS_alloc hS rfl rfl zeroWt (zs := [U 0, I64 0]) rfl ?_; clear hS; intro n8 w hS; go_frame)
          | (show wpList _ _ _ (⟨some 9, .alloc _, _, _, _, _⟩ :: _) _ _; refine wpS_alloc hS rfl rfl zeroWt (zs := [U 0, I64 0]) rfl ?_; clear hS; intro n9 w hS; go_frame)
          | (show wpList _ _ _ (⟨some 10, .alloc _, _, _, _, _⟩ :: _) _ _; refine wpS_alloc hS rfl rfl zeroWt (zs := [U 0, I64 0]) rfl ?_; clear hS; intro n10 w hS; go_frame)
          | (show wpList _ _ _ (⟨_, .store 53 (.tmp 8) _, _, _, _, _⟩ :: _) _ _; (refine wpS_storeAll (b := n8) aggWt (hS.bring (by repeat (first | exact t0 | apply tS))) rfl rfl rfl (vs := [U a.fee, I64 a.size]) rfl rfl (by simp [U, Value.oneCell']) rfl ?_); clear hS; intro w hS; go_frame)
          | (show wpList _ _ _ (⟨_, .store 53 (.tmp 9) _, _, _, _, _⟩ :: _) _ _; (refine wpS_storeAll (b := n9) aggWt (hS.bring (by repeat (first | exact t0 | apply tS))) rfl rfl rfl (vs := [U b.fee, I64 b.size]) rfl rfl (by simp [U, Value.oneCell']) rfl ?_); clear hS; intro w hS; go_frame)
          | (show wpList _ _ _ (⟨_, .store 53 (.tmp 10) _, _, _, _, _⟩ :: _) _ _; (refine wpS_storeAll (b := n10) aggWt (hS.bring (by repeat (first | exact t0 | apply tS))) rfl rfl rfl (vs := [U c.fee, I64 c.size]) rfl rfl (by simp [U, Value.oneCell']) rfl ?_); clear hS; intro w hS; go_frame)
          )
        refine segQ_mk (HRO.out.now hS) ?_
        refine ord_fork (n := 4) (os1 := [[9, 10, 12, 13, 14]]) (os2 := [[10, 9, 12, 13, 14]]) (by decide) ?_ ?_
        · skip
          refine ord_seg (by repeat (first | exact Clean.body | refine Clean.then ?_ | refine Clean.inBlock ?_ | refine SegQ.clean ?_ | refine FinC.clean ?_)) (n := 2) (rest := [[13, 14]]) [9, 10, 12] [⟨_, _, _, _, _, _⟩, ⟨_, _, _, _, _, _⟩, ⟨_, _, _, _, _, _⟩] rfl (by kernel_rfl) (by simp) _ _ ?_
          go_wp2_with (first
            | (show wpList _ _ _ (⟨some 19, .indexAddr _ _ _, _, _, _, _⟩ :: _) _ _; refine wpList_val rfl (op_indexAddr slWt rfl (v := r17) (xs := [wtC a, wtC b, wtC c]) rfl (k := 0) rfl (by exact hS.rd HRW.out) (by simp)) ?_; go_frame)
            | (show wpList _ _ _ (⟨some 20, .load _ _, _, _, _, _⟩ :: _) _ _; refine wpList_val rfl (op_loadE aggWt rfl (v := r17) (xs := [wtC a, wtC b, wtC c]) (k := 0) rfl (by exact hS.rd HRW.out) (by simp)) ?_; go_frame)
            | (show wpList _ _ _ (⟨some 22, .indexAddr _ _ _, _, _, _, _⟩ :: _) _ _; refine wpList_val rfl (op_indexAddr slWt rfl (v := r17) (xs := [wtC a, wtC b, wtC c]) rfl (k := 1) rfl (by exact hS.rd HRW.out) (by simp)) ?_; go_frame)
            | (show wpList _ _ _ (⟨some 23, .load _ _, _, _, _, _⟩ :: _) _ _; refine wpList_val rfl (op_loadE aggWt rfl (v := r17) (xs := [wtC a, wtC b, wtC c]) (k := 1) rfl (by exact hS.rd HRW.out) (by simp)) ?_; go_frame)
            | (show wpList _ _ _ (⟨some 25, .indexAddr _ _ _, _, _, _, _⟩ :: _) _ _; refine wpList_val rfl (op_indexAddr slWt rfl (v := r17) (xs := [wtC a, wtC b, wtC c]) rfl (k := 2) rfl (by exact hS.rd HRW.out) (by simp)) ?_; go_frame)
            | (show wpList _ _ _ (⟨some 26, .load _ _, _, _, _, _⟩ :: _) _ _; refine wpList_val rfl (op_loadE aggWt rfl (v := r17) (xs := [wtC a, wtC b, wtC c]) (k := 2) rfl (by exact hS.rd HRW.out) (by simp)) ?_; go_frame)
            | (show wpList _ _ _ (⟨some 8, .alloc _, _, _, _, _⟩ :: _) _ _; refine wpS_alloc hS rfl rfl zeroWt (zs := [U 0, I64 0]) rfl ?_; clear hS; intro n8 w hS; go_frame)
            | (show wpList _ _ _ (⟨some 9, .alloc _, _, _, _, _⟩ :: _) _ _; refine wpS_alloc hS rfl rfl zeroWt (zs := [U 0, I64 0]) rfl ?_; clear hS; intro n9 w hS; go_frame)
            | (show wpList _ _ _ (⟨some 10, .alloc _, _, _, _, _⟩ :: _) _ _; refine wpS_alloc hS rfl rfl zeroWt (zs := [U 0, I64 0]) rfl ?_; clear hS; intro n10 w hS; go_frame)
            | (show wpList _ _ _ (⟨_, .store 53 (.tmp 8) _, _, _, _, _⟩ :: _) _ _; (refine wpS_storeAll (b := n8) aggWt (hS.bring (by repeat (first | exact t0 | apply tS))) rfl rfl rfl (vs := [U a.fee, I64 a.size]) rfl rfl (by simp [U, Value.oneCell']) rfl ?_); clear hS; intro w hS; go_frame)
            | (show wpList _ _ _ (⟨_, .store 53 (.tmp 9) _, _, _, _, _⟩ :: _) _ _; (refine wpS_storeAll (b := n9) aggWt (hS.bring (by repeat (first | exact t0 | apply tS))) rfl rfl rfl (vs := [U b.fee, I64 b.size]) rfl rfl (by simp [U, Value.oneCell']) rfl ?_); clear hS; intro w hS; go_frame)
            | (show wpList _ _ _ (⟨_, .store 53 (.tmp 10) _, _, _, _, _⟩ :: _) _ _; (refine wpS_storeAll (b := n10) aggWt (hS.bring (by repeat (first | exact t0 | apply tS))) rfl rfl rfl (vs := [U c.fee, I64 c.size]) rfl rfl (by simp [U, Value.oneCell']) rfl ?_); clear hS; intro w hS; go_frame)
            )
          refine segQ_mk (HRO.out.now hS) ?_
          refine ord_seg (by repeat (first | exact Clean.body | refine Clean.then ?_ | refine Clean.inBlock ?_ | refine SegQ.clean ?_ | refine FinC.clean ?_)) (n := 1) (rest := [[14]]) [13] [⟨_, _, _, _, _, _⟩] rfl (by kernel_rfl) (by simp) _ _ ?_
          go_wp2_with (first
            | (show wpList _ _ _ (⟨some 19, .indexAddr _ _ _, _, _, _, _⟩ :: _) _ _; refine wpList_val rfl (op_indexAddr slWt rfl (v := r17) (xs := [wtC a, wtC b, wtC c]) rfl (k := 0) rfl (by exact hS.rd HRW.out) (by simp)) ?_; go_frame)
            | (show wpList _ _ _ (⟨some 20, .load _ _, _, _, _, _⟩ :: _) _ _; refine wpList_val rfl (op_loadE aggWt rfl (v := r17) (xs := [wtC a, wtC b, wtC c]) (k := 0) rfl (by exact hS.rd HRW.out) (by simp)) ?_; go_frame)
            | (show wpList _ _ _ (⟨some 22, .indexAddr _ _ _, _, _, _, _⟩ :: _) _ _; refine wpList_val rfl (op_indexAddr slWt rfl (v := r17) (xs := [wtC a, wtC b, wtC c]) rfl (k := 1) rfl (by exact hS.rd HRW.out) (by simp)) ?_; go_frame)
            | (show wpList _ _ _ (⟨some 23, .load _ _, _, _, _, _⟩ :: _) _ _; refine wpList_val rfl (op_loadE aggWt rfl (v := r17) (xs := [wtC a, wtC b, wtC c]) (k := 1) rfl (by exact hS.rd HRW.out) (by simp)) ?_; go_frame)
            | (show wpList _ _ _ (⟨some 25, .indexAddr _ _ _, _, _, _, _⟩ :: _) _ _; refine wpList_val rfl (op_indexAddr slWt rfl (v := r17) (xs := [wtC a, wtC b, wtC c]) rfl (k := 2) rfl (by exact hS.rd HRW.out) (by simp)) ?_; go_frame)
            | (show wpList _ _ _ (⟨some 26, .load _ _, _, _, _, _⟩ :: _) _ _; refine wpList_val rfl (op_loadE aggWt rfl (v := r17) (xs := [wtC a, wtC b, wtC c]) (k := 2) rfl (by exact hS.rd HRW.out) (by simp)) ?_; go_frame)
            | (show wpList _ _ _ (⟨some 8, .alloc _, _, _, _, _⟩ :: _) _ _; refine wpS_alloc hS rfl rfl zeroWt (zs := [U 0, I64 0]) rfl ?_; clear hS; intro n8 w hS; go_frame)
            | (show wpList _ _ _ (⟨some 9, .alloc _, _, _, _, _⟩ :: _) _ _; refine wpS_alloc hS rfl rfl zeroWt (zs := [U 0, I64 0]) rfl ?_; clear hS; intro n9 w hS; go_frame)
            | (show wpList _ _ _ (⟨some 10, .alloc _, _, _, _, _⟩ :: _) _ _; refine wpS_alloc hS rfl rfl zeroWt (zs := [U 0, I64 0]) rfl ?_; clear hS; intro n10 w hS; go_frame)
            | (show wpList _ _ _ (⟨_, .store 53 (.tmp 8) _, _, _, _, _⟩ :: _) _ _; (refine wpS_storeAll (b := n8) aggWt (hS.bring (by repeat (first | exact t0 | apply tS))) rfl rfl rfl (vs := [U a.fee, I64 a.size]) rfl rfl (by simp [U, Value.oneCell']) rfl ?_); clear hS; intro w hS; go_frame)
            | (show wpList _ _ _ (⟨_, .store 53 (.tmp 9) _, _, _, _, _⟩ :: _) _ _; (refine wpS_storeAll (b := n9) aggWt (hS.bring (by repeat (first | exact t0 | apply tS))) rfl rfl rfl (vs := [U b.fee, I64 b.size]) rfl rfl (by simp [U, Value.oneCell']) rfl ?_); clear hS; intro w hS; go_frame)
            | (show wpList _ _ _ (⟨_, .store 53 (.tmp 10) _, _, _, _, _⟩ :: _) _ _; (refine wpS_storeAll (b := n10) aggWt (hS.bring (by repeat (first | exact t0 | apply tS))) rfl rfl rfl (vs := [U c.fee, I64 c.size]) rfl rfl (by simp [U, Value.oneCell']) rfl ?_); clear hS; intro w hS; go_frame)
            )
          refine segQ_mk (HRO.out.now hS) ?_
          refine ord_seg (by repeat (first | exact Clean.body | refine Clean.then ?_ | refine Clean.inBlock ?_ | refine SegQ.clean ?_ | refine FinC.clean ?_)) (n := 0) (rest := [[]]) [14] [⟨_, _, _, _, _, _⟩] rfl (by kernel_rfl) (by simp) _ _ ?_
          go_wp2_with (first
            | (show wpList _ _ _ (⟨some 19, .indexAddr _ _ _, _, _, _, _⟩ :: _) _ _; refine wpList_val rfl (op_indexAddr slWt rfl (v := r17) (xs := [wtC a, wtC b, wtC c]) rfl (k := 0) rfl (by exact hS.rd HRW.out) (by simp)) ?_; go_frame)
            | (show wpList _ _ _ (⟨some 20, .load _ _, _, _, _, _⟩ :: _) _ _; refine wpList_val rfl (op_loadE aggWt rfl (v := r17) (xs := [wtC a, wtC b, wtC c]) (k := 0) rfl (by exact hS.rd HRW.out) (by simp)) ?_; go_frame)
            | (show wpList _ _ _ (⟨some 22, .indexAddr _ _ _, _, _, _, _⟩ :: _) _ _; refine wpList_val rfl (op_indexAddr slWt rfl (v := r17) (xs := [wtC a, wtC b, wtC c]) rfl (k := 1) rfl (by exact hS.rd HRW.out) (by simp)) ?_; go_frame)
            | (show wpList _ _ _ (⟨some 23, .load _ _, _, _, _, _⟩ :: _) _ _; refine wpList_val rfl (op_loadE aggWt rfl (v := r17) (xs := [wtC a, wtC b, wtC c]) (k := 1) rfl (by exact hS.rd HRW.out) (by simp)) ?_; go_frame)
            | (show wpList _ _ _ (⟨some 25, .indexAddr _ _ _, _, _, _, _⟩ :: _) _ _; refine wpList_val rfl (op_indexAddr slWt rfl (v := r17) (xs := [wtC a, wtC b, wtC c]) rfl (k := 2) rfl (by exact hS.rd HRW.out) (by simp)) ?_; go_frame)
            | (show wpList _ _ _ (⟨some 26, .load _ _, _, _, _, _⟩ :: _) _ _; refine wpList_val rfl (op_loadE aggWt rfl (v := r17) (xs := [wtC a, wtC b, wtC c]) (k := 2) rfl (by exact hS.rd HRW.out) (by simp)) ?_; go_frame)
            | (show wpList _ _ _ (⟨some 8, .alloc _, _, _, _, _⟩ :: _) _ _; refine wpS_alloc hS rfl rfl zeroWt (zs := [U 0, I64 0]) rfl ?_; clear hS; intro n8 w hS; go_frame)
            | (show wpList _ _ _ (⟨some 9, .alloc _, _, _, _, _⟩ :: _) _ _; refine wpS_alloc hS rfl rfl zeroWt (zs := [U 0, I64 0]) rfl ?_; clear hS; intro n9 w hS; go_frame)
            | (show wpList _ _ _ (⟨some 10, .alloc _, _, _, _, _⟩ :: _) _ _; refine wpS_alloc hS rfl rfl zeroWt (zs := [U 0, I64 0]) rfl ?_; clear hS; intro n10 w hS; go_frame)
            | (show wpList _ _ _ (⟨_, .store 53 (.tmp 8) _, _, _, _, _⟩ :: _) _ _; (refine wpS_storeAll (b := n8) aggWt (hS.bring (by repeat (first | exact t0 | apply tS))) rfl rfl rfl (vs := [U a.fee, I64 a.size]) rfl rfl (by simp [U, Value.oneCell']) rfl ?_); clear hS; intro w hS; go_frame)
            | (show wpList _ _ _ (⟨_, .store 53 (.tmp 9) _, _, _, _, _⟩ :: _) _ _; (refine wpS_storeAll (b := n9) aggWt (hS.bring (by repeat (first | exact t0 | apply tS))) rfl rfl rfl (vs := [U b.fee, I64 b.size]) rfl rfl (by simp [U, Value.oneCell']) rfl ?_); clear hS; intro w hS; go_frame)
            | (show wpList _ _ _ (⟨_, .store 53 (.tmp 10) _, _, _, _, _⟩ :: _) _ _; (refine wpS_storeAll (b := n10) aggWt (hS.bring (by repeat (first | exact t0 | apply tS))) rfl rfl rfl (vs := [U c.fee, I64 c.size]) rfl rfl (by simp [U, Value.oneCell']) rfl ?_); clear hS; intro w hS; go_frame)
            )
          refine segQ_mk (HRO.out.now hS) ?_
          refine finC_mk (by kernel_rfl) (by
            intro t ht
            simp only [List.mem_cons, List.not_mem_nil, or_false] at ht
            rcases ht with rfl | rfl | rfl
            · exact stab_elE (n := 2) (k := 0) HE7.out fun w h => h
            · exact stab_elE (n := 2) (k := 1) HE7.out fun w h => h
            · exact stab_elE (n := 2) (k := 2) HE7.out fun w h => h) ?_
          go_wp2_with fail
          go_meet
          exact ⟨n8, n9, n10, rfl, rfl, rfl, hS.sel (by repeat (first | exact Sel.refl | refine Sel.take (by repeat (first | exact t0 | apply tS)) ?_ | apply Sel.drop))⟩
        · skip
          refine ord_seg (by repeat (first | exact Clean.body | refine Clean.then ?_ | refine Clean.inBlock ?_ | refine SegQ.clean ?_ | refine FinC.clean ?_)) (n := 2) (rest := [[13, 14]]) [10, 9, 12] [⟨_, _, _, _, _, _⟩, ⟨_, _, _, _, _, _⟩, ⟨_, _, _, _, _, _⟩] rfl (by kernel_rfl) (by simp) _ _ ?_
          go_wp2_with (first
            | (show wpList _ _ _ (⟨some 19, .indexAddr _ _ _, _, _, _, _⟩ :: _) _ _; refine wpList_val rfl (op_indexAddr slWt rfl (v := r17) (xs := [wtC a, wtC b, wtC c]) rfl (k := 0) rfl (by exact hS.rd HRW.out) (by simp)) ?_; go_frame)
            | (show wpList _ _ _ (⟨some 20, .load _ _, _, _, _, _⟩ :: _) _ _; refine wpList_val rfl (op_loadE aggWt rfl (v := r17) (xs := [wtC a, wtC b, wtC c]) (k := 0) rfl (by exact hS.rd HRW.out) (by simp)) ?_; go_frame)
            | (show wpList _ _ _ (⟨some 22, .indexAddr _ _ _, _, _, _, _⟩ :: _) _ _; refine wpList_val rfl (op_indexAddr slWt rfl (v := r17) (xs := [wtC a, wtC b, wtC c]) rfl (k := 1) rfl (by exact hS.rd HRW.out) (by simp)) ?_; go_frame)
            | (show wpList _ _ _ (⟨some 23, .load _ _, _, _, _, _⟩ :: _) _ _; refine wpList_val rfl (op_loadE aggWt rfl (v := r17) (xs := [wtC a, wtC b, wtC c]) (k := 1) rfl (by exact hS.rd HRW.out) (by simp)) ?_; go_frame)
            | (show wpList _ _ _ (⟨some 25, .indexAddr _ _ _, _, _, _, _⟩ :: _) _ _; refine wpList_val rfl (op_indexAddr slWt rfl (v := r17) (xs := [wtC a, wtC b, wtC c]) rfl (k := 2) rfl (by exact hS.rd HRW.out) (by simp)) ?_; go_frame)
            | (show wpList _ _ _ (⟨some 26, .load _ _, _, _, _, _⟩ :: _) _ _; refine wpList_val rfl (op_loadE aggWt rfl (v := r17) (xs := [wtC a, wtC b, wtC c]) (k := 2) rfl (by exact hS.rd HRW.out) (by simp)) ?_; go_frame)
            | (show wpList _ _ _ (⟨some 8, .alloc _, _, _, _, _⟩ :: _) _ _; refine wpS_alloc hS rfl rfl zeroWt (zs := [U 0, I64 0]) rfl ?_; clear hS; intro n8 w hS; go_frame)
            | (show wpList _ _ _ (⟨some 9, .alloc _, _, _, _, _⟩ :: _) _ _; refine wpS_alloc hS rfl rfl zeroWt (zs := [U 0, I64 0]) rfl ?_; clear hS; intro n9 w hS; go_frame)
            | (show wpList _ _ _ (⟨some 10, .alloc _, _, _, _, _⟩ :: _) _ _; refine wpS_alloc hS rfl rfl zeroWt (zs := [U 0, I64 0]) rfl ?_; clear hS; intro n10 w hS; go_frame)
            | (show wpList _ _ _ (⟨_, .store 53 (.tmp 8) _, _, _, _, _⟩ :: _) _ _; (refine wpS_storeAll (b := n8) aggWt (hS.bring (by repeat (first | exact t0 | apply tS))) rfl rfl rfl (vs := [U a.fee, I64 a.size]) rfl rfl (by simp [U, Value.oneCell']) rfl ?_); clear hS; intro w hS; go_frame)
            | (show wpList _ _ _ (⟨_, .store 53 (.tmp 9) _, _, _, _, _⟩ :: _) _ _; (refine wpS_storeAll (b := n9) aggWt (hS.bring (by repeat (first | exact t0 | apply tS))) rfl rfl rfl (vs := [U b.fee, I64 b.size]) rfl rfl (by simp [U, Value.oneCell']) rfl ?_); clear hS; intro w hS; go_frame)
            | (show wpList _ _ _ (⟨_, .store 53 (.tmp 10) _, _, _, _, _⟩ :: _) _ _; (refine wpS_storeAll (b := n10) aggWt (hS.bring (by repeat (first | exact t0 | apply tS))) rfl rfl rfl (vs := [U c.fee, I64 c.size]) rfl rfl (by simp [U, Value.oneCell']) rfl ?_); clear hS; intro w hS; go_frame)
            )
          refine segQ_mk (HRO.out.now hS) ?_
          refine ord_seg (by repeat (first | exact Clean.body | refine Clean.then ?_ | refine Clean.inBlock ?_ | refine SegQ.clean ?_ | refine FinC.clean ?_)) (n := 1) (rest := [[14]]) [13] [⟨_, _, _, _, _, _⟩] rfl (by kernel_rfl) (by simp) _ _ ?_
          go_wp2_with (first
            | (show wpList _ _ _ (⟨some 19, .indexAddr _ _ _, _, _, _, _⟩ :: _) _ _; refine wpList_val rfl (op_indexAddr slWt rfl (v := r17) (xs := [wtC a, wtC b, wtC c]) rfl (k := 0) rfl (by exact hS.rd HRW.out) (by simp)) ?_; go_frame)
            | (show wpList _ _ _ (⟨some 20, .load _ _, _, _, _, _⟩ :: _) _ _; refine wpList_val rfl (op_loadE aggWt rfl (v := r17) (xs := [wtC a, wtC b, wtC c]) (k := 0) rfl (by exact hS.rd HRW.out) (by simp)) ?_; go_frame)
            | (show wpList _ _ _ (⟨some 22, .indexAddr _ _ _, _, _, _, _⟩ :: _) _ _; refine wpList_val rfl (op_indexAddr slWt rfl (v := r17) (xs := [wtC a, wtC b, wtC c]) rfl (k := 1) rfl (by exact hS.rd HRW.out) (by simp)) ?_; go_frame)
            | (show wpList _ _ _ (⟨some 23, .load _ _, _, _, _, _⟩ :: _) _ _; refine wpList_val rfl (op_loadE aggWt rfl (v := r17) (xs := [wtC a, wtC b, wtC c]) (k := 1) rfl (by exact hS.rd HRW.out) (by simp)) ?_; go_frame)
            | (show wpList _ _ _ (⟨some 25, .indexAddr _ _ _, _, _, _, _⟩ :: _) _ _; refine wpList_val rfl (op_indexAddr slWt rfl (v := r17) (xs := [wtC a, wtC b, wtC c]) rfl (k := 2) rfl (by exact hS.rd HRW.out) (by simp)) ?_; go_frame)
            | (show wpList _ _ _ (⟨some 26, .load _ _, _, _, _, _⟩ :: _) _ _; refine wpList_val rfl (op_loadE aggWt rfl (v := r17) (xs := [wtC a, wtC b, wtC c]) (k := 2) rfl (by exact hS.rd HRW.out) (by simp)) ?_; go_frame)
            | (show wpList _ _ _ (⟨some 8, .alloc _, _, _, _, _⟩ :: _) _ _; refine wpS_alloc hS rfl rfl zeroWt (zs := [U 0, I64 0]) rfl ?_; clear hS; intro n8 w hS; go_frame)
            | (show wpList _ _ _ (⟨some 9, .alloc _, _, _, _, _⟩ :: _) _ _; refine wpS_alloc hS rfl rfl zeroWt (zs := [U 0, I64 0]) rfl ?_; clear hS; intro n9 w hS; go_frame)
            | (show wpList _ _ _ (⟨some 10, .alloc _, _, _, _, _⟩ :: _) _ _; refine wpS_alloc hS rfl rfl zeroWt (zs := [U 0, I64 0]) rfl ?_; clear hS; intro n10 w hS; go_frame)
            | (show wpList _ _ _ (⟨_, .store 53 (.tmp 8) _, _, _, _, _⟩ :: _) _ _; (refine wpS_storeAll (b := n8) aggWt (hS.bring (by repeat (first | exact t0 | apply tS))) rfl rfl rfl (vs := [U a.fee, I64 a.size]) rfl rfl (by simp [U, Value.oneCell']) rfl ?_); clear hS; intro w hS; go_frame)
            | (show wpList _ _ _ (⟨_, .store 53 (.tmp 9) _, _, _, _, _⟩ :: _) _ _; (refine wpS_storeAll (b := n9) aggWt (hS.bring (by repeat (first | exact t0 | apply tS))) rfl rfl rfl (vs := [U b.fee, I64 b.size]) rfl rfl (by simp [U, Value.oneCell']) rfl ?_); clear hS; intro w hS; go_frame)
            | (show wpList _ _ _ (⟨_, .store 53 (.tmp 10) _, _, _, _, _⟩ :: _) _ _; (refine wpS_storeAll (b := n10) aggWt (hS.bring (by repeat (first | exact t0 | apply tS))) rfl rfl rfl (vs := [U c.fee, I64 c.size]) rfl rfl (by simp [U, Value.oneCell']) rfl ?_); clear hS; intro w hS; go_frame)
            )
          refine segQ_mk (HRO.out.now hS) ?_
          refine ord_seg (by repeat (first | exact Clean.body | refine Clean.then ?_ | refine Clean.inBlock ?_ | refine SegQ.clean ?_ | refine FinC.clean ?_)) (n := 0) (rest := [[]]) [14] [⟨_, _, _, _, _, _⟩] rfl (by kernel_rfl) (by simp) _ _ ?_
          go_wp2_with (first
            | (show wpList _ _ _ (⟨some 19, .indexAddr _ _ _, _, _, _, _⟩ :: _) _ _; refine wpList_val rfl (op_indexAddr slWt rfl (v := r17) (xs := [wtC a, wtC b, wtC c]) rfl (k := 0) rfl (by exact hS.rd HRW.out) (by simp)) ?_; go_frame)
            | (show wpList _ _ _ (⟨some 20, .load _ _, _, _, _, _⟩ :: _) _ _; refine wpList_val rfl (op_loadE aggWt rfl (v := r17) (xs := [wtC a, wtC b, wtC c]) (k := 0) rfl (by exact hS.rd HRW.out) (by simp)) ?_; go_frame)
            | (show wpList _ _ _ (⟨some 22, .indexAddr _ _ _, _, _, _, _⟩ :: _) _ _; refine wpList_val rfl (op_indexAddr slWt rfl (v := r17) (xs := [wtC a, wtC b, wtC c]) rfl (k := 1) rfl (by exact hS.rd HRW.out) (by simp)) ?_; go_frame)
            | (show wpList _ _ _ (⟨some 23, .load _ _, _, _, _, _⟩ :: _) _ _; refine wpList_val rfl (op_loadE aggWt rfl (v := r17) (xs := [wtC a, wtC b, wtC c]) (k := 1) rfl (by exact hS.rd HRW.out) (by simp)) ?_; go_frame)
            | (show wpList _ _ _ (⟨some 25, .indexAddr _ _ _, _, _, _, _⟩ :: _) _ _; refine wpList_val rfl (op_indexAddr slWt rfl (v := r17) (xs := [wtC a, wtC b, wtC c]) rfl (k := 2) rfl (by exact hS.rd HRW.out) (by simp)) ?_; go_frame)
            | (show wpList _ _ _ (⟨some 26, .load _ _, _, _, _, _⟩ :: _) _ _; refine wpList_val rfl (op_loadE aggWt rfl (v := r17) (xs := [wtC a, wtC b, wtC c]) (k := 2) rfl (by exact hS.rd HRW.out) (by simp)) ?_; go_frame)
            | (show wpList _ _ _ (⟨some 8, .alloc _, _, _, _, _⟩ :: _) _ _; refine wpS_alloc hS rfl rfl zeroWt (zs := [U 0, I64 0]) rfl ?_; clear hS; intro n8 w hS; go_frame)
            | (show wpList _ _ _ (⟨some 9, .alloc _, _, _, _, _⟩ :: _) _ _; refine wpS_alloc hS rfl rfl zeroWt (zs := [U 0, I64 0]) rfl ?_; clear hS; intro n9 w hS; go_frame)
            | (show wpList _ _ _ (⟨some 10, .alloc _, _, _, _, _⟩ :: _) _ _; refine wpS_alloc hS rfl rfl zeroWt (zs := [U 0, I64 0]) rfl ?_; clear hS; intro n10 w hS; go_frame)
            | (show wpList _ _ _ (⟨_, .store 53 (.tmp 8) _, _, _, _, _⟩ :: _) _ _; (refine wpS_storeAll (b := n8) aggWt (hS.bring (by repeat (first | exact t0 | apply tS))) rfl rfl rfl (vs := [U a.fee, I64 a.size]) rfl rfl (by simp [U, Value.oneCell']) rfl ?_); clear hS; intro w hS; go_frame)
            | (show wpList _ _ _ (⟨_, .store 53 (.tmp 9) _, _, _, _, _⟩ :: _) _ _; (refine wpS_storeAll (b := n9) aggWt (hS.bring (by repeat (first | exact t0 | apply tS))) rfl rfl rfl (vs := [U b.fee, I64 b.size]) rfl rfl (by simp [U, Value.oneCell']) rfl ?_); clear hS; intro w hS; go_frame)
            | (show wpList _ _ _ (⟨_, .store 53 (.tmp 10) _, _, _, _, _⟩ :: _) _ _; (refine wpS_storeAll (b := n10) aggWt (hS.bring (by repeat (first | exact t0 | apply tS))) rfl rfl rfl (vs := [U c.fee, I64 c.size]) rfl rfl (by simp [U, Value.oneCell']) rfl ?_); clear hS; intro w hS; go_frame)
            )
          refine segQ_mk (HRO.out.now hS) ?_
          refine finC_mk (by kernel_rfl) (by
            intro t ht
            simp only [List.mem_cons, List.not_mem_nil, or_false] at ht
            rcases ht with rfl | rfl | rfl
            · exact stab_elE (n := 2) (k := 0) HE7.out fun w h => h
            · exact stab_elE (n := 2) (k := 1) HE7.out fun w h => h
            · exact stab_elE (n := 2) (k := 2) HE7.out fun w h => h) ?_
          go_wp2_with fail
          go_meet
          exact ⟨n8, n9, n10, rfl, rfl, rfl, hS.sel (by repeat (first | exact Sel.refl | refine Sel.take (by repeat (first | exact t0 | apply tS)) ?_ | apply Sel.drop))⟩
  case rest =>
    clear hS
    obtain ⟨n8, n9, n10, rfl, rfl, rfl, hS⟩ := hcut
    clear HRW HRO HE7
    go_upto_region 5 with fail
    go_cut [55] (fun s55 wx => s55 = .bool false ∧ SepL R1 w7 wx [.blk n8 53 [U a.fee, I64 a.size], .blk n9 53 [U b.fee, I64 b.size], .blk n10 53 [U c.fee, I64 c.size], .blk n3 55 [U a.fee, I64 a.size], .blk n4 55 [U b.fee, I64 b.size]])
    case first =>
      have HL5 := hide (lawful_5 HLAW.out)
      clear HLAW HFE HSE HBK
      cases p <;> cases q <;> cases r <;> cases t <;> first
        | exact absurd HL5.out (by decide)
        | (go_wp2_with (first
            | go_big_skip
            | (show wpList _ _ _ (⟨_, .load 53 (.tmp 8), _, _, _, _⟩ :: _) _ _; refine wpList_val rfl (op_load aggWt rfl rfl (SepL.getBlk (b := n8) (T := 53) ((hS.bring (by repeat (first | exact t0 | apply tS))))).cells rfl) ?_; go_frame)
            | (show wpList _ _ _ (⟨_, .load 53 (.tmp 9), _, _, _, _⟩ :: _) _ _; refine wpList_val rfl (op_load aggWt rfl rfl (SepL.getBlk (b := n9) (T := 53) ((hS.bring (by repeat (first | exact t0 | apply tS))))).cells rfl) ?_; go_frame)
            | (show wpList _ _ _ (⟨_, .load 53 (.tmp 10), _, _, _, _⟩ :: _) _ _; refine wpList_val rfl (op_load aggWt rfl rfl (SepL.getBlk (b := n10) (T := 53) ((hS.bring (by repeat (first | exact t0 | apply tS))))).cells rfl) ?_; go_frame)
            | (go_at_call 24; with_reducible refine Ret.calls (CAA.out _ _ _ _ hS) ?_; clear hS; rintro r1 w ⟨rfl, hS⟩)
            | (go_at_call 24; with_reducible refine Ret.calls (CAB.out _ _ _ _ hS) ?_; clear hS; rintro r1 w ⟨rfl, hS⟩)
            | (go_at_call 24; with_reducible refine Ret.calls (CBA.out _ _ _ _ hS) ?_; clear hS; rintro r1 w ⟨rfl, hS⟩)
            | (go_at_call 24; with_reducible refine Ret.calls (CBC.out _ _ _ _ hS) ?_; clear hS; rintro r1 w ⟨rfl, hS⟩)
            | (go_at_call 24; with_reducible refine Ret.calls (CAC.out _ _ _ _ hS) ?_; clear hS; rintro r1 w ⟨rfl, hS⟩)
            | (show wpList _ _ _ (⟨some 72, .load _ _, _, _, _, _⟩ :: _) _ _; refine wpList_val rfl (op_load1S (b := n3) (T := 55) oneU ((hS.bring (by repeat (first | exact t0 | apply tS)))) rfl rfl rfl) ?_; go_frame)
            | (show wpList _ _ _ (⟨some 74, .load _ _, _, _, _, _⟩ :: _) _ _; refine wpList_val rfl (op_load1S (b := n4) (T := 55) oneU ((hS.bring (by repeat (first | exact t0 | apply tS)))) rfl rfl rfl) ?_; go_frame)
            | (show wpList _ _ _ (⟨some 78, .load _ _, _, _, _, _⟩ :: _) _ _; refine wpList_val rfl (op_load1S (b := n3) (T := 55) oneInt ((hS.bring (by repeat (first | exact t0 | apply tS)))) rfl rfl rfl) ?_; go_frame)
            | (show wpList _ _ _ (⟨some 80, .load _ _, _, _, _, _⟩ :: _) _ _; refine wpList_val rfl (op_load1S (b := n4) (T := 55) oneInt ((hS.bring (by repeat (first | exact t0 | apply tS)))) rfl rfl rfl) ?_; go_frame)
            | (show wpList _ _ _ (⟨some 75, .binOp _ _ _ _ _, _, _, _, _⟩ :: _) _ _; refine wpList_val rfl (opU_leq (a := a.fee) (b := b.fee) rfl rfl rfl HFE.out) ?_; go_frame)
            | (show wpList _ _ _ (⟨some 81, .binOp _ _ _ _ _, _, _, _, _⟩ :: _) _ _; refine wpList_val rfl (op_igeq (a := a.size) (b := b.size) rfl rfl rfl HSE.out) ?_; go_frame)
            )
           go_meet
           exact ⟨rfl, hS⟩)
    case rest =>
      clear hS
      obtain ⟨rfl, hS⟩ := hcut
      go_upto_region 7 with fail
      go_cut [70] (fun s70 wx => s70 = .bool false ∧ SepL R1 w7 wx [.blk n8 53 [U a.fee, I64 a.size], .blk n9 53 [U b.fee, I64 b.size], .blk n10 53 [U c.fee, I64 c.size], .blk n3 55 [U a.fee, I64 a.size], .blk n4 55 [U b.fee, I64 b.size]])
      case first =>
        have HL7 := hide (lawful_7 HLAW.out)
        clear HLAW HFE HSE HBK
        cases p <;> cases r <;> cases t <;> first
          | exact absurd HL7.out (by decide)
          | (go_wp2_with (first
              | go_big_skip
              | (show wpList _ _ _ (⟨_, .load 53 (.tmp 8), _, _, _, _⟩ :: _) _ _; refine wpList_val rfl (op_load aggWt rfl rfl (SepL.getBlk (b := n8) (T := 53) ((hS.bring (by repeat (first | exact t0 | apply tS))))).cells rfl) ?_; go_frame)
              | (show wpList _ _ _ (⟨_, .load 53 (.tmp 9), _, _, _, _⟩ :: _) _ _; refine wpList_val rfl (op_load aggWt rfl rfl (SepL.getBlk (b := n9) (T := 53) ((hS.bring (by repeat (first | exact t0 | apply tS))))).cells rfl) ?_; go_frame)
              | (show wpList _ _ _ (⟨_, .load 53 (.tmp 10), _, _, _, _⟩ :: _) _ _; refine wpList_val rfl (op_load aggWt rfl rfl (SepL.getBlk (b := n10) (T := 53) ((hS.bring (by repeat (first | exact t0 | apply tS))))).cells rfl) ?_; go_frame)
              | (go_at_call 24; with_reducible refine Ret.calls (CAA.out _ _ _ _ hS) ?_; clear hS; rintro r1 w ⟨rfl, hS⟩)
              | (go_at_call 24; with_reducible refine Ret.calls (CAB.out _ _ _ _ hS) ?_; clear hS; rintro r1 w ⟨rfl, hS⟩)
              | (go_at_call 24; with_reducible refine Ret.calls (CBA.out _ _ _ _ hS) ?_; clear hS; rintro r1 w ⟨rfl, hS⟩)
              | (go_at_call 24; with_reducible refine Ret.calls (CBC.out _ _ _ _ hS) ?_; clear hS; rintro r1 w ⟨rfl, hS⟩)
              | (go_at_call 24; with_reducible refine Ret.calls (CAC.out _ _ _ _ hS) ?_; clear hS; rintro r1 w ⟨rfl, hS⟩)
              | (show wpList _ _ _ (⟨some 72, .load _ _, _, _, _, _⟩ :: _) _ _; refine wpList_val rfl (op_load1S (b := n3) (T := 55) oneU ((hS.bring (by repeat (first | exact t0 | apply tS)))) rfl rfl rfl) ?_; go_frame)
              | (show wpList _ _ _ (⟨some 74, .load _ _, _, _, _, _⟩ :: _) _ _; refine wpList_val rfl (op_load1S (b := n4) (T := 55) oneU ((hS.bring (by repeat (first | exact t0 | apply tS)))) rfl rfl rfl) ?_; go_frame)
              | (show wpList _ _ _ (⟨some 78, .load _ _, _, _, _, _⟩ :: _) _ _; refine wpList_val rfl (op_load1S (b := n3) (T := 55) oneInt ((hS.bring (by repeat (first | exact t0 | apply tS)))) rfl rfl rfl) ?_; go_frame)
              | (show wpList _ _ _ (⟨some 80, .load _ _, _, _, _, _⟩ :: _) _ _; refine wpList_val rfl (op_load1S (b := n4) (T := 55) oneInt ((hS.bring (by repeat (first | exact t0 | apply tS)))) rfl rfl rfl) ?_; go_frame)
              | (show wpList _ _ _ (⟨some 75, .binOp _ _ _ _ _, _, _, _, _⟩ :: _) _ _; refine wpList_val rfl (opU_leq (a := a.fee) (b := b.fee) rfl rfl rfl HFE.out) ?_; go_frame)
              | (show wpList _ _ _ (⟨some 81, .binOp _ _ _ _ _, _, _, _, _⟩ :: _) _ _; refine wpList_val rfl (op_igeq (a := a.size) (b := b.size) rfl rfl rfl HSE.out) ?_; go_frame)
              )
             go_meet
             exact ⟨rfl, hS⟩)
      case rest =>
        clear hS
        obtain ⟨rfl, hS⟩ := hcut
        have HL9 := hide (lawful_9 HLAW.out)
        clear HLAW
        cases q <;> cases f <;> cases s <;> first
          | exact absurd HL9.out (by decide)
          | (go_wp2_with (first
              | go_big_skip
              | (show wpList _ _ _ (⟨_, .load 53 (.tmp 8), _, _, _, _⟩ :: _) _ _; refine wpList_val rfl (op_load aggWt rfl rfl (SepL.getBlk (b := n8) (T := 53) ((hS.bring (by repeat (first | exact t0 | apply tS))))).cells rfl) ?_; go_frame)
              | (show wpList _ _ _ (⟨_, .load 53 (.tmp 9), _, _, _, _⟩ :: _) _ _; refine wpList_val rfl (op_load aggWt rfl rfl (SepL.getBlk (b := n9) (T := 53) ((hS.bring (by repeat (first | exact t0 | apply tS))))).cells rfl) ?_; go_frame)
              | (show wpList _ _ _ (⟨_, .load 53 (.tmp 10), _, _, _, _⟩ :: _) _ _; refine wpList_val rfl (op_load aggWt rfl rfl (SepL.getBlk (b := n10) (T := 53) ((hS.bring (by repeat (first | exact t0 | apply tS))))).cells rfl) ?_; go_frame)
              | (go_at_call 24; with_reducible refine Ret.calls (CAA.out _ _ _ _ hS) ?_; clear hS; rintro r1 w ⟨rfl, hS⟩)
              | (go_at_call 24; with_reducible refine Ret.calls (CAB.out _ _ _ _ hS) ?_; clear hS; rintro r1 w ⟨rfl, hS⟩)
              | (go_at_call 24; with_reducible refine Ret.calls (CBA.out _ _ _ _ hS) ?_; clear hS; rintro r1 w ⟨rfl, hS⟩)
              | (go_at_call 24; with_reducible refine Ret.calls (CBC.out _ _ _ _ hS) ?_; clear hS; rintro r1 w ⟨rfl, hS⟩)
              | (go_at_call 24; with_reducible refine Ret.calls (CAC.out _ _ _ _ hS) ?_; clear hS; rintro r1 w ⟨rfl, hS⟩)
              | (show wpList _ _ _ (⟨some 72, .load _ _, _, _, _, _⟩ :: _) _ _; refine wpList_val rfl (op_load1S (b := n3) (T := 55) oneU ((hS.bring (by repeat (first | exact t0 | apply tS)))) rfl rfl rfl) ?_; go_frame)
              | (show wpList _ _ _ (⟨some 74, .load _ _, _, _, _, _⟩ :: _) _ _; refine wpList_val rfl (op_load1S (b := n4) (T := 55) oneU ((hS.bring (by repeat (first | exact t0 | apply tS)))) rfl rfl rfl) ?_; go_frame)
              | (show wpList _ _ _ (⟨some 78, .load _ _, _, _, _, _⟩ :: _) _ _; refine wpList_val rfl (op_load1S (b := n3) (T := 55) oneInt ((hS.bring (by repeat (first | exact t0 | apply tS)))) rfl rfl rfl) ?_; go_frame)
              | (show wpList _ _ _ (⟨some 80, .load _ _, _, _, _, _⟩ :: _) _ _; refine wpList_val rfl (op_load1S (b := n4) (T := 55) oneInt ((hS.bring (by repeat (first | exact t0 | apply tS)))) rfl rfl rfl) ?_; go_frame)
              | (show wpList _ _ _ (⟨some 75, .binOp _ _ _ _ _, _, _, _, _⟩ :: _) _ _; refine wpList_val rfl (opU_leq (a := a.fee) (b := b.fee) rfl rfl rfl HFE.out) ?_; go_frame)
              | (show wpList _ _ _ (⟨some 81, .binOp _ _ _ _ _, _, _, _, _⟩ :: _) _ _; refine wpList_val rfl (op_igeq (a := a.size) (b := b.size) rfl rfl rfl HSE.out) ?_; go_frame)
              )
             go_ret
             exact ⟨rfl, ((HBK.out _ _ hS).chg)⟩)
end Go.Proofs.YtieobcaegegboaaDoor
