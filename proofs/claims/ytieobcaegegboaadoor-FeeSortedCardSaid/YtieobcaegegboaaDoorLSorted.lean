/- An order has each place once, the best first; of equals the first is first; the worst is the first than which none is less: the law returns true. Conditions: those that stand ahead of each theorem. -/
import Derived.Test.YtieobcaegegboaaDoorGWfC
namespace Go.Proofs.YtieobcaegegboaaDoor
open Go Go.RowKit Go.Px Go.Sha Go.Calc
/-- which places have stood so far -/
def thereB (O : List Int) (k : Nat) : List Value := (List.range 100).map fun (j : Nat) => .bool (decide ((j : Int) ∈ O.take k))
theorem there_len (O : List Int) (k : Nat) : (thereB O k).length = 100 := by simp [thereB]
theorem there_zero (O : List Int) : List.replicate 100 (Value.bool false) = thereB O 0 := by
  unfold thereB
  simp only [List.take_zero, List.not_mem_nil, decide_false]
  rw [List.map_const', List.length_range]
theorem there_at {O : List Int} {k x : Nat} (hnd : O.Nodup) (hk : k < O.length) (hx : O[k] = x) (h : x < 100) : (thereB O k)[x]? = some (.bool false) := by
  unfold thereB
  rw [List.getElem?_map, List.getElem?_range h, Option.map_some, decide_eq_false]
  intro hm
  obtain ⟨j, hj, he⟩ := List.mem_iff_getElem.1 hm
  rw [List.getElem_take, ← hx] at he
  rw [List.length_take] at hj
  have := (List.getElem_inj hnd).1 he
  omega
theorem there_next {O : List Int} {k x : Nat} (hk : k < O.length) (hx : O[k] = x) (h : x < 100) : (thereB O k).set x (.bool true) = thereB O (k + 1) := by
  unfold thereB
  apply List.ext_getElem (by simp)
  intro i h1 h2
  rw [List.getElem_set]
  simp only [List.getElem_map, List.getElem_range]
  rw [List.take_add_one, List.getElem?_eq_getElem hk, hx]
  by_cases e : x = i
  · rw [if_pos e, decide_eq_true (by rw [List.mem_append]; exact .inr (by simp [e]))]
  · rw [if_neg e]
    congr 1
    rw [decide_eq_decide, List.mem_append]
    constructor
    · exact .inl
    · rintro (h | h)
      · exact h
      · simp only [Option.toList_some, List.mem_singleton] at h
        omega
set_option maxRecDepth 100000 in
theorem arr100 : ArrTy Tryd.prog 66 4 100 := ArrTy.of (d := .bool) (by kernel_rfl) (by kernel_rfl) rfl (by kernel_rfl)
theorem infoB1 : (Tryd.prog.info? 4).map (·.size) = some 1 := by kernel_rfl
set_option maxRecDepth 100000 in
theorem zero100 (w : World) : (zeroValue 66).run Tryd.prog w = .ok (.agg (List.replicate 100 (.bool false)).toArray) w := by kernel_rfl
set_option maxRecDepth 100000 in
set_option maxHeartbeats 8000000 in
theorem feeSorted_w {W : World} (hK : CIn All W 3 (kTab.map W32)) (hF : CIn All W 0 (first.map W32)) {lv : Value} {l : List Wt} (hl : LIn All W lv l) :
    Calls Tryd.prog 8 #[lv] W (Ret fun r w' => r = .bool true ∧ Chg No W w') := by
  have hS := SepL.start W
  obtain ⟨n, hn⟩ : ∃ n, l.length = n := ⟨_, rfl⟩
  have HNL : Hid ((l.map wtC).length = n) := by unfold Hid; rw [List.length_map, hn]
  have HL0 := hide hl
  by_cases hbig : 100 < n
  · have HG : Hid (decide ((100 : Int) < (n : Int)) = true) := decide_eq_true (by omega)
    clear hbig hn
    go_enter Tryd.func8, Tryd.ntmps8
    go_wp2_with (first
      | (go_at_call 11; refine Ret.calls (alive_s hS hK hF) ?_; clear hS; rintro r1 w ⟨rfl, hS⟩)
      | (show wpList _ _ _ (⟨some 13, .call _, _, _, _, _⟩ :: _) _ _; refine wpList_val rfl (op_len slRWt rfl rfl (v := lv) (xs := l.map wtC) rfl (by exact hS.rd HL0.out.rd)) ?_; rw [HNL.out]; go_frame)
      | (show wpList _ _ _ (⟨some 14, .binOp _ _ _ _ _, _, _, _, _⟩ :: _) _ _; refine wpList_val rfl (op_igtr rfl rfl rfl HG.out) ?_; go_frame)
      )
    go_ret
    exact ⟨rfl, hS.chg⟩
  have HG : Hid (decide ((100 : Int) < (n : Int)) = false) := decide_eq_false (by omega)
  have hlen6 : l.length ≤ 1000000 := by omega
  have hn60 : n ≤ 100 := by omega
  obtain ⟨O, hO⟩ : ∃ O, ordK l l.length = O := ⟨_, rfl⟩
  have HO := hide hO
  have HOL : Hid ((ints O).length = n) := by unfold Hid; rw [ints_len, ← hO, ordK_len, hn]
  have HOLL : Hid (O.length = n) := by unfold Hid; rw [← hO, ordK_len, hn]
  have HOND : Hid O.Nodup := by unfold Hid; rw [← hO]; exact (ordK_perm l l.length).nodup_iff.2 (places_nodup _)
  have HOP : Hid (∀ x ∈ O, 0 ≤ x ∧ x < (n : Int)) := fun x hx => by
    rw [← hO] at hx
    have := places_mem.1 ((ordK_perm l l.length).mem_iff.1 hx)
    omega
  have HOS : Hid (O.Pairwise (ltP l)) := by unfold Hid; rw [← hO]; exact ordK_sorted l l.length
  have HNE : Hid (((n : Int) != (n : Int)) = false) := neF rfl
  have HN := hide hn
  clear hbig hO hn
  go_enter Tryd.func8, Tryd.ntmps8
  go_upto_region 6 with (first
    | (go_at_call 11; refine Ret.calls (alive_s hS hK hF) ?_; clear hS; rintro r1 w ⟨rfl, hS⟩)
    | (show wpList _ _ _ (⟨some 13, .call _, _, _, _, _⟩ :: _) _ _; refine wpList_val rfl (op_len slRWt rfl rfl (v := lv) (xs := l.map wtC) rfl (by exact hS.rd HL0.out.rd)) ?_; rw [HNL.out]; go_frame)
    | (show wpList _ _ _ (⟨some 14, .binOp _ _ _ _ _, _, _, _, _⟩ :: _) _ _; refine wpList_val rfl (op_igtr rfl rfl rfl HG.out) ?_; go_frame)
    | (go_at_call 19; refine Ret.calls (weights_s hS HL0.out hlen6) ?_; clear hS; rintro r16 w7 hS)
    )
  obtain ⟨R1, h1, h2, h3, h4⟩ := hS.freezeOwn
  have HBK := hide h4
  have HRW := hide h2
  have HLW : Hid (LIn R1 w7 r16 l) := ⟨h2, HL0.out.ok⟩
  have HRL : Hid (RdIn R1 w7 2 lv (l.map wtC)) := (HL0.out.mv h3).rd
  have HT0 := hide (there_zero O)
  clear hS h2 h3 h4 hl
  have hS := h1
  clear h1
  go_wp2_with (first
    | go_big_skip
    | (go_at_call 20; refine Ret.calls (order_s hS HLW.out hlen6) ?_; clear hS; rintro r18 w hS; rw [HO.out] at hS)
    | (show wpList _ _ _ (⟨some 20, .call _, _, _, _, _⟩ :: _) _ _; refine wpList_val rfl (op_len slInt rfl rfl (v := r18) (xs := ints O) rfl (SepL.getOwn (v := r18) ((hS.bring (by repeat (first | exact t0 | apply tS))))).rd) ?_; rw [HOL.out]; go_frame)
    | (show wpList _ _ _ (⟨some 22, .call _, _, _, _, _⟩ :: _) _ _; refine wpList_val rfl (op_len slRWt rfl rfl (v := lv) (xs := l.map wtC) rfl (by exact hS.rd HRL.out)) ?_; rw [HNL.out]; go_frame)
    | (show wpList _ _ _ (⟨some 23, .binOp _ _ _ _ _, _, _, _, _⟩ :: _) _ _; refine wpList_val rfl (op_ineI rfl rfl rfl HNE.out) ?_; go_frame)
    | (show wpList _ _ _ (⟨some 5, .alloc _, _, _, _, _⟩ :: _) _ _; refine wpS_alloc hS rfl rfl zero100 (zs := List.replicate 100 (.bool false)) rfl ?_; clear hS; intro n5 w hS; rw [HT0.out] at hS; go_frame)
    | (show wpList _ _ _ (⟨some 25, .call _, _, _, _, _⟩ :: _) _ _; refine wpList_val rfl (op_len slInt rfl rfl (v := r18) (xs := ints O) rfl (SepL.getOwn (v := r18) ((hS.bring (by repeat (first | exact t0 | apply tS))))).rd) ?_; rw [HOL.out]; go_frame)
    )
  go_loopw [26, 6, 7] (fun kv _ _ wr => ∃ k : Nat, kv = .int .i64 k ∧ k ≤ n ∧ SepL R1 w7 wr [.blk n5 66 (thereB O k), .own 3 1 r18 (ints O)]) (fun kv _ _ _ => n - (intOf kv).toNat)
  case atStart => exact ⟨0, rfl, Nat.zero_le _, hS.sel (by repeat (first | exact Sel.refl | refine Sel.take (by repeat (first | exact t0 | apply tS)) ?_ | apply Sel.drop))⟩
  case round =>
    clear hS
    obtain ⟨k, rfl, hk, hS⟩ := hrel
    by_cases hlt : k < n
    · have hkO2 : k < O.length := by have := HOLL.out; omega
      have hkO : k < (ints O).length := by rw [ints_len]; exact hkO2
      obtain ⟨xi, hxi⟩ : ∃ y, O[k] = y := ⟨_, rfl⟩
      have hxr0 := HOP.out xi (hxi ▸ List.getElem_mem hkO2)
      obtain ⟨x, hx⟩ : ∃ x : Nat, xi = x := ⟨xi.toNat, by omega⟩
      subst hx
      have HY := hide hxi
      have hxn : x < n := by omega
      have hx100 : x < 100 := by omega
      have hxL : x < l.length := by have := HN.out; omega
      have hxr : x < (l.map wtC).length := by rw [List.length_map]; exact hxL
      have HX0 : Hid (decide ((x : Int) < 0) = false) := decide_eq_false (by omega)
      have HXN : Hid (decide ((n : Int) ≤ (x : Int)) = false) := decide_eq_false (by omega)
      have HTF := hide (there_at HOND.out hkO2 hxi hx100)
      have HTS := hide (there_next hkO2 hxi hx100)
      have HT100 : Hid (x < (thereB O k).length) := by unfold Hid; rw [there_len]; exact hx100
      obtain ⟨a, ha⟩ : ∃ a, l[x] = a := ⟨_, rfl⟩
      have HWX : Hid ((l.map wtC)[x] = [U a.fee, I64 a.size]) := by unfold Hid; rw [List.getElem_map, ha]; rfl
      have HAX := hide (HL0.out.ok a (ha ▸ List.getElem_mem hxL))
      have hea : wAt l (x : Int) = a := by rw [wAt_get rfl hxL, ha]
      have hkk : k = 0 ∨ ∃ g, k = g + 1 := by
        rcases Nat.eq_zero_or_pos k with h | h
        · exact .inl h
        · exact .inr ⟨k - 1, by omega⟩
      rcases hkk with hk0 | ⟨g, hg⟩
      · have HK0 : Hid (decide ((0 : Int) < (k : Int)) = false) := decide_eq_false (by omega)
        clear hk0 hxi ha hea hxr0
        go_wp2_with (first
          | go_big_skip
          | (show wpList _ _ _ (⟨some 29, .indexAddr _ _ _, _, _, _, _⟩ :: _) _ _; refine wpList_val rfl (op_indexAddr slInt rfl (v := r18) (xs := ints O) rfl (k := k) rfl (SepL.getOwn (v := r18) ((hS.bring (by repeat (first | exact t0 | apply tS))))).rd hkO) ?_; go_frame)
          | (show wpList _ _ _ (⟨some 30, .load _ _, _, _, _, _⟩ :: _) _ _; refine wpList_val rfl (op_loadE1 oneInt rfl (v := r18) (k := k) rfl (f := I64) (us := O) (SepL.getOwn (v := r18) ((hS.bring (by repeat (first | exact t0 | apply tS))))).rd hkO2) ?_; rw [HY.out]; go_frame)
          | (show wpList _ _ _ (⟨some 32, .binOp _ _ _ _ _, _, _, _, _⟩ :: _) _ _; refine wpList_val rfl (op_ilss rfl rfl rfl HX0.out) ?_; go_frame)
          | (show wpList _ _ _ (⟨some 36, .call _, _, _, _, _⟩ :: _) _ _; refine wpList_val rfl (op_len slRWt rfl rfl (v := lv) (xs := l.map wtC) rfl (by exact hS.rd HRL.out)) ?_; rw [HNL.out]; go_frame)
          | (show wpList _ _ _ (⟨some 37, .binOp _ _ _ _ _, _, _, _, _⟩ :: _) _ _; refine wpList_val rfl (op_igeq rfl rfl rfl HXN.out) ?_; go_frame)
          | (show wpList _ _ _ (⟨_, .indexAddr 66 _ _, _, _, _, _⟩ :: _) _ _; refine wpList_val rfl (op_indexArr arr100 rfl rfl (k := x) rfl hx100) ?_; simp only [Nat.zero_add]; go_frame)
          | (show wpList _ _ _ (⟨some 42, .load _ _, _, _, _, _⟩ :: _) _ _; refine wpList_val rfl (op_load1S (b := n5) (T := 66) oneBool ((hS.bring (by repeat (first | exact t0 | apply tS)))) rfl rfl HTF.out) ?_; go_frame)
          | (show wpList _ _ _ (⟨_, .store 4 _ _, _, _, _, _⟩ :: _) _ _; (refine wpS_store1 (b := n5) infoB1 (hS.bring (by repeat (first | exact t0 | apply tS))) rfl rfl rfl (v := .bool true) rfl rfl rfl HT100.out ?_); clear hS; intro w hS; rw [HTS.out] at hS; go_frame)
          )
        go_wp2_with fail
        refine wp_region_text (by kernel_rfl) (by kernel_rfl) (by repeat (first | exact Clean.body | refine Clean.then ?_ | refine Clean.inBlock ?_)) ?_
        replace hS := hS.drew
        go_wp2_with (first
          | go_big_skip
          | (show wpList _ _ _ (⟨some 47, .binOp _ _ _ _ _, _, _, _, _⟩ :: _) _ _; refine wpList_val rfl (op_igtr rfl rfl rfl HK0.out) ?_; go_frame)
          | (refine fin_mk (by kernel_rfl) ?_)
          )
        go_roundw
        case rel => exact ⟨k + 1, by go_num, hlt, hS.sel (by repeat (first | exact Sel.refl | refine Sel.take (by repeat (first | exact t0 | apply tS)) ?_ | apply Sel.drop))⟩
        case measure => simp [intOf]; omega
      · have HK0 : Hid (decide ((0 : Int) < (k : Int)) = true) := decide_eq_true (by omega)
        have HKG : Hid ((k : Int) - 1 = (g : Nat)) := by unfold Hid; omega
        have hg6 : g ≤ 1000000 := by omega
        have hgO2 : g < O.length := by omega
        have hgO : g < (ints O).length := by rw [ints_len]; exact hgO2
        obtain ⟨yi, hyi⟩ : ∃ y, O[g] = y := ⟨_, rfl⟩
        have hyr0 := HOP.out yi (hyi ▸ List.getElem_mem hgO2)
        obtain ⟨y, hy⟩ : ∃ y : Nat, yi = y := ⟨yi.toNat, by omega⟩
        subst hy
        have HYG := hide hyi
        have hyL : y < l.length := by have := HN.out; omega
        have hyr : y < (l.map wtC).length := by rw [List.length_map]; exact hyL
        obtain ⟨b, hb⟩ : ∃ b, l[y] = b := ⟨_, rfl⟩
        have HWY : Hid ((l.map wtC)[y] = [U b.fee, I64 b.size]) := by unfold Hid; rw [List.getElem_map, hb]; rfl
        have HAY := hide (HL0.out.ok b (hb ▸ List.getElem_mem hyL))
        have heb : wAt l (y : Int) = b := by rw [wAt_get rfl hyL, hb]
        have hlt2 : ltP l y x := by
          have := List.pairwise_iff_getElem.1 HOS.out g k hgO2 hkO2 (by omega)
          rwa [hyi, hxi] at this
        unfold ltP at hlt2
        rw [hea, heb] at hlt2
        have hno : ¬ lessW b a := by
          rcases hlt2 with h | h
          · exact fun h2 => lessW_asym h h2
          · exact h.1
        have CYX : Hid (∀ (w : World) (F : List Hp), SepL R1 w7 w F → Calls Tryd.prog 24 #[wV b, wV a] w (Ret fun y w' => y = .bool false ∧ SepL R1 w7 w' F)) := fun w F hS => less_s hS HAY.out HAX.out (decide_eq_false hno)
        by_cases hab : lessW a b
        · have CXY : Hid (∀ (w : World) (F : List Hp), SepL R1 w7 w F → Calls Tryd.prog 24 #[wV a, wV b] w (Ret fun y w' => y = .bool true ∧ SepL R1 w7 w' F)) := fun w F hS => less_s hS HAX.out HAY.out (decide_eq_true hab)
          clear hab hno hlt2 heb hb hyi hyr0 hg hxi ha hea hxr0
          go_wp2_with (first
            | go_big_skip
            | (show wpList _ _ _ (⟨some 29, .indexAddr _ _ _, _, _, _, _⟩ :: _) _ _; refine wpList_val rfl (op_indexAddr slInt rfl (v := r18) (xs := ints O) rfl (k := k) rfl (SepL.getOwn (v := r18) ((hS.bring (by repeat (first | exact t0 | apply tS))))).rd hkO) ?_; go_frame)
            | (show wpList _ _ _ (⟨some 30, .load _ _, _, _, _, _⟩ :: _) _ _; refine wpList_val rfl (op_loadE1 oneInt rfl (v := r18) (k := k) rfl (f := I64) (us := O) (SepL.getOwn (v := r18) ((hS.bring (by repeat (first | exact t0 | apply tS))))).rd hkO2) ?_; rw [HY.out]; go_frame)
            | (show wpList _ _ _ (⟨some 32, .binOp _ _ _ _ _, _, _, _, _⟩ :: _) _ _; refine wpList_val rfl (op_ilss rfl rfl rfl HX0.out) ?_; go_frame)
            | (show wpList _ _ _ (⟨some 36, .call _, _, _, _, _⟩ :: _) _ _; refine wpList_val rfl (op_len slRWt rfl rfl (v := lv) (xs := l.map wtC) rfl (by exact hS.rd HRL.out)) ?_; rw [HNL.out]; go_frame)
            | (show wpList _ _ _ (⟨some 37, .binOp _ _ _ _ _, _, _, _, _⟩ :: _) _ _; refine wpList_val rfl (op_igeq rfl rfl rfl HXN.out) ?_; go_frame)
            | (show wpList _ _ _ (⟨_, .indexAddr 66 _ _, _, _, _, _⟩ :: _) _ _; refine wpList_val rfl (op_indexArr arr100 rfl rfl (k := x) rfl hx100) ?_; simp only [Nat.zero_add]; go_frame)
            | (show wpList _ _ _ (⟨some 42, .load _ _, _, _, _, _⟩ :: _) _ _; refine wpList_val rfl (op_load1S (b := n5) (T := 66) oneBool ((hS.bring (by repeat (first | exact t0 | apply tS)))) rfl rfl HTF.out) ?_; go_frame)
            | (show wpList _ _ _ (⟨_, .store 4 _ _, _, _, _, _⟩ :: _) _ _; (refine wpS_store1 (b := n5) infoB1 (hS.bring (by repeat (first | exact t0 | apply tS))) rfl rfl rfl (v := .bool true) rfl rfl rfl HT100.out ?_); clear hS; intro w hS; rw [HTS.out] at hS; go_frame)
            )
          go_wp2_with fail
          refine wp_region_text (by kernel_rfl) (by kernel_rfl) (by repeat (first | exact Clean.body | refine Clean.then ?_ | refine Clean.inBlock ?_)) ?_
          replace hS := hS.drew
          go_wp2_with (first
            | go_big_skip
            | (show wpList _ _ _ (⟨some 47, .binOp _ _ _ _ _, _, _, _, _⟩ :: _) _ _; refine wpList_val rfl (op_igtr rfl rfl rfl HK0.out) ?_; go_frame)
            | (show wpList _ _ _ (⟨_, .indexAddr 46 _ _, _, _, _, _⟩ :: _) _ _; refine wpList_val rfl (op_indexAddr slInt rfl (v := r18) (xs := ints O) rfl (k := g) rfl (SepL.getOwn (v := r18) ((hS.bring (by repeat (first | exact t0 | apply tS))))).rd hgO) ?_; go_frame)
            | (show wpList _ _ _ (⟨_, .load 3 _, _, _, _, _⟩ :: _) _ _; refine wpList_val rfl (op_loadE1 oneInt rfl (v := r18) (k := g) rfl (f := I64) (us := O) (SepL.getOwn (v := r18) ((hS.bring (by repeat (first | exact t0 | apply tS))))).rd hgO2) ?_; rw [HYG.out]; go_frame)
            | (show wpList _ _ _ (⟨some 55, .indexAddr _ _ _, _, _, _, _⟩ :: _) _ _; refine wpList_val rfl (op_indexAddr slWt rfl (v := r16) (xs := l.map wtC) rfl (k := y) rfl (by exact hS.rd HRW.out) hyr) ?_; go_frame)
            | (show wpList _ _ _ (⟨some 56, .load _ _, _, _, _, _⟩ :: _) _ _; refine wpList_val rfl (op_loadE aggWt rfl (v := r16) (xs := l.map wtC) (k := y) rfl (by exact hS.rd HRW.out) hyr) ?_; rw [HWY.out]; go_frame)
            | (show wpList _ _ _ (⟨some 59, .indexAddr _ _ _, _, _, _, _⟩ :: _) _ _; refine wpList_val rfl (op_indexAddr slWt rfl (v := r16) (xs := l.map wtC) rfl (k := x) rfl (by exact hS.rd HRW.out) hxr) ?_; go_frame)
            | (show wpList _ _ _ (⟨some 60, .load _ _, _, _, _, _⟩ :: _) _ _; refine wpList_val rfl (op_loadE aggWt rfl (v := r16) (xs := l.map wtC) (k := x) rfl (by exact hS.rd HRW.out) hxr) ?_; rw [HWX.out]; go_frame)
            | (show wpList _ _ _ (⟨some 65, .indexAddr _ _ _, _, _, _, _⟩ :: _) _ _; refine wpList_val rfl (op_indexAddr slWt rfl (v := r16) (xs := l.map wtC) rfl (k := x) rfl (by exact hS.rd HRW.out) hxr) ?_; go_frame)
            | (show wpList _ _ _ (⟨some 66, .load _ _, _, _, _, _⟩ :: _) _ _; refine wpList_val rfl (op_loadE aggWt rfl (v := r16) (xs := l.map wtC) (k := x) rfl (by exact hS.rd HRW.out) hxr) ?_; rw [HWX.out]; go_frame)
            | (show wpList _ _ _ (⟨some 73, .indexAddr _ _ _, _, _, _, _⟩ :: _) _ _; refine wpList_val rfl (op_indexAddr slWt rfl (v := r16) (xs := l.map wtC) rfl (k := y) rfl (by exact hS.rd HRW.out) hyr) ?_; go_frame)
            | (show wpList _ _ _ (⟨some 74, .load _ _, _, _, _, _⟩ :: _) _ _; refine wpList_val rfl (op_loadE aggWt rfl (v := r16) (xs := l.map wtC) (k := y) rfl (by exact hS.rd HRW.out) hyr) ?_; rw [HWY.out]; go_frame)
            | (show wpList _ _ _ (⟨_, .binOp .sub _ _ _ _, _, _, _, _⟩ :: _) _ _; refine wpList_val rfl (op_isubN rfl rfl rfl g HKG.out (by omega)) ?_; go_frame)
            | (go_at_call 24; with_reducible refine Ret.calls (CYX.out _ _ hS) ?_; clear hS; rintro r1 w ⟨rfl, hS⟩)
            | (go_at_call 24; with_reducible refine Ret.calls (CXY.out _ _ hS) ?_; clear hS; rintro r1 w ⟨rfl, hS⟩)
            | (show wpList _ _ _ (⟨some 84, .binOp _ _ _ _ _, _, _, _, _⟩ :: _) _ _; refine wpList_val rfl (op_igtr (a := y) (b := x) rfl rfl rfl HGT.out) ?_; go_frame)
            | (refine fin_mk (by kernel_rfl) ?_)
            )
          go_roundw
          case rel => exact ⟨k + 1, by go_num, hlt, hS.sel (by repeat (first | exact Sel.refl | refine Sel.take (by repeat (first | exact t0 | apply tS)) ?_ | apply Sel.drop))⟩
          case measure => simp [intOf]; omega
        · have CXY : Hid (∀ (w : World) (F : List Hp), SepL R1 w7 w F → Calls Tryd.prog 24 #[wV a, wV b] w (Ret fun y w' => y = .bool false ∧ SepL R1 w7 w' F)) := fun w F hS => less_s hS HAX.out HAY.out (decide_eq_false hab)
          have HGT : Hid (decide ((x : Int) < (y : Int)) = false) := by
            refine decide_eq_false ?_
            rcases hlt2 with h | h
            · exact absurd h hab
            · have := h.2
              omega
          clear hab hno hlt2 heb hb hyi hyr0 hg hxi ha hea hxr0
          go_wp2_with (first
            | go_big_skip
            | (show wpList _ _ _ (⟨some 29, .indexAddr _ _ _, _, _, _, _⟩ :: _) _ _; refine wpList_val rfl (op_indexAddr slInt rfl (v := r18) (xs := ints O) rfl (k := k) rfl (SepL.getOwn (v := r18) ((hS.bring (by repeat (first | exact t0 | apply tS))))).rd hkO) ?_; go_frame)
            | (show wpList _ _ _ (⟨some 30, .load _ _, _, _, _, _⟩ :: _) _ _; refine wpList_val rfl (op_loadE1 oneInt rfl (v := r18) (k := k) rfl (f := I64) (us := O) (SepL.getOwn (v := r18) ((hS.bring (by repeat (first | exact t0 | apply tS))))).rd hkO2) ?_; rw [HY.out]; go_frame)
            | (show wpList _ _ _ (⟨some 32, .binOp _ _ _ _ _, _, _, _, _⟩ :: _) _ _; refine wpList_val rfl (op_ilss rfl rfl rfl HX0.out) ?_; go_frame)
            | (show wpList _ _ _ (⟨some 36, .call _, _, _, _, _⟩ :: _) _ _; refine wpList_val rfl (op_len slRWt rfl rfl (v := lv) (xs := l.map wtC) rfl (by exact hS.rd HRL.out)) ?_; rw [HNL.out]; go_frame)
            | (show wpList _ _ _ (⟨some 37, .binOp _ _ _ _ _, _, _, _, _⟩ :: _) _ _; refine wpList_val rfl (op_igeq rfl rfl rfl HXN.out) ?_; go_frame)
            | (show wpList _ _ _ (⟨_, .indexAddr 66 _ _, _, _, _, _⟩ :: _) _ _; refine wpList_val rfl (op_indexArr arr100 rfl rfl (k := x) rfl hx100) ?_; simp only [Nat.zero_add]; go_frame)
            | (show wpList _ _ _ (⟨some 42, .load _ _, _, _, _, _⟩ :: _) _ _; refine wpList_val rfl (op_load1S (b := n5) (T := 66) oneBool ((hS.bring (by repeat (first | exact t0 | apply tS)))) rfl rfl HTF.out) ?_; go_frame)
            | (show wpList _ _ _ (⟨_, .store 4 _ _, _, _, _, _⟩ :: _) _ _; (refine wpS_store1 (b := n5) infoB1 (hS.bring (by repeat (first | exact t0 | apply tS))) rfl rfl rfl (v := .bool true) rfl rfl rfl HT100.out ?_); clear hS; intro w hS; rw [HTS.out] at hS; go_frame)
            )
          go_wp2_with fail
          refine wp_region_text (by kernel_rfl) (by kernel_rfl) (by repeat (first | exact Clean.body | refine Clean.then ?_ | refine Clean.inBlock ?_)) ?_
          replace hS := hS.drew
          go_wp2_with (first
            | go_big_skip
            | (show wpList _ _ _ (⟨some 47, .binOp _ _ _ _ _, _, _, _, _⟩ :: _) _ _; refine wpList_val rfl (op_igtr rfl rfl rfl HK0.out) ?_; go_frame)
            | (show wpList _ _ _ (⟨_, .indexAddr 46 _ _, _, _, _, _⟩ :: _) _ _; refine wpList_val rfl (op_indexAddr slInt rfl (v := r18) (xs := ints O) rfl (k := g) rfl (SepL.getOwn (v := r18) ((hS.bring (by repeat (first | exact t0 | apply tS))))).rd hgO) ?_; go_frame)
            | (show wpList _ _ _ (⟨_, .load 3 _, _, _, _, _⟩ :: _) _ _; refine wpList_val rfl (op_loadE1 oneInt rfl (v := r18) (k := g) rfl (f := I64) (us := O) (SepL.getOwn (v := r18) ((hS.bring (by repeat (first | exact t0 | apply tS))))).rd hgO2) ?_; rw [HYG.out]; go_frame)
            | (show wpList _ _ _ (⟨some 55, .indexAddr _ _ _, _, _, _, _⟩ :: _) _ _; refine wpList_val rfl (op_indexAddr slWt rfl (v := r16) (xs := l.map wtC) rfl (k := y) rfl (by exact hS.rd HRW.out) hyr) ?_; go_frame)
            | (show wpList _ _ _ (⟨some 56, .load _ _, _, _, _, _⟩ :: _) _ _; refine wpList_val rfl (op_loadE aggWt rfl (v := r16) (xs := l.map wtC) (k := y) rfl (by exact hS.rd HRW.out) hyr) ?_; rw [HWY.out]; go_frame)
            | (show wpList _ _ _ (⟨some 59, .indexAddr _ _ _, _, _, _, _⟩ :: _) _ _; refine wpList_val rfl (op_indexAddr slWt rfl (v := r16) (xs := l.map wtC) rfl (k := x) rfl (by exact hS.rd HRW.out) hxr) ?_; go_frame)
            | (show wpList _ _ _ (⟨some 60, .load _ _, _, _, _, _⟩ :: _) _ _; refine wpList_val rfl (op_loadE aggWt rfl (v := r16) (xs := l.map wtC) (k := x) rfl (by exact hS.rd HRW.out) hxr) ?_; rw [HWX.out]; go_frame)
            | (show wpList _ _ _ (⟨some 65, .indexAddr _ _ _, _, _, _, _⟩ :: _) _ _; refine wpList_val rfl (op_indexAddr slWt rfl (v := r16) (xs := l.map wtC) rfl (k := x) rfl (by exact hS.rd HRW.out) hxr) ?_; go_frame)
            | (show wpList _ _ _ (⟨some 66, .load _ _, _, _, _, _⟩ :: _) _ _; refine wpList_val rfl (op_loadE aggWt rfl (v := r16) (xs := l.map wtC) (k := x) rfl (by exact hS.rd HRW.out) hxr) ?_; rw [HWX.out]; go_frame)
            | (show wpList _ _ _ (⟨some 73, .indexAddr _ _ _, _, _, _, _⟩ :: _) _ _; refine wpList_val rfl (op_indexAddr slWt rfl (v := r16) (xs := l.map wtC) rfl (k := y) rfl (by exact hS.rd HRW.out) hyr) ?_; go_frame)
            | (show wpList _ _ _ (⟨some 74, .load _ _, _, _, _, _⟩ :: _) _ _; refine wpList_val rfl (op_loadE aggWt rfl (v := r16) (xs := l.map wtC) (k := y) rfl (by exact hS.rd HRW.out) hyr) ?_; rw [HWY.out]; go_frame)
            | (show wpList _ _ _ (⟨_, .binOp .sub _ _ _ _, _, _, _, _⟩ :: _) _ _; refine wpList_val rfl (op_isubN rfl rfl rfl g HKG.out (by omega)) ?_; go_frame)
            | (go_at_call 24; with_reducible refine Ret.calls (CYX.out _ _ hS) ?_; clear hS; rintro r1 w ⟨rfl, hS⟩)
            | (go_at_call 24; with_reducible refine Ret.calls (CXY.out _ _ hS) ?_; clear hS; rintro r1 w ⟨rfl, hS⟩)
            | (show wpList _ _ _ (⟨some 84, .binOp _ _ _ _ _, _, _, _, _⟩ :: _) _ _; refine wpList_val rfl (op_igtr (a := y) (b := x) rfl rfl rfl HGT.out) ?_; go_frame)
            | (refine fin_mk (by kernel_rfl) ?_)
            )
          go_roundw
          case rel => exact ⟨k + 1, by go_num, hlt, hS.sel (by repeat (first | exact Sel.refl | refine Sel.take (by repeat (first | exact t0 | apply tS)) ?_ | apply Sel.drop))⟩
          case measure => simp [intOf]; omega
    · by_cases hn0 : n = 0
      · have HZ : Hid (worstK l l.length = -1) := by unfold Hid; rw [HN.out, hn0]; rfl
        have HE0 : Hid (((n : Int) == 0) = true) := eqT (by omega)
        have HE1 : Hid ((((-1 : Int)) == -1) = true) := rfl
        clear hn0
        go_wp2_with (first
          | go_big_skip
          | (go_at_call 22; refine Ret.calls (worst_s hS HLW.out hlen6) ?_; clear hS; rintro r1 w ⟨rfl, hS⟩; rw [HZ.out])
          | (show wpList _ _ _ (⟨some 92, .call _, _, _, _, _⟩ :: _) _ _; refine wpList_val rfl (op_len slRWt rfl rfl (v := lv) (xs := l.map wtC) rfl (by exact hS.rd HRL.out)) ?_; rw [HNL.out]; go_frame)
          | (show wpList _ _ _ (⟨some 93, .binOp _ _ _ _ _, _, _, _, _⟩ :: _) _ _; refine wpList_val rfl (op_eqI' rfl rfl rfl HE0.out) ?_; go_frame)
          | (show wpList _ _ _ (⟨some 95, .binOp _ _ _ _ _, _, _, _, _⟩ :: _) _ _; refine wpList_val rfl (op_eqI' rfl rfl rfl HE1.out) ?_; go_frame)
          )
        go_ret
        exact ⟨rfl, (HBK.out _ _ (hS.sel (by repeat (first | exact Sel.refl | refine Sel.take (by repeat (first | exact t0 | apply tS)) ?_ | apply Sel.drop)))).chg⟩
      · have HE0 : Hid (((n : Int) == 0) = false) := eqF (by omega)
        obtain ⟨zi, hzi⟩ : ∃ z, worstK l l.length = z := ⟨_, rfl⟩
        have hsp := (worstK_spec l l.length).2 (by have := HN.out; omega)
        rw [hzi] at hsp
        obtain ⟨z, hz⟩ : ∃ z : Nat, zi = z := ⟨zi.toNat, by omega⟩
        subst hz
        have HZ := hide hzi
        have HSP := hide hsp
        have hzL : z < l.length := by have := hsp.2.1; omega
        have hzr : z < (l.map wtC).length := by rw [List.length_map]; exact hzL
        have HZ0 : Hid (decide ((z : Int) < 0) = false) := decide_eq_false (by omega)
        have HZN : Hid (decide ((n : Int) ≤ (z : Int)) = false) := decide_eq_false (by have := HN.out; omega)
        obtain ⟨c, hc⟩ : ∃ a, l[z] = a := ⟨_, rfl⟩
        have HWZ : Hid ((l.map wtC)[z] = [U c.fee, I64 c.size]) := by unfold Hid; rw [List.getElem_map, hc]; rfl
        have HAZ := hide (HL0.out.ok c (hc ▸ List.getElem_mem hzL))
        have HEC : Hid (wAt l (z : Int) = c) := by unfold Hid; rw [wAt_get rfl hzL, hc]
        clear hn0 hsp hzi hc
        go_wp2_with (first
          | go_big_skip
          | (go_at_call 22; refine Ret.calls (worst_s hS HLW.out hlen6) ?_; clear hS; rintro r1 w ⟨rfl, hS⟩; rw [HZ.out])
          | (show wpList _ _ _ (⟨some 92, .call _, _, _, _, _⟩ :: _) _ _; refine wpList_val rfl (op_len slRWt rfl rfl (v := lv) (xs := l.map wtC) rfl (by exact hS.rd HRL.out)) ?_; rw [HNL.out]; go_frame)
          | (show wpList _ _ _ (⟨some 93, .binOp _ _ _ _ _, _, _, _, _⟩ :: _) _ _; refine wpList_val rfl (op_eqI' rfl rfl rfl HE0.out) ?_; go_frame)
          | (show wpList _ _ _ (⟨some 97, .binOp _ _ _ _ _, _, _, _, _⟩ :: _) _ _; refine wpList_val rfl (op_ilss rfl rfl rfl HZ0.out) ?_; go_frame)
          | (show wpList _ _ _ (⟨some 101, .call _, _, _, _, _⟩ :: _) _ _; refine wpList_val rfl (op_len slRWt rfl rfl (v := lv) (xs := l.map wtC) rfl (by exact hS.rd HRL.out)) ?_; rw [HNL.out]; go_frame)
          | (show wpList _ _ _ (⟨some 102, .binOp _ _ _ _ _, _, _, _, _⟩ :: _) _ _; refine wpList_val rfl (op_igeq rfl rfl rfl HZN.out) ?_; go_frame)
          | (show wpList _ _ _ (⟨some 105, .call _, _, _, _, _⟩ :: _) _ _; refine wpList_val rfl (op_len slWt rfl rfl (v := r16) (xs := l.map wtC) rfl (by exact hS.rd HRW.out)) ?_; rw [HNL.out]; go_frame)
          )
        go_loopw [106, 9] (fun kv _ wr => ∃ k : Nat, kv = .int .i64 k ∧ k ≤ n ∧ SepL R1 w7 wr []) (fun kv _ _ => n - (intOf kv).toNat)
        case atStart => exact ⟨0, rfl, Nat.zero_le _, hS.sel (by repeat (first | exact Sel.refl | refine Sel.take (by repeat (first | exact t0 | apply tS)) ?_ | apply Sel.drop))⟩
        case round =>
          clear hS
          obtain ⟨k, rfl, hk, hS⟩ := hrel
          by_cases hlt : k < n
          · have hkL : k < l.length := by have := HN.out; omega
            have hkr : k < (l.map wtC).length := by rw [List.length_map]; exact hkL
            obtain ⟨a, ha⟩ : ∃ a, l[k] = a := ⟨_, rfl⟩
            have HWK : Hid ((l.map wtC)[k] = [U a.fee, I64 a.size]) := by unfold Hid; rw [List.getElem_map, ha]; rfl
            have HAK := hide (HL0.out.ok a (ha ▸ List.getElem_mem hkL))
            have hea : wAt l (k : Int) = a := by rw [wAt_get rfl hkL, ha]
            have hno : ¬ lessW a c := by
              have h := HSP.out.2.2.1 k hkL
              rwa [hea, HEC.out] at h
            have CKZ : Hid (∀ (w : World) (F : List Hp), SepL R1 w7 w F → Calls Tryd.prog 24 #[wV a, wV c] w (Ret fun y w' => y = .bool false ∧ SepL R1 w7 w' F)) := fun w F hS => less_s hS HAK.out HAZ.out (decide_eq_false hno)
            by_cases hkz : k < z
            · have HKZ : Hid (decide ((k : Int) < (z : Int)) = true) := decide_eq_true (by omega)
              have hyes : lessW c a := by
                have h := HSP.out.2.2.2 k (by omega)
                rwa [hea, HEC.out] at h
              have CZK : Hid (∀ (w : World) (F : List Hp), SepL R1 w7 w F → Calls Tryd.prog 24 #[wV c, wV a] w (Ret fun y w' => y = .bool true ∧ SepL R1 w7 w' F)) := fun w F hS => less_s hS HAZ.out HAK.out (decide_eq_true hyes)
              clear hkz hno hyes hea ha
              go_wp2_with fail
              refine wp_region_text (by kernel_rfl) (by kernel_rfl) (by repeat (first | exact Clean.body | refine Clean.then ?_ | refine Clean.inBlock ?_)) ?_
              replace hS := hS.drew
              go_wp2_with (first
                | go_big_skip
                | (show wpList _ _ _ (⟨some 111, .indexAddr _ _ _, _, _, _, _⟩ :: _) _ _; refine wpList_val rfl (op_indexAddr slWt rfl (v := r16) (xs := l.map wtC) rfl (k := k) rfl (by exact hS.rd HRW.out) hkr) ?_; go_frame)
                | (show wpList _ _ _ (⟨some 112, .load _ _, _, _, _, _⟩ :: _) _ _; refine wpList_val rfl (op_loadE aggWt rfl (v := r16) (xs := l.map wtC) (k := k) rfl (by exact hS.rd HRW.out) hkr) ?_; rw [HWK.out]; go_frame)
                | (show wpList _ _ _ (⟨some 115, .indexAddr _ _ _, _, _, _, _⟩ :: _) _ _; refine wpList_val rfl (op_indexAddr slWt rfl (v := r16) (xs := l.map wtC) rfl (k := z) rfl (by exact hS.rd HRW.out) hzr) ?_; go_frame)
                | (show wpList _ _ _ (⟨some 116, .load _ _, _, _, _, _⟩ :: _) _ _; refine wpList_val rfl (op_loadE aggWt rfl (v := r16) (xs := l.map wtC) (k := z) rfl (by exact hS.rd HRW.out) hzr) ?_; rw [HWZ.out]; go_frame)
                | (show wpList _ _ _ (⟨some 125, .indexAddr _ _ _, _, _, _, _⟩ :: _) _ _; refine wpList_val rfl (op_indexAddr slWt rfl (v := r16) (xs := l.map wtC) rfl (k := z) rfl (by exact hS.rd HRW.out) hzr) ?_; go_frame)
                | (show wpList _ _ _ (⟨some 126, .load _ _, _, _, _, _⟩ :: _) _ _; refine wpList_val rfl (op_loadE aggWt rfl (v := r16) (xs := l.map wtC) (k := z) rfl (by exact hS.rd HRW.out) hzr) ?_; rw [HWZ.out]; go_frame)
                | (show wpList _ _ _ (⟨some 129, .indexAddr _ _ _, _, _, _, _⟩ :: _) _ _; refine wpList_val rfl (op_indexAddr slWt rfl (v := r16) (xs := l.map wtC) rfl (k := k) rfl (by exact hS.rd HRW.out) hkr) ?_; go_frame)
                | (show wpList _ _ _ (⟨some 130, .load _ _, _, _, _, _⟩ :: _) _ _; refine wpList_val rfl (op_loadE aggWt rfl (v := r16) (xs := l.map wtC) (k := k) rfl (by exact hS.rd HRW.out) hkr) ?_; rw [HWK.out]; go_frame)
                | (go_at_call 24; with_reducible refine Ret.calls (CKZ.out _ _ hS) ?_; clear hS; rintro r1 w ⟨rfl, hS⟩)
                | (go_at_call 24; with_reducible refine Ret.calls (CZK.out _ _ hS) ?_; clear hS; rintro r1 w ⟨rfl, hS⟩)
                | (show wpList _ _ _ (⟨some 121, .binOp _ _ _ _ _, _, _, _, _⟩ :: _) _ _; refine wpList_val rfl (op_ilss (a := k) (b := z) rfl rfl rfl HKZ.out) ?_; go_frame)
                | (refine fin_mk (by kernel_rfl) ?_)
                )
              go_roundw
              case rel => exact ⟨k + 1, by go_num, hlt, hS.sel (by repeat (first | exact Sel.refl | refine Sel.take (by repeat (first | exact t0 | apply tS)) ?_ | apply Sel.drop))⟩
              case measure => simp [intOf]; omega
            · have HKZ : Hid (decide ((k : Int) < (z : Int)) = false) := decide_eq_false (by omega)
              clear hkz hno hea ha
              go_wp2_with fail
              refine wp_region_text (by kernel_rfl) (by kernel_rfl) (by repeat (first | exact Clean.body | refine Clean.then ?_ | refine Clean.inBlock ?_)) ?_
              replace hS := hS.drew
              go_wp2_with (first
                | go_big_skip
                | (show wpList _ _ _ (⟨some 111, .indexAddr _ _ _, _, _, _, _⟩ :: _) _ _; refine wpList_val rfl (op_indexAddr slWt rfl (v := r16) (xs := l.map wtC) rfl (k := k) rfl (by exact hS.rd HRW.out) hkr) ?_; go_frame)
                | (show wpList _ _ _ (⟨some 112, .load _ _, _, _, _, _⟩ :: _) _ _; refine wpList_val rfl (op_loadE aggWt rfl (v := r16) (xs := l.map wtC) (k := k) rfl (by exact hS.rd HRW.out) hkr) ?_; rw [HWK.out]; go_frame)
                | (show wpList _ _ _ (⟨some 115, .indexAddr _ _ _, _, _, _, _⟩ :: _) _ _; refine wpList_val rfl (op_indexAddr slWt rfl (v := r16) (xs := l.map wtC) rfl (k := z) rfl (by exact hS.rd HRW.out) hzr) ?_; go_frame)
                | (show wpList _ _ _ (⟨some 116, .load _ _, _, _, _, _⟩ :: _) _ _; refine wpList_val rfl (op_loadE aggWt rfl (v := r16) (xs := l.map wtC) (k := z) rfl (by exact hS.rd HRW.out) hzr) ?_; rw [HWZ.out]; go_frame)
                | (show wpList _ _ _ (⟨some 125, .indexAddr _ _ _, _, _, _, _⟩ :: _) _ _; refine wpList_val rfl (op_indexAddr slWt rfl (v := r16) (xs := l.map wtC) rfl (k := z) rfl (by exact hS.rd HRW.out) hzr) ?_; go_frame)
                | (show wpList _ _ _ (⟨some 126, .load _ _, _, _, _, _⟩ :: _) _ _; refine wpList_val rfl (op_loadE aggWt rfl (v := r16) (xs := l.map wtC) (k := z) rfl (by exact hS.rd HRW.out) hzr) ?_; rw [HWZ.out]; go_frame)
                | (show wpList _ _ _ (⟨some 129, .indexAddr _ _ _, _, _, _, _⟩ :: _) _ _; refine wpList_val rfl (op_indexAddr slWt rfl (v := r16) (xs := l.map wtC) rfl (k := k) rfl (by exact hS.rd HRW.out) hkr) ?_; go_frame)
                | (show wpList _ _ _ (⟨some 130, .load _ _, _, _, _, _⟩ :: _) _ _; refine wpList_val rfl (op_loadE aggWt rfl (v := r16) (xs := l.map wtC) (k := k) rfl (by exact hS.rd HRW.out) hkr) ?_; rw [HWK.out]; go_frame)
                | (go_at_call 24; with_reducible refine Ret.calls (CKZ.out _ _ hS) ?_; clear hS; rintro r1 w ⟨rfl, hS⟩)
                | (go_at_call 24; with_reducible refine Ret.calls (CZK.out _ _ hS) ?_; clear hS; rintro r1 w ⟨rfl, hS⟩)
                | (show wpList _ _ _ (⟨some 121, .binOp _ _ _ _ _, _, _, _, _⟩ :: _) _ _; refine wpList_val rfl (op_ilss (a := k) (b := z) rfl rfl rfl HKZ.out) ?_; go_frame)
                | (refine fin_mk (by kernel_rfl) ?_)
                )
              go_roundw
              case rel => exact ⟨k + 1, by go_num, hlt, hS.sel (by repeat (first | exact Sel.refl | refine Sel.take (by repeat (first | exact t0 | apply tS)) ?_ | apply Sel.drop))⟩
              case measure => simp [intOf]; omega
          · go_wp2_with fail
            go_ret
            exact ⟨rfl, (HBK.out _ _ hS).chg⟩
end Go.Proofs.YtieobcaegegboaaDoor
