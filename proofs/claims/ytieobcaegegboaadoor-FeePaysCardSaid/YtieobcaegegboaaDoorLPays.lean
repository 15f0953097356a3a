/- What any transaction pays that spends any outputs is the document's; so is what any key opens, and any floor: the law returns true. Conditions: those that stand ahead of each theorem. -/
import Derived.Test.YtieobcaegegboaaDoorGWfC
namespace Go.Proofs.YtieobcaegegboaaDoor
open Go Go.RowKit Go.Px Go.Sha Go.Calc Go.WideMaps
theorem great_key {m : MT} {j : Nat} (h : greatB m.pt j = false) : ∀ p ∈ m.L, p.1.key.length ≤ 1000 := by
  unfold greatB MT.pt at h
  rw [Bool.or_eq_false_iff, List.any_eq_false] at h
  intro p hp
  have := h.2 p.1 (List.mem_map.2 ⟨p, hp, rfl⟩)
  simpa using this
set_option maxRecDepth 100000 in
set_option maxHeartbeats 8000000 in
theorem feePays_w {W : World} (hK : CIn All W 3 (kTab.map W32)) (hF : CIn All W 0 (first.map W32)) {m : MT} (ht : TxIn All W m) {pv : Value} {prev : List POut} (hpv : OutsIn All W pv prev) {z : Int} (hz : In64 z) :
    Calls Tryd.prog 3 #[txV m, pv, I64 z] W (Ret fun r w' => r = .bool true ∧ Chg No W w') := by
  have hS := SepL.start W
  obtain ⟨n, hn⟩ : ∃ n, m.L.length = n := ⟨_, rfl⟩
  have HNL : Hid ((m.L.map inC).length = n) := by unfold Hid; rw [List.length_map, hn]
  have HRI := hide ht.ins
  have HKEY := hide ht.key
  have HIOK := hide ht.iok
  have hsm := rd_small ht.ins
  rw [List.length_map, hn] at hsm
  obtain ⟨g, hg⟩ : ∃ g, greatB m.pt prev.length = g := ⟨_, rfl⟩
  have HG := hide hg
  have HGR : Hid (∀ {w : World} {F : List Hp}, SepL All W w F → Calls Tryd.prog 12 #[txV m, pv] w (Ret fun r w' => r = .bool g ∧ SepL All W w' F)) := fun hS => great_s hS ht hpv.rd HG
  obtain ⟨p1, p2, hpp⟩ : ∃ p1 p2, payN sum m.pt prev = (p1, p2) := ⟨_, _, rfl⟩
  have HOF : Hid (∀ {w : World} {F : List Hp}, SepL All W w F → Calls Tryd.prog 13 #[txV m, pv] w (Ret fun r w' => r = .tuple #[U p1, .int .i64 p2] ∧ SepL All W w' F)) := fun hS => by
    have g := of_s hS hK hF ht hpv
    rwa [hpp] at g
  have HROF : Hid (∀ {w : World} {F : List Hp}, SepL All W w F → Calls Tryd.prog 14 #[txV m, pv] w (Ret fun r w' => r = .tuple #[U p1, .int .i64 p2] ∧ SepL All W w' F)) := fun hS => by
    have g := rof_s hS ht hpv
    rwa [hpp] at g
  obtain ⟨f, hf⟩ : ∃ f, floorN z = f := ⟨_, rfl⟩
  have HFL : Hid (∀ {w : World} {F : List Hp}, SepL All W w F → Calls Tryd.prog 17 #[I64 z] w (Ret fun r w' => r = U f ∧ SepL All W w' F)) := fun hS => by
    have g := floor_s hz hS
    rwa [hf] at g
  have HRFL : Hid (∀ {w : World} {F : List Hp}, SepL All W w F → Calls Tryd.prog 18 #[I64 z] w (Ret fun r w' => r = U f ∧ SepL All W w' F)) := fun hS => by
    have g := rfloor_s hz hS
    rwa [hf] at g
  clear hg hpp hf
  cases g with
  | true =>
    go_enter Tryd.func3, Tryd.ntmps3
    go_wp2_with (first
      | (show wpList _ _ _ (⟨some 3, .box _ _, _, _, _, _⟩ :: _) _ _; refine wpS_boxA (cs := [N32 m.ver, m.iv, m.ov]) hS rfl rfl rfl ?_; clear hS; intro n1 w hS; go_frame)
      | (go_at_call 11; refine Ret.calls (alive_s hS hK hF) ?_; clear hS; rintro r1 w ⟨rfl, hS⟩)
      | (show wpList _ _ _ (⟨_, .load 26 _, _, _, _, _⟩ :: _) _ _; refine wpList_val rfl (op_load aggTx rfl rfl (SepL.getBlk (b := n1) (T := 26) ((hS.bring (by repeat (first | exact t0 | apply tS))))).cells rfl) ?_; go_frame)
      | (go_at_call 12; refine Ret.calls (HGR.out hS) ?_; clear hS; rintro r1 w ⟨rfl, hS⟩)
      )
    go_ret
    exact ⟨rfl, (hS.sel (M := []) (by repeat (first | exact Sel.refl | refine Sel.take (by repeat (first | exact t0 | apply tS)) ?_ | apply Sel.drop))).chg⟩
  | false =>
    have HK1 := hide (great_key HG.out)
    go_enter Tryd.func3, Tryd.ntmps3
    go_wp2_with (first
      | (show wpList _ _ _ (⟨some 3, .box _ _, _, _, _, _⟩ :: _) _ _; refine wpS_boxA (cs := [N32 m.ver, m.iv, m.ov]) hS rfl rfl rfl ?_; clear hS; intro n1 w hS; go_frame)
      | (go_at_call 11; refine Ret.calls (alive_s hS hK hF) ?_; clear hS; rintro r1 w ⟨rfl, hS⟩)
      | (show wpList _ _ _ (⟨_, .load 26 _, _, _, _, _⟩ :: _) _ _; refine wpList_val rfl (op_load aggTx rfl rfl (SepL.getBlk (b := n1) (T := 26) ((hS.bring (by repeat (first | exact t0 | apply tS))))).cells rfl) ?_; go_frame)
      | (go_at_call 12; refine Ret.calls (HGR.out hS) ?_; clear hS; rintro r1 w ⟨rfl, hS⟩)
      | (go_at_call 13; refine Ret.calls (HOF.out hS) ?_; clear hS; rintro r1 w ⟨rfl, hS⟩)
      | (go_at_call 14; refine Ret.calls (HROF.out hS) ?_; clear hS; rintro r1 w ⟨rfl, hS⟩)
      | (show wpList _ _ _ (⟨_, .load 23 _, _, _, _, _⟩ :: _) _ _; refine wpList_val rfl (op_load1S (b := n1) (T := 26) oneIns ((hS.bring (by repeat (first | exact t0 | apply tS)))) rfl rfl rfl) ?_; go_frame)
      | (show wpList _ _ _ (⟨_, .load 24 _, _, _, _, _⟩ :: _) _ _; refine wpList_val rfl (op_load1S (b := n1) (T := 26) oneOuts ((hS.bring (by repeat (first | exact t0 | apply tS)))) rfl rfl rfl) ?_; go_frame)
      | (show wpList _ _ _ (⟨some 32, .call _, _, _, _, _⟩ :: _) _ _; refine wpList_val rfl (op_len slIns rfl rfl (v := m.iv) (xs := m.L.map inC) rfl (by exact hS.rd HRI.out)) ?_; rw [HNL.out]; go_frame)
      )
    go_loopw [33] (fun kv wr => ∃ k : Nat, kv = .int .i64 k ∧ k ≤ n ∧ SepL All W wr [.blk n1 26 [N32 m.ver, m.iv, m.ov]]) (fun kv _ => n - (intOf kv).toNat)
    case atStart => exact ⟨0, rfl, Nat.zero_le _, hS⟩
    case round =>
      clear hS
      obtain ⟨k, rfl, hk, hS⟩ := hrel
      by_cases hlt : k < n
      ·
        have hkL : k < m.L.length := by omega
        have hkr : k < (m.L.map inC).length := by rw [List.length_map]; exact hkL
        obtain ⟨p, hp⟩ : ∃ p, m.L[k] = p := ⟨_, rfl⟩
        have hpm : p ∈ m.L := hp ▸ List.getElem_mem hkL
        have HX : Hid ((m.L.map inC)[k] = inC p) := by unfold Hid; rw [List.getElem_map, hp]
        have hok := HIOK.out p hpm
        have HOK := hide hok
        have HXL : Hid ((inC p).length = 34) := inC_len hok
        have HX1 : Hid (∀ v ∈ inC p, v.oneCell' = true) := inC_one (slice_one (HKEY.out p hpm)).1
        have HPT : Hid ((inC p).take 33 = ptC p.1) := inC_pt hok
        have HPL : Hid ((ptC p.1).length = 33) := ptC_len hok
        have HAT : Hid (∃ h : k < m.L.length, m.L[k] = p) := ⟨hkL, hp⟩
        clear hp
        have HX33 : Hid ((inC p)[33]? = some p.2) := inC_key hok
        have hk1000 := HK1.out p hpm
        obtain ⟨lk, hlk⟩ : ∃ lk, sum p.1.key = lk := ⟨_, rfl⟩
        have HLKL : Hid (lk.length = 32) := by unfold Hid; rw [← hlk, sum_len]
        have HLK : Hid (∀ {w : World} {F : List Hp}, SepL All W w F → Calls Tryd.prog 15 #[p.2] w (Ret fun r w' => r = Go.Px.HV lk ∧ SepL All W w' F)) := fun hS => by
          have g := lock_s hS hK hF (HKEY.out p hpm) (by omega)
          rwa [hlk] at g
        have HSM : Hid (∀ {w : World} {F : List Hp}, SepL All W w F → Calls Tryd.prog 16 #[p.2] w (Ret fun r w' => r = Go.Px.HV lk ∧ SepL All W w' F)) := fun hS => by
          have g := rsum_s hS (HKEY.out p hpm) (by omega)
          rwa [hlk] at g
        clear hlk hok HOK hpm
        go_wp2_with (first
          | (show wpList _ _ _ (⟨_, .indexAddr 23 _ _, _, _, _, _⟩ :: _) _ _; refine wpList_val rfl (op_indexAddr slIns rfl (v := m.iv) (xs := m.L.map inC) rfl (k := k) rfl (by exact hS.rd HRI.out) hkr) ?_; go_frame)
          | (show wpList _ _ _ (⟨_, .load 39 _, _, _, _, _⟩ :: _) _ _; refine wpList_val rfl (op_loadE aggIn rfl (v := m.iv) (xs := m.L.map inC) (k := k) rfl (by exact hS.rd HRI.out) hkr) ?_; rw [HX.out]; go_frame)
          | (show wpList _ _ _ (⟨_, .alloc 39, _, _, _, _⟩ :: _) _ _; refine wpS_alloc hS rfl rfl zeroIn (zs := zIn) rfl ?_; clear hS; intro nx w hS; go_frame)
          | (show wpList _ _ _ (⟨_, .store 39 _ _, _, _, _, _⟩ :: _) _ _; (refine wpS_storeAll (b := nx) aggIn (hS.bring (by repeat (first | exact t0 | apply tS))) rfl rfl rfl (vs := inC p) rfl HXL.out HX1.out rfl ?_); clear hS; intro w hS; go_frame)
          )
        refine wp_region_ord (by kernel_rfl) [37, 40] [[0, 1, 3, 4, 2, 5, 6]] (by kernel_rfl) (by kernel_rfl) (fun w' => Blk w' nx 39 (inC p)) Up.blk ((hS.bring (by repeat (first | exact t0 | apply tS))).getBlk) (by repeat (first | exact Clean.body | refine Clean.then ?_ | refine Clean.inBlock ?_ | refine SegQ.clean ?_ | refine FinC.clean ?_)) ?_
        replace hS := hS.drew
        refine ord_seg (by repeat (first | exact Clean.body | refine Clean.then ?_ | refine Clean.inBlock ?_ | refine SegQ.clean ?_ | refine FinC.clean ?_)) (n := 2) (rest := [[5, 6]]) [0, 1, 3, 4, 2] [⟨_, _, _, _, _, _⟩, ⟨_, _, _, _, _, _⟩, ⟨_, _, _, _, _, _⟩, ⟨_, _, _, _, _, _⟩, ⟨_, _, _, _, _, _⟩] rfl (by kernel_rfl) (by simp) _ _ ?_
        go_wp2_with (first
          | (show wpList _ _ _ (⟨_, .load 37 _, _, _, _, _⟩ :: _) _ _; refine wpList_val rfl (op_load1S (b := nx) (T := 39) oneBytes ((hS.bring (by repeat (first | exact t0 | apply tS)))) rfl rfl HX33.out) ?_; go_frame)
          | (go_at_call 15; refine Ret.calls (HLK.out hS) ?_; clear hS; rintro r1 w ⟨rfl, hS⟩)
          | (go_at_call 16; refine Ret.calls (HSM.out hS) ?_; clear hS; rintro r1 w ⟨rfl, hS⟩)
          | (show wpList _ _ _ (⟨some 43, .binOp _ _ _ _ _, _, _, _, _⟩ :: _) _ _; refine wpList_val rfl (op_neqHash (a := lk) (b := lk) rfl rfl rfl HLKL.out HLKL.out (r := false) (by rw [decide_eq_true (Eq.refl lk)]; rfl)) ?_; go_frame)
          )
        refine segQ_mk (((hS.bring (by repeat (first | exact t0 | apply tS))).getBlk) : Blk _ nx 39 (inC p)) ?_
        refine ord_seg (by repeat (first | exact Clean.body | refine Clean.then ?_ | refine Clean.inBlock ?_ | refine SegQ.clean ?_ | refine FinC.clean ?_)) (n := 1) (rest := [[6]]) [5] [⟨_, _, _, _, _, _⟩] rfl (by kernel_rfl) (by simp) _ _ ?_
        go_wp2_with (first
          | (show wpList _ _ _ (⟨_, .load 37 _, _, _, _, _⟩ :: _) _ _; refine wpList_val rfl (op_load1S (b := nx) (T := 39) oneBytes ((hS.bring (by repeat (first | exact t0 | apply tS)))) rfl rfl HX33.out) ?_; go_frame)
          | (go_at_call 15; refine Ret.calls (HLK.out hS) ?_; clear hS; rintro r1 w ⟨rfl, hS⟩)
          | (go_at_call 16; refine Ret.calls (HSM.out hS) ?_; clear hS; rintro r1 w ⟨rfl, hS⟩)
          | (show wpList _ _ _ (⟨some 43, .binOp _ _ _ _ _, _, _, _, _⟩ :: _) _ _; refine wpList_val rfl (op_neqHash (a := lk) (b := lk) rfl rfl rfl HLKL.out HLKL.out (r := false) (by rw [decide_eq_true (Eq.refl lk)]; rfl)) ?_; go_frame)
          )
        refine segQ_mk (((hS.bring (by repeat (first | exact t0 | apply tS))).getBlk) : Blk _ nx 39 (inC p)) ?_
        refine ord_seg (by repeat (first | exact Clean.body | refine Clean.then ?_ | refine Clean.inBlock ?_ | refine SegQ.clean ?_ | refine FinC.clean ?_)) (n := 0) (rest := [[]]) [6] [⟨_, _, _, _, _, _⟩] rfl (by kernel_rfl) (by simp) _ _ ?_
        go_wp2_with (first
          | (show wpList _ _ _ (⟨_, .load 37 _, _, _, _, _⟩ :: _) _ _; refine wpList_val rfl (op_load1S (b := nx) (T := 39) oneBytes ((hS.bring (by repeat (first | exact t0 | apply tS)))) rfl rfl HX33.out) ?_; go_frame)
          | (go_at_call 15; refine Ret.calls (HLK.out hS) ?_; clear hS; rintro r1 w ⟨rfl, hS⟩)
          | (go_at_call 16; refine Ret.calls (HSM.out hS) ?_; clear hS; rintro r1 w ⟨rfl, hS⟩)
          | (show wpList _ _ _ (⟨some 43, .binOp _ _ _ _ _, _, _, _, _⟩ :: _) _ _; refine wpList_val rfl (op_neqHash (a := lk) (b := lk) rfl rfl rfl HLKL.out HLKL.out (r := false) (by rw [decide_eq_true (Eq.refl lk)]; rfl)) ?_; go_frame)
          )
        refine segQ_mk (((hS.bring (by repeat (first | exact t0 | apply tS))).getBlk) : Blk _ nx 39 (inC p)) ?_
        refine finC_mk (by kernel_rfl) (by
          intro t ht
          simp only [List.mem_cons, List.not_mem_nil, or_false] at ht
          rcases ht with rfl | rfl <;> exact stab_blk (b := nx) (fun w h => h) _ none) ?_
        go_wp2_with fail
        go_roundw
        case rel => exact ⟨k + 1, by go_num, hlt, hS.sel (by repeat (first | exact Sel.refl | refine Sel.take (by repeat (first | exact t0 | apply tS)) ?_ | apply Sel.drop))⟩
        case measure => simp [intOf]; omega
      ·
        go_wp2_with (first
          | go_big_skip
          | (show wpList _ _ _ (⟨some 47, .binOp _ _ _ _ _, _, _, _, _⟩ :: _) _ _; refine wpList_val rfl (opU_eql (a := p1) (b := p1) rfl rfl rfl (beq_self_eq_true p1)) ?_; go_frame)
          | (show wpList _ _ _ (⟨some 51, .binOp _ _ _ _ _, _, _, _, _⟩ :: _) _ _; refine wpList_val rfl (op_eqI' rfl rfl rfl (beq_self_eq_true _)) ?_; go_frame)
          | (go_at_call 17; refine Ret.calls (HFL.out hS) ?_; clear hS; rintro r1 w ⟨rfl, hS⟩)
          | (go_at_call 18; refine Ret.calls (HRFL.out hS) ?_; clear hS; rintro r1 w ⟨rfl, hS⟩)
          | (show wpList _ _ _ (⟨some 58, .binOp _ _ _ _ _, _, _, _, _⟩ :: _) _ _; refine wpList_val rfl (opU_eql (a := f) (b := f) rfl rfl rfl (beq_self_eq_true f)) ?_; go_frame)
          )
        go_ret
        exact ⟨rfl, (hS.sel (M := []) (by repeat (first | exact Sel.refl | refine Sel.take (by repeat (first | exact t0 | apply tS)) ?_ | apply Sel.drop))).chg⟩
end Go.Proofs.YtieobcaegegboaaDoor
