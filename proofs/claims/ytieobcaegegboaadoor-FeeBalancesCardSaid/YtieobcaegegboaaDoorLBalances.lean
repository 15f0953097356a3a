/- What is paid and what the outputs have are what the inputs had; each key opens its lock: the law returns true. Conditions: those that stand ahead of each theorem. -/
import Derived.Test.YtieobcaegegboaaDoorGWfC
namespace Go.Proofs.YtieobcaegegboaaDoor
open Go Go.RowKit Go.Px Go.Sha Go.Calc Go.WideMaps
theorem uRow_nextA {a : List Nat} {l : List POut} {k v : Nat} {o : POut} (h : ∃ hk : k < l.length, l[k] = o) (hv : o.value = v) : uRow (a ++ (l.map POut.value).take k) ++ [[U v]] = uRow (a ++ (l.map POut.value).take (k + 1)) := by
  obtain ⟨hk, h⟩ := h
  rw [List.take_add_one, List.getElem?_eq_getElem (by rw [List.length_map]; exact hk), List.getElem_map, h, hv]
  unfold uRow
  simp
theorem val_small {l : List POut} {S p : Nat} (hp : p < 18446744073709551616) (h : ∀ o ∈ l, OOk o) : ∀ n ∈ p :: l.map POut.value, n < 18446744073709551616 := by
  intro n hn
  rcases List.mem_cons.1 hn with rfl | hn
  · exact hp
  · obtain ⟨o, ho, rfl⟩ := List.mem_map.1 hn
    exact (h o ho).1
set_option maxRecDepth 100000 in
set_option maxHeartbeats 8000000 in
theorem feeBalances_w {W : World} (hK : CIn All W 3 (kTab.map W32)) (hF : CIn All W 0 (first.map W32)) {m : MT} (ht : TxIn All W m) {pv : Value} {prev : List POut} (hpv : OutsIn All W pv prev) :
    Calls Tryd.prog 5 #[txV m, pv] W (Ret fun r w' => r = .bool true ∧ Chg No W w') := by
  have hS := SepL.start W
  obtain ⟨g, hg⟩ : ∃ g, greatB m.pt prev.length = g := ⟨_, rfl⟩
  have HGR : Hid (∀ {w : World} {F : List Hp}, SepL All W w F → Calls Tryd.prog 12 #[txV m, pv] w (Ret fun r w' => r = .bool g ∧ SepL All W w' F)) := fun hS => great_s hS ht hpv.rd hg
  obtain ⟨p1, p2, hpp⟩ : ∃ p1 p2, payN sum m.pt prev = (p1, p2) := ⟨_, _, rfl⟩
  have HOF : Hid (∀ {w : World} {F : List Hp}, SepL All W w F → Calls Tryd.prog 13 #[txV m, pv] w (Ret fun r w' => r = .tuple #[U p1, .int .i64 p2] ∧ SepL All W w' F)) := fun hS => by
    have g := of_s hS hK hF ht hpv
    rwa [hpp] at g
  have HPP := hide hpp
  clear hg hpp
  cases g with
  | true =>
    go_enter Tryd.func5, Tryd.ntmps5
    go_wp2_with (first
      | (show wpList _ _ _ (⟨some 2, .box _ _, _, _, _, _⟩ :: _) _ _; refine wpS_boxA (cs := [N32 m.ver, m.iv, m.ov]) hS rfl rfl rfl ?_; clear hS; intro n1 w hS; go_frame)
      | (go_at_call 11; refine Ret.calls (alive_s hS hK hF) ?_; clear hS; rintro r1 w ⟨rfl, hS⟩)
      | (show wpList _ _ _ (⟨_, .load 26 _, _, _, _, _⟩ :: _) _ _; refine wpList_val rfl (op_load aggTx rfl rfl (SepL.getBlk (b := n1) (T := 26) ((hS.bring (by repeat (first | exact t0 | apply tS))))).cells rfl) ?_; go_frame)
      | (go_at_call 12; refine Ret.calls (HGR.out hS) ?_; clear hS; rintro r1 w ⟨rfl, hS⟩)
      )
    go_ret
    exact ⟨rfl, (hS.sel (M := []) (by repeat (first | exact Sel.refl | refine Sel.take (by repeat (first | exact t0 | apply tS)) ?_ | apply Sel.drop))).chg⟩
  | false =>
  by_cases h2 : p2 ≠ 0
  · have e1 : p1 = 0 := by
      have := pay_zero (H := sum) (t := m.pt) (prev := prev) (by rw [HPP.out]; exact h2)
      rwa [HPP.out] at this
    subst e1
    have H1 : Hid (((p2 : Int) != 0) = true) := neT (by omega)
    clear h2 HPP
    go_enter Tryd.func5, Tryd.ntmps5
    go_wp2_with (first
      | (show wpList _ _ _ (⟨some 2, .box _ _, _, _, _, _⟩ :: _) _ _; refine wpS_boxA (cs := [N32 m.ver, m.iv, m.ov]) hS rfl rfl rfl ?_; clear hS; intro n1 w hS; go_frame)
      | (go_at_call 11; refine Ret.calls (alive_s hS hK hF) ?_; clear hS; rintro r1 w ⟨rfl, hS⟩)
      | (show wpList _ _ _ (⟨_, .load 26 _, _, _, _, _⟩ :: _) _ _; refine wpList_val rfl (op_load aggTx rfl rfl (SepL.getBlk (b := n1) (T := 26) ((hS.bring (by repeat (first | exact t0 | apply tS))))).cells rfl) ?_; go_frame)
      | (go_at_call 12; refine Ret.calls (HGR.out hS) ?_; clear hS; rintro r1 w ⟨rfl, hS⟩)
      | (go_at_call 13; refine Ret.calls (HOF.out hS) ?_; clear hS; rintro r1 w ⟨rfl, hS⟩)
      | (show wpList _ _ _ (⟨some 29, .binOp _ _ _ _ _, _, _, _, _⟩ :: _) _ _; refine wpList_val rfl (op_ineI rfl rfl rfl H1.out) ?_; go_frame)
      | (show wpList _ _ _ (⟨some 31, .binOp _ _ _ _ _, _, _, _, _⟩ :: _) _ _; refine wpList_val rfl (opU_eql (a := 0) (b := 0) rfl rfl rfl (r := true) rfl) ?_; go_frame)
      )
    go_ret
    exact ⟨rfl, (hS.sel (M := []) (by repeat (first | exact Sel.refl | refine Sel.take (by repeat (first | exact t0 | apply tS)) ?_ | apply Sel.drop))).chg⟩
  have e2 : p2 = 0 := Classical.not_not.1 h2
  clear h2
  subst e2
  obtain ⟨hok, hlen, hlb, hs64, hle, hp1⟩ := pay_ok (H := sum) (t := m.pt) (prev := prev) (by rw [HPP.out])
  rw [HPP.out] at hp1
  replace hp1 : p1 = sumO prev - sumO m.outs := hp1
  replace hle : sumO m.outs ≤ sumO prev := hle
  have hsm := hok.small
  have HC0 : Hid (checkN m.pt = 0) := check_ok.2 hok
  have HCK : Hid (∀ {w : World} {F : List Hp}, SepL All W w F → Calls Tryd.prog 26 #[txV m] w (Ret fun r w' => r = .int .i64 0 ∧ SepL All W w' F)) := fun hS => by
    have g := check_s hS ht
    rw [HC0.out] at g
    exact g
  obtain ⟨n, hn⟩ : ∃ n, m.L.length = n := ⟨_, rfl⟩
  obtain ⟨q, hq⟩ : ∃ q, m.outs.length = q := ⟨_, rfl⟩
  have hz : prev.length = n := by
    rw [hlen]
    unfold MT.pt
    rw [List.length_map, hn]
  have HNL : Hid ((m.L.map inC).length = n) := by unfold Hid; rw [List.length_map, hn]
  have HNO : Hid ((m.outs.map outC).length = q) := by unfold Hid; rw [List.length_map, hq]
  have HNP : Hid ((prev.map outC).length = n) := by unfold Hid; rw [List.length_map, hz]
  have HNN : Hid (((n : Int) != n) = false) := neF rfl
  have HRI := hide ht.ins
  have HRO := hide ht.outs.rd
  have HRP := hide hpv.rd
  have HKEY := hide ht.key
  have HIOK := hide ht.iok
  have HOOK := hide ht.outs.ok
  have HPOK := hide hpv.ok
  have HKL : Hid (∀ p ∈ m.L, p.1.key.length ≤ 64) := fun p hp => hsm.1 p.1 (List.mem_map.2 ⟨p, hp, rfl⟩)
  have hn8 : n ≤ 8 := by
    have := hsm.2.1
    unfold MT.pt at this
    rwa [List.length_map, hn] at this
  have hq8 : q ≤ 8 := by rw [← hq]; exact hsm.2.2.1
  have HLA : Hid (∀ k (h1 : k < m.L.length) (h2 : k < prev.length), sum m.L[k].1.key = prev[k].lock) := fun k h1 h2 => by
    have h := lock_at hlb k (by simpa [MT.pt] using h1) h2
    simpa only [MT.pt, List.getElem_map] using h
  obtain ⟨S, hSS⟩ : ∃ S, sumO prev = S := ⟨_, rfl⟩
  have hS64 : S < 18446744073709551616 := by rw [← hSS]; exact hs64
  have hp64 : p1 < 18446744073709551616 := by omega
  have hA1 : (p1 :: m.outs.map POut.value).sum = S := by
    have e : (m.outs.map POut.value).sum = sumO m.outs := rfl
    rw [List.sum_cons, e]
    omega
  have hA2 : (prev.map POut.value).sum = S := hSS
  have CS1 : Hid (∀ (u : Value) {w : World}, Rd 1 w u (uRow (p1 :: m.outs.map POut.value)) → Calls Tryd.prog 27 #[u] w (Ret fun r w' => r = .tuple #[U S, .int .i64 0] ∧ w' = w)) := fun u w h => by
    have g := sum_any u (p1 :: m.outs.map POut.value) w h (by exact val_small (S := S) hp64 HOOK.out)
    rcases sumE_cases (p1 :: m.outs.map POut.value) with ⟨g1, g2, g3⟩ | ⟨g1, _⟩
    · rw [g2, g3, hA1] at g
      exact g
    · exact absurd (by rw [hA1]; exact hS64) g1
  have CS2 : Hid (∀ (u : Value) {w : World}, Rd 1 w u (uRow (prev.map POut.value)) → Calls Tryd.prog 27 #[u] w (Ret fun r w' => r = .tuple #[U S, .int .i64 0] ∧ w' = w)) := fun u w h => by
    have g := sum_any u (prev.map POut.value) w h (by exact fun n hn => val_small (S := S) hp64 HPOK.out n (List.mem_cons_of_mem _ hn))
    rcases sumE_cases (prev.map POut.value) with ⟨g1, g2, g3⟩ | ⟨g1, _⟩
    · rw [g2, g3, hA2] at g
      exact g
    · exact absurd (by rw [hA2]; exact hS64) g1
  have H01 : Hid (uRow (p1 :: (m.outs.map POut.value).take 0) = [[U p1]]) := by unfold Hid; rw [List.take_zero]; rfl
  have H02 : Hid (uRow ((prev.map POut.value).take 0) = []) := by unfold Hid; rw [List.take_zero]; rfl
  have HE1 : Hid (uRow (p1 :: (m.outs.map POut.value).take q) = uRow (p1 :: m.outs.map POut.value)) := by
    unfold Hid
    rw [List.take_of_length_le (by rw [List.length_map]; omega)]
  have HE2 : Hid (uRow ((prev.map POut.value).take n) = uRow (prev.map POut.value)) := by
    unfold Hid
    rw [List.take_of_length_le (by rw [List.length_map]; omega)]
  clear hok hlen hlb hs64 hle hp1 hsm hSS hA1 hA2 HPP
  go_enter Tryd.func5, Tryd.ntmps5
  go_wp2_with (first
    | go_big_skip
    | (show wpList _ _ _ (⟨some 2, .box _ _, _, _, _, _⟩ :: _) _ _; refine wpS_boxA (cs := [N32 m.ver, m.iv, m.ov]) hS rfl rfl rfl ?_; clear hS; intro n1 w hS; go_frame)
    | (go_at_call 11; refine Ret.calls (alive_s hS hK hF) ?_; clear hS; rintro r1 w ⟨rfl, hS⟩)
    | (show wpList _ _ _ (⟨_, .load 26 _, _, _, _, _⟩ :: _) _ _; refine wpList_val rfl (op_load aggTx rfl rfl (SepL.getBlk (b := n1) (T := 26) ((hS.bring (by repeat (first | exact t0 | apply tS))))).cells rfl) ?_; go_frame)
    | (go_at_call 12; refine Ret.calls (HGR.out hS) ?_; clear hS; rintro r1 w ⟨rfl, hS⟩)
    | (go_at_call 13; refine Ret.calls (HOF.out hS) ?_; clear hS; rintro r1 w ⟨rfl, hS⟩)
    | (go_at_call 26; refine Ret.calls (HCK.out hS) ?_; clear hS; rintro r1 w ⟨rfl, hS⟩)
    | (show wpList _ _ _ (⟨some 29, .binOp _ _ _ _ _, _, _, _, _⟩ :: _) _ _; refine wpList_val rfl (op_ineI (a := 0) (b := 0) rfl rfl rfl (r := false) rfl) ?_; go_frame)
    | (show wpList _ _ _ (⟨some 34, .binOp _ _ _ _ _, _, _, _, _⟩ :: _) _ _; refine wpList_val rfl (op_ineI (a := 0) (b := 0) rfl rfl rfl (r := false) rfl) ?_; go_frame)
    | (show wpList _ _ _ (⟨_, .load 23 _, _, _, _, _⟩ :: _) _ _; refine wpList_val rfl (op_load1S (b := n1) (T := 26) oneIns ((hS.bring (by repeat (first | exact t0 | apply tS)))) rfl rfl rfl) ?_; go_frame)
    | (show wpList _ _ _ (⟨_, .load 24 _, _, _, _, _⟩ :: _) _ _; refine wpList_val rfl (op_load1S (b := n1) (T := 26) oneOuts ((hS.bring (by repeat (first | exact t0 | apply tS)))) rfl rfl rfl) ?_; go_frame)
    | (show wpList _ _ _ (⟨some 40, .call _, _, _, _, _⟩ :: _) _ _; refine wpList_val rfl (op_len slIns rfl rfl (v := m.iv) (xs := m.L.map inC) rfl (by exact hS.rd HRI.out)) ?_; rw [HNL.out]; go_frame)
    | (show wpList _ _ _ (⟨some 37, .call _, _, _, _, _⟩ :: _) _ _; refine wpList_val rfl (op_len slOuts rfl rfl (v := pv) (xs := prev.map outC) rfl (by exact hS.rd HRP.out)) ?_; rw [HNP.out]; go_frame)
    | (show wpList _ _ _ (⟨some 41, .binOp _ _ _ _ _, _, _, _, _⟩ :: _) _ _; refine wpList_val rfl (op_ineI rfl rfl rfl HNN.out) ?_; go_frame)
    | (show wpList _ _ _ (⟨some 44, .buildSlice _ _ _, _, _, _, _⟩ :: _) _ _; refine wpS_build11 slTyU hS rfl rfl (u := U p1) rfl rfl ?_; clear hS; intro v7 w hS; go_frame)
    | (show wpList _ _ _ (⟨some 47, .call _, _, _, _, _⟩ :: _) _ _; refine wpList_val rfl (op_len slOuts rfl rfl (v := m.ov) (xs := m.outs.map outC) rfl (by exact hS.rd HRO.out)) ?_; rw [HNO.out]; go_frame)
    )
  rw [← H01.out] at hS
  go_loopw [48, 7] (fun kv v wr => ∃ k : Nat, kv = .int .i64 k ∧ k ≤ q ∧ SepL All W wr (.own 29 1 v (uRow (p1 :: (m.outs.map POut.value).take k)) :: [.blk n1 26 [N32 m.ver, m.iv, m.ov]])) (fun kv _ _ => q - (intOf kv).toNat)
  case atStart => exact ⟨0, rfl, Nat.zero_le _, hS⟩
  case round =>
    clear hS H01
    obtain ⟨k, rfl, hk, hS⟩ := hrel
    by_cases hlt : k < q
    ·
      have hkL : k < m.outs.length := by omega
      have hkr : k < (m.outs.map outC).length := by rw [List.length_map]; exact hkL
      obtain ⟨o, ho⟩ : ∃ o, m.outs[k] = o := ⟨_, rfl⟩
      have hom : o ∈ m.outs := ho ▸ List.getElem_mem hkL
      have HX : Hid ((m.outs.map outC)[k] = outC o) := by unfold Hid; rw [List.getElem_map, ho]
      have HXL : Hid ((outC o).length = 33) := outC_len (HOOK.out o hom)
      have hov := (HOOK.out o hom).1
      have HAT : Hid (∃ h : k < m.outs.length, m.outs[k] = o) := ⟨hkL, ho⟩
      obtain ⟨v, hv⟩ : ∃ v, o.value = v := ⟨_, rfl⟩
      have HV := hide hv
      rw [hv] at hov
      clear hom ho hv
      have HNX : Hid (uRow (p1 :: (m.outs.map POut.value).take k) ++ [[U v]] = uRow (p1 :: (m.outs.map POut.value).take (k + 1))) := uRow_nextA (a := [p1]) HAT.out HV.out
      have HTL : Hid ((uRow (p1 :: (m.outs.map POut.value).take k)).length = k + 1) := by
        unfold Hid
        rw [uRow_len, List.length_cons, List.length_take, List.length_map]
        omega
      go_wp2_with (first
        | (show wpList _ _ _ (⟨_, .indexAddr 24 _ _, _, _, _, _⟩ :: _) _ _; refine wpList_val rfl (op_indexAddr slOuts rfl (v := m.ov) (xs := m.outs.map outC) rfl (k := k) rfl (by exact hS.rd HRO.out) hkr) ?_; go_frame)
        | (show wpList _ _ _ (⟨_, .load 60 _, _, _, _, _⟩ :: _) _ _; refine wpList_val rfl (op_loadE aggOut rfl (v := m.ov) (xs := m.outs.map outC) (k := k) rfl (by exact hS.rd HRO.out) hkr) ?_; rw [HX.out]; go_frame)
        | (show wpList _ _ _ (⟨_, .alloc 60, _, _, _, _⟩ :: _) _ _; refine wpS_alloc hS rfl rfl zeroOut (zs := zOut) rfl ?_; clear hS; intro nx w hS; go_frame)
        | (show wpList _ _ _ (⟨_, .store 60 _ _, _, _, _, _⟩ :: _) _ _; (refine wpS_storeAll (b := nx) aggOut (hS.bring (by repeat (first | exact t0 | apply tS))) rfl rfl rfl (vs := outC o) rfl HXL.out (outC_one o) rfl ?_); clear hS; intro w hS; go_frame)
        | (show wpList _ _ _ (⟨_, .load 29 _, _, _, _, _⟩ :: _) _ _; refine wpList_val rfl (op_load1S (b := nx) (T := 60) oneU ((hS.bring (by repeat (first | exact t0 | apply tS)))) rfl rfl rfl) ?_; rw [HV.out]; go_frame)
        | (show wpList _ _ _ (⟨_, .buildSlice 58 _ _, _, _, _, _⟩ :: _) _ _; refine wpS_build11 slTyU hS rfl rfl (u := U v) rfl rfl ?_; clear hS; intro v2 w hS; go_frame)
        | (show wpList _ _ _ (⟨some 56, .call _, _, _, _, _⟩ :: _) _ _; replace hS := hS.sel (M := .own 29 1 u7 (uRow (p1 :: (m.outs.map POut.value).take k)) :: .own 29 1 v2 [[U v]] :: [.blk n1 26 [N32 m.ver, m.iv, m.ov]]) (by repeat (first | exact Sel.refl | refine Sel.take (by repeat (first | exact t0 | apply tS)) ?_ | apply Sel.drop)); refine wpS_append slTyU hS rfl rfl rfl rfl (by exact hS.tail.getOwn.rd) (by exact uRow_flat [v]) (by rw [HTL.out]; simp only [List.length_cons, List.length_nil]; omega) (by rw [HTL.out]; simp only [maxLen, List.length_cons, List.length_nil]; omega) ?_; clear hS; intro v3 w hS; rw [HNX.out] at hS; go_frame)
        )
      go_roundw
      case rel => exact ⟨k + 1, by go_num, hlt, hS.sel (by repeat (first | exact Sel.refl | refine Sel.take (by repeat (first | exact t0 | apply tS)) ?_ | apply Sel.drop))⟩
      case measure => simp [intOf]; omega
    ·
      have HALL : Hid (uRow (p1 :: (m.outs.map POut.value).take k) = uRow (p1 :: m.outs.map POut.value)) := by
        have hkq : k = q := by omega
        rw [hkq]
        exact HE1.out
      rw [HALL.out] at hS
      clear HALL HE1
      go_wp2_with (first
        | (show wpList _ _ _ (⟨some 59, .call _, _, _, _, _⟩ :: _) _ _; refine wpList_val rfl (op_len slOuts rfl rfl (v := pv) (xs := prev.map outC) rfl (by exact hS.rd HRP.out)) ?_; rw [HNP.out]; go_frame)
        )
      have hS1 := hS.nilOwn 29 1
      rw [← H02.out] at hS1
      go_loopw [60, 8, 11] (fun kv v _ wr => ∃ k : Nat, kv = .int .i64 k ∧ k ≤ n ∧ SepL All W wr (.own 29 1 v (uRow ((prev.map POut.value).take k)) :: .own 29 1 u7 (uRow (p1 :: m.outs.map POut.value)) :: [.blk n1 26 [N32 m.ver, m.iv, m.ov]])) (fun kv _ _ _ => n - (intOf kv).toNat)
      case atStart => exact ⟨0, rfl, Nat.zero_le _, hS1⟩
      case round =>
        clear hS hS1 H02
        obtain ⟨k, rfl, hk, hS⟩ := hrel
        by_cases hlt : k < n
        ·
          have hkP : k < prev.length := by omega
          have hkp : k < (prev.map outC).length := by rw [List.length_map]; exact hkP
          obtain ⟨o, ho⟩ : ∃ o, prev[k] = o := ⟨_, rfl⟩
          have hom : o ∈ prev := ho ▸ List.getElem_mem hkP
          have HX : Hid ((prev.map outC)[k] = outC o) := by unfold Hid; rw [List.getElem_map, ho]
          have hook := HPOK.out o hom
          have HXL : Hid ((outC o).length = 33) := outC_len hook
          have HLO : Hid (((outC o).drop 1).take 32 = o.lock.map B8) := out_lock hook
          have HLL := hide hook.2
          have HLM : Hid ((o.lock.map B8).length = 32) := by unfold Hid; rw [List.length_map, hook.2]
          have HATO : Hid (∃ h : k < prev.length, prev[k] = o) := ⟨hkP, ho⟩
          obtain ⟨v, hv⟩ : ∃ v, o.value = v := ⟨_, rfl⟩
          have HV := hide hv
          have hkL : k < m.L.length := by omega
          have hkr : k < (m.L.map inC).length := by rw [List.length_map]; exact hkL
          obtain ⟨p, hp⟩ : ∃ p, m.L[k] = p := ⟨_, rfl⟩
          have hpm : p ∈ m.L := hp ▸ List.getElem_mem hkL
          have hok := HIOK.out p hpm
          have HX33 : Hid ((m.L.map inC)[k][33]? = some p.2) := by unfold Hid; rw [List.getElem_map, hp]; exact inC_key hok
          have hk64 := HKL.out p hpm
          obtain ⟨lk, hlk⟩ : ∃ lk, sum p.1.key = lk := ⟨_, rfl⟩
          have HLKL : Hid (lk.length = 32) := by unfold Hid; rw [← hlk, sum_len]
          have hEQ : lk = o.lock := by rw [← hlk, ← hp, ← ho]; exact HLA.out k hkL hkP
          have HEQ : Hid ((!decide (lk = o.lock)) = false) := by unfold Hid; rw [decide_eq_true hEQ]; rfl
          have HSUM : Hid (∀ {w : World} {F : List Hp}, SepL All W w F → Calls Tryd.prog 15 #[p.2] w (Ret fun r w' => r = Go.Px.HV lk ∧ SepL All W w' F)) := fun hS => by
            have g := lock_s hS hK hF (HKEY.out p hpm) (by omega)
            rwa [hlk] at g
          have HNX : Hid (uRow ((prev.map POut.value).take k) ++ [[U v]] = uRow ((prev.map POut.value).take (k + 1))) := uRow_nextA (a := []) HATO.out HV.out
          have HTL : Hid ((uRow ((prev.map POut.value).take k)).length = k) := by
            unfold Hid
            rw [uRow_len, List.length_take, List.length_map]
            omega
          clear hom ho hv hook hp hlk hok hpm hEQ
          go_wp2_with (first
            | (show wpList _ _ _ (⟨_, .indexAddr 24 _ _, _, _, _, _⟩ :: _) _ _; refine wpList_val rfl (op_indexAddr slOuts rfl (v := pv) (xs := prev.map outC) rfl (k := k) rfl (by exact hS.rd HRP.out) hkp) ?_; go_frame)
            | (show wpList _ _ _ (⟨_, .load 60 _, _, _, _, _⟩ :: _) _ _; refine wpList_val rfl (op_loadE aggOut rfl (v := pv) (xs := prev.map outC) (k := k) rfl (by exact hS.rd HRP.out) hkp) ?_; rw [HX.out]; go_frame)
            | (show wpList _ _ _ (⟨_, .alloc 60, _, _, _, _⟩ :: _) _ _; refine wpS_alloc hS rfl rfl zeroOut (zs := zOut) rfl ?_; clear hS; intro nx w hS; go_frame)
            | (show wpList _ _ _ (⟨_, .store 60 _ _, _, _, _, _⟩ :: _) _ _; (refine wpS_storeAll (b := nx) aggOut (hS.bring (by repeat (first | exact t0 | apply tS))) rfl rfl rfl (vs := outC o) rfl HXL.out (outC_one o) rfl ?_); clear hS; intro w hS; go_frame)
            | (show wpList _ _ _ (⟨_, .load 29 _, _, _, _, _⟩ :: _) _ _; refine wpList_val rfl (op_load1S (b := nx) (T := 60) oneU ((hS.bring (by repeat (first | exact t0 | apply tS)))) rfl rfl rfl) ?_; rw [HV.out]; go_frame)
            | (show wpList _ _ _ (⟨_, .buildSlice 58 _ _, _, _, _, _⟩ :: _) _ _; refine wpS_build11 slTyU hS rfl rfl (u := U v) rfl rfl ?_; clear hS; intro v2 w hS; go_frame)
            | (show wpList _ _ _ (⟨some 69, .call _, _, _, _, _⟩ :: _) _ _; replace hS := hS.sel (M := .own 29 1 u8 (uRow ((prev.map POut.value).take k)) :: .own 29 1 v2 [[U v]] :: .blk nx 60 (outC o) :: .own 29 1 u7 (uRow (p1 :: m.outs.map POut.value)) :: [.blk n1 26 [N32 m.ver, m.iv, m.ov]]) (by repeat (first | exact Sel.refl | refine Sel.take (by repeat (first | exact t0 | apply tS)) ?_ | apply Sel.drop)); refine wpS_append slTyU hS rfl rfl rfl rfl (by exact hS.tail.getOwn.rd) (by exact uRow_flat [v]) (by rw [HTL.out]; simp only [List.length_cons, List.length_nil]; omega) (by rw [HTL.out]; simp only [maxLen, List.length_cons, List.length_nil]; omega) ?_; clear hS; intro v3 w hS; rw [HNX.out] at hS; go_frame)
            )
          refine wp_region_ord (by kernel_rfl) [] [[0, 1, 2, 3, 4, 5, 7, 6, 8, 9], [0, 1, 2, 3, 4, 5, 7, 8, 6, 9]] (by kernel_rfl) (by kernel_rfl) (fun _ => True) (fun _ _ _ _ => trivial) trivial (by repeat (first | exact Clean.body | refine Clean.then ?_ | refine Clean.inBlock ?_ | refine SegQ.clean ?_ | refine FinC.clean ?_)) ?_
          replace hS := hS.drew
          refine ord_seg (by repeat (first | exact Clean.body | refine Clean.then ?_ | refine Clean.inBlock ?_ | refine SegQ.clean ?_ | refine FinC.clean ?_)) (n := 3) (rest := [[6, 8, 9], [8, 6, 9]]) [0, 1, 2, 3, 4, 5, 7] [⟨_, _, _, _, _, _⟩, ⟨_, _, _, _, _, _⟩, ⟨_, _, _, _, _, _⟩, ⟨_, _, _, _, _, _⟩, ⟨_, _, _, _, _, _⟩, ⟨_, _, _, _, _, _⟩, ⟨_, _, _, _, _, _⟩] rfl (by kernel_rfl) (by simp) _ _ ?_
          go_wp2_with (first
            | (show wpList _ _ _ (⟨_, .load 23 _, _, _, _, _⟩ :: _) _ _; refine wpList_val rfl (op_load1S (b := n1) (T := 26) oneIns ((hS.bring (by repeat (first | exact t0 | apply tS)))) rfl rfl rfl) ?_; go_frame)
            | (show wpList _ _ _ (⟨some 73, .indexAddr _ _ _, _, _, _, _⟩ :: _) _ _; refine wpList_val rfl (op_indexAddr slIns rfl (v := m.iv) (xs := m.L.map inC) rfl (k := k) rfl (by exact hS.rd HRI.out) hkr) ?_; go_frame)
            | (show wpList _ _ _ (⟨some 74, .fieldAddr _ _ _, _, _, _, _⟩ :: _) _ _; refine wpList_val rfl (op_fieldAddrE (j := 33) (by kernel_rfl) rfl (n := 34) (k := k) (v := m.iv) rfl (by exact hS.rd HRI.out) hkr) ?_; go_frame)
            | (show wpList _ _ _ (⟨some 75, .load _ _, _, _, _, _⟩ :: _) _ _; refine wpList_val rfl (op_loadF1 oneBytes rfl (n := 34) (k := k) (j := 33) (v := m.iv) rfl (by exact hS.rd HRI.out) hkr HX33.out) ?_; go_frame)
            | (go_at_call 15; refine Ret.calls (HSUM.out hS) ?_; clear hS; rintro r1 w ⟨rfl, hS⟩)
            | (show wpList _ _ _ (⟨some 78, .load _ _, _, _, _, _⟩ :: _) _ _; refine wpList_val rfl (op_load agg32b rfl rfl (blk_mid (b := nx) (T := 60) ((hS.bring (by repeat (first | exact t0 | apply tS))).getBlk) HLO.out) HLM.out) ?_; go_frame)
            | (show wpList _ _ _ (⟨some 79, .binOp _ _ _ _ _, _, _, _, _⟩ :: _) _ _; refine wpList_val rfl (op_neqHash (a := lk) (b := o.lock) rfl rfl rfl HLKL.out HLL.out HEQ.out) ?_; go_frame)
            )
          refine segQ_mk trivial ?_
          refine ord_fork (n := 2) (os1 := [[6, 8, 9]]) (os2 := [[8, 6, 9]]) (by decide) ?_ ?_
          · skip
            refine ord_seg (by repeat (first | exact Clean.body | refine Clean.then ?_ | refine Clean.inBlock ?_ | refine SegQ.clean ?_ | refine FinC.clean ?_)) (n := 2) (rest := [[8, 9]]) [6] [⟨_, _, _, _, _, _⟩] rfl (by kernel_rfl) (by simp) _ _ ?_
            go_wp2_with (first
              | (show wpList _ _ _ (⟨_, .load 23 _, _, _, _, _⟩ :: _) _ _; refine wpList_val rfl (op_load1S (b := n1) (T := 26) oneIns ((hS.bring (by repeat (first | exact t0 | apply tS)))) rfl rfl rfl) ?_; go_frame)
              | (show wpList _ _ _ (⟨some 73, .indexAddr _ _ _, _, _, _, _⟩ :: _) _ _; refine wpList_val rfl (op_indexAddr slIns rfl (v := m.iv) (xs := m.L.map inC) rfl (k := k) rfl (by exact hS.rd HRI.out) hkr) ?_; go_frame)
              | (show wpList _ _ _ (⟨some 74, .fieldAddr _ _ _, _, _, _, _⟩ :: _) _ _; refine wpList_val rfl (op_fieldAddrE (j := 33) (by kernel_rfl) rfl (n := 34) (k := k) (v := m.iv) rfl (by exact hS.rd HRI.out) hkr) ?_; go_frame)
              | (show wpList _ _ _ (⟨some 75, .load _ _, _, _, _, _⟩ :: _) _ _; refine wpList_val rfl (op_loadF1 oneBytes rfl (n := 34) (k := k) (j := 33) (v := m.iv) rfl (by exact hS.rd HRI.out) hkr HX33.out) ?_; go_frame)
              | (go_at_call 15; refine Ret.calls (HSUM.out hS) ?_; clear hS; rintro r1 w ⟨rfl, hS⟩)
              | (show wpList _ _ _ (⟨some 78, .load _ _, _, _, _, _⟩ :: _) _ _; refine wpList_val rfl (op_load agg32b rfl rfl (blk_mid (b := nx) (T := 60) ((hS.bring (by repeat (first | exact t0 | apply tS))).getBlk) HLO.out) HLM.out) ?_; go_frame)
              | (show wpList _ _ _ (⟨some 79, .binOp _ _ _ _ _, _, _, _, _⟩ :: _) _ _; refine wpList_val rfl (op_neqHash (a := lk) (b := o.lock) rfl rfl rfl HLKL.out HLL.out HEQ.out) ?_; go_frame)
              )
            refine segQ_mk trivial ?_
            refine ord_seg (by repeat (first | exact Clean.body | refine Clean.then ?_ | refine Clean.inBlock ?_ | refine SegQ.clean ?_ | refine FinC.clean ?_)) (n := 0) (rest := [[]]) [8, 9] [⟨_, _, _, _, _, _⟩, ⟨_, _, _, _, _, _⟩] rfl (by kernel_rfl) (by simp) _ _ ?_
            go_wp2_with (first
              | (show wpList _ _ _ (⟨_, .load 23 _, _, _, _, _⟩ :: _) _ _; refine wpList_val rfl (op_load1S (b := n1) (T := 26) oneIns ((hS.bring (by repeat (first | exact t0 | apply tS)))) rfl rfl rfl) ?_; go_frame)
              | (show wpList _ _ _ (⟨some 73, .indexAddr _ _ _, _, _, _, _⟩ :: _) _ _; refine wpList_val rfl (op_indexAddr slIns rfl (v := m.iv) (xs := m.L.map inC) rfl (k := k) rfl (by exact hS.rd HRI.out) hkr) ?_; go_frame)
              | (show wpList _ _ _ (⟨some 74, .fieldAddr _ _ _, _, _, _, _⟩ :: _) _ _; refine wpList_val rfl (op_fieldAddrE (j := 33) (by kernel_rfl) rfl (n := 34) (k := k) (v := m.iv) rfl (by exact hS.rd HRI.out) hkr) ?_; go_frame)
              | (show wpList _ _ _ (⟨some 75, .load _ _, _, _, _, _⟩ :: _) _ _; refine wpList_val rfl (op_loadF1 oneBytes rfl (n := 34) (k := k) (j := 33) (v := m.iv) rfl (by exact hS.rd HRI.out) hkr HX33.out) ?_; go_frame)
              | (go_at_call 15; refine Ret.calls (HSUM.out hS) ?_; clear hS; rintro r1 w ⟨rfl, hS⟩)
              | (show wpList _ _ _ (⟨some 78, .load _ _, _, _, _, _⟩ :: _) _ _; refine wpList_val rfl (op_load agg32b rfl rfl (blk_mid (b := nx) (T := 60) ((hS.bring (by repeat (first | exact t0 | apply tS))).getBlk) HLO.out) HLM.out) ?_; go_frame)
              | (show wpList _ _ _ (⟨some 79, .binOp _ _ _ _ _, _, _, _, _⟩ :: _) _ _; refine wpList_val rfl (op_neqHash (a := lk) (b := o.lock) rfl rfl rfl HLKL.out HLL.out HEQ.out) ?_; go_frame)
              )
            refine segQ_mk trivial ?_
            refine finC_mk (by kernel_rfl) (by
              intro t ht
              cases ht) ?_
            go_wp2_with fail
            go_roundw
            case rel => exact ⟨k + 1, by go_num, hlt, hS.sel (by repeat (first | exact Sel.refl | refine Sel.take (by repeat (first | exact t0 | apply tS)) ?_ | apply Sel.drop))⟩
            case measure => simp [intOf]; omega
          · skip
            refine ord_seg (by repeat (first | exact Clean.body | refine Clean.then ?_ | refine Clean.inBlock ?_ | refine SegQ.clean ?_ | refine FinC.clean ?_)) (n := 1) (rest := [[9]]) [8, 6] [⟨_, _, _, _, _, _⟩, ⟨_, _, _, _, _, _⟩] rfl (by kernel_rfl) (by simp) _ _ ?_
            go_wp2_with (first
              | (show wpList _ _ _ (⟨_, .load 23 _, _, _, _, _⟩ :: _) _ _; refine wpList_val rfl (op_load1S (b := n1) (T := 26) oneIns ((hS.bring (by repeat (first | exact t0 | apply tS)))) rfl rfl rfl) ?_; go_frame)
              | (show wpList _ _ _ (⟨some 73, .indexAddr _ _ _, _, _, _, _⟩ :: _) _ _; refine wpList_val rfl (op_indexAddr slIns rfl (v := m.iv) (xs := m.L.map inC) rfl (k := k) rfl (by exact hS.rd HRI.out) hkr) ?_; go_frame)
              | (show wpList _ _ _ (⟨some 74, .fieldAddr _ _ _, _, _, _, _⟩ :: _) _ _; refine wpList_val rfl (op_fieldAddrE (j := 33) (by kernel_rfl) rfl (n := 34) (k := k) (v := m.iv) rfl (by exact hS.rd HRI.out) hkr) ?_; go_frame)
              | (show wpList _ _ _ (⟨some 75, .load _ _, _, _, _, _⟩ :: _) _ _; refine wpList_val rfl (op_loadF1 oneBytes rfl (n := 34) (k := k) (j := 33) (v := m.iv) rfl (by exact hS.rd HRI.out) hkr HX33.out) ?_; go_frame)
              | (go_at_call 15; refine Ret.calls (HSUM.out hS) ?_; clear hS; rintro r1 w ⟨rfl, hS⟩)
              | (show wpList _ _ _ (⟨some 78, .load _ _, _, _, _, _⟩ :: _) _ _; refine wpList_val rfl (op_load agg32b rfl rfl (blk_mid (b := nx) (T := 60) ((hS.bring (by repeat (first | exact t0 | apply tS))).getBlk) HLO.out) HLM.out) ?_; go_frame)
              | (show wpList _ _ _ (⟨some 79, .binOp _ _ _ _ _, _, _, _, _⟩ :: _) _ _; refine wpList_val rfl (op_neqHash (a := lk) (b := o.lock) rfl rfl rfl HLKL.out HLL.out HEQ.out) ?_; go_frame)
              )
            refine segQ_mk trivial ?_
            refine ord_seg (by repeat (first | exact Clean.body | refine Clean.then ?_ | refine Clean.inBlock ?_ | refine SegQ.clean ?_ | refine FinC.clean ?_)) (n := 0) (rest := [[]]) [9] [⟨_, _, _, _, _, _⟩] rfl (by kernel_rfl) (by simp) _ _ ?_
            go_wp2_with (first
              | (show wpList _ _ _ (⟨_, .load 23 _, _, _, _, _⟩ :: _) _ _; refine wpList_val rfl (op_load1S (b := n1) (T := 26) oneIns ((hS.bring (by repeat (first | exact t0 | apply tS)))) rfl rfl rfl) ?_; go_frame)
              | (show wpList _ _ _ (⟨some 73, .indexAddr _ _ _, _, _, _, _⟩ :: _) _ _; refine wpList_val rfl (op_indexAddr slIns rfl (v := m.iv) (xs := m.L.map inC) rfl (k := k) rfl (by exact hS.rd HRI.out) hkr) ?_; go_frame)
              | (show wpList _ _ _ (⟨some 74, .fieldAddr _ _ _, _, _, _, _⟩ :: _) _ _; refine wpList_val rfl (op_fieldAddrE (j := 33) (by kernel_rfl) rfl (n := 34) (k := k) (v := m.iv) rfl (by exact hS.rd HRI.out) hkr) ?_; go_frame)
              | (show wpList _ _ _ (⟨some 75, .load _ _, _, _, _, _⟩ :: _) _ _; refine wpList_val rfl (op_loadF1 oneBytes rfl (n := 34) (k := k) (j := 33) (v := m.iv) rfl (by exact hS.rd HRI.out) hkr HX33.out) ?_; go_frame)
              | (go_at_call 15; refine Ret.calls (HSUM.out hS) ?_; clear hS; rintro r1 w ⟨rfl, hS⟩)
              | (show wpList _ _ _ (⟨some 78, .load _ _, _, _, _, _⟩ :: _) _ _; refine wpList_val rfl (op_load agg32b rfl rfl (blk_mid (b := nx) (T := 60) ((hS.bring (by repeat (first | exact t0 | apply tS))).getBlk) HLO.out) HLM.out) ?_; go_frame)
              | (show wpList _ _ _ (⟨some 79, .binOp _ _ _ _ _, _, _, _, _⟩ :: _) _ _; refine wpList_val rfl (op_neqHash (a := lk) (b := o.lock) rfl rfl rfl HLKL.out HLL.out HEQ.out) ?_; go_frame)
              )
            refine segQ_mk trivial ?_
            refine finC_mk (by kernel_rfl) (by
              intro t ht
              cases ht) ?_
            go_wp2_with fail
            go_roundw
            case rel => exact ⟨k + 1, by go_num, hlt, hS.sel (by repeat (first | exact Sel.refl | refine Sel.take (by repeat (first | exact t0 | apply tS)) ?_ | apply Sel.drop))⟩
            case measure => simp [intOf]; omega
        ·
          have HALL : Hid (uRow ((prev.map POut.value).take k) = uRow (prev.map POut.value)) := by
            have hkn : k = n := by omega
            rw [hkn]
            exact HE2.out
          rw [HALL.out] at hS
          clear HALL HE2
          go_wp2_with (first
            | go_big_skip
            | (go_at_call 27; with_reducible refine Ret.calls (CS1.out u7 (SepL.getOwn (v := u7) ((hS.bring (by repeat (first | exact t0 | apply tS))))).rd) ?_; rintro r1 w1 ⟨rfl, rfl⟩)
            | (go_at_call 27; with_reducible refine Ret.calls (CS2.out u8 (SepL.getOwn (v := u8) ((hS.bring (by repeat (first | exact t0 | apply tS))))).rd) ?_; rintro r1 w1 ⟨rfl, rfl⟩)
            | (show wpList _ _ _ (⟨some 92, .binOp _ _ _ _ _, _, _, _, _⟩ :: _) _ _; refine wpList_val rfl (op_eqI' rfl rfl rfl (r := true) rfl) ?_; go_frame)
            | (show wpList _ _ _ (⟨some 95, .binOp _ _ _ _ _, _, _, _, _⟩ :: _) _ _; refine wpList_val rfl (op_eqI' rfl rfl rfl (r := true) rfl) ?_; go_frame)
            | (show wpList _ _ _ (⟨some 100, .binOp _ _ _ _ _, _, _, _, _⟩ :: _) _ _; refine wpList_val rfl (opU_eql (a := S) (b := S) rfl rfl rfl (beq_self_eq_true S)) ?_; go_frame)
            )
          go_ret
          exact ⟨rfl, (hS.sel (M := []) (by repeat (first | exact Sel.refl | refine Sel.take (by repeat (first | exact t0 | apply tS)) ?_ | apply Sel.drop))).chg⟩
end Go.Proofs.YtieobcaegegboaaDoor
