/- What a transaction pays. Conditions: those that stand ahead of each theorem. -/
import Derived.Test.YtieobcaegegboaaDoorGTxB
import Derived.Test.YtieobcaegegboaaDoorGWfA
import Derived.Test.YtieobcaegegboaaDoorField
namespace Go.Proofs.YtieobcaegegboaaDoor
open Go Go.RowKit Go.Px Go.Sha Go.Calc Go.WideMaps
theorem op_neqHash {o : Oper} {ρ : Operand → Value} {w : World} {x y : Operand} {t : TypeId} (ho : o.op = .binOp .neq 34 x y t) {a b : List Byte} (hx : ρ x = HV a) (hy : ρ y = HV b) (ha : a.length = 32) (hb : b.length = 32) {r : Bool} (hr : (!decide (a = b)) = r) : (execOp ρ o).run Tryd.prog w = .ok (.value (.bool r)) w := by
  have h := op_neq keyHash ho (w := w) (show ρ x = .agg (a.map B8).toArray from hx) (show ρ y = .agg (b.map B8).toArray from hy) (isKey_bytes arrHash undU8 sizeT ha) (isKey_bytes arrHash undU8 sizeT hb)
  have e : eqv (.agg (a.map B8).toArray) (.agg (b.map B8).toArray) = decide (a = b) := HV_eqv a b
  rw [e, hr] at h
  exact h
theorem pay_check {H : HFn} {t : PTx} {prev : List POut} {c : Nat} (h : checkN t = c) (hc : c ≠ 0) : payN H t prev = (0, c) := by
  unfold payN
  rw [h, if_pos hc]
theorem pay_len {H : HFn} {t : PTx} {prev : List POut} (h : checkN t = 0) (hl : prev.length ≠ t.ins.length) : payN H t prev = (0, 2) := by
  unfold payN
  rw [h, if_neg (by simp), if_pos hl]
theorem pay_lock {H : HFn} {t : PTx} {prev : List POut} (h : checkN t = 0) (hl : prev.length = t.ins.length) (hk : lockB H t.ins prev = false) : payN H t prev = (0, 13) := by
  unfold payN
  rw [h, if_neg (by simp), if_neg (by omega), hk]
  rfl
theorem pay_money {H : HFn} {t : PTx} {prev : List POut} (h : checkN t = 0) (hl : prev.length = t.ins.length) (hk : lockB H t.ins prev = true) (hm : ¬ (sumO prev < 18446744073709551616 ∧ sumO t.outs ≤ sumO prev)) : payN H t prev = (0, 11) := by
  unfold payN
  rw [h, if_neg (by simp), if_neg (by omega), hk, if_pos rfl, if_neg hm]
theorem pay_yes {H : HFn} {t : PTx} {prev : List POut} (h : checkN t = 0) (hl : prev.length = t.ins.length) (hk : lockB H t.ins prev = true) (h1 : sumO prev < 18446744073709551616) (h2 : sumO t.outs ≤ sumO prev) : payN H t prev = (sumO prev - sumO t.outs, 0) := by
  unfold payN
  rw [h, if_neg (by simp), if_neg (by omega), hk, if_pos rfl, if_pos ⟨h1, h2⟩]
theorem lock_bad {H : HFn} {m : MT} {prev : List POut} {k : Nat} {p : PIn × Value} {o : POut} (hp : ∃ h : k < m.L.length, m.L[k] = p) (ho : ∃ h : k < prev.length, prev[k] = o) (hn : H p.1.key ≠ o.lock) : lockB H m.pt.ins prev = false := by
  obtain ⟨h1, h2⟩ := hp
  obtain ⟨h3, h4⟩ := ho
  cases hb : lockB H m.pt.ins prev with
  | false => rfl
  | true =>
    have h := lock_at hb k (by simpa [MT.pt] using h1) h3
    simp only [MT.pt, List.getElem_map, h2, h4] at h
    exact absurd h hn
theorem lock_good {H : HFn} {m : MT} {prev : List POut} (h : ∀ k (h1 : k < m.L.length) (h2 : k < prev.length), H m.L[k].1.key = prev[k].lock) : lockB H m.pt.ins prev = true := by
  refine lock_of fun k h1 h2 => ?_
  have g1 : k < m.L.length := by simpa [MT.pt] using h1
  simp only [MT.pt, List.getElem_map]
  exact h k g1 h2
theorem blk_mid {w : World} {b T i n : Nat} {cs ds : List Value} (h : Blk w b T cs) (hd : (cs.drop i).take n = ds) : Cells w b i ds := by
  have := h.cells.subN (ds := ds) i n hd
  simpa using this
theorem sumO_take {o : List POut} {k : Nat} : ((o.map POut.value).take k).sum ≤ sumO o := sum_take _ _
theorem out_lock {o : POut} (h : OOk o) : ((outC o).drop 1).take 32 = o.lock.map B8 := by
  rw [outC_lock, List.take_of_length_le (by rw [List.length_map, h.2]; omega)]
def uRow (l : List Nat) : List (List Value) := l.map fun n => [U n]
theorem uRow_len (l : List Nat) : (uRow l).length = l.length := by simp [uRow]
theorem uRow_set (l : List Nat) (i x : Nat) : (uRow l).set i [U x] = uRow (l.set i x) := by
  unfold uRow
  rw [List.map_set]
theorem uRow_rep (n : Nat) : List.replicate n [U 0] = uRow (List.replicate n 0) := by simp [uRow]
theorem uRow_flat (l : List Nat) : Flat (uRow l) := by
  intro x hx v hv
  obtain ⟨a, _, rfl⟩ := List.mem_map.1 hx
  rw [List.mem_singleton.1 hv]
  rfl
theorem ufill_next {W : List Nat} {prev : List POut} {n k v : Nat} {o : POut} (hl : W.length = n) (h : ∀ j (hj : j < W.length) (hp : j < prev.length), j < k → W[j] = prev[j].value) (_ : k < n) (ho : ∃ h : k < prev.length, prev[k] = o) (hv : o.value = v) : (W.set k v).length = n ∧ ∀ j (hj : j < (W.set k v).length) (hp : j < prev.length), j < k + 1 → (W.set k v)[j] = prev[j].value := by
  refine ⟨by rw [List.length_set, hl], fun j hj hp hjk => ?_⟩
  rw [List.getElem_set]
  split
  · rename_i e
    subst e
    rw [ho.2, hv]
  · exact h j (by simpa using hj) hp (by omega)
theorem ufill_all {W : List Nat} {prev : List POut} (hl : W.length = prev.length) (h : ∀ j (hj : j < W.length) (hp : j < prev.length), j < prev.length → W[j] = prev[j].value) : W = prev.map POut.value := by
  apply List.ext_getElem (by rw [hl, List.length_map])
  intro i h1 h2
  rw [List.getElem_map]
  exact h i h1 (by omega) (by omega)
theorem vals_small {R : Nat → Prop} {base : World} {v : Value} {l : List POut} (h : OutsIn R base v l) : ∀ n ∈ l.map POut.value, n < 18446744073709551616 := by
  intro n hn
  obtain ⟨o, ho, rfl⟩ := List.mem_map.1 hn
  exact (h.ok o ho).1
theorem sumE_cases (l : List Nat) : (l.sum < 18446744073709551616 ∧ sumN l = l.sum ∧ sumE l = 0) ∨ (¬ l.sum < 18446744073709551616 ∧ sumN l = 0 ∧ sumE l = 3) := by
  by_cases h : l.sum < 18446744073709551616
  · exact .inl ⟨h, sum_yes h⟩
  · exact .inr ⟨h, sum_no h⟩
theorem sumE_int (l : List Nat) : ((sumE l : Nat) : Int) = 0 ∨ ((sumE l : Nat) : Int) = 3 := by
  rcases sumE_cases l with h | h
  · exact .inl (by rw [h.2.2]; rfl)
  · exact .inr (by rw [h.2.2]; rfl)
section
variable {R : Nat → Prop} {base w : World} {F : List Hp}
set_option maxRecDepth 100000 in
set_option maxHeartbeats 8000000 in
theorem of_s {m : MT} {pv : Value} {prev : List POut} (hS : SepL R base w F) (hK : CIn R base 3 (kTab.map W32)) (hF : CIn R base 0 (first.map W32)) (ht : TxIn R base m) (hpv : OutsIn R base pv prev) :
    Calls Tryd.prog 13 #[txV m, pv] w (Ret fun r w' => r = .tuple #[U (payN sum m.pt prev).1, .int .i64 (((payN sum m.pt prev).2 : Nat) : Int)] ∧ SepL R base w' F) := by
  obtain ⟨n, hn⟩ : ∃ n, m.L.length = n := ⟨_, rfl⟩
  obtain ⟨q, hq⟩ : ∃ q, m.outs.length = q := ⟨_, rfl⟩
  obtain ⟨z, hz⟩ : ∃ z, prev.length = z := ⟨_, rfl⟩
  have HNL : Hid ((m.L.map inC).length = n) := by unfold Hid; rw [List.length_map, hn]
  have HNO : Hid ((m.outs.map outC).length = q) := by unfold Hid; rw [List.length_map, hq]
  have HNP : Hid ((prev.map outC).length = z) := by unfold Hid; rw [List.length_map, hz]
  have HT := hide ht
  have HPV := hide hpv
  have HRI := hide ht.ins
  have HRO := hide ht.outs.rd
  have HRP := hide hpv.rd
  have HKEY := hide ht.key
  have HIOK := hide ht.iok
  have HOOK := hide ht.outs.ok
  have HPOK := hide hpv.ok
  obtain ⟨c, hc⟩ : ∃ c, checkN m.pt = c := ⟨_, rfl⟩
  have HC := hide hc
  obtain ⟨p1, p2, hpp⟩ : ∃ p1 p2, payN sum m.pt prev = (p1, p2) := ⟨_, _, rfl⟩
  have HPAY := hide hpp
  rw [hpp]
  dsimp only
  have HCK : Hid (∀ {w : World} {F : List Hp}, SepL R base w F → Calls Tryd.prog 26 #[txV m] w (Ret fun r w' => r = .int .i64 c ∧ SepL R base w' F)) := fun hS => by
    have g := check_s hS ht
    rwa [hc] at g
  clear hc hpp
  by_cases hc0 : c ≠ 0
  · have e := (pay_check HC.out hc0).symm.trans HPAY.out
    injection e with e1 e2
    subst e1
    subst e2
    have H1 : Hid (((c : Int) != 0) = true) := neT (by omega)
    clear hc0 HC HPAY
    go_enter Tryd.func13, Tryd.ntmps13
    go_wp2_with (first
      | (show wpList _ _ _ (⟨some 2, .box _ _, _, _, _, _⟩ :: _) _ _; refine wpS_boxA (cs := [N32 m.ver, m.iv, m.ov]) hS rfl rfl rfl ?_; clear hS; intro n1 w hS; go_frame)
      | (show wpList _ _ _ (⟨_, .load 26 _, _, _, _, _⟩ :: _) _ _; refine wpList_val rfl (op_load aggTx rfl rfl (SepL.getBlk (b := n1) (T := 26) ((hS.bring (by repeat (first | exact t0 | apply tS))))).cells rfl) ?_; go_frame)
      | (go_at_call 26; refine Ret.calls (HCK.out hS) ?_; clear hS; rintro r1 w ⟨rfl, hS⟩)
      | (show wpList _ _ _ (⟨some 17, .binOp _ _ _ _ _, _, _, _, _⟩ :: _) _ _; refine wpList_val rfl (op_ineI rfl rfl rfl H1.out) ?_; go_frame)
      )
    go_ret2
    exact ⟨rfl, hS.sel (by repeat (first | exact Sel.refl | refine Sel.take (by repeat (first | exact t0 | apply tS)) ?_ | apply Sel.drop))⟩
  replace hc0 : c = 0 := Classical.not_not.1 hc0
  have HC0 : Hid (checkN m.pt = 0) := HC.out.trans hc0
  have H1 : Hid (((c : Int) != 0) = false) := neF (by omega)
  clear hc0
  by_cases hzn : z ≠ n
  · have e := (pay_len HC0.out (by rw [hz]; unfold MT.pt; rw [List.length_map, hn]; exact hzn)).symm.trans HPAY.out
    injection e with e1 e2
    subst e1
    subst e2
    have H2 : Hid (((z : Int) != (n : Int)) = true) := neT (by omega)
    clear hzn HC0 HC HPAY hn hz hq
    go_enter Tryd.func13, Tryd.ntmps13
    go_wp2_with (first
      | (show wpList _ _ _ (⟨some 2, .box _ _, _, _, _, _⟩ :: _) _ _; refine wpS_boxA (cs := [N32 m.ver, m.iv, m.ov]) hS rfl rfl rfl ?_; clear hS; intro n1 w hS; go_frame)
      | (show wpList _ _ _ (⟨_, .load 26 _, _, _, _, _⟩ :: _) _ _; refine wpList_val rfl (op_load aggTx rfl rfl (SepL.getBlk (b := n1) (T := 26) ((hS.bring (by repeat (first | exact t0 | apply tS))))).cells rfl) ?_; go_frame)
      | (go_at_call 26; refine Ret.calls (HCK.out hS) ?_; clear hS; rintro r1 w ⟨rfl, hS⟩)
      | (show wpList _ _ _ (⟨some 17, .binOp _ _ _ _ _, _, _, _, _⟩ :: _) _ _; refine wpList_val rfl (op_ineI rfl rfl rfl H1.out) ?_; go_frame)
      | (show wpList _ _ _ (⟨_, .load 23 _, _, _, _, _⟩ :: _) _ _; refine wpList_val rfl (op_load1S (b := n1) (T := 26) oneIns ((hS.bring (by repeat (first | exact t0 | apply tS)))) rfl rfl rfl) ?_; go_frame)
      | (show wpList _ _ _ (⟨_, .load 24 _, _, _, _, _⟩ :: _) _ _; refine wpList_val rfl (op_load1S (b := n1) (T := 26) oneOuts ((hS.bring (by repeat (first | exact t0 | apply tS)))) rfl rfl rfl) ?_; go_frame)
      | (show wpList _ _ _ (⟨some 20, .call _, _, _, _, _⟩ :: _) _ _; refine wpList_val rfl (op_len slOuts rfl rfl (v := pv) (xs := prev.map outC) rfl (by exact hS.rd HRP.out)) ?_; rw [HNP.out]; go_frame)
      | (show wpList _ _ _ (⟨some 23, .call _, _, _, _, _⟩ :: _) _ _; refine wpList_val rfl (op_len slIns rfl rfl (v := m.iv) (xs := m.L.map inC) rfl (by exact hS.rd HRI.out)) ?_; rw [HNL.out]; go_frame)
      | (show wpList _ _ _ (⟨some 24, .binOp _ _ _ _ _, _, _, _, _⟩ :: _) _ _; refine wpList_val rfl (op_ineI rfl rfl rfl H2.out) ?_; go_frame)
      )
    go_ret2
    exact ⟨rfl, hS.sel (by repeat (first | exact Sel.refl | refine Sel.take (by repeat (first | exact t0 | apply tS)) ?_ | apply Sel.drop))⟩
  replace hzn : z = n := Classical.not_not.1 hzn
  have H2 : Hid (((z : Int) != (n : Int)) = false) := neF (by omega)
  have hlen : prev.length = m.pt.ins.length := by
    rw [hz, hzn]
    unfold MT.pt
    rw [List.length_map, hn]
  have HLEN := hide hlen
  have hsm := form_small (check_ok.1 HC0.out).form
  rw [hn, hq] at hsm
  have hn8 := hsm.1
  have hq8 := hsm.2
  have hz8 : z ≤ 8 := by omega
  have HBAD : Hid (lockB sum m.pt.ins prev = false → p1 = 0 ∧ p2 = 13) := fun h => by
    have e := HPAY.out.symm.trans (pay_lock HC0.out HLEN.out h)
    injection e with e1 e2
    exact ⟨e1, e2⟩
  have HLESS : Hid (lockB sum m.pt.ins prev = true → ¬ (sumO prev < 18446744073709551616 ∧ sumO m.outs ≤ sumO prev) → p1 = 0 ∧ p2 = 11) := fun h h2 => by
    have e := HPAY.out.symm.trans (pay_money HC0.out HLEN.out h h2)
    injection e with e1 e2
    exact ⟨e1, e2⟩
  have HYES : Hid (lockB sum m.pt.ins prev = true → sumO prev < 18446744073709551616 → sumO m.outs ≤ sumO prev → p1 = sumO prev - sumO m.outs ∧ p2 = 0) := fun h h2 h3 => by
    have e := HPAY.out.symm.trans (pay_yes HC0.out HLEN.out h h2 h3)
    injection e with e1 e2
    exact ⟨e1, e2⟩
  have HZN := hide hzn
  clear hsm hlen HLEN HPAY hzn
  go_enter Tryd.func13, Tryd.ntmps13
  go_wp2_with (first
    | (show wpList _ _ _ (⟨some 2, .box _ _, _, _, _, _⟩ :: _) _ _; refine wpS_boxA (cs := [N32 m.ver, m.iv, m.ov]) hS rfl rfl rfl ?_; clear hS; intro n1 w hS; go_frame)
    | (show wpList _ _ _ (⟨_, .load 26 _, _, _, _, _⟩ :: _) _ _; refine wpList_val rfl (op_load aggTx rfl rfl (SepL.getBlk (b := n1) (T := 26) ((hS.bring (by repeat (first | exact t0 | apply tS))))).cells rfl) ?_; go_frame)
    | (go_at_call 26; refine Ret.calls (HCK.out hS) ?_; clear hS; rintro r1 w ⟨rfl, hS⟩)
    | (show wpList _ _ _ (⟨some 17, .binOp _ _ _ _ _, _, _, _, _⟩ :: _) _ _; refine wpList_val rfl (op_ineI rfl rfl rfl H1.out) ?_; go_frame)
    | (show wpList _ _ _ (⟨_, .load 23 _, _, _, _, _⟩ :: _) _ _; refine wpList_val rfl (op_load1S (b := n1) (T := 26) oneIns ((hS.bring (by repeat (first | exact t0 | apply tS)))) rfl rfl rfl) ?_; go_frame)
    | (show wpList _ _ _ (⟨_, .load 24 _, _, _, _, _⟩ :: _) _ _; refine wpList_val rfl (op_load1S (b := n1) (T := 26) oneOuts ((hS.bring (by repeat (first | exact t0 | apply tS)))) rfl rfl rfl) ?_; go_frame)
    | (show wpList _ _ _ (⟨some 20, .call _, _, _, _, _⟩ :: _) _ _; refine wpList_val rfl (op_len slOuts rfl rfl (v := pv) (xs := prev.map outC) rfl (by exact hS.rd HRP.out)) ?_; rw [HNP.out]; go_frame)
    | (show wpList _ _ _ (⟨some 26, .call _, _, _, _, _⟩ :: _) _ _; refine wpList_val rfl (op_len slOuts rfl rfl (v := pv) (xs := prev.map outC) rfl (by exact hS.rd HRP.out)) ?_; rw [HNP.out]; go_frame)
    | (show wpList _ _ _ (⟨some 29, .call _, _, _, _, _⟩ :: _) _ _; refine wpList_val rfl (op_len slOuts rfl rfl (v := pv) (xs := prev.map outC) rfl (by exact hS.rd HRP.out)) ?_; rw [HNP.out]; go_frame)
    | (show wpList _ _ _ (⟨some 23, .call _, _, _, _, _⟩ :: _) _ _; refine wpList_val rfl (op_len slIns rfl rfl (v := m.iv) (xs := m.L.map inC) rfl (by exact hS.rd HRI.out)) ?_; rw [HNL.out]; go_frame)
    | (show wpList _ _ _ (⟨some 24, .binOp _ _ _ _ _, _, _, _, _⟩ :: _) _ _; refine wpList_val rfl (op_ineI rfl rfl rfl H2.out) ?_; go_frame)
    | (show wpList _ _ _ (⟨some 27, .makeSlice _ _ _, _, _, _, _⟩ :: _) _ _; refine wpS_make slTyU (zs := [U 0]) (by intro i z h1 h2; have := infoU; rw [h1] at this; simp only [Option.map_some, Option.some.injEq, Prod.mk.injEq] at this; rw [h2] at this; injection this.1 with e; subst e; rfl) hS rfl rfl rfl rfl (Nat.le_refl _) (by omega) (by omega) ?_; clear hS; intro vv w hS; rw [uRow_rep] at hS; go_frame)
    )
  go_loopw [30, 8] (fun kv _ wr => ∃ (k : Nat) (W : List Nat), kv = .int .i64 k ∧ k ≤ z ∧ Hid (W.length = z ∧ ∀ j (hj : j < W.length) (hp : j < prev.length), j < k → W[j] = prev[j].value) ∧ Hid (∀ j (h1 : j < m.L.length) (h2 : j < prev.length), j < k → sum m.L[j].1.key = prev[j].lock) ∧ SepL R base wr (.own 29 1 vv (uRow W) :: .blk n1 26 [N32 m.ver, m.iv, m.ov] :: F)) (fun kv _ _ => z - (intOf kv).toNat)
  case atStart => exact ⟨0, List.replicate z 0, rfl, Nat.zero_le _, ⟨List.length_replicate, fun j _ _ h => absurd h (Nat.not_lt_zero _)⟩, fun j _ _ h => absurd h (Nat.not_lt_zero _), hS⟩
  case round =>
    clear hS
    obtain ⟨k, W, rfl, hk, HW, HA, hS⟩ := hrel
    by_cases hlt : k < z
    ·
      have hkP : k < prev.length := by omega
      have hkp : k < (prev.map outC).length := by rw [List.length_map]; exact hkP
      obtain ⟨o, ho⟩ : ∃ o, prev[k] = o := ⟨_, rfl⟩
      have hom : o ∈ prev := ho ▸ List.getElem_mem hkP
      have HX : Hid ((prev.map outC)[k] = outC o) := by unfold Hid; rw [List.getElem_map, ho]
      have hook := HPOK.out o hom
      have HXL : Hid ((outC o).length = 33) := outC_len hook
      have HLO : Hid (((outC o).drop 1).take 32 = o.lock.map B8) := out_lock hook
      have HLL := hide hook.2
      have HLM : Hid ((o.lock.map B8).length = 32) := by unfold Hid; rw [List.length_map, hook.2]
      have HATO : Hid (∃ h : k < prev.length, prev[k] = o) := ⟨hkP, ho⟩
      obtain ⟨v, hv⟩ : ∃ v, o.value = v := ⟨_, rfl⟩
      have HV := hide hv
      have hov := hook.1
      rw [hv] at hov
      clear hom ho hv hook
      have hkL : k < m.L.length := by have := HZN.out; omega
      have hkr : k < (m.L.map inC).length := by rw [List.length_map]; exact hkL
      obtain ⟨p, hp⟩ : ∃ p, m.L[k] = p := ⟨_, rfl⟩
      have hpm : p ∈ m.L := hp ▸ List.getElem_mem hkL
      have HXI : Hid ((m.L.map inC)[k] = inC p) := by unfold Hid; rw [List.getElem_map, hp]
      have hok := HIOK.out p hpm
      have HX33 : Hid ((m.L.map inC)[k][33]? = some p.2) := by unfold Hid; rw [HXI.out]; exact inC_key hok
      have HXIL : Hid ((inC p).length = 34) := inC_len hok
      have HXI1 : Hid (∀ v ∈ inC p, v.oneCell' = true) := inC_one (slice_one (HKEY.out p hpm)).1
      have HY33 : Hid ((inC p)[33]? = some p.2) := inC_key hok
      have HKL : Hid (p.1.key.length ≤ 64) := ((check_ok.1 HC0.out).small.1 p.1 (List.mem_map.2 ⟨p, hpm, rfl⟩))
      obtain ⟨lk, hlk⟩ : ∃ lk, sum p.1.key = lk := ⟨_, rfl⟩
      have HLK := hide hlk
      have HLKL : Hid (lk.length = 32) := by unfold Hid; rw [← hlk, sum_len]
      have HATI : Hid (∃ h : k < m.L.length, m.L[k] = p) := ⟨hkL, hp⟩
      have HSUM : ∀ {w : World} {F : List Hp}, SepL R base w F → Calls Tryd.prog 15 #[p.2] w (Ret fun r w' => r = Go.Px.HV lk ∧ SepL R base w' F) := fun hS => by
        have g := lock_s hS hK hF (HKEY.out p hpm) (by have := HKL.out; omega)
        rwa [hlk] at g
      clear hp hlk hok hpm
      have hkW : k < (uRow W).length := by rw [uRow_len, HW.out.1]; exact hlt
      go_wp2_with (first
        | (show wpList _ _ _ (⟨_, .indexAddr 24 _ _, _, _, _, _⟩ :: _) _ _; refine wpList_val rfl (op_indexAddr slOuts rfl (v := pv) (xs := prev.map outC) rfl (k := k) rfl (by exact hS.rd HRP.out) hkp) ?_; go_frame)
        | (show wpList _ _ _ (⟨_, .load 60 _, _, _, _, _⟩ :: _) _ _; refine wpList_val rfl (op_loadE aggOut rfl (v := pv) (xs := prev.map outC) (k := k) rfl (by exact hS.rd HRP.out) hkp) ?_; rw [HX.out]; go_frame)
        | (show wpList _ _ _ (⟨_, .alloc 60, _, _, _, _⟩ :: _) _ _; refine wpS_alloc hS rfl rfl zeroOut (zs := zOut) rfl ?_; clear hS; intro nx w hS; go_frame)
        | (show wpList _ _ _ (⟨_, .store 60 _ _, _, _, _, _⟩ :: _) _ _; (refine wpS_storeAll (b := nx) aggOut (hS.bring (by repeat (first | exact t0 | apply tS))) rfl rfl rfl (vs := outC o) rfl HXL.out (outC_one o) rfl ?_); clear hS; intro w hS; go_frame)
        | (show wpList _ _ _ (⟨_, .load 29 _, _, _, _, _⟩ :: _) _ _; refine wpList_val rfl (op_load1S (b := nx) (T := 60) oneU ((hS.bring (by repeat (first | exact t0 | apply tS)))) rfl rfl rfl) ?_; rw [HV.out]; go_frame)
        )
      by_cases heq : lk = o.lock
      · have HEQ : Hid ((!decide (lk = o.lock)) = false) := by unfold Hid; rw [decide_eq_true heq]; rfl
        have HNX := hide (ufill_next HW.out.1 HW.out.2 hlt HATO.out HV.out)
        have HA2 : Hid (∀ j (h1 : j < m.L.length) (h2 : j < prev.length), j < k + 1 → sum m.L[j].1.key = prev[j].lock) := fun j h1 h2 h => by
          by_cases e : j = k
          · subst e
            rw [HATI.out.2, HATO.out.2, HLK.out, heq]
          · exact HA.out j h1 h2 (by omega)
        clear heq HA HW
        refine wp_region_ord (by kernel_rfl) [] [[0, 1, 2, 3, 4, 5, 7, 6, 8, 9], [0, 1, 2, 3, 4, 5, 7, 8, 6, 9]] (by kernel_rfl) (by kernel_rfl) (fun _ => True) (fun _ _ _ _ => trivial) trivial (by repeat (first | exact Clean.body | refine Clean.then ?_ | refine Clean.inBlock ?_ | refine SegQ.clean ?_ | refine FinC.clean ?_)) ?_
        replace hS := hS.drew
        refine ord_seg (by repeat (first | exact Clean.body | refine Clean.then ?_ | refine Clean.inBlock ?_ | refine SegQ.clean ?_ | refine FinC.clean ?_)) (n := 3) (rest := [[6, 8, 9], [8, 6, 9]]) [0, 1, 2, 3, 4, 5, 7] [⟨_, _, _, _, _, _⟩, ⟨_, _, _, _, _, _⟩, ⟨_, _, _, _, _, _⟩, ⟨_, _, _, _, _, _⟩, ⟨_, _, _, _, _, _⟩, ⟨_, _, _, _, _, _⟩, ⟨_, _, _, _, _, _⟩] rfl (by kernel_rfl) (by simp) _ _ ?_
        go_wp2_with (first
          | (show wpList _ _ _ (⟨_, .load 23 _, _, _, _, _⟩ :: _) _ _; refine wpList_val rfl (op_load1S (b := n1) (T := 26) oneIns ((hS.bring (by repeat (first | exact t0 | apply tS)))) rfl rfl rfl) ?_; go_frame)
          | (show wpList _ _ _ (⟨_, .load 24 _, _, _, _, _⟩ :: _) _ _; refine wpList_val rfl (op_load1S (b := n1) (T := 26) oneOuts ((hS.bring (by repeat (first | exact t0 | apply tS)))) rfl rfl rfl) ?_; go_frame)
          | (show wpList _ _ _ (⟨some 38, .indexAddr _ _ _, _, _, _, _⟩ :: _) _ _; refine wpList_val rfl (op_indexAddr slIns rfl (v := m.iv) (xs := m.L.map inC) rfl (k := k) rfl (by exact hS.rd HRI.out) hkr) ?_; go_frame)
          | (show wpList _ _ _ (⟨some 39, .fieldAddr _ _ _, _, _, _, _⟩ :: _) _ _; refine wpList_val rfl (op_fieldAddrE (j := 33) (by kernel_rfl) rfl (n := 34) (k := k) (v := m.iv) rfl (by exact hS.rd HRI.out) hkr) ?_; go_frame)
          | (show wpList _ _ _ (⟨some 40, .load _ _, _, _, _, _⟩ :: _) _ _; refine wpList_val rfl (op_loadF1 oneBytes rfl (n := 34) (k := k) (j := 33) (v := m.iv) rfl (by exact hS.rd HRI.out) hkr HX33.out) ?_; go_frame)
          | (go_at_call 15; refine Ret.calls (HSUM hS) ?_; clear hS; rintro r1 w ⟨rfl, hS⟩)
          | (show wpList _ _ _ (⟨some 43, .load _ _, _, _, _, _⟩ :: _) _ _; refine wpList_val rfl (op_load agg32b rfl rfl (blk_mid (b := nx) (T := 60) ((hS.bring (by repeat (first | exact t0 | apply tS))).getBlk) HLO.out) HLM.out) ?_; go_frame)
          | (show wpList _ _ _ (⟨some 44, .binOp _ _ _ _ _, _, _, _, _⟩ :: _) _ _; refine wpList_val rfl (op_neqHash (a := lk) (b := o.lock) rfl rfl rfl HLKL.out HLL.out HEQ.out) ?_; go_frame)
          )
        refine segQ_mk trivial ?_
        refine ord_fork (n := 2) (os1 := [[6, 8, 9]]) (os2 := [[8, 6, 9]]) (by decide) ?_ ?_
        · skip
          refine ord_seg (by repeat (first | exact Clean.body | refine Clean.then ?_ | refine Clean.inBlock ?_ | refine SegQ.clean ?_ | refine FinC.clean ?_)) (n := 2) (rest := [[8, 9]]) [6] [⟨_, _, _, _, _, _⟩] rfl (by kernel_rfl) (by simp) _ _ ?_
          go_wp2_with (first
            | (show wpList _ _ _ (⟨_, .load 23 _, _, _, _, _⟩ :: _) _ _; refine wpList_val rfl (op_load1S (b := n1) (T := 26) oneIns ((hS.bring (by repeat (first | exact t0 | apply tS)))) rfl rfl rfl) ?_; go_frame)
            | (show wpList _ _ _ (⟨_, .load 24 _, _, _, _, _⟩ :: _) _ _; refine wpList_val rfl (op_load1S (b := n1) (T := 26) oneOuts ((hS.bring (by repeat (first | exact t0 | apply tS)))) rfl rfl rfl) ?_; go_frame)
            | (show wpList _ _ _ (⟨some 38, .indexAddr _ _ _, _, _, _, _⟩ :: _) _ _; refine wpList_val rfl (op_indexAddr slIns rfl (v := m.iv) (xs := m.L.map inC) rfl (k := k) rfl (by exact hS.rd HRI.out) hkr) ?_; go_frame)
            | (show wpList _ _ _ (⟨some 39, .fieldAddr _ _ _, _, _, _, _⟩ :: _) _ _; refine wpList_val rfl (op_fieldAddrE (j := 33) (by kernel_rfl) rfl (n := 34) (k := k) (v := m.iv) rfl (by exact hS.rd HRI.out) hkr) ?_; go_frame)
            | (show wpList _ _ _ (⟨some 40, .load _ _, _, _, _, _⟩ :: _) _ _; refine wpList_val rfl (op_loadF1 oneBytes rfl (n := 34) (k := k) (j := 33) (v := m.iv) rfl (by exact hS.rd HRI.out) hkr HX33.out) ?_; go_frame)
            | (go_at_call 15; refine Ret.calls (HSUM hS) ?_; clear hS; rintro r1 w ⟨rfl, hS⟩)
            | (show wpList _ _ _ (⟨some 43, .load _ _, _, _, _, _⟩ :: _) _ _; refine wpList_val rfl (op_load agg32b rfl rfl (blk_mid (b := nx) (T := 60) ((hS.bring (by repeat (first | exact t0 | apply tS))).getBlk) HLO.out) HLM.out) ?_; go_frame)
            | (show wpList _ _ _ (⟨some 44, .binOp _ _ _ _ _, _, _, _, _⟩ :: _) _ _; refine wpList_val rfl (op_neqHash (a := lk) (b := o.lock) rfl rfl rfl HLKL.out HLL.out HEQ.out) ?_; go_frame)
            )
          refine segQ_mk trivial ?_
          refine ord_seg (by repeat (first | exact Clean.body | refine Clean.then ?_ | refine Clean.inBlock ?_ | refine SegQ.clean ?_ | refine FinC.clean ?_)) (n := 0) (rest := [[]]) [8, 9] [⟨_, _, _, _, _, _⟩, ⟨_, _, _, _, _, _⟩] rfl (by kernel_rfl) (by simp) _ _ ?_
          go_wp2_with (first
            | (show wpList _ _ _ (⟨_, .load 23 _, _, _, _, _⟩ :: _) _ _; refine wpList_val rfl (op_load1S (b := n1) (T := 26) oneIns ((hS.bring (by repeat (first | exact t0 | apply tS)))) rfl rfl rfl) ?_; go_frame)
            | (show wpList _ _ _ (⟨_, .load 24 _, _, _, _, _⟩ :: _) _ _; refine wpList_val rfl (op_load1S (b := n1) (T := 26) oneOuts ((hS.bring (by repeat (first | exact t0 | apply tS)))) rfl rfl rfl) ?_; go_frame)
            | (show wpList _ _ _ (⟨some 38, .indexAddr _ _ _, _, _, _, _⟩ :: _) _ _; refine wpList_val rfl (op_indexAddr slIns rfl (v := m.iv) (xs := m.L.map inC) rfl (k := k) rfl (by exact hS.rd HRI.out) hkr) ?_; go_frame)
            | (show wpList _ _ _ (⟨some 39, .fieldAddr _ _ _, _, _, _, _⟩ :: _) _ _; refine wpList_val rfl (op_fieldAddrE (j := 33) (by kernel_rfl) rfl (n := 34) (k := k) (v := m.iv) rfl (by exact hS.rd HRI.out) hkr) ?_; go_frame)
            | (show wpList _ _ _ (⟨some 40, .load _ _, _, _, _, _⟩ :: _) _ _; refine wpList_val rfl (op_loadF1 oneBytes rfl (n := 34) (k := k) (j := 33) (v := m.iv) rfl (by exact hS.rd HRI.out) hkr HX33.out) ?_; go_frame)
            | (go_at_call 15; refine Ret.calls (HSUM hS) ?_; clear hS; rintro r1 w ⟨rfl, hS⟩)
            | (show wpList _ _ _ (⟨some 43, .load _ _, _, _, _, _⟩ :: _) _ _; refine wpList_val rfl (op_load agg32b rfl rfl (blk_mid (b := nx) (T := 60) ((hS.bring (by repeat (first | exact t0 | apply tS))).getBlk) HLO.out) HLM.out) ?_; go_frame)
            | (show wpList _ _ _ (⟨some 44, .binOp _ _ _ _ _, _, _, _, _⟩ :: _) _ _; refine wpList_val rfl (op_neqHash (a := lk) (b := o.lock) rfl rfl rfl HLKL.out HLL.out HEQ.out) ?_; go_frame)
            )
          refine segQ_mk trivial ?_
          refine finC_mk (by kernel_rfl) (by
            intro t ht
            cases ht) ?_
          go_wp2_with (first
            | (show wpList _ _ _ (⟨some 48, .load _ _, _, _, _, _⟩ :: _) _ _; refine wpList_val rfl (op_load1S (b := nx) (T := 60) oneU ((hS.bring (by repeat (first | exact t0 | apply tS)))) rfl rfl rfl) ?_; rw [HV.out]; go_frame)
            | (show wpList _ _ _ (⟨some 49, .indexAddr _ _ _, _, _, _, _⟩ :: _) _ _; refine wpList_val rfl (op_indexAddr slTyU rfl (v := vv) (xs := uRow W) rfl (k := k) rfl ((hS.bring (by repeat (first | exact t0 | apply tS))).getOwn.rd) hkW) ?_; go_frame)
            | (show wpList _ _ _ (⟨_, .store 29 _ _, _, _, _, _⟩ :: _) _ _; (refine wpS_storeE1 infoU1 (hS.bring (by repeat (first | exact t0 | apply tS))) rfl rfl (k := k) (v := vv) (xs := uRow W) rfl (u := U v) rfl rfl rfl hkW ?_); clear hS; intro w hS; rw [uRow_set] at hS; go_frame)
            )
          go_roundw
          case rel => exact ⟨k + 1, W.set k v, by go_num, hlt, HNX, HA2, hS.sel (by repeat (first | exact Sel.refl | refine Sel.take (by repeat (first | exact t0 | apply tS)) ?_ | apply Sel.drop))⟩
          case measure => simp [intOf]; omega
        · skip
          refine ord_seg (by repeat (first | exact Clean.body | refine Clean.then ?_ | refine Clean.inBlock ?_ | refine SegQ.clean ?_ | refine FinC.clean ?_)) (n := 1) (rest := [[9]]) [8, 6] [⟨_, _, _, _, _, _⟩, ⟨_, _, _, _, _, _⟩] rfl (by kernel_rfl) (by simp) _ _ ?_
          go_wp2_with (first
            | (show wpList _ _ _ (⟨_, .load 23 _, _, _, _, _⟩ :: _) _ _; refine wpList_val rfl (op_load1S (b := n1) (T := 26) oneIns ((hS.bring (by repeat (first | exact t0 | apply tS)))) rfl rfl rfl) ?_; go_frame)
            | (show wpList _ _ _ (⟨_, .load 24 _, _, _, _, _⟩ :: _) _ _; refine wpList_val rfl (op_load1S (b := n1) (T := 26) oneOuts ((hS.bring (by repeat (first | exact t0 | apply tS)))) rfl rfl rfl) ?_; go_frame)
            | (show wpList _ _ _ (⟨some 38, .indexAddr _ _ _, _, _, _, _⟩ :: _) _ _; refine wpList_val rfl (op_indexAddr slIns rfl (v := m.iv) (xs := m.L.map inC) rfl (k := k) rfl (by exact hS.rd HRI.out) hkr) ?_; go_frame)
            | (show wpList _ _ _ (⟨some 39, .fieldAddr _ _ _, _, _, _, _⟩ :: _) _ _; refine wpList_val rfl (op_fieldAddrE (j := 33) (by kernel_rfl) rfl (n := 34) (k := k) (v := m.iv) rfl (by exact hS.rd HRI.out) hkr) ?_; go_frame)
            | (show wpList _ _ _ (⟨some 40, .load _ _, _, _, _, _⟩ :: _) _ _; refine wpList_val rfl (op_loadF1 oneBytes rfl (n := 34) (k := k) (j := 33) (v := m.iv) rfl (by exact hS.rd HRI.out) hkr HX33.out) ?_; go_frame)
            | (go_at_call 15; refine Ret.calls (HSUM hS) ?_; clear hS; rintro r1 w ⟨rfl, hS⟩)
            | (show wpList _ _ _ (⟨some 43, .load _ _, _, _, _, _⟩ :: _) _ _; refine wpList_val rfl (op_load agg32b rfl rfl (blk_mid (b := nx) (T := 60) ((hS.bring (by repeat (first | exact t0 | apply tS))).getBlk) HLO.out) HLM.out) ?_; go_frame)
            | (show wpList _ _ _ (⟨some 44, .binOp _ _ _ _ _, _, _, _, _⟩ :: _) _ _; refine wpList_val rfl (op_neqHash (a := lk) (b := o.lock) rfl rfl rfl HLKL.out HLL.out HEQ.out) ?_; go_frame)
            )
          refine segQ_mk trivial ?_
          refine ord_seg (by repeat (first | exact Clean.body | refine Clean.then ?_ | refine Clean.inBlock ?_ | refine SegQ.clean ?_ | refine FinC.clean ?_)) (n := 0) (rest := [[]]) [9] [⟨_, _, _, _, _, _⟩] rfl (by kernel_rfl) (by simp) _ _ ?_
          go_wp2_with (first
            | (show wpList _ _ _ (⟨_, .load 23 _, _, _, _, _⟩ :: _) _ _; refine wpList_val rfl (op_load1S (b := n1) (T := 26) oneIns ((hS.bring (by repeat (first | exact t0 | apply tS)))) rfl rfl rfl) ?_; go_frame)
            | (show wpList _ _ _ (⟨_, .load 24 _, _, _, _, _⟩ :: _) _ _; refine wpList_val rfl (op_load1S (b := n1) (T := 26) oneOuts ((hS.bring (by repeat (first | exact t0 | apply tS)))) rfl rfl rfl) ?_; go_frame)
            | (show wpList _ _ _ (⟨some 38, .indexAddr _ _ _, _, _, _, _⟩ :: _) _ _; refine wpList_val rfl (op_indexAddr slIns rfl (v := m.iv) (xs := m.L.map inC) rfl (k := k) rfl (by exact hS.rd HRI.out) hkr) ?_; go_frame)
            | (show wpList _ _ _ (⟨some 39, .fieldAddr _ _ _, _, _, _, _⟩ :: _) _ _; refine wpList_val rfl (op_fieldAddrE (j := 33) (by kernel_rfl) rfl (n := 34) (k := k) (v := m.iv) rfl (by exact hS.rd HRI.out) hkr) ?_; go_frame)
            | (show wpList _ _ _ (⟨some 40, .load _ _, _, _, _, _⟩ :: _) _ _; refine wpList_val rfl (op_loadF1 oneBytes rfl (n := 34) (k := k) (j := 33) (v := m.iv) rfl (by exact hS.rd HRI.out) hkr HX33.out) ?_; go_frame)
            | (go_at_call 15; refine Ret.calls (HSUM hS) ?_; clear hS; rintro r1 w ⟨rfl, hS⟩)
            | (show wpList _ _ _ (⟨some 43, .load _ _, _, _, _, _⟩ :: _) _ _; refine wpList_val rfl (op_load agg32b rfl rfl (blk_mid (b := nx) (T := 60) ((hS.bring (by repeat (first | exact t0 | apply tS))).getBlk) HLO.out) HLM.out) ?_; go_frame)
            | (show wpList _ _ _ (⟨some 44, .binOp _ _ _ _ _, _, _, _, _⟩ :: _) _ _; refine wpList_val rfl (op_neqHash (a := lk) (b := o.lock) rfl rfl rfl HLKL.out HLL.out HEQ.out) ?_; go_frame)
            )
          refine segQ_mk trivial ?_
          refine finC_mk (by kernel_rfl) (by
            intro t ht
            cases ht) ?_
          go_wp2_with (first
            | (show wpList _ _ _ (⟨some 48, .load _ _, _, _, _, _⟩ :: _) _ _; refine wpList_val rfl (op_load1S (b := nx) (T := 60) oneU ((hS.bring (by repeat (first | exact t0 | apply tS)))) rfl rfl rfl) ?_; rw [HV.out]; go_frame)
            | (show wpList _ _ _ (⟨some 49, .indexAddr _ _ _, _, _, _, _⟩ :: _) _ _; refine wpList_val rfl (op_indexAddr slTyU rfl (v := vv) (xs := uRow W) rfl (k := k) rfl ((hS.bring (by repeat (first | exact t0 | apply tS))).getOwn.rd) hkW) ?_; go_frame)
            | (show wpList _ _ _ (⟨_, .store 29 _ _, _, _, _, _⟩ :: _) _ _; (refine wpS_storeE1 infoU1 (hS.bring (by repeat (first | exact t0 | apply tS))) rfl rfl (k := k) (v := vv) (xs := uRow W) rfl (u := U v) rfl rfl rfl hkW ?_); clear hS; intro w hS; rw [uRow_set] at hS; go_frame)
            )
          go_roundw
          case rel => exact ⟨k + 1, W.set k v, by go_num, hlt, HNX, HA2, hS.sel (by repeat (first | exact Sel.refl | refine Sel.take (by repeat (first | exact t0 | apply tS)) ?_ | apply Sel.drop))⟩
          case measure => simp [intOf]; omega
      · have HEQ : Hid ((!decide (lk = o.lock)) = true) := by unfold Hid; rw [decide_eq_false heq]; rfl
        obtain ⟨e1, e2⟩ := HBAD.out (lock_bad HATI.out HATO.out (by rw [HLK.out]; exact heq))
        subst e1
        subst e2
        clear heq HBAD HLESS HYES
        refine wp_region_ord (by kernel_rfl) [] [[0, 1, 2, 3, 4, 5, 7, 6, 8, 9], [0, 1, 2, 3, 4, 5, 7, 8, 6, 9]] (by kernel_rfl) (by kernel_rfl) (fun _ => True) (fun _ _ _ _ => trivial) trivial (by repeat (first | exact Clean.body | refine Clean.then ?_ | refine Clean.inBlock ?_ | refine SegQ.clean ?_ | refine FinC.clean ?_)) ?_
        replace hS := hS.drew
        refine ord_seg (by repeat (first | exact Clean.body | refine Clean.then ?_ | refine Clean.inBlock ?_ | refine SegQ.clean ?_ | refine FinC.clean ?_)) (n := 3) (rest := [[6, 8, 9], [8, 6, 9]]) [0, 1, 2, 3, 4, 5, 7] [⟨_, _, _, _, _, _⟩, ⟨_, _, _, _, _, _⟩, ⟨_, _, _, _, _, _⟩, ⟨_, _, _, _, _, _⟩, ⟨_, _, _, _, _, _⟩, ⟨_, _, _, _, _, _⟩, ⟨_, _, _, _, _, _⟩] rfl (by kernel_rfl) (by simp) _ _ ?_
        go_wp2_with (first
          | (show wpList _ _ _ (⟨_, .load 23 _, _, _, _, _⟩ :: _) _ _; refine wpList_val rfl (op_load1S (b := n1) (T := 26) oneIns ((hS.bring (by repeat (first | exact t0 | apply tS)))) rfl rfl rfl) ?_; go_frame)
          | (show wpList _ _ _ (⟨_, .load 24 _, _, _, _, _⟩ :: _) _ _; refine wpList_val rfl (op_load1S (b := n1) (T := 26) oneOuts ((hS.bring (by repeat (first | exact t0 | apply tS)))) rfl rfl rfl) ?_; go_frame)
          | (show wpList _ _ _ (⟨some 38, .indexAddr _ _ _, _, _, _, _⟩ :: _) _ _; refine wpList_val rfl (op_indexAddr slIns rfl (v := m.iv) (xs := m.L.map inC) rfl (k := k) rfl (by exact hS.rd HRI.out) hkr) ?_; go_frame)
          | (show wpList _ _ _ (⟨some 39, .fieldAddr _ _ _, _, _, _, _⟩ :: _) _ _; refine wpList_val rfl (op_fieldAddrE (j := 33) (by kernel_rfl) rfl (n := 34) (k := k) (v := m.iv) rfl (by exact hS.rd HRI.out) hkr) ?_; go_frame)
          | (show wpList _ _ _ (⟨some 40, .load _ _, _, _, _, _⟩ :: _) _ _; refine wpList_val rfl (op_loadF1 oneBytes rfl (n := 34) (k := k) (j := 33) (v := m.iv) rfl (by exact hS.rd HRI.out) hkr HX33.out) ?_; go_frame)
          | (go_at_call 15; refine Ret.calls (HSUM hS) ?_; clear hS; rintro r1 w ⟨rfl, hS⟩)
          | (show wpList _ _ _ (⟨some 43, .load _ _, _, _, _, _⟩ :: _) _ _; refine wpList_val rfl (op_load agg32b rfl rfl (blk_mid (b := nx) (T := 60) ((hS.bring (by repeat (first | exact t0 | apply tS))).getBlk) HLO.out) HLM.out) ?_; go_frame)
          | (show wpList _ _ _ (⟨some 44, .binOp _ _ _ _ _, _, _, _, _⟩ :: _) _ _; refine wpList_val rfl (op_neqHash (a := lk) (b := o.lock) rfl rfl rfl HLKL.out HLL.out HEQ.out) ?_; go_frame)
          )
        refine segQ_mk trivial ?_
        refine ord_fork (n := 2) (os1 := [[6, 8, 9]]) (os2 := [[8, 6, 9]]) (by decide) ?_ ?_
        · skip
          refine ord_seg (by repeat (first | exact Clean.body | refine Clean.then ?_ | refine Clean.inBlock ?_ | refine SegQ.clean ?_ | refine FinC.clean ?_)) (n := 2) (rest := [[8, 9]]) [6] [⟨_, _, _, _, _, _⟩] rfl (by kernel_rfl) (by simp) _ _ ?_
          go_wp2_with (first
            | (show wpList _ _ _ (⟨_, .load 23 _, _, _, _, _⟩ :: _) _ _; refine wpList_val rfl (op_load1S (b := n1) (T := 26) oneIns ((hS.bring (by repeat (first | exact t0 | apply tS)))) rfl rfl rfl) ?_; go_frame)
            | (show wpList _ _ _ (⟨_, .load 24 _, _, _, _, _⟩ :: _) _ _; refine wpList_val rfl (op_load1S (b := n1) (T := 26) oneOuts ((hS.bring (by repeat (first | exact t0 | apply tS)))) rfl rfl rfl) ?_; go_frame)
            | (show wpList _ _ _ (⟨some 38, .indexAddr _ _ _, _, _, _, _⟩ :: _) _ _; refine wpList_val rfl (op_indexAddr slIns rfl (v := m.iv) (xs := m.L.map inC) rfl (k := k) rfl (by exact hS.rd HRI.out) hkr) ?_; go_frame)
            | (show wpList _ _ _ (⟨some 39, .fieldAddr _ _ _, _, _, _, _⟩ :: _) _ _; refine wpList_val rfl (op_fieldAddrE (j := 33) (by kernel_rfl) rfl (n := 34) (k := k) (v := m.iv) rfl (by exact hS.rd HRI.out) hkr) ?_; go_frame)
            | (show wpList _ _ _ (⟨some 40, .load _ _, _, _, _, _⟩ :: _) _ _; refine wpList_val rfl (op_loadF1 oneBytes rfl (n := 34) (k := k) (j := 33) (v := m.iv) rfl (by exact hS.rd HRI.out) hkr HX33.out) ?_; go_frame)
            | (go_at_call 15; refine Ret.calls (HSUM hS) ?_; clear hS; rintro r1 w ⟨rfl, hS⟩)
            | (show wpList _ _ _ (⟨some 43, .load _ _, _, _, _, _⟩ :: _) _ _; refine wpList_val rfl (op_load agg32b rfl rfl (blk_mid (b := nx) (T := 60) ((hS.bring (by repeat (first | exact t0 | apply tS))).getBlk) HLO.out) HLM.out) ?_; go_frame)
            | (show wpList _ _ _ (⟨some 44, .binOp _ _ _ _ _, _, _, _, _⟩ :: _) _ _; refine wpList_val rfl (op_neqHash (a := lk) (b := o.lock) rfl rfl rfl HLKL.out HLL.out HEQ.out) ?_; go_frame)
            )
          refine segQ_mk trivial ?_
          refine ord_seg (by repeat (first | exact Clean.body | refine Clean.then ?_ | refine Clean.inBlock ?_ | refine SegQ.clean ?_ | refine FinC.clean ?_)) (n := 0) (rest := [[]]) [8, 9] [⟨_, _, _, _, _, _⟩, ⟨_, _, _, _, _, _⟩] rfl (by kernel_rfl) (by simp) _ _ ?_
          go_wp2_with (first
            | (show wpList _ _ _ (⟨_, .load 23 _, _, _, _, _⟩ :: _) _ _; refine wpList_val rfl (op_load1S (b := n1) (T := 26) oneIns ((hS.bring (by repeat (first | exact t0 | apply tS)))) rfl rfl rfl) ?_; go_frame)
            | (show wpList _ _ _ (⟨_, .load 24 _, _, _, _, _⟩ :: _) _ _; refine wpList_val rfl (op_load1S (b := n1) (T := 26) oneOuts ((hS.bring (by repeat (first | exact t0 | apply tS)))) rfl rfl rfl) ?_; go_frame)
            | (show wpList _ _ _ (⟨some 38, .indexAddr _ _ _, _, _, _, _⟩ :: _) _ _; refine wpList_val rfl (op_indexAddr slIns rfl (v := m.iv) (xs := m.L.map inC) rfl (k := k) rfl (by exact hS.rd HRI.out) hkr) ?_; go_frame)
            | (show wpList _ _ _ (⟨some 39, .fieldAddr _ _ _, _, _, _, _⟩ :: _) _ _; refine wpList_val rfl (op_fieldAddrE (j := 33) (by kernel_rfl) rfl (n := 34) (k := k) (v := m.iv) rfl (by exact hS.rd HRI.out) hkr) ?_; go_frame)
            | (show wpList _ _ _ (⟨some 40, .load _ _, _, _, _, _⟩ :: _) _ _; refine wpList_val rfl (op_loadF1 oneBytes rfl (n := 34) (k := k) (j := 33) (v := m.iv) rfl (by exact hS.rd HRI.out) hkr HX33.out) ?_; go_frame)
            | (go_at_call 15; refine Ret.calls (HSUM hS) ?_; clear hS; rintro r1 w ⟨rfl, hS⟩)
            | (show wpList _ _ _ (⟨some 43, .load _ _, _, _, _, _⟩ :: _) _ _; refine wpList_val rfl (op_load agg32b rfl rfl (blk_mid (b := nx) (T := 60) ((hS.bring (by repeat (first | exact t0 | apply tS))).getBlk) HLO.out) HLM.out) ?_; go_frame)
            | (show wpList _ _ _ (⟨some 44, .binOp _ _ _ _ _, _, _, _, _⟩ :: _) _ _; refine wpList_val rfl (op_neqHash (a := lk) (b := o.lock) rfl rfl rfl HLKL.out HLL.out HEQ.out) ?_; go_frame)
            )
          refine segQ_mk trivial ?_
          refine finC_mk (by kernel_rfl) (by
            intro t ht
            cases ht) ?_
          go_wp2_with fail
          go_ret2
          exact ⟨rfl, hS.sel (by repeat (first | exact Sel.refl | refine Sel.take (by repeat (first | exact t0 | apply tS)) ?_ | apply Sel.drop))⟩
        · skip
          refine ord_seg (by repeat (first | exact Clean.body | refine Clean.then ?_ | refine Clean.inBlock ?_ | refine SegQ.clean ?_ | refine FinC.clean ?_)) (n := 1) (rest := [[9]]) [8, 6] [⟨_, _, _, _, _, _⟩, ⟨_, _, _, _, _, _⟩] rfl (by kernel_rfl) (by simp) _ _ ?_
          go_wp2_with (first
            | (show wpList _ _ _ (⟨_, .load 23 _, _, _, _, _⟩ :: _) _ _; refine wpList_val rfl (op_load1S (b := n1) (T := 26) oneIns ((hS.bring (by repeat (first | exact t0 | apply tS)))) rfl rfl rfl) ?_; go_frame)
            | (show wpList _ _ _ (⟨_, .load 24 _, _, _, _, _⟩ :: _) _ _; refine wpList_val rfl (op_load1S (b := n1) (T := 26) oneOuts ((hS.bring (by repeat (first | exact t0 | apply tS)))) rfl rfl rfl) ?_; go_frame)
            | (show wpList _ _ _ (⟨some 38, .indexAddr _ _ _, _, _, _, _⟩ :: _) _ _; refine wpList_val rfl (op_indexAddr slIns rfl (v := m.iv) (xs := m.L.map inC) rfl (k := k) rfl (by exact hS.rd HRI.out) hkr) ?_; go_frame)
            | (show wpList _ _ _ (⟨some 39, .fieldAddr _ _ _, _, _, _, _⟩ :: _) _ _; refine wpList_val rfl (op_fieldAddrE (j := 33) (by kernel_rfl) rfl (n := 34) (k := k) (v := m.iv) rfl (by exact hS.rd HRI.out) hkr) ?_; go_frame)
            | (show wpList _ _ _ (⟨some 40, .load _ _, _, _, _, _⟩ :: _) _ _; refine wpList_val rfl (op_loadF1 oneBytes rfl (n := 34) (k := k) (j := 33) (v := m.iv) rfl (by exact hS.rd HRI.out) hkr HX33.out) ?_; go_frame)
            | (go_at_call 15; refine Ret.calls (HSUM hS) ?_; clear hS; rintro r1 w ⟨rfl, hS⟩)
            | (show wpList _ _ _ (⟨some 43, .load _ _, _, _, _, _⟩ :: _) _ _; refine wpList_val rfl (op_load agg32b rfl rfl (blk_mid (b := nx) (T := 60) ((hS.bring (by repeat (first | exact t0 | apply tS))).getBlk) HLO.out) HLM.out) ?_; go_frame)
            | (show wpList _ _ _ (⟨some 44, .binOp _ _ _ _ _, _, _, _, _⟩ :: _) _ _; refine wpList_val rfl (op_neqHash (a := lk) (b := o.lock) rfl rfl rfl HLKL.out HLL.out HEQ.out) ?_; go_frame)
            )
          refine segQ_mk trivial ?_
          refine ord_seg (by repeat (first | exact Clean.body | refine Clean.then ?_ | refine Clean.inBlock ?_ | refine SegQ.clean ?_ | refine FinC.clean ?_)) (n := 0) (rest := [[]]) [9] [⟨_, _, _, _, _, _⟩] rfl (by kernel_rfl) (by simp) _ _ ?_
          go_wp2_with (first
            | (show wpList _ _ _ (⟨_, .load 23 _, _, _, _, _⟩ :: _) _ _; refine wpList_val rfl (op_load1S (b := n1) (T := 26) oneIns ((hS.bring (by repeat (first | exact t0 | apply tS)))) rfl rfl rfl) ?_; go_frame)
            | (show wpList _ _ _ (⟨_, .load 24 _, _, _, _, _⟩ :: _) _ _; refine wpList_val rfl (op_load1S (b := n1) (T := 26) oneOuts ((hS.bring (by repeat (first | exact t0 | apply tS)))) rfl rfl rfl) ?_; go_frame)
            | (show wpList _ _ _ (⟨some 38, .indexAddr _ _ _, _, _, _, _⟩ :: _) _ _; refine wpList_val rfl (op_indexAddr slIns rfl (v := m.iv) (xs := m.L.map inC) rfl (k := k) rfl (by exact hS.rd HRI.out) hkr) ?_; go_frame)
            | (show wpList _ _ _ (⟨some 39, .fieldAddr _ _ _, _, _, _, _⟩ :: _) _ _; refine wpList_val rfl (op_fieldAddrE (j := 33) (by kernel_rfl) rfl (n := 34) (k := k) (v := m.iv) rfl (by exact hS.rd HRI.out) hkr) ?_; go_frame)
            | (show wpList _ _ _ (⟨some 40, .load _ _, _, _, _, _⟩ :: _) _ _; refine wpList_val rfl (op_loadF1 oneBytes rfl (n := 34) (k := k) (j := 33) (v := m.iv) rfl (by exact hS.rd HRI.out) hkr HX33.out) ?_; go_frame)
            | (go_at_call 15; refine Ret.calls (HSUM hS) ?_; clear hS; rintro r1 w ⟨rfl, hS⟩)
            | (show wpList _ _ _ (⟨some 43, .load _ _, _, _, _, _⟩ :: _) _ _; refine wpList_val rfl (op_load agg32b rfl rfl (blk_mid (b := nx) (T := 60) ((hS.bring (by repeat (first | exact t0 | apply tS))).getBlk) HLO.out) HLM.out) ?_; go_frame)
            | (show wpList _ _ _ (⟨some 44, .binOp _ _ _ _ _, _, _, _, _⟩ :: _) _ _; refine wpList_val rfl (op_neqHash (a := lk) (b := o.lock) rfl rfl rfl HLKL.out HLL.out HEQ.out) ?_; go_frame)
            )
          refine segQ_mk trivial ?_
          refine finC_mk (by kernel_rfl) (by
            intro t ht
            cases ht) ?_
          go_wp2_with fail
          go_ret2
          exact ⟨rfl, hS.sel (by repeat (first | exact Sel.refl | refine Sel.take (by repeat (first | exact t0 | apply tS)) ?_ | apply Sel.drop))⟩
    · have hkz : k = z := by omega
      have HWA : Hid (W = prev.map POut.value) := ufill_all (by rw [HW.out.1, hz]) fun j hj hp _ => HW.out.2 j hj hp (by omega)
      have hlb : lockB sum m.pt.ins prev = true := lock_good fun j h1 h2 => HA.out j h1 h2 (by omega)
      have HLB := hide hlb
      rw [HWA.out] at hS
      clear HA HW hlb
      have HSM := hide (vals_small HPV.out)
      obtain ⟨S, hS0⟩ : ∃ S, sumN (prev.map POut.value) = S := ⟨_, rfl⟩
      obtain ⟨E, hE0⟩ : ∃ E, sumE (prev.map POut.value) = E := ⟨_, rfl⟩
      have HTUP : Hid (∀ {w : World}, Rd 1 w vv (uRow (prev.map POut.value)) → Calls Tryd.prog 27 #[vv] w (Ret fun r w' => r = .tuple #[U S, .int .i64 E] ∧ w' = w)) := fun {w} h => by
        have g := sum_any vv (prev.map POut.value) w h HSM.out
        rwa [hS0, hE0] at g
      rcases sumE_cases (prev.map POut.value) with ⟨g1, g2, g3⟩ | ⟨g1, g2, g3⟩
      · have hSS : S = sumO prev := by rw [← hS0, g2]; rfl
        have hE : E = 0 := by rw [← hE0, g3]
        subst hE
        have hS64 : S < 18446744073709551616 := by rw [hSS]; exact g1
        have HSS := hide hSS
        have HE1 : Hid ((((0 : Nat) : Int) != 0) = false) := neF rfl
        clear g1 g2 g3 hS0 hE0 hSS HBAD
        go_wp2_with (first
          | (go_at_call 27; refine Ret.calls (HTUP.out hS.getOwn.rd) ?_; rintro r1 w1 ⟨rfl, rfl⟩)
          | (show wpList _ _ _ (⟨some 57, .binOp _ _ _ _ _, _, _, _, _⟩ :: _) _ _; refine wpList_val rfl (op_ineI rfl rfl rfl HE1.out) ?_; go_frame)
          | (show wpList _ _ _ (⟨_, .load 23 _, _, _, _, _⟩ :: _) _ _; refine wpList_val rfl (op_load1S (b := n1) (T := 26) oneIns ((hS.bring (by repeat (first | exact t0 | apply tS)))) rfl rfl rfl) ?_; go_frame)
          | (show wpList _ _ _ (⟨_, .load 24 _, _, _, _, _⟩ :: _) _ _; refine wpList_val rfl (op_load1S (b := n1) (T := 26) oneOuts ((hS.bring (by repeat (first | exact t0 | apply tS)))) rfl rfl rfl) ?_; go_frame)
          | (show wpList _ _ _ (⟨some 60, .call _, _, _, _, _⟩ :: _) _ _; refine wpList_val rfl (op_len slOuts rfl rfl (v := m.ov) (xs := m.outs.map outC) rfl (by exact hS.rd HRO.out)) ?_; rw [HNO.out]; go_frame)
          )
        go_loopw [61, 10] (fun kv sv wr => ∃ k s : Nat, kv = .int .i64 k ∧ sv = U s ∧ k ≤ q ∧ s ≤ S ∧ Hid (s + ((m.outs.map POut.value).take k).sum = S) ∧ SepL R base wr (.own 29 1 vv (uRow (prev.map POut.value)) :: .blk n1 26 [N32 m.ver, m.iv, m.ov] :: F)) (fun kv _ _ => q - (intOf kv).toNat)
        case atStart => exact ⟨0, S, rfl, rfl, Nat.zero_le _, Nat.le_refl _, rfl, hS⟩
        case round =>
          clear hS
          obtain ⟨k, s, rfl, rfl, hk, hs, HS, hS⟩ := hrel
          by_cases hlt2 : k < q
          ·
            have hkL : k < m.outs.length := by omega
            have hkr : k < (m.outs.map outC).length := by rw [List.length_map]; exact hkL
            obtain ⟨o, ho⟩ : ∃ o, m.outs[k] = o := ⟨_, rfl⟩
            have hom : o ∈ m.outs := ho ▸ List.getElem_mem hkL
            have HX : Hid ((m.outs.map outC)[k] = outC o) := by unfold Hid; rw [List.getElem_map, ho]
            have HXL : Hid ((outC o).length = 33) := outC_len (HOOK.out o hom)
            have hov := (HOOK.out o hom).1
            have HAT : Hid (∃ h : k < m.outs.length, m.outs[k] = o) := ⟨hkL, ho⟩
            obtain ⟨v, hv⟩ : ∃ v, o.value = v := ⟨_, rfl⟩
            have HV := hide hv
            rw [hv] at hov
            clear hom ho hv
            have HMN := hide (money_next HAT.out rfl)
            by_cases hsv : s < v
            · have HG : Hid (decide (s < v) = true) := decide_eq_true hsv
              obtain ⟨e1, e2⟩ := HLESS.out HLB.out (fun h => by
                have h1 := h.2
                have h2 := HMN.out
                have h3 := sumO_take (o := m.outs) (k := k + 1)
                have h4 := HS.out
                have h5 := HV.out
                have h6 := HSS.out
                omega)
              subst e1
              subst e2
              clear hsv HLESS HYES HMN
              go_wp2_with (first
                | (show wpList _ _ _ (⟨_, .indexAddr 24 _ _, _, _, _, _⟩ :: _) _ _; refine wpList_val rfl (op_indexAddr slOuts rfl (v := m.ov) (xs := m.outs.map outC) rfl (k := k) rfl (by exact hS.rd HRO.out) hkr) ?_; go_frame)
                | (show wpList _ _ _ (⟨_, .load 60 _, _, _, _, _⟩ :: _) _ _; refine wpList_val rfl (op_loadE aggOut rfl (v := m.ov) (xs := m.outs.map outC) (k := k) rfl (by exact hS.rd HRO.out) hkr) ?_; rw [HX.out]; go_frame)
                | (show wpList _ _ _ (⟨_, .alloc 60, _, _, _, _⟩ :: _) _ _; refine wpS_alloc hS rfl rfl zeroOut (zs := zOut) rfl ?_; clear hS; intro nx w hS; go_frame)
                | (show wpList _ _ _ (⟨_, .store 60 _ _, _, _, _, _⟩ :: _) _ _; (refine wpS_storeAll (b := nx) aggOut (hS.bring (by repeat (first | exact t0 | apply tS))) rfl rfl rfl (vs := outC o) rfl HXL.out (outC_one o) rfl ?_); clear hS; intro w hS; go_frame)
                | (show wpList _ _ _ (⟨_, .load 29 _, _, _, _, _⟩ :: _) _ _; refine wpList_val rfl (op_load1S (b := nx) (T := 60) oneU ((hS.bring (by repeat (first | exact t0 | apply tS)))) rfl rfl rfl) ?_; rw [HV.out]; go_frame)
                | (show wpList _ _ _ (⟨some 68, .binOp _ _ _ _ _, _, _, _, _⟩ :: _) _ _; refine wpList_val rfl (opU_lss (a := s) (b := v) rfl rfl rfl HG.out) ?_; go_frame)
                )
              go_ret2
              exact ⟨rfl, hS.sel (by repeat (first | exact Sel.refl | refine Sel.take (by repeat (first | exact t0 | apply tS)) ?_ | apply Sel.drop))⟩
            · have HG : Hid (decide (s < v) = false) := decide_eq_false hsv
              have hvs : v ≤ s := by omega
              have hs64 : s < 18446744073709551616 := by omega
              have HS2 : Hid (s - v + ((m.outs.map POut.value).take (k + 1)).sum = S) := by
                have h2 := HMN.out
                have h4 := HS.out
                have h5 := HV.out
                unfold Hid
                omega
              clear hsv HS HMN
              go_wp2_with (first
                | (show wpList _ _ _ (⟨_, .indexAddr 24 _ _, _, _, _, _⟩ :: _) _ _; refine wpList_val rfl (op_indexAddr slOuts rfl (v := m.ov) (xs := m.outs.map outC) rfl (k := k) rfl (by exact hS.rd HRO.out) hkr) ?_; go_frame)
                | (show wpList _ _ _ (⟨_, .load 60 _, _, _, _, _⟩ :: _) _ _; refine wpList_val rfl (op_loadE aggOut rfl (v := m.ov) (xs := m.outs.map outC) (k := k) rfl (by exact hS.rd HRO.out) hkr) ?_; rw [HX.out]; go_frame)
                | (show wpList _ _ _ (⟨_, .alloc 60, _, _, _, _⟩ :: _) _ _; refine wpS_alloc hS rfl rfl zeroOut (zs := zOut) rfl ?_; clear hS; intro nx w hS; go_frame)
                | (show wpList _ _ _ (⟨_, .store 60 _ _, _, _, _, _⟩ :: _) _ _; (refine wpS_storeAll (b := nx) aggOut (hS.bring (by repeat (first | exact t0 | apply tS))) rfl rfl rfl (vs := outC o) rfl HXL.out (outC_one o) rfl ?_); clear hS; intro w hS; go_frame)
                | (show wpList _ _ _ (⟨_, .load 29 _, _, _, _, _⟩ :: _) _ _; refine wpList_val rfl (op_load1S (b := nx) (T := 60) oneU ((hS.bring (by repeat (first | exact t0 | apply tS)))) rfl rfl rfl) ?_; rw [HV.out]; go_frame)
                | (show wpList _ _ _ (⟨some 68, .binOp _ _ _ _ _, _, _, _, _⟩ :: _) _ _; refine wpList_val rfl (opU_lss (a := s) (b := v) rfl rfl rfl HG.out) ?_; go_frame)
                | (show wpList _ _ _ (⟨some 72, .binOp _ _ _ _ _, _, _, _, _⟩ :: _) _ _; refine wpList_val rfl (opU_sub (a := s) (b := v) rfl rfl rfl hvs hs64) ?_; go_frame)
                )
              go_roundw
              case rel => exact ⟨k + 1, s - v, by go_num, rfl, hlt2, by omega, HS2, hS.sel (by repeat (first | exact Sel.refl | refine Sel.take (by repeat (first | exact t0 | apply tS)) ?_ | apply Sel.drop))⟩
              case measure => simp [intOf]; omega
          · have hall : (m.outs.map POut.value).take k = m.outs.map POut.value := List.take_of_length_le (by rw [List.length_map]; omega)
            have hse : s + sumO m.outs = S := by
              have h4 := HS.out
              rw [hall] at h4
              exact h4
            have h6 := HSS.out
            obtain ⟨e1, e2⟩ := HYES.out HLB.out (by omega) (by omega)
            have e3 : s = p1 := by omega
            subst e3
            subst e2
            clear e1 h6 hse hall HS HLESS HYES
            go_wp2_with fail
            go_ret2
            exact ⟨rfl, hS.sel (by repeat (first | exact Sel.refl | refine Sel.take (by repeat (first | exact t0 | apply tS)) ?_ | apply Sel.drop))⟩
      · have hE : E = 3 := by rw [← hE0, g3]
        subst hE
        have HE1 : Hid ((((3 : Nat) : Int) != 0) = true) := neT (by omega)
        obtain ⟨e1, e2⟩ := HLESS.out HLB.out (fun h => g1 h.1)
        subst e1
        subst e2
        clear g1 g2 g3 hS0 hE0 HBAD HLESS HYES
        go_wp2_with (first
          | (go_at_call 27; refine Ret.calls (HTUP.out hS.getOwn.rd) ?_; rintro r1 w1 ⟨rfl, rfl⟩)
          | (show wpList _ _ _ (⟨some 57, .binOp _ _ _ _ _, _, _, _, _⟩ :: _) _ _; refine wpList_val rfl (op_ineI rfl rfl rfl HE1.out) ?_; go_frame)
          )
        go_ret2
        exact ⟨rfl, hS.sel (by repeat (first | exact Sel.refl | refine Sel.take (by repeat (first | exact t0 | apply tS)) ?_ | apply Sel.drop))⟩
end
end Go.Proofs.YtieobcaegegboaaDoor
namespace Go.Proofs.YtieobcaegegboaaDoor
open Go Go.RowKit Go.Px Go.Sha Go.Calc Go.WideMaps
theorem uRow_next {l : List POut} {k v : Nat} {o : POut} (h : ∃ hk : k < l.length, l[k] = o) (hv : o.value = v) : uRow ((l.map POut.value).take k) ++ [[U v]] = uRow ((l.map POut.value).take (k + 1)) := by
  obtain ⟨hk, h⟩ := h
  rw [List.take_add_one, List.getElem?_eq_getElem (by rw [List.length_map]; exact hk), List.getElem_map, h, hv]
  unfold uRow
  rw [List.map_append]
  rfl
section
variable {R : Nat → Prop} {base w : World} {F : List Hp}
set_option maxRecDepth 100000 in
set_option maxHeartbeats 8000000 in
theorem rof_s {m : MT} {pv : Value} {prev : List POut} (hS : SepL R base w F) (ht : TxIn R base m) (hpv : OutsIn R base pv prev) :
    Calls Tryd.prog 14 #[txV m, pv] w (Ret fun r w' => r = .tuple #[U (payN sum m.pt prev).1, .int .i64 (((payN sum m.pt prev).2 : Nat) : Int)] ∧ SepL R base w' F) := by
  obtain ⟨n, hn⟩ : ∃ n, m.L.length = n := ⟨_, rfl⟩
  obtain ⟨q, hq⟩ : ∃ q, m.outs.length = q := ⟨_, rfl⟩
  obtain ⟨z, hz⟩ : ∃ z, prev.length = z := ⟨_, rfl⟩
  have HNL : Hid ((m.L.map inC).length = n) := by unfold Hid; rw [List.length_map, hn]
  have HNO : Hid ((m.outs.map outC).length = q) := by unfold Hid; rw [List.length_map, hq]
  have HNP : Hid ((prev.map outC).length = z) := by unfold Hid; rw [List.length_map, hz]
  have HT := hide ht
  have HPV := hide hpv
  have HRI := hide ht.ins
  have HRO := hide ht.outs.rd
  have HRP := hide hpv.rd
  have HKEY := hide ht.key
  have HIOK := hide ht.iok
  have HOOK := hide ht.outs.ok
  have HPOK := hide hpv.ok
  obtain ⟨c, hc⟩ : ∃ c, checkN m.pt = c := ⟨_, rfl⟩
  have HC := hide hc
  obtain ⟨p1, p2, hpp⟩ : ∃ p1 p2, payN sum m.pt prev = (p1, p2) := ⟨_, _, rfl⟩
  have HPAY := hide hpp
  rw [hpp]
  dsimp only
  have HCK : Hid (∀ {w : World} {F : List Hp}, SepL R base w F → Calls Tryd.prog 30 #[txV m] w (Ret fun r w' => r = .int .i64 c ∧ SepL R base w' F)) := fun hS => by
    have g := rcheck_s hS ht
    rwa [hc] at g
  clear hc hpp
  by_cases hc0 : c ≠ 0
  · have e := (pay_check HC.out hc0).symm.trans HPAY.out
    injection e with e1 e2
    subst e1
    subst e2
    have H1 : Hid (((c : Int) != 0) = true) := neT (by omega)
    clear hc0 HC HPAY
    go_enter Tryd.func14, Tryd.ntmps14
    go_wp2_with (first
      | (show wpList _ _ _ (⟨some 2, .box _ _, _, _, _, _⟩ :: _) _ _; refine wpS_boxA (cs := [N32 m.ver, m.iv, m.ov]) hS rfl rfl rfl ?_; clear hS; intro n1 w hS; go_frame)
      | (show wpList _ _ _ (⟨_, .load 26 _, _, _, _, _⟩ :: _) _ _; refine wpList_val rfl (op_load aggTx rfl rfl (SepL.getBlk (b := n1) (T := 26) ((hS.bring (by repeat (first | exact t0 | apply tS))))).cells rfl) ?_; go_frame)
      | (go_at_call 30; refine Ret.calls (HCK.out hS) ?_; clear hS; rintro r1 w ⟨rfl, hS⟩)
      | (show wpList _ _ _ (⟨some 22, .binOp _ _ _ _ _, _, _, _, _⟩ :: _) _ _; refine wpList_val rfl (op_ineI rfl rfl rfl H1.out) ?_; go_frame)
      )
    go_ret2
    exact ⟨rfl, hS.sel (by repeat (first | exact Sel.refl | refine Sel.take (by repeat (first | exact t0 | apply tS)) ?_ | apply Sel.drop))⟩
  replace hc0 : c = 0 := Classical.not_not.1 hc0
  have HC0 : Hid (checkN m.pt = 0) := HC.out.trans hc0
  have H1 : Hid (((c : Int) != 0) = false) := neF (by omega)
  clear hc0
  by_cases hzn : z ≠ n
  · have e := (pay_len HC0.out (by rw [hz]; unfold MT.pt; rw [List.length_map, hn]; exact hzn)).symm.trans HPAY.out
    injection e with e1 e2
    subst e1
    subst e2
    have H2 : Hid (((z : Int) != (n : Int)) = true) := neT (by omega)
    clear hzn HC0 HC HPAY hn hz hq
    go_enter Tryd.func14, Tryd.ntmps14
    go_wp2_with (first
      | (show wpList _ _ _ (⟨some 2, .box _ _, _, _, _, _⟩ :: _) _ _; refine wpS_boxA (cs := [N32 m.ver, m.iv, m.ov]) hS rfl rfl rfl ?_; clear hS; intro n1 w hS; go_frame)
      | (show wpList _ _ _ (⟨_, .load 26 _, _, _, _, _⟩ :: _) _ _; refine wpList_val rfl (op_load aggTx rfl rfl (SepL.getBlk (b := n1) (T := 26) ((hS.bring (by repeat (first | exact t0 | apply tS))))).cells rfl) ?_; go_frame)
      | (go_at_call 30; refine Ret.calls (HCK.out hS) ?_; clear hS; rintro r1 w ⟨rfl, hS⟩)
      | (show wpList _ _ _ (⟨some 22, .binOp _ _ _ _ _, _, _, _, _⟩ :: _) _ _; refine wpList_val rfl (op_ineI rfl rfl rfl H1.out) ?_; go_frame)
      | (show wpList _ _ _ (⟨_, .load 23 _, _, _, _, _⟩ :: _) _ _; refine wpList_val rfl (op_load1S (b := n1) (T := 26) oneIns ((hS.bring (by repeat (first | exact t0 | apply tS)))) rfl rfl rfl) ?_; go_frame)
      | (show wpList _ _ _ (⟨_, .load 24 _, _, _, _, _⟩ :: _) _ _; refine wpList_val rfl (op_load1S (b := n1) (T := 26) oneOuts ((hS.bring (by repeat (first | exact t0 | apply tS)))) rfl rfl rfl) ?_; go_frame)
      | (show wpList _ _ _ (⟨some 25, .call _, _, _, _, _⟩ :: _) _ _; refine wpList_val rfl (op_len slOuts rfl rfl (v := pv) (xs := prev.map outC) rfl (by exact hS.rd HRP.out)) ?_; rw [HNP.out]; go_frame)
      | (show wpList _ _ _ (⟨some 28, .call _, _, _, _, _⟩ :: _) _ _; refine wpList_val rfl (op_len slIns rfl rfl (v := m.iv) (xs := m.L.map inC) rfl (by exact hS.rd HRI.out)) ?_; rw [HNL.out]; go_frame)
      | (show wpList _ _ _ (⟨some 29, .binOp _ _ _ _ _, _, _, _, _⟩ :: _) _ _; refine wpList_val rfl (op_ineI rfl rfl rfl H2.out) ?_; go_frame)
      )
    go_ret2
    exact ⟨rfl, hS.sel (by repeat (first | exact Sel.refl | refine Sel.take (by repeat (first | exact t0 | apply tS)) ?_ | apply Sel.drop))⟩
  replace hzn : z = n := Classical.not_not.1 hzn
  have H2 : Hid (((z : Int) != (n : Int)) = false) := neF (by omega)
  have hlen : prev.length = m.pt.ins.length := by
    rw [hz, hzn]
    unfold MT.pt
    rw [List.length_map, hn]
  have HLEN := hide hlen
  have hsm := form_small (check_ok.1 HC0.out).form
  rw [hn, hq] at hsm
  have hn8 := hsm.1
  have hq8 := hsm.2
  have hz8 : z ≤ 8 := by omega
  have HBAD : Hid (lockB sum m.pt.ins prev = false → p1 = 0 ∧ p2 = 13) := fun h => by
    have e := HPAY.out.symm.trans (pay_lock HC0.out HLEN.out h)
    injection e with e1 e2
    exact ⟨e1, e2⟩
  have HLESS : Hid (lockB sum m.pt.ins prev = true → ¬ (sumO prev < 18446744073709551616 ∧ sumO m.outs ≤ sumO prev) → p1 = 0 ∧ p2 = 11) := fun h h2 => by
    have e := HPAY.out.symm.trans (pay_money HC0.out HLEN.out h h2)
    injection e with e1 e2
    exact ⟨e1, e2⟩
  have HYES : Hid (lockB sum m.pt.ins prev = true → sumO prev < 18446744073709551616 → sumO m.outs ≤ sumO prev → p1 = sumO prev - sumO m.outs ∧ p2 = 0) := fun h h2 h3 => by
    have e := HPAY.out.symm.trans (pay_yes HC0.out HLEN.out h h2 h3)
    injection e with e1 e2
    exact ⟨e1, e2⟩
  have HZN := hide hzn
  clear hsm hlen HLEN HPAY hzn
  go_enter Tryd.func14, Tryd.ntmps14
  go_wp2_with (first
    | (show wpList _ _ _ (⟨some 2, .box _ _, _, _, _, _⟩ :: _) _ _; refine wpS_boxA (cs := [N32 m.ver, m.iv, m.ov]) hS rfl rfl rfl ?_; clear hS; intro n1 w hS; go_frame)
    | (show wpList _ _ _ (⟨_, .load 26 _, _, _, _, _⟩ :: _) _ _; refine wpList_val rfl (op_load aggTx rfl rfl (SepL.getBlk (b := n1) (T := 26) ((hS.bring (by repeat (first | exact t0 | apply tS))))).cells rfl) ?_; go_frame)
    | (go_at_call 30; refine Ret.calls (HCK.out hS) ?_; clear hS; rintro r1 w ⟨rfl, hS⟩)
    | (show wpList _ _ _ (⟨some 22, .binOp _ _ _ _ _, _, _, _, _⟩ :: _) _ _; refine wpList_val rfl (op_ineI rfl rfl rfl H1.out) ?_; go_frame)
    | (show wpList _ _ _ (⟨_, .load 23 _, _, _, _, _⟩ :: _) _ _; refine wpList_val rfl (op_load1S (b := n1) (T := 26) oneIns ((hS.bring (by repeat (first | exact t0 | apply tS)))) rfl rfl rfl) ?_; go_frame)
    | (show wpList _ _ _ (⟨_, .load 24 _, _, _, _, _⟩ :: _) _ _; refine wpList_val rfl (op_load1S (b := n1) (T := 26) oneOuts ((hS.bring (by repeat (first | exact t0 | apply tS)))) rfl rfl rfl) ?_; go_frame)
    | (show wpList _ _ _ (⟨some 25, .call _, _, _, _, _⟩ :: _) _ _; refine wpList_val rfl (op_len slOuts rfl rfl (v := pv) (xs := prev.map outC) rfl (by exact hS.rd HRP.out)) ?_; rw [HNP.out]; go_frame)
    | (show wpList _ _ _ (⟨some 28, .call _, _, _, _, _⟩ :: _) _ _; refine wpList_val rfl (op_len slIns rfl rfl (v := m.iv) (xs := m.L.map inC) rfl (by exact hS.rd HRI.out)) ?_; rw [HNL.out]; go_frame)
    | (show wpList _ _ _ (⟨some 32, .call _, _, _, _, _⟩ :: _) _ _; refine wpList_val rfl (op_len slIns rfl rfl (v := m.iv) (xs := m.L.map inC) rfl (by exact hS.rd HRI.out)) ?_; rw [HNL.out]; go_frame)
    | (show wpList _ _ _ (⟨some 29, .binOp _ _ _ _ _, _, _, _, _⟩ :: _) _ _; refine wpList_val rfl (op_ineI rfl rfl rfl H2.out) ?_; go_frame)
    )
  go_loopw [33, 7] (fun kv _ wr => ∃ k : Nat, kv = .int .i64 k ∧ k ≤ n ∧ Hid (∀ j (h1 : j < m.L.length) (h2 : j < prev.length), j < k → sum m.L[j].1.key = prev[j].lock) ∧ SepL R base wr (.blk n1 26 [N32 m.ver, m.iv, m.ov] :: F)) (fun kv _ _ => n - (intOf kv).toNat)
  case atStart => exact ⟨0, rfl, Nat.zero_le _, fun j _ _ h => absurd h (Nat.not_lt_zero _), hS⟩
  case round =>
    clear hS
    obtain ⟨k, rfl, hk, HA, hS⟩ := hrel
    by_cases hlt : k < n
    ·
      have hkP : k < prev.length := by have := HZN.out; omega
      have hkp : k < (prev.map outC).length := by rw [List.length_map]; exact hkP
      obtain ⟨o, ho⟩ : ∃ o, prev[k] = o := ⟨_, rfl⟩
      have hom : o ∈ prev := ho ▸ List.getElem_mem hkP
      have HX : Hid ((prev.map outC)[k] = outC o) := by unfold Hid; rw [List.getElem_map, ho]
      have hook := HPOK.out o hom
      have HXL : Hid ((outC o).length = 33) := outC_len hook
      have HLO : Hid (((outC o).drop 1).take 32 = o.lock.map B8) := out_lock hook
      have HLL := hide hook.2
      have HLM : Hid ((o.lock.map B8).length = 32) := by unfold Hid; rw [List.length_map, hook.2]
      have HATO : Hid (∃ h : k < prev.length, prev[k] = o) := ⟨hkP, ho⟩
      obtain ⟨v, hv⟩ : ∃ v, o.value = v := ⟨_, rfl⟩
      have HV := hide hv
      have hov := hook.1
      rw [hv] at hov
      clear hom ho hv hook
      have HLOX : Hid ((((prev.map outC)[k]).drop 1).take 32 = o.lock.map B8) := by unfold Hid; rw [HX.out]; exact HLO.out
      have hkL : k < m.L.length := by have := HZN.out; omega
      have hkr : k < (m.L.map inC).length := by rw [List.length_map]; exact hkL
      obtain ⟨p, hp⟩ : ∃ p, m.L[k] = p := ⟨_, rfl⟩
      have hpm : p ∈ m.L := hp ▸ List.getElem_mem hkL
      have HXI : Hid ((m.L.map inC)[k] = inC p) := by unfold Hid; rw [List.getElem_map, hp]
      have hok := HIOK.out p hpm
      have HX33 : Hid ((m.L.map inC)[k][33]? = some p.2) := by unfold Hid; rw [HXI.out]; exact inC_key hok
      have HXIL : Hid ((inC p).length = 34) := inC_len hok
      have HXI1 : Hid (∀ v ∈ inC p, v.oneCell' = true) := inC_one (slice_one (HKEY.out p hpm)).1
      have HY33 : Hid ((inC p)[33]? = some p.2) := inC_key hok
      have HKL : Hid (p.1.key.length ≤ 64) := ((check_ok.1 HC0.out).small.1 p.1 (List.mem_map.2 ⟨p, hpm, rfl⟩))
      obtain ⟨lk, hlk⟩ : ∃ lk, sum p.1.key = lk := ⟨_, rfl⟩
      have HLK := hide hlk
      have HLKL : Hid (lk.length = 32) := by unfold Hid; rw [← hlk, sum_len]
      have HATI : Hid (∃ h : k < m.L.length, m.L[k] = p) := ⟨hkL, hp⟩
      have HSUM : ∀ {w : World} {F : List Hp}, SepL R base w F → Calls Tryd.prog 16 #[p.2] w (Ret fun r w' => r = Go.Px.HV lk ∧ SepL R base w' F) := fun hS => by
        have g := rsum_s hS (HKEY.out p hpm) (by have := HKL.out; omega)
        rwa [hlk] at g
      clear hp hlk hok hpm
      go_wp2_with (first
        | (show wpList _ _ _ (⟨_, .indexAddr 23 _ _, _, _, _, _⟩ :: _) _ _; refine wpList_val rfl (op_indexAddr slIns rfl (v := m.iv) (xs := m.L.map inC) rfl (k := k) rfl (by exact hS.rd HRI.out) hkr) ?_; go_frame)
        | (show wpList _ _ _ (⟨_, .load 39 _, _, _, _, _⟩ :: _) _ _; refine wpList_val rfl (op_loadE aggIn rfl (v := m.iv) (xs := m.L.map inC) (k := k) rfl (by exact hS.rd HRI.out) hkr) ?_; rw [HXI.out]; go_frame)
        | (show wpList _ _ _ (⟨_, .alloc 39, _, _, _, _⟩ :: _) _ _; refine wpS_alloc hS rfl rfl zeroIn (zs := zIn) rfl ?_; clear hS; intro nx w hS; go_frame)
        | (show wpList _ _ _ (⟨_, .store 39 _ _, _, _, _, _⟩ :: _) _ _; (refine wpS_storeAll (b := nx) aggIn (hS.bring (by repeat (first | exact t0 | apply tS))) rfl rfl rfl (vs := inC p) rfl HXIL.out HXI1.out rfl ?_); clear hS; intro w hS; go_frame)
        )
      by_cases heq : lk = o.lock
      · have HEQ : Hid ((!decide (lk = o.lock)) = false) := by unfold Hid; rw [decide_eq_true heq]; rfl
        have HA2 : Hid (∀ j (h1 : j < m.L.length) (h2 : j < prev.length), j < k + 1 → sum m.L[j].1.key = prev[j].lock) := fun j h1 h2 h => by
          by_cases e : j = k
          · subst e
            rw [HATI.out.2, HATO.out.2, HLK.out, heq]
          · exact HA.out j h1 h2 (by omega)
        clear heq HA
        refine wp_region_ord (by kernel_rfl) [] [[0, 1, 3, 4, 5, 6, 2, 7, 8], [0, 1, 3, 4, 5, 6, 7, 2, 8]] (by kernel_rfl) (by kernel_rfl) (fun _ => True) (fun _ _ _ _ => trivial) trivial (by repeat (first | exact Clean.body | refine Clean.then ?_ | refine Clean.inBlock ?_ | refine SegQ.clean ?_ | refine FinC.clean ?_)) ?_
        replace hS := hS.drew
        refine ord_seg (by repeat (first | exact Clean.body | refine Clean.then ?_ | refine Clean.inBlock ?_ | refine SegQ.clean ?_ | refine FinC.clean ?_)) (n := 3) (rest := [[2, 7, 8], [7, 2, 8]]) [0, 1, 3, 4, 5, 6] [⟨_, _, _, _, _, _⟩, ⟨_, _, _, _, _, _⟩, ⟨_, _, _, _, _, _⟩, ⟨_, _, _, _, _, _⟩, ⟨_, _, _, _, _, _⟩, ⟨_, _, _, _, _, _⟩] rfl (by kernel_rfl) (by simp) _ _ ?_
        go_wp2_with (first
          | (show wpList _ _ _ (⟨some 39, .load _ _, _, _, _, _⟩ :: _) _ _; refine wpList_val rfl (op_load1S (b := nx) (T := 39) oneBytes ((hS.bring (by repeat (first | exact t0 | apply tS)))) rfl rfl HY33.out) ?_; go_frame)
          | (go_at_call 16; refine Ret.calls (HSUM hS) ?_; clear hS; rintro r1 w ⟨rfl, hS⟩)
          | (show wpList _ _ _ (⟨some 43, .indexAddr _ _ _, _, _, _, _⟩ :: _) _ _; refine wpList_val rfl (op_indexAddr slOuts rfl (v := pv) (xs := prev.map outC) rfl (k := k) rfl (by exact hS.rd HRP.out) hkp) ?_; go_frame)
          | (show wpList _ _ _ (⟨some 44, .fieldAddr _ _ _, _, _, _, _⟩ :: _) _ _; refine wpList_val rfl (op_fieldAddrE (j := 1) (by kernel_rfl) rfl (n := 33) (k := k) (v := pv) rfl (by exact hS.rd HRP.out) hkp) ?_; go_frame)
          | (show wpList _ _ _ (⟨some 45, .load _ _, _, _, _, _⟩ :: _) _ _; refine wpList_val rfl (op_loadFA agg32b rfl (n := 33) (k := k) (j := 1) (v := pv) rfl (by exact hS.rd HRP.out) hkp HLOX.out HLM.out) ?_; go_frame)
          | (show wpList _ _ _ (⟨some 46, .binOp _ _ _ _ _, _, _, _, _⟩ :: _) _ _; refine wpList_val rfl (op_neqHash (a := lk) (b := o.lock) rfl rfl rfl HLKL.out HLL.out HEQ.out) ?_; go_frame)
          )
        refine segQ_mk trivial ?_
        refine ord_fork (n := 2) (os1 := [[2, 7, 8]]) (os2 := [[7, 2, 8]]) (by decide) ?_ ?_
        · skip
          refine ord_seg (by repeat (first | exact Clean.body | refine Clean.then ?_ | refine Clean.inBlock ?_ | refine SegQ.clean ?_ | refine FinC.clean ?_)) (n := 2) (rest := [[7, 8]]) [2] [⟨_, _, _, _, _, _⟩] rfl (by kernel_rfl) (by simp) _ _ ?_
          go_wp2_with (first
            | (show wpList _ _ _ (⟨some 39, .load _ _, _, _, _, _⟩ :: _) _ _; refine wpList_val rfl (op_load1S (b := nx) (T := 39) oneBytes ((hS.bring (by repeat (first | exact t0 | apply tS)))) rfl rfl HY33.out) ?_; go_frame)
            | (go_at_call 16; refine Ret.calls (HSUM hS) ?_; clear hS; rintro r1 w ⟨rfl, hS⟩)
            | (show wpList _ _ _ (⟨some 43, .indexAddr _ _ _, _, _, _, _⟩ :: _) _ _; refine wpList_val rfl (op_indexAddr slOuts rfl (v := pv) (xs := prev.map outC) rfl (k := k) rfl (by exact hS.rd HRP.out) hkp) ?_; go_frame)
            | (show wpList _ _ _ (⟨some 44, .fieldAddr _ _ _, _, _, _, _⟩ :: _) _ _; refine wpList_val rfl (op_fieldAddrE (j := 1) (by kernel_rfl) rfl (n := 33) (k := k) (v := pv) rfl (by exact hS.rd HRP.out) hkp) ?_; go_frame)
            | (show wpList _ _ _ (⟨some 45, .load _ _, _, _, _, _⟩ :: _) _ _; refine wpList_val rfl (op_loadFA agg32b rfl (n := 33) (k := k) (j := 1) (v := pv) rfl (by exact hS.rd HRP.out) hkp HLOX.out HLM.out) ?_; go_frame)
            | (show wpList _ _ _ (⟨some 46, .binOp _ _ _ _ _, _, _, _, _⟩ :: _) _ _; refine wpList_val rfl (op_neqHash (a := lk) (b := o.lock) rfl rfl rfl HLKL.out HLL.out HEQ.out) ?_; go_frame)
            )
          refine segQ_mk trivial ?_
          refine ord_seg (by repeat (first | exact Clean.body | refine Clean.then ?_ | refine Clean.inBlock ?_ | refine SegQ.clean ?_ | refine FinC.clean ?_)) (n := 0) (rest := [[]]) [7, 8] [⟨_, _, _, _, _, _⟩, ⟨_, _, _, _, _, _⟩] rfl (by kernel_rfl) (by simp) _ _ ?_
          go_wp2_with (first
            | (show wpList _ _ _ (⟨some 39, .load _ _, _, _, _, _⟩ :: _) _ _; refine wpList_val rfl (op_load1S (b := nx) (T := 39) oneBytes ((hS.bring (by repeat (first | exact t0 | apply tS)))) rfl rfl HY33.out) ?_; go_frame)
            | (go_at_call 16; refine Ret.calls (HSUM hS) ?_; clear hS; rintro r1 w ⟨rfl, hS⟩)
            | (show wpList _ _ _ (⟨some 43, .indexAddr _ _ _, _, _, _, _⟩ :: _) _ _; refine wpList_val rfl (op_indexAddr slOuts rfl (v := pv) (xs := prev.map outC) rfl (k := k) rfl (by exact hS.rd HRP.out) hkp) ?_; go_frame)
            | (show wpList _ _ _ (⟨some 44, .fieldAddr _ _ _, _, _, _, _⟩ :: _) _ _; refine wpList_val rfl (op_fieldAddrE (j := 1) (by kernel_rfl) rfl (n := 33) (k := k) (v := pv) rfl (by exact hS.rd HRP.out) hkp) ?_; go_frame)
            | (show wpList _ _ _ (⟨some 45, .load _ _, _, _, _, _⟩ :: _) _ _; refine wpList_val rfl (op_loadFA agg32b rfl (n := 33) (k := k) (j := 1) (v := pv) rfl (by exact hS.rd HRP.out) hkp HLOX.out HLM.out) ?_; go_frame)
            | (show wpList _ _ _ (⟨some 46, .binOp _ _ _ _ _, _, _, _, _⟩ :: _) _ _; refine wpList_val rfl (op_neqHash (a := lk) (b := o.lock) rfl rfl rfl HLKL.out HLL.out HEQ.out) ?_; go_frame)
            )
          refine segQ_mk trivial ?_
          refine finC_mk (by kernel_rfl) (by
            intro t ht
            cases ht) ?_
          go_wp2_with fail
          go_roundw
          case rel => exact ⟨k + 1, by go_num, hlt, HA2, hS.sel (by repeat (first | exact Sel.refl | refine Sel.take (by repeat (first | exact t0 | apply tS)) ?_ | apply Sel.drop))⟩
          case measure => simp [intOf]; omega
        · skip
          refine ord_seg (by repeat (first | exact Clean.body | refine Clean.then ?_ | refine Clean.inBlock ?_ | refine SegQ.clean ?_ | refine FinC.clean ?_)) (n := 1) (rest := [[8]]) [7, 2] [⟨_, _, _, _, _, _⟩, ⟨_, _, _, _, _, _⟩] rfl (by kernel_rfl) (by simp) _ _ ?_
          go_wp2_with (first
            | (show wpList _ _ _ (⟨some 39, .load _ _, _, _, _, _⟩ :: _) _ _; refine wpList_val rfl (op_load1S (b := nx) (T := 39) oneBytes ((hS.bring (by repeat (first | exact t0 | apply tS)))) rfl rfl HY33.out) ?_; go_frame)
            | (go_at_call 16; refine Ret.calls (HSUM hS) ?_; clear hS; rintro r1 w ⟨rfl, hS⟩)
            | (show wpList _ _ _ (⟨some 43, .indexAddr _ _ _, _, _, _, _⟩ :: _) _ _; refine wpList_val rfl (op_indexAddr slOuts rfl (v := pv) (xs := prev.map outC) rfl (k := k) rfl (by exact hS.rd HRP.out) hkp) ?_; go_frame)
            | (show wpList _ _ _ (⟨some 44, .fieldAddr _ _ _, _, _, _, _⟩ :: _) _ _; refine wpList_val rfl (op_fieldAddrE (j := 1) (by kernel_rfl) rfl (n := 33) (k := k) (v := pv) rfl (by exact hS.rd HRP.out) hkp) ?_; go_frame)
            | (show wpList _ _ _ (⟨some 45, .load _ _, _, _, _, _⟩ :: _) _ _; refine wpList_val rfl (op_loadFA agg32b rfl (n := 33) (k := k) (j := 1) (v := pv) rfl (by exact hS.rd HRP.out) hkp HLOX.out HLM.out) ?_; go_frame)
            | (show wpList _ _ _ (⟨some 46, .binOp _ _ _ _ _, _, _, _, _⟩ :: _) _ _; refine wpList_val rfl (op_neqHash (a := lk) (b := o.lock) rfl rfl rfl HLKL.out HLL.out HEQ.out) ?_; go_frame)
            )
          refine segQ_mk trivial ?_
          refine ord_seg (by repeat (first | exact Clean.body | refine Clean.then ?_ | refine Clean.inBlock ?_ | refine SegQ.clean ?_ | refine FinC.clean ?_)) (n := 0) (rest := [[]]) [8] [⟨_, _, _, _, _, _⟩] rfl (by kernel_rfl) (by simp) _ _ ?_
          go_wp2_with (first
            | (show wpList _ _ _ (⟨some 39, .load _ _, _, _, _, _⟩ :: _) _ _; refine wpList_val rfl (op_load1S (b := nx) (T := 39) oneBytes ((hS.bring (by repeat (first | exact t0 | apply tS)))) rfl rfl HY33.out) ?_; go_frame)
            | (go_at_call 16; refine Ret.calls (HSUM hS) ?_; clear hS; rintro r1 w ⟨rfl, hS⟩)
            | (show wpList _ _ _ (⟨some 43, .indexAddr _ _ _, _, _, _, _⟩ :: _) _ _; refine wpList_val rfl (op_indexAddr slOuts rfl (v := pv) (xs := prev.map outC) rfl (k := k) rfl (by exact hS.rd HRP.out) hkp) ?_; go_frame)
            | (show wpList _ _ _ (⟨some 44, .fieldAddr _ _ _, _, _, _, _⟩ :: _) _ _; refine wpList_val rfl (op_fieldAddrE (j := 1) (by kernel_rfl) rfl (n := 33) (k := k) (v := pv) rfl (by exact hS.rd HRP.out) hkp) ?_; go_frame)
            | (show wpList _ _ _ (⟨some 45, .load _ _, _, _, _, _⟩ :: _) _ _; refine wpList_val rfl (op_loadFA agg32b rfl (n := 33) (k := k) (j := 1) (v := pv) rfl (by exact hS.rd HRP.out) hkp HLOX.out HLM.out) ?_; go_frame)
            | (show wpList _ _ _ (⟨some 46, .binOp _ _ _ _ _, _, _, _, _⟩ :: _) _ _; refine wpList_val rfl (op_neqHash (a := lk) (b := o.lock) rfl rfl rfl HLKL.out HLL.out HEQ.out) ?_; go_frame)
            )
          refine segQ_mk trivial ?_
          refine finC_mk (by kernel_rfl) (by
            intro t ht
            cases ht) ?_
          go_wp2_with fail
          go_roundw
          case rel => exact ⟨k + 1, by go_num, hlt, HA2, hS.sel (by repeat (first | exact Sel.refl | refine Sel.take (by repeat (first | exact t0 | apply tS)) ?_ | apply Sel.drop))⟩
          case measure => simp [intOf]; omega
      · have HEQ : Hid ((!decide (lk = o.lock)) = true) := by unfold Hid; rw [decide_eq_false heq]; rfl
        obtain ⟨e1, e2⟩ := HBAD.out (lock_bad HATI.out HATO.out (by rw [HLK.out]; exact heq))
        subst e1
        subst e2
        clear heq HBAD HLESS HYES
        refine wp_region_ord (by kernel_rfl) [] [[0, 1, 3, 4, 5, 6, 2, 7, 8], [0, 1, 3, 4, 5, 6, 7, 2, 8]] (by kernel_rfl) (by kernel_rfl) (fun _ => True) (fun _ _ _ _ => trivial) trivial (by repeat (first | exact Clean.body | refine Clean.then ?_ | refine Clean.inBlock ?_ | refine SegQ.clean ?_ | refine FinC.clean ?_)) ?_
        replace hS := hS.drew
        refine ord_seg (by repeat (first | exact Clean.body | refine Clean.then ?_ | refine Clean.inBlock ?_ | refine SegQ.clean ?_ | refine FinC.clean ?_)) (n := 3) (rest := [[2, 7, 8], [7, 2, 8]]) [0, 1, 3, 4, 5, 6] [⟨_, _, _, _, _, _⟩, ⟨_, _, _, _, _, _⟩, ⟨_, _, _, _, _, _⟩, ⟨_, _, _, _, _, _⟩, ⟨_, _, _, _, _, _⟩, ⟨_, _, _, _, _, _⟩] rfl (by kernel_rfl) (by simp) _ _ ?_
        go_wp2_with (first
          | (show wpList _ _ _ (⟨some 39, .load _ _, _, _, _, _⟩ :: _) _ _; refine wpList_val rfl (op_load1S (b := nx) (T := 39) oneBytes ((hS.bring (by repeat (first | exact t0 | apply tS)))) rfl rfl HY33.out) ?_; go_frame)
          | (go_at_call 16; refine Ret.calls (HSUM hS) ?_; clear hS; rintro r1 w ⟨rfl, hS⟩)
          | (show wpList _ _ _ (⟨some 43, .indexAddr _ _ _, _, _, _, _⟩ :: _) _ _; refine wpList_val rfl (op_indexAddr slOuts rfl (v := pv) (xs := prev.map outC) rfl (k := k) rfl (by exact hS.rd HRP.out) hkp) ?_; go_frame)
          | (show wpList _ _ _ (⟨some 44, .fieldAddr _ _ _, _, _, _, _⟩ :: _) _ _; refine wpList_val rfl (op_fieldAddrE (j := 1) (by kernel_rfl) rfl (n := 33) (k := k) (v := pv) rfl (by exact hS.rd HRP.out) hkp) ?_; go_frame)
          | (show wpList _ _ _ (⟨some 45, .load _ _, _, _, _, _⟩ :: _) _ _; refine wpList_val rfl (op_loadFA agg32b rfl (n := 33) (k := k) (j := 1) (v := pv) rfl (by exact hS.rd HRP.out) hkp HLOX.out HLM.out) ?_; go_frame)
          | (show wpList _ _ _ (⟨some 46, .binOp _ _ _ _ _, _, _, _, _⟩ :: _) _ _; refine wpList_val rfl (op_neqHash (a := lk) (b := o.lock) rfl rfl rfl HLKL.out HLL.out HEQ.out) ?_; go_frame)
          )
        refine segQ_mk trivial ?_
        refine ord_fork (n := 2) (os1 := [[2, 7, 8]]) (os2 := [[7, 2, 8]]) (by decide) ?_ ?_
        · skip
          refine ord_seg (by repeat (first | exact Clean.body | refine Clean.then ?_ | refine Clean.inBlock ?_ | refine SegQ.clean ?_ | refine FinC.clean ?_)) (n := 2) (rest := [[7, 8]]) [2] [⟨_, _, _, _, _, _⟩] rfl (by kernel_rfl) (by simp) _ _ ?_
          go_wp2_with (first
            | (show wpList _ _ _ (⟨some 39, .load _ _, _, _, _, _⟩ :: _) _ _; refine wpList_val rfl (op_load1S (b := nx) (T := 39) oneBytes ((hS.bring (by repeat (first | exact t0 | apply tS)))) rfl rfl HY33.out) ?_; go_frame)
            | (go_at_call 16; refine Ret.calls (HSUM hS) ?_; clear hS; rintro r1 w ⟨rfl, hS⟩)
            | (show wpList _ _ _ (⟨some 43, .indexAddr _ _ _, _, _, _, _⟩ :: _) _ _; refine wpList_val rfl (op_indexAddr slOuts rfl (v := pv) (xs := prev.map outC) rfl (k := k) rfl (by exact hS.rd HRP.out) hkp) ?_; go_frame)
            | (show wpList _ _ _ (⟨some 44, .fieldAddr _ _ _, _, _, _, _⟩ :: _) _ _; refine wpList_val rfl (op_fieldAddrE (j := 1) (by kernel_rfl) rfl (n := 33) (k := k) (v := pv) rfl (by exact hS.rd HRP.out) hkp) ?_; go_frame)
            | (show wpList _ _ _ (⟨some 45, .load _ _, _, _, _, _⟩ :: _) _ _; refine wpList_val rfl (op_loadFA agg32b rfl (n := 33) (k := k) (j := 1) (v := pv) rfl (by exact hS.rd HRP.out) hkp HLOX.out HLM.out) ?_; go_frame)
            | (show wpList _ _ _ (⟨some 46, .binOp _ _ _ _ _, _, _, _, _⟩ :: _) _ _; refine wpList_val rfl (op_neqHash (a := lk) (b := o.lock) rfl rfl rfl HLKL.out HLL.out HEQ.out) ?_; go_frame)
            )
          refine segQ_mk trivial ?_
          refine ord_seg (by repeat (first | exact Clean.body | refine Clean.then ?_ | refine Clean.inBlock ?_ | refine SegQ.clean ?_ | refine FinC.clean ?_)) (n := 0) (rest := [[]]) [7, 8] [⟨_, _, _, _, _, _⟩, ⟨_, _, _, _, _, _⟩] rfl (by kernel_rfl) (by simp) _ _ ?_
          go_wp2_with (first
            | (show wpList _ _ _ (⟨some 39, .load _ _, _, _, _, _⟩ :: _) _ _; refine wpList_val rfl (op_load1S (b := nx) (T := 39) oneBytes ((hS.bring (by repeat (first | exact t0 | apply tS)))) rfl rfl HY33.out) ?_; go_frame)
            | (go_at_call 16; refine Ret.calls (HSUM hS) ?_; clear hS; rintro r1 w ⟨rfl, hS⟩)
            | (show wpList _ _ _ (⟨some 43, .indexAddr _ _ _, _, _, _, _⟩ :: _) _ _; refine wpList_val rfl (op_indexAddr slOuts rfl (v := pv) (xs := prev.map outC) rfl (k := k) rfl (by exact hS.rd HRP.out) hkp) ?_; go_frame)
            | (show wpList _ _ _ (⟨some 44, .fieldAddr _ _ _, _, _, _, _⟩ :: _) _ _; refine wpList_val rfl (op_fieldAddrE (j := 1) (by kernel_rfl) rfl (n := 33) (k := k) (v := pv) rfl (by exact hS.rd HRP.out) hkp) ?_; go_frame)
            | (show wpList _ _ _ (⟨some 45, .load _ _, _, _, _, _⟩ :: _) _ _; refine wpList_val rfl (op_loadFA agg32b rfl (n := 33) (k := k) (j := 1) (v := pv) rfl (by exact hS.rd HRP.out) hkp HLOX.out HLM.out) ?_; go_frame)
            | (show wpList _ _ _ (⟨some 46, .binOp _ _ _ _ _, _, _, _, _⟩ :: _) _ _; refine wpList_val rfl (op_neqHash (a := lk) (b := o.lock) rfl rfl rfl HLKL.out HLL.out HEQ.out) ?_; go_frame)
            )
          refine segQ_mk trivial ?_
          refine finC_mk (by kernel_rfl) (by
            intro t ht
            cases ht) ?_
          go_wp2_with fail
          go_ret2
          exact ⟨rfl, hS.sel (by repeat (first | exact Sel.refl | refine Sel.take (by repeat (first | exact t0 | apply tS)) ?_ | apply Sel.drop))⟩
        · skip
          refine ord_seg (by repeat (first | exact Clean.body | refine Clean.then ?_ | refine Clean.inBlock ?_ | refine SegQ.clean ?_ | refine FinC.clean ?_)) (n := 1) (rest := [[8]]) [7, 2] [⟨_, _, _, _, _, _⟩, ⟨_, _, _, _, _, _⟩] rfl (by kernel_rfl) (by simp) _ _ ?_
          go_wp2_with (first
            | (show wpList _ _ _ (⟨some 39, .load _ _, _, _, _, _⟩ :: _) _ _; refine wpList_val rfl (op_load1S (b := nx) (T := 39) oneBytes ((hS.bring (by repeat (first | exact t0 | apply tS)))) rfl rfl HY33.out) ?_; go_frame)
            | (go_at_call 16; refine Ret.calls (HSUM hS) ?_; clear hS; rintro r1 w ⟨rfl, hS⟩)
            | (show wpList _ _ _ (⟨some 43, .indexAddr _ _ _, _, _, _, _⟩ :: _) _ _; refine wpList_val rfl (op_indexAddr slOuts rfl (v := pv) (xs := prev.map outC) rfl (k := k) rfl (by exact hS.rd HRP.out) hkp) ?_; go_frame)
            | (show wpList _ _ _ (⟨some 44, .fieldAddr _ _ _, _, _, _, _⟩ :: _) _ _; refine wpList_val rfl (op_fieldAddrE (j := 1) (by kernel_rfl) rfl (n := 33) (k := k) (v := pv) rfl (by exact hS.rd HRP.out) hkp) ?_; go_frame)
            | (show wpList _ _ _ (⟨some 45, .load _ _, _, _, _, _⟩ :: _) _ _; refine wpList_val rfl (op_loadFA agg32b rfl (n := 33) (k := k) (j := 1) (v := pv) rfl (by exact hS.rd HRP.out) hkp HLOX.out HLM.out) ?_; go_frame)
            | (show wpList _ _ _ (⟨some 46, .binOp _ _ _ _ _, _, _, _, _⟩ :: _) _ _; refine wpList_val rfl (op_neqHash (a := lk) (b := o.lock) rfl rfl rfl HLKL.out HLL.out HEQ.out) ?_; go_frame)
            )
          refine segQ_mk trivial ?_
          refine ord_seg (by repeat (first | exact Clean.body | refine Clean.then ?_ | refine Clean.inBlock ?_ | refine SegQ.clean ?_ | refine FinC.clean ?_)) (n := 0) (rest := [[]]) [8] [⟨_, _, _, _, _, _⟩] rfl (by kernel_rfl) (by simp) _ _ ?_
          go_wp2_with (first
            | (show wpList _ _ _ (⟨some 39, .load _ _, _, _, _, _⟩ :: _) _ _; refine wpList_val rfl (op_load1S (b := nx) (T := 39) oneBytes ((hS.bring (by repeat (first | exact t0 | apply tS)))) rfl rfl HY33.out) ?_; go_frame)
            | (go_at_call 16; refine Ret.calls (HSUM hS) ?_; clear hS; rintro r1 w ⟨rfl, hS⟩)
            | (show wpList _ _ _ (⟨some 43, .indexAddr _ _ _, _, _, _, _⟩ :: _) _ _; refine wpList_val rfl (op_indexAddr slOuts rfl (v := pv) (xs := prev.map outC) rfl (k := k) rfl (by exact hS.rd HRP.out) hkp) ?_; go_frame)
            | (show wpList _ _ _ (⟨some 44, .fieldAddr _ _ _, _, _, _, _⟩ :: _) _ _; refine wpList_val rfl (op_fieldAddrE (j := 1) (by kernel_rfl) rfl (n := 33) (k := k) (v := pv) rfl (by exact hS.rd HRP.out) hkp) ?_; go_frame)
            | (show wpList _ _ _ (⟨some 45, .load _ _, _, _, _, _⟩ :: _) _ _; refine wpList_val rfl (op_loadFA agg32b rfl (n := 33) (k := k) (j := 1) (v := pv) rfl (by exact hS.rd HRP.out) hkp HLOX.out HLM.out) ?_; go_frame)
            | (show wpList _ _ _ (⟨some 46, .binOp _ _ _ _ _, _, _, _, _⟩ :: _) _ _; refine wpList_val rfl (op_neqHash (a := lk) (b := o.lock) rfl rfl rfl HLKL.out HLL.out HEQ.out) ?_; go_frame)
            )
          refine segQ_mk trivial ?_
          refine finC_mk (by kernel_rfl) (by
            intro t ht
            cases ht) ?_
          go_wp2_with fail
          go_ret2
          exact ⟨rfl, hS.sel (by repeat (first | exact Sel.refl | refine Sel.take (by repeat (first | exact t0 | apply tS)) ?_ | apply Sel.drop))⟩
    · have hkz : k = n := by omega
      have hlb : lockB sum m.pt.ins prev = true := lock_good fun j h1 h2 => HA.out j h1 h2 (by omega)
      have HLB := hide hlb
      clear HA hlb HBAD
      have HSM := hide (vals_small HPV.out)
      have HSM2 := hide (vals_small HT.out.outs)
      have hso := ((check_ok.1 HC0.out).small).2.2.2.2
      obtain ⟨S, hS0⟩ : ∃ S, sumN (prev.map POut.value) = S := ⟨_, rfl⟩
      obtain ⟨E, hE0⟩ : ∃ E, sumE (prev.map POut.value) = E := ⟨_, rfl⟩
      have HTUP : Hid (∀ {v : Value} {w : World}, Rd 1 w v (uRow (prev.map POut.value)) → Calls Tryd.prog 31 #[v] w (Ret fun r w' => r = .tuple #[U S, .int .i64 E] ∧ w' = w)) := fun {v w} h => by
        have g := rsum_any v (prev.map POut.value) w h HSM.out
        rwa [hS0, hE0] at g
      obtain ⟨O, hO0⟩ : ∃ O, sumO m.outs = O := ⟨_, rfl⟩
      have hO64 : O < 18446744073709551616 := by
        have e : sumO m.pt.outs = sumO m.outs := rfl
        omega
      have HTUP2 : Hid (∀ {v : Value} {w : World}, Rd 1 w v (uRow (m.outs.map POut.value)) → Calls Tryd.prog 31 #[v] w (Ret fun r w' => r = .tuple #[U O, .int .i64 0] ∧ w' = w)) := fun {v w} h => by
        have g := rsum_any v (m.outs.map POut.value) w h HSM2.out
        have g2 := sum_yes (l := m.outs.map POut.value) (by have e : (m.outs.map POut.value).sum = O := hO0; omega)
        rw [g2.1, g2.2, show (m.outs.map POut.value).sum = O from hO0] at g
        exact g
      rw [hO0] at HLESS HYES
      have HOO := hide hO0
      have H0 : Hid (uRow ((prev.map POut.value).take 0) = []) := rfl
      have H00 : Hid (uRow ((m.outs.map POut.value).take 0) = []) := rfl
      clear hso hO0
      go_wp2_with (first
        | (show wpList _ _ _ (⟨some 49, .call _, _, _, _, _⟩ :: _) _ _; refine wpList_val rfl (op_len slOuts rfl rfl (v := pv) (xs := prev.map outC) rfl (by exact hS.rd HRP.out)) ?_; rw [HNP.out]; go_frame)
        )
      have hS1 := hS.nilOwn 29 1
      rw [← H0.out] at hS1
      go_loopw [50, 9] (fun kv av wr => ∃ k : Nat, kv = .int .i64 k ∧ k ≤ z ∧ SepL R base wr (.own 29 1 av (uRow ((prev.map POut.value).take k)) :: .blk n1 26 [N32 m.ver, m.iv, m.ov] :: F)) (fun kv _ _ => z - (intOf kv).toNat)
      case atStart => exact ⟨0, rfl, Nat.zero_le _, hS1⟩
      case round =>
        clear hS hS1
        obtain ⟨k, rfl, hk, hS⟩ := hrel
        by_cases hlt2 : k < z
        ·
          have hkP : k < prev.length := by omega
          have hkp : k < (prev.map outC).length := by rw [List.length_map]; exact hkP
          obtain ⟨o, ho⟩ : ∃ o, prev[k] = o := ⟨_, rfl⟩
          have hom : o ∈ prev := ho ▸ List.getElem_mem hkP
          have HX : Hid ((prev.map outC)[k] = outC o) := by unfold Hid; rw [List.getElem_map, ho]
          have hook := HPOK.out o hom
          have HXL : Hid ((outC o).length = 33) := outC_len hook
          have HLO : Hid (((outC o).drop 1).take 32 = o.lock.map B8) := out_lock hook
          have HLL := hide hook.2
          have HLM : Hid ((o.lock.map B8).length = 32) := by unfold Hid; rw [List.length_map, hook.2]
          have HATO : Hid (∃ h : k < prev.length, prev[k] = o) := ⟨hkP, ho⟩
          obtain ⟨v, hv⟩ : ∃ v, o.value = v := ⟨_, rfl⟩
          have HV := hide hv
          have hov := hook.1
          rw [hv] at hov
          clear hom ho hv hook
          have HTK : Hid ((uRow ((prev.map POut.value).take k)).length = k) := by
            unfold Hid
            rw [uRow_len, List.length_take, List.length_map]
            omega
          have HUN := hide (uRow_next HATO.out HV.out)
          go_wp2_with (first
            | (show wpList _ _ _ (⟨_, .indexAddr 24 _ _, _, _, _, _⟩ :: _) _ _; refine wpList_val rfl (op_indexAddr slOuts rfl (v := pv) (xs := prev.map outC) rfl (k := k) rfl (by exact hS.rd HRP.out) hkp) ?_; go_frame)
            | (show wpList _ _ _ (⟨_, .load 60 _, _, _, _, _⟩ :: _) _ _; refine wpList_val rfl (op_loadE aggOut rfl (v := pv) (xs := prev.map outC) (k := k) rfl (by exact hS.rd HRP.out) hkp) ?_; rw [HX.out]; go_frame)
            | (show wpList _ _ _ (⟨_, .alloc 60, _, _, _, _⟩ :: _) _ _; refine wpS_alloc hS rfl rfl zeroOut (zs := zOut) rfl ?_; clear hS; intro nx w hS; go_frame)
            | (show wpList _ _ _ (⟨_, .store 60 _ _, _, _, _, _⟩ :: _) _ _; (refine wpS_storeAll (b := nx) aggOut (hS.bring (by repeat (first | exact t0 | apply tS))) rfl rfl rfl (vs := outC o) rfl HXL.out (outC_one o) rfl ?_); clear hS; intro w hS; go_frame)
            | (show wpList _ _ _ (⟨_, .load 29 _, _, _, _, _⟩ :: _) _ _; refine wpList_val rfl (op_load1S (b := nx) (T := 60) oneU ((hS.bring (by repeat (first | exact t0 | apply tS)))) rfl rfl rfl) ?_; rw [HV.out]; go_frame)
            | (show wpList _ _ _ (⟨some 57, .buildSlice _ _ _, _, _, _, _⟩ :: _) _ _; refine wpS_build11 slTyU hS rfl rfl (u := U v) rfl rfl ?_; clear hS; intro vn w hS; go_frame)
            | (show wpList _ _ _ (⟨some 58, .call _, _, _, _, _⟩ :: _) _ _; replace hS := hS.sel (M := .own 29 1 u9 (uRow ((prev.map POut.value).take k)) :: .own 29 1 vn [[U v]] :: .blk n1 26 [N32 m.ver, m.iv, m.ov] :: F) (by repeat (first | exact Sel.refl | refine Sel.take (by repeat (first | exact t0 | apply tS)) ?_ | apply Sel.drop)); refine wpS_append slTyU hS rfl rfl rfl rfl (by exact hS.tail.getOwn.rd) (by exact uRow_flat [v]) (by rw [HTK.out]; simp only [List.length_cons, List.length_nil]; omega) (by rw [HTK.out]; simp only [maxLen, List.length_cons, List.length_nil]; omega) ?_; clear hS; intro va w hS; rw [HUN.out] at hS; go_frame)
            )
          go_roundw
          case rel => exact ⟨k + 1, by go_num, hlt2, hS.sel (by repeat (first | exact Sel.refl | refine Sel.take (by repeat (first | exact t0 | apply tS)) ?_ | apply Sel.drop))⟩
          case measure => simp [intOf]; omega
        · have hall : uRow ((prev.map POut.value).take k) = uRow (prev.map POut.value) := by rw [List.take_of_length_le (by rw [List.length_map]; omega)]
          rw [hall] at hS
          clear hall
          obtain ⟨va, hva⟩ : ∃ va, va = u9 := ⟨_, rfl⟩
          rw [← hva] at hS
          go_wp2_with (first
            | (show wpList _ _ _ (⟨_, .load 23 _, _, _, _, _⟩ :: _) _ _; refine wpList_val rfl (op_load1S (b := n1) (T := 26) oneIns ((hS.bring (by repeat (first | exact t0 | apply tS)))) rfl rfl rfl) ?_; go_frame)
            | (show wpList _ _ _ (⟨_, .load 24 _, _, _, _, _⟩ :: _) _ _; refine wpList_val rfl (op_load1S (b := n1) (T := 26) oneOuts ((hS.bring (by repeat (first | exact t0 | apply tS)))) rfl rfl rfl) ?_; go_frame)
            | (show wpList _ _ _ (⟨some 62, .call _, _, _, _, _⟩ :: _) _ _; refine wpList_val rfl (op_len slOuts rfl rfl (v := m.ov) (xs := m.outs.map outC) rfl (by exact hS.rd HRO.out)) ?_; rw [HNO.out]; go_frame)
            )
          have hS1 := hS.nilOwn 29 1
          rw [← H00.out] at hS1
          go_loopw [63, 10] (fun kv bv wr => ∃ k : Nat, kv = .int .i64 k ∧ k ≤ q ∧ SepL R base wr (.own 29 1 bv (uRow ((m.outs.map POut.value).take k)) :: .own 29 1 va (uRow (prev.map POut.value)) :: .blk n1 26 [N32 m.ver, m.iv, m.ov] :: F)) (fun kv _ _ => q - (intOf kv).toNat)
          case atStart => exact ⟨0, rfl, Nat.zero_le _, hS1⟩
          case round =>
            clear hS hS1
            obtain ⟨k, rfl, hk, hS⟩ := hrel
            by_cases hlt3 : k < q
            ·
              have hkL : k < m.outs.length := by omega
              have hkr : k < (m.outs.map outC).length := by rw [List.length_map]; exact hkL
              obtain ⟨o, ho⟩ : ∃ o, m.outs[k] = o := ⟨_, rfl⟩
              have hom : o ∈ m.outs := ho ▸ List.getElem_mem hkL
              have HX : Hid ((m.outs.map outC)[k] = outC o) := by unfold Hid; rw [List.getElem_map, ho]
              have HXL : Hid ((outC o).length = 33) := outC_len (HOOK.out o hom)
              have hov := (HOOK.out o hom).1
              have HAT : Hid (∃ h : k < m.outs.length, m.outs[k] = o) := ⟨hkL, ho⟩
              obtain ⟨v, hv⟩ : ∃ v, o.value = v := ⟨_, rfl⟩
              have HV := hide hv
              rw [hv] at hov
              clear hom ho hv
              have HTK : Hid ((uRow ((m.outs.map POut.value).take k)).length = k) := by
                unfold Hid
                rw [uRow_len, List.length_take, List.length_map]
                omega
              have HUN := hide (uRow_next HAT.out HV.out)
              go_wp2_with (first
                | (show wpList _ _ _ (⟨_, .indexAddr 24 _ _, _, _, _, _⟩ :: _) _ _; refine wpList_val rfl (op_indexAddr slOuts rfl (v := m.ov) (xs := m.outs.map outC) rfl (k := k) rfl (by exact hS.rd HRO.out) hkr) ?_; go_frame)
                | (show wpList _ _ _ (⟨_, .load 60 _, _, _, _, _⟩ :: _) _ _; refine wpList_val rfl (op_loadE aggOut rfl (v := m.ov) (xs := m.outs.map outC) (k := k) rfl (by exact hS.rd HRO.out) hkr) ?_; rw [HX.out]; go_frame)
                | (show wpList _ _ _ (⟨_, .alloc 60, _, _, _, _⟩ :: _) _ _; refine wpS_alloc hS rfl rfl zeroOut (zs := zOut) rfl ?_; clear hS; intro nx w hS; go_frame)
                | (show wpList _ _ _ (⟨_, .store 60 _ _, _, _, _, _⟩ :: _) _ _; (refine wpS_storeAll (b := nx) aggOut (hS.bring (by repeat (first | exact t0 | apply tS))) rfl rfl rfl (vs := outC o) rfl HXL.out (outC_one o) rfl ?_); clear hS; intro w hS; go_frame)
                | (show wpList _ _ _ (⟨_, .load 29 _, _, _, _, _⟩ :: _) _ _; refine wpList_val rfl (op_load1S (b := nx) (T := 60) oneU ((hS.bring (by repeat (first | exact t0 | apply tS)))) rfl rfl rfl) ?_; rw [HV.out]; go_frame)
                | (show wpList _ _ _ (⟨some 70, .buildSlice _ _ _, _, _, _, _⟩ :: _) _ _; refine wpS_build11 slTyU hS rfl rfl (u := U v) rfl rfl ?_; clear hS; intro vn w hS; go_frame)
                | (show wpList _ _ _ (⟨some 71, .call _, _, _, _, _⟩ :: _) _ _; replace hS := hS.sel (M := .own 29 1 u10 (uRow ((m.outs.map POut.value).take k)) :: .own 29 1 vn [[U v]] :: .own 29 1 va (uRow (prev.map POut.value)) :: .blk n1 26 [N32 m.ver, m.iv, m.ov] :: F) (by repeat (first | exact Sel.refl | refine Sel.take (by repeat (first | exact t0 | apply tS)) ?_ | apply Sel.drop)); refine wpS_append slTyU hS rfl rfl rfl rfl (by exact hS.tail.getOwn.rd) (by exact uRow_flat [v]) (by rw [HTK.out]; simp only [List.length_cons, List.length_nil]; omega) (by rw [HTK.out]; simp only [maxLen, List.length_cons, List.length_nil]; omega) ?_; clear hS; intro va w hS; rw [HUN.out] at hS; go_frame)
                )
              go_roundw
              case rel => exact ⟨k + 1, by go_num, hlt3, hS.sel (by repeat (first | exact Sel.refl | refine Sel.take (by repeat (first | exact t0 | apply tS)) ?_ | apply Sel.drop))⟩
              case measure => simp [intOf]; omega
            · have hall : uRow ((m.outs.map POut.value).take k) = uRow (m.outs.map POut.value) := by rw [List.take_of_length_le (by rw [List.length_map]; omega)]
              rw [hall] at hS
              clear hall
              rcases sumE_cases (prev.map POut.value) with ⟨g1, g2, g3⟩ | ⟨g1, g2, g3⟩
              · have hSS : S = sumO prev := by rw [← hS0, g2]; rfl
                have hE : E = 0 := by rw [← hE0, g3]
                have hS64 : S < 18446744073709551616 := by rw [hSS]; exact g1
                have HE1 : Hid (((E : Int) != 0) = false) := neF (by omega)
                clear g2 g3 hS0 hE0 hE
                by_cases hSO : S < O
                · have HG : Hid (decide (S < O) = true) := decide_eq_true hSO
                  obtain ⟨e1, e2⟩ := HLESS.out HLB.out (fun h => by have := h.2; omega)
                  subst e1
                  subst e2
                  clear g1 hSS hSO HLESS HYES
                  subst hva
                  go_wp2_with (first
                    | go_big_skip
                    | (go_at_call 31; with_reducible refine Ret.calls (HTUP.out hS.tail.getOwn.rd) ?_; rintro r1 w1 ⟨rfl, rfl⟩)
                    | (go_at_call 31; with_reducible refine Ret.calls (HTUP2.out hS.getOwn.rd) ?_; rintro r1 w1 ⟨rfl, rfl⟩)
                    | (show wpList _ _ _ (⟨some 84, .binOp _ _ _ _ _, _, _, _, _⟩ :: _) _ _; refine wpList_val rfl (op_ineI rfl rfl rfl HE1.out) ?_; go_frame)
                    | (show wpList _ _ _ (⟨some 88, .binOp _ _ _ _ _, _, _, _, _⟩ :: _) _ _; refine wpList_val rfl (opU_lss (a := S) (b := O) rfl rfl rfl HG.out) ?_; go_frame)
                    )
                  go_ret2
                  exact ⟨rfl, hS.sel (by repeat (first | exact Sel.refl | refine Sel.take (by repeat (first | exact t0 | apply tS)) ?_ | apply Sel.drop))⟩
                · have HG : Hid (decide (S < O) = false) := decide_eq_false hSO
                  have hOS : O ≤ S := by omega
                  obtain ⟨e1, e2⟩ := HYES.out HLB.out g1 (by omega)
                  have e3 : S - O = p1 := by omega
                  subst e3
                  subst e2
                  clear g1 hSS hSO e1 HLESS HYES
                  subst hva
                  go_wp2_with (first
                    | go_big_skip
                    | (go_at_call 31; with_reducible refine Ret.calls (HTUP.out hS.tail.getOwn.rd) ?_; rintro r1 w1 ⟨rfl, rfl⟩)
                    | (go_at_call 31; with_reducible refine Ret.calls (HTUP2.out hS.getOwn.rd) ?_; rintro r1 w1 ⟨rfl, rfl⟩)
                    | (show wpList _ _ _ (⟨some 84, .binOp _ _ _ _ _, _, _, _, _⟩ :: _) _ _; refine wpList_val rfl (op_ineI rfl rfl rfl HE1.out) ?_; go_frame)
                    | (show wpList _ _ _ (⟨some 88, .binOp _ _ _ _ _, _, _, _, _⟩ :: _) _ _; refine wpList_val rfl (opU_lss (a := S) (b := O) rfl rfl rfl HG.out) ?_; go_frame)
                    | (show wpList _ _ _ (⟨some 92, .binOp _ _ _ _ _, _, _, _, _⟩ :: _) _ _; refine wpList_val rfl (opU_sub (a := S) (b := O) rfl rfl rfl hOS hS64) ?_; go_frame)
                    )
                  go_ret2
                  exact ⟨rfl, hS.sel (by repeat (first | exact Sel.refl | refine Sel.take (by repeat (first | exact t0 | apply tS)) ?_ | apply Sel.drop))⟩
              · have hE : E = 3 := by rw [← hE0, g3]
                have HE1 : Hid (((E : Int) != 0) = true) := neT (by omega)
                obtain ⟨e1, e2⟩ := HLESS.out HLB.out (fun h => g1 h.1)
                subst e1
                subst e2
                clear g1 g2 g3 hS0 hE0 hE HLESS HYES
                subst hva
                go_wp2_with (first
                  | go_big_skip
                  | (go_at_call 31; with_reducible refine Ret.calls (HTUP.out hS.tail.getOwn.rd) ?_; rintro r1 w1 ⟨rfl, rfl⟩)
                  | (go_at_call 31; with_reducible refine Ret.calls (HTUP2.out hS.getOwn.rd) ?_; rintro r1 w1 ⟨rfl, rfl⟩)
                  | (show wpList _ _ _ (⟨some 84, .binOp _ _ _ _ _, _, _, _, _⟩ :: _) _ _; refine wpList_val rfl (op_ineI rfl rfl rfl HE1.out) ?_; go_frame)
                  )
                go_ret2
                exact ⟨rfl, hS.sel (by repeat (first | exact Sel.refl | refine Sel.take (by repeat (first | exact t0 | apply tS)) ?_ | apply Sel.drop))⟩
end
end Go.Proofs.YtieobcaegegboaaDoor
