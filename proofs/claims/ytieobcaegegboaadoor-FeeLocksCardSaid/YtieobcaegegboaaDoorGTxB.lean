/- What may not be of a transaction. Conditions: those that stand ahead of each theorem. -/
import Derived.Test.YtieobcaegegboaaDoorGTxA
namespace Go.Proofs.YtieobcaegegboaaDoor
open Go Go.RowKit Go.Px Go.Sha Go.Calc
theorem blk_take {w : World} {b T n : Nat} {cs ds : List Value} (h : Blk w b T cs) (hd : cs.take n = ds) : Cells w b 0 ds := by
  have := h.cells.subN (ds := ds) 0 n (by rw [List.drop_zero]; exact hd)
  simpa using this
theorem chk_form {t : PTx} (h : formB t = false) : checkN t = 5 := by
  unfold checkN
  rw [h]
  rfl
theorem chk_none {t : PTx} (h : formB t = true) (h2 : t.ins = [] ∨ t.outs = []) : checkN t = 9 := by
  unfold checkN
  rw [if_pos h, if_pos h2]
theorem chk_money {t : PTx} (h : formB t = true) (h2 : ¬ (t.ins = [] ∨ t.outs = [])) (h3 : moneyB t.outs = false) : checkN t = 11 := by
  unfold checkN
  rw [if_pos h, if_neg h2, h3]
  rfl
theorem chk_twice {t : PTx} (h : formB t = true) (h2 : ¬ (t.ins = [] ∨ t.outs = [])) (h3 : moneyB t.outs = true) : checkN t = if twiceB t then 12 else 0 := by
  unfold checkN
  rw [if_pos h, if_neg h2, if_pos h3]
theorem form_small {m : MT} (h : formB m.pt = true) : m.L.length ≤ 8 ∧ m.outs.length ≤ 8 := by
  unfold formB MT.pt at h
  simp only [Bool.and_eq_true, decide_eq_true_eq, List.length_map] at h
  exact h.2
theorem money_bad {o : List POut} {k : Nat} {x : POut} (h : ∃ hk : k < o.length, o[k] = x) (hx : x.value = 0 ∨ 1125899906842624 < x.value) : moneyB o = false := by
  obtain ⟨hk, h⟩ := h
  unfold moneyB
  rw [Bool.and_eq_false_iff]
  left
  rw [List.all_eq_false]
  refine ⟨x, h ▸ List.getElem_mem hk, ?_⟩
  simp only [Bool.and_eq_true, decide_eq_true_eq, not_and]
  omega
theorem money_all {o : List POut} (h : ∀ j (hj : j < o.length), o[j].value ≠ 0 ∧ o[j].value ≤ 1125899906842624) : moneyB o = decide ((o.map POut.value).sum ≤ 1125899906842624) := by
  unfold moneyB
  have e : (o.all fun x => decide (x.value ≠ 0) && decide (x.value ≤ 1125899906842624)) = true := by
    rw [List.all_eq_true]
    intro x hx
    obtain ⟨j, hj, rfl⟩ := List.mem_iff_getElem.1 hx
    rw [decide_eq_true (h j hj).1, decide_eq_true (h j hj).2]
    rfl
  rw [e, Bool.true_and]
theorem money_next {o : List POut} {k s : Nat} {x : POut} (h : ∃ hk : k < o.length, o[k] = x) (hs : s = ((o.map POut.value).take k).sum) : s + x.value = ((o.map POut.value).take (k + 1)).sum := by
  obtain ⟨hk, h⟩ := h
  rw [sum_next _ _ (by rw [List.length_map]; exact hk), List.getElem_map, h, hs]
/-- a point as a value -/
def ptV (q : List Byte × Nat) : Value := .agg (q.1.map B8 ++ [N32 q.2]).toArray
theorem ptV_of (x : PIn) : Value.agg (ptC x).toArray = ptV (ptOf x) := rfl
theorem ptV_inj {x y : List Byte × Nat} (hx : x.1.length = 32) (hy : y.1.length = 32) (h : ptV x = ptV y) : x = y := by
  have h2 : ptC ⟨x.1, x.2, []⟩ = ptC ⟨y.1, y.2, []⟩ := by
    unfold ptV at h
    injection h with h
    simpa [ptC] using h
  exact ptC_inj (x := ⟨x.1, x.2, []⟩) (y := ⟨y.1, y.2, []⟩) hx hy h2
theorem seen_next {l : List (List Byte × Nat)} {k : Nat} {q : List Byte × Nat} (hl : ∀ x ∈ l, x.1.length = 32) (hk : ∃ h : k < l.length, l[k] = q) : withK ((once [] (l.take k)).map ptV) (ptV q) = (once [] (l.take (k + 1))).map ptV := by
  obtain ⟨hk, h⟩ := hk
  rw [List.take_add_one, List.getElem?_eq_getElem hk, h]
  show _ = (once [] (l.take k ++ [q])).map ptV
  rw [once_snoc]
  have hq : q.1.length = 32 := hl q (h ▸ List.getElem_mem hk)
  have hm : ptV q ∈ (once [] (l.take k)).map ptV ↔ q ∈ once [] (l.take k) := by
    constructor
    · intro hh
      obtain ⟨x, hx, he⟩ := List.mem_map.1 hh
      have hx2 : x ∈ l := by
        rcases once_mem.1 hx with h1 | h1
        · cases h1
        · exact List.mem_of_mem_take h1
      rw [← ptV_inj (hl x hx2) hq he]
      exact hx
    · exact fun hh => List.mem_map.2 ⟨q, hh, rfl⟩
  unfold withK
  by_cases hc : q ∈ once [] (l.take k)
  · rw [if_pos hc, if_pos (hm.2 hc)]
  · rw [if_neg hc, if_neg (fun h => hc (hm.1 h)), List.map_append]
    rfl
theorem pts_at {m : MT} {k : Nat} {p : PIn × Value} (h : ∃ h : k < m.L.length, m.L[k] = p) : ∃ h : k < (m.pt.ins.map ptOf).length, (m.pt.ins.map ptOf)[k] = ptOf p.1 := by
  obtain ⟨hk, h⟩ := h
  refine ⟨by simpa [MT.pt] using hk, ?_⟩
  simp [MT.pt, h]
theorem pts_len {m : MT} (h : ∀ p ∈ m.L, IOk p) : ∀ x ∈ m.pt.ins.map ptOf, x.1.length = 32 := by
  intro x hx
  simp only [MT.pt, List.map_map, List.mem_map, Function.comp] at hx
  obtain ⟨p, hp, rfl⟩ := hx
  exact (h p hp).1
theorem twice_at {m : MT} {n d : Nat} (hn : m.L.length = n) (hd : (once [] ((m.pt.ins.map ptOf).take n)).length = d) : twiceB m.pt = decide (d < n) := by
  unfold twiceB
  have e1 : (m.pt.ins.map ptOf).take n = m.pt.ins.map ptOf := List.take_of_length_le (by simp [MT.pt, hn])
  have e2 : m.pt.ins.length = n := by simp [MT.pt, hn]
  rw [e1] at hd
  rw [hd, e2]
section
variable {P : Program} {t k e : TypeId} {R : Nat → Prop} {base w : World} {L : List Hp}
theorem wpS_lookupK (T : MapTy P t k e (I64 0)) {ops : Array Oper} {rest : List Oper} {o : Oper} {a : Act} {Q : Exit → Act → World → Prop} {b : Nat} {ks : List Value} {st : Option Nat} (hS : SepL R base w (Hp.keysAt P k b ks st :: L)) (hgd : Region.wanted o (yielded ops a.tmps) = true)
    {m i : Operand} (ho : o.op = .lookup t m i false) (hm : a.eval m = .map (some b)) {x : Value} (hi : a.eval i = x) (hx : IsKey P k x) (hk : ∀ z, wpList P ops Q rest (a.put o.dst (I64 z)) w) : wpList P ops Q (o :: rest) a w := by
  obtain ⟨z, hz⟩ := op_lookupK T (keys_get hS) ho hm hi hx
  exact wpList_val hgd hz (hk z)
end
section
variable {R : Nat → Prop} {base w : World} {F : List Hp}
set_option maxRecDepth 100000 in
set_option maxHeartbeats 8000000 in
theorem check_s {m : MT} (hS : SepL R base w F) (ht : TxIn R base m) :
    Calls Tryd.prog 26 #[txV m] w (Ret fun r w' => r = .int .i64 ((checkN m.pt : Nat) : Int) ∧ SepL R base w' F) := by
  obtain ⟨n, hn⟩ : ∃ n, m.L.length = n := ⟨_, rfl⟩
  obtain ⟨q, hq⟩ : ∃ q, m.outs.length = q := ⟨_, rfl⟩
  have HNL : Hid ((m.L.map inC).length = n) := by unfold Hid; rw [List.length_map, hn]
  have HNO : Hid ((m.outs.map outC).length = q) := by unfold Hid; rw [List.length_map, hq]
  have HRI := hide ht.ins
  have HRO := hide ht.outs.rd
  have HKEY := hide ht.key
  have HIOK := hide ht.iok
  have HOOK := hide ht.outs.ok
  obtain ⟨c, hc⟩ : ∃ c, checkN m.pt = c := ⟨_, rfl⟩
  have HC := hide hc
  rw [hc]
  obtain ⟨b, hb⟩ : ∃ b, formB m.pt = b := ⟨_, rfl⟩
  have HFB := hide hb
  clear hb hc

  cases b with
  | false =>
    have e : c = 5 := HC.out.symm.trans (chk_form HFB.out)
    subst e
    go_enter Tryd.func26, Tryd.ntmps26
    go_wp2_with (first
      | (show wpList _ _ _ (⟨some 1, .box _ _, _, _, _, _⟩ :: _) _ _; refine wpS_boxA (cs := [N32 m.ver, m.iv, m.ov]) hS rfl rfl rfl ?_; clear hS; intro n1 w hS; go_frame)
      | (show wpList _ _ _ (⟨_, .load 26 _, _, _, _, _⟩ :: _) _ _; refine wpList_val rfl (op_load aggTx rfl rfl (SepL.getBlk (b := n1) (T := 26) ((hS.bring (by repeat (first | exact t0 | apply tS))))).cells rfl) ?_; go_frame)
      | (go_at_call 41; refine Ret.calls (form_s hS ht HFB) ?_; clear hS; rintro r1 w ⟨rfl, hS⟩)
      )
    go_ret
    exact ⟨rfl, hS.sel (by repeat (first | exact Sel.refl | refine Sel.take (by repeat (first | exact t0 | apply tS)) ?_ | apply Sel.drop))⟩
  | true =>
    by_cases hn0 : n = 0
    · have e : c = 9 := HC.out.symm.trans (chk_none HFB.out (.inl (by unfold MT.pt; exact List.map_eq_nil_iff.2 (List.length_eq_zero_iff.1 (by omega)))))
      subst e
      have H1 : Hid (((n : Int) == 0) = true) := eqT (by omega)
      clear hn0 hn hq
      go_enter Tryd.func26, Tryd.ntmps26
      go_wp2_with (first
        | go_big_skip
        | (show wpList _ _ _ (⟨some 1, .box _ _, _, _, _, _⟩ :: _) _ _; refine wpS_boxA (cs := [N32 m.ver, m.iv, m.ov]) hS rfl rfl rfl ?_; clear hS; intro n1 w hS; go_frame)
        | (show wpList _ _ _ (⟨_, .load 26 _, _, _, _, _⟩ :: _) _ _; refine wpList_val rfl (op_load aggTx rfl rfl (SepL.getBlk (b := n1) (T := 26) ((hS.bring (by repeat (first | exact t0 | apply tS))))).cells rfl) ?_; go_frame)
        | (go_at_call 41; refine Ret.calls (form_s hS ht HFB) ?_; clear hS; rintro r1 w ⟨rfl, hS⟩)
        | (show wpList _ _ _ (⟨_, .load 23 _, _, _, _, _⟩ :: _) _ _; refine wpList_val rfl (op_load1S (b := n1) (T := 26) oneIns ((hS.bring (by repeat (first | exact t0 | apply tS)))) rfl rfl rfl) ?_; go_frame)
        | (show wpList _ _ _ (⟨_, .load 24 _, _, _, _, _⟩ :: _) _ _; refine wpList_val rfl (op_load1S (b := n1) (T := 26) oneOuts ((hS.bring (by repeat (first | exact t0 | apply tS)))) rfl rfl rfl) ?_; go_frame)
        | (show wpList _ _ _ (⟨some 14, .call _, _, _, _, _⟩ :: _) _ _; refine wpList_val rfl (op_len slIns rfl rfl (v := m.iv) (xs := m.L.map inC) rfl (by exact hS.rd HRI.out)) ?_; rw [HNL.out]; go_frame)
        | (show wpList _ _ _ (⟨some 15, .binOp _ _ _ _ _, _, _, _, _⟩ :: _) _ _; refine wpList_val rfl (op_eqI' rfl rfl rfl H1.out) ?_; go_frame)
        )
      go_ret
      exact ⟨rfl, hS.sel (by repeat (first | exact Sel.refl | refine Sel.take (by repeat (first | exact t0 | apply tS)) ?_ | apply Sel.drop))⟩
    have H1 : Hid (((n : Int) == 0) = false) := eqF (by omega)
    by_cases hq0 : q = 0
    · have e : c = 9 := HC.out.symm.trans (chk_none HFB.out (.inr (List.length_eq_zero_iff.1 (show m.outs.length = 0 by omega))))
      subst e
      have H2 : Hid (((q : Int) == 0) = true) := eqT (by omega)
      clear hq0 hn0 hn hq
      go_enter Tryd.func26, Tryd.ntmps26
      go_wp2_with (first
        | go_big_skip
        | (show wpList _ _ _ (⟨some 1, .box _ _, _, _, _, _⟩ :: _) _ _; refine wpS_boxA (cs := [N32 m.ver, m.iv, m.ov]) hS rfl rfl rfl ?_; clear hS; intro n1 w hS; go_frame)
        | (show wpList _ _ _ (⟨_, .load 26 _, _, _, _, _⟩ :: _) _ _; refine wpList_val rfl (op_load aggTx rfl rfl (SepL.getBlk (b := n1) (T := 26) ((hS.bring (by repeat (first | exact t0 | apply tS))))).cells rfl) ?_; go_frame)
        | (go_at_call 41; refine Ret.calls (form_s hS ht HFB) ?_; clear hS; rintro r1 w ⟨rfl, hS⟩)
        | (show wpList _ _ _ (⟨_, .load 23 _, _, _, _, _⟩ :: _) _ _; refine wpList_val rfl (op_load1S (b := n1) (T := 26) oneIns ((hS.bring (by repeat (first | exact t0 | apply tS)))) rfl rfl rfl) ?_; go_frame)
        | (show wpList _ _ _ (⟨_, .load 24 _, _, _, _, _⟩ :: _) _ _; refine wpList_val rfl (op_load1S (b := n1) (T := 26) oneOuts ((hS.bring (by repeat (first | exact t0 | apply tS)))) rfl rfl rfl) ?_; go_frame)
        | (show wpList _ _ _ (⟨some 14, .call _, _, _, _, _⟩ :: _) _ _; refine wpList_val rfl (op_len slIns rfl rfl (v := m.iv) (xs := m.L.map inC) rfl (by exact hS.rd HRI.out)) ?_; rw [HNL.out]; go_frame)
        | (show wpList _ _ _ (⟨some 15, .binOp _ _ _ _ _, _, _, _, _⟩ :: _) _ _; refine wpList_val rfl (op_eqI' rfl rfl rfl H1.out) ?_; go_frame)
        | (show wpList _ _ _ (⟨some 19, .call _, _, _, _, _⟩ :: _) _ _; refine wpList_val rfl (op_len slOuts rfl rfl (v := m.ov) (xs := m.outs.map outC) rfl (by exact hS.rd HRO.out)) ?_; rw [HNO.out]; go_frame)
        | (show wpList _ _ _ (⟨some 20, .binOp _ _ _ _ _, _, _, _, _⟩ :: _) _ _; refine wpList_val rfl (op_eqI' rfl rfl rfl H2.out) ?_; go_frame)
        )
      go_ret
      exact ⟨rfl, hS.sel (by repeat (first | exact Sel.refl | refine Sel.take (by repeat (first | exact t0 | apply tS)) ?_ | apply Sel.drop))⟩
    have H2 : Hid (((q : Int) == 0) = false) := eqF (by omega)
    have HNE : Hid (¬ (m.pt.ins = [] ∨ m.pt.outs = [])) := by
      rintro (h | h)
      · exact hn0 (by rw [← hn]; exact List.length_eq_zero_iff.2 (List.map_eq_nil_iff.1 h))
      · exact hq0 (by rw [← hq]; exact List.length_eq_zero_iff.2 h)
    have hsm := form_small HFB.out
    rw [hn, hq] at hsm
    have hn8 := hsm.1
    have hq8 := hsm.2
    clear hsm
    have HM11 : Hid (moneyB m.outs = false → c = 11) := fun h => HC.out.symm.trans (chk_money HFB.out HNE.out h)
    have HMOK : Hid (moneyB m.outs = true → c = if twiceB m.pt then 12 else 0) := fun h => HC.out.symm.trans (chk_twice HFB.out HNE.out h)
    clear hn0 hq0
    go_enter Tryd.func26, Tryd.ntmps26
    go_wp2_with (first
      | go_big_skip
      | (show wpList _ _ _ (⟨some 1, .box _ _, _, _, _, _⟩ :: _) _ _; refine wpS_boxA (cs := [N32 m.ver, m.iv, m.ov]) hS rfl rfl rfl ?_; clear hS; intro n1 w hS; go_frame)
      | (show wpList _ _ _ (⟨_, .load 26 _, _, _, _, _⟩ :: _) _ _; refine wpList_val rfl (op_load aggTx rfl rfl (SepL.getBlk (b := n1) (T := 26) ((hS.bring (by repeat (first | exact t0 | apply tS))))).cells rfl) ?_; go_frame)
      | (go_at_call 41; refine Ret.calls (form_s hS ht HFB) ?_; clear hS; rintro r1 w ⟨rfl, hS⟩)
      | (show wpList _ _ _ (⟨_, .load 23 _, _, _, _, _⟩ :: _) _ _; refine wpList_val rfl (op_load1S (b := n1) (T := 26) oneIns ((hS.bring (by repeat (first | exact t0 | apply tS)))) rfl rfl rfl) ?_; go_frame)
      | (show wpList _ _ _ (⟨_, .load 24 _, _, _, _, _⟩ :: _) _ _; refine wpList_val rfl (op_load1S (b := n1) (T := 26) oneOuts ((hS.bring (by repeat (first | exact t0 | apply tS)))) rfl rfl rfl) ?_; go_frame)
      | (show wpList _ _ _ (⟨some 14, .call _, _, _, _, _⟩ :: _) _ _; refine wpList_val rfl (op_len slIns rfl rfl (v := m.iv) (xs := m.L.map inC) rfl (by exact hS.rd HRI.out)) ?_; rw [HNL.out]; go_frame)
      | (show wpList _ _ _ (⟨some 15, .binOp _ _ _ _ _, _, _, _, _⟩ :: _) _ _; refine wpList_val rfl (op_eqI' rfl rfl rfl H1.out) ?_; go_frame)
      | (show wpList _ _ _ (⟨some 19, .call _, _, _, _, _⟩ :: _) _ _; refine wpList_val rfl (op_len slOuts rfl rfl (v := m.ov) (xs := m.outs.map outC) rfl (by exact hS.rd HRO.out)) ?_; rw [HNO.out]; go_frame)
      | (show wpList _ _ _ (⟨some 24, .call _, _, _, _, _⟩ :: _) _ _; refine wpList_val rfl (op_len slOuts rfl rfl (v := m.ov) (xs := m.outs.map outC) rfl (by exact hS.rd HRO.out)) ?_; rw [HNO.out]; go_frame)
      | (show wpList _ _ _ (⟨some 20, .binOp _ _ _ _ _, _, _, _, _⟩ :: _) _ _; refine wpList_val rfl (op_eqI' rfl rfl rfl H2.out) ?_; go_frame)
      )
    go_loopw [25, 3] (fun kv sv wr => ∃ k s : Nat, kv = .int .i64 k ∧ sv = U s ∧ k ≤ q ∧ s ≤ k * 1125899906842624 ∧ Hid (s = ((m.outs.map POut.value).take k).sum) ∧ Hid (∀ j (hj : j < m.outs.length), j < k → m.outs[j].value ≠ 0 ∧ m.outs[j].value ≤ 1125899906842624) ∧ SepL R base wr (.blk n1 26 [N32 m.ver, m.iv, m.ov] :: F)) (fun kv _ _ => q - (intOf kv).toNat)
    case atStart => exact ⟨0, 0, rfl, rfl, Nat.zero_le _, Nat.zero_le _, rfl, fun j _ h => absurd h (Nat.not_lt_zero _), hS⟩
    case round =>
      clear hS
      obtain ⟨k, s, rfl, rfl, hk, hs, HS, HA, hS⟩ := hrel
      by_cases hlt : k < q
      ·
        have hkL : k < m.outs.length := by omega
        have hkr : k < (m.outs.map outC).length := by rw [List.length_map]; exact hkL
        obtain ⟨o, ho⟩ : ∃ o, m.outs[k] = o := ⟨_, rfl⟩
        have hom : o ∈ m.outs := ho ▸ List.getElem_mem hkL
        have HX : Hid ((m.outs.map outC)[k] = outC o) := by unfold Hid; rw [List.getElem_map, ho]
        have HXL : Hid ((outC o).length = 33) := outC_len (HOOK.out o hom)
        have hov := (HOOK.out o hom).1
        have HAT : Hid (∃ h : k < m.outs.length, m.outs[k] = o) := ⟨hkL, ho⟩
        obtain ⟨v, hv⟩ : ∃ v, o.value = v := ⟨_, rfl⟩
        have HV := hide hv
        rw [hv] at hov
        clear hom ho hv
        by_cases hv0 : v = 0
        · have HE : Hid ((v == 0) = true) := by unfold Hid; rw [hv0]; rfl
          have e : c = 11 := HM11.out (money_bad HAT.out (.inl (by rw [HV.out, hv0])))
          subst e
          clear hv0 HC HM11 HMOK
          go_wp2_with (first
            | go_big_skip
            | (show wpList _ _ _ (⟨_, .indexAddr 24 _ _, _, _, _, _⟩ :: _) _ _; refine wpList_val rfl (op_indexAddr slOuts rfl (v := m.ov) (xs := m.outs.map outC) rfl (k := k) rfl (by exact hS.rd HRO.out) hkr) ?_; go_frame)
            | (show wpList _ _ _ (⟨_, .load 60 _, _, _, _, _⟩ :: _) _ _; refine wpList_val rfl (op_loadE aggOut rfl (v := m.ov) (xs := m.outs.map outC) (k := k) rfl (by exact hS.rd HRO.out) hkr) ?_; rw [HX.out]; go_frame)
            | (show wpList _ _ _ (⟨_, .alloc 60, _, _, _, _⟩ :: _) _ _; refine wpS_alloc hS rfl rfl zeroOut (zs := zOut) rfl ?_; clear hS; intro nx w hS; go_frame)
            | (show wpList _ _ _ (⟨_, .store 60 _ _, _, _, _, _⟩ :: _) _ _; (refine wpS_storeAll (b := nx) aggOut (hS.bring (by repeat (first | exact t0 | apply tS))) rfl rfl rfl (vs := outC o) rfl HXL.out (outC_one o) rfl ?_); clear hS; intro w hS; go_frame)
            | (show wpList _ _ _ (⟨_, .load 29 _, _, _, _, _⟩ :: _) _ _; refine wpList_val rfl (op_load1S (b := nx) (T := 60) oneU ((hS.bring (by repeat (first | exact t0 | apply tS)))) rfl rfl rfl) ?_; rw [HV.out]; go_frame)
            | (show wpList _ _ _ (⟨some 31, .binOp _ _ _ _ _, _, _, _, _⟩ :: _) _ _; refine wpList_val rfl (opU_eql (b := 0) rfl rfl rfl HE.out) ?_; go_frame)
            )
          go_ret
          exact ⟨rfl, hS.sel (by repeat (first | exact Sel.refl | refine Sel.take (by repeat (first | exact t0 | apply tS)) ?_ | apply Sel.drop))⟩
        have HE : Hid ((v == 0) = false) := by unfold Hid; simpa using hv0
        by_cases hvb : 1125899906842624 < v
        · have HG : Hid (decide (1125899906842624 < v) = true) := decide_eq_true hvb
          have e : c = 11 := HM11.out (money_bad HAT.out (.inr (by rw [HV.out]; exact hvb)))
          subst e
          clear hv0 hvb HC HM11 HMOK
          go_wp2_with (first
            | go_big_skip
            | (show wpList _ _ _ (⟨_, .indexAddr 24 _ _, _, _, _, _⟩ :: _) _ _; refine wpList_val rfl (op_indexAddr slOuts rfl (v := m.ov) (xs := m.outs.map outC) rfl (k := k) rfl (by exact hS.rd HRO.out) hkr) ?_; go_frame)
            | (show wpList _ _ _ (⟨_, .load 60 _, _, _, _, _⟩ :: _) _ _; refine wpList_val rfl (op_loadE aggOut rfl (v := m.ov) (xs := m.outs.map outC) (k := k) rfl (by exact hS.rd HRO.out) hkr) ?_; rw [HX.out]; go_frame)
            | (show wpList _ _ _ (⟨_, .alloc 60, _, _, _, _⟩ :: _) _ _; refine wpS_alloc hS rfl rfl zeroOut (zs := zOut) rfl ?_; clear hS; intro nx w hS; go_frame)
            | (show wpList _ _ _ (⟨_, .store 60 _ _, _, _, _, _⟩ :: _) _ _; (refine wpS_storeAll (b := nx) aggOut (hS.bring (by repeat (first | exact t0 | apply tS))) rfl rfl rfl (vs := outC o) rfl HXL.out (outC_one o) rfl ?_); clear hS; intro w hS; go_frame)
            | (show wpList _ _ _ (⟨_, .load 29 _, _, _, _, _⟩ :: _) _ _; refine wpList_val rfl (op_load1S (b := nx) (T := 60) oneU ((hS.bring (by repeat (first | exact t0 | apply tS)))) rfl rfl rfl) ?_; rw [HV.out]; go_frame)
            | (show wpList _ _ _ (⟨some 31, .binOp _ _ _ _ _, _, _, _, _⟩ :: _) _ _; refine wpList_val rfl (opU_eql (b := 0) rfl rfl rfl HE.out) ?_; go_frame)
            | (show wpList _ _ _ (⟨some 35, .binOp _ _ _ _ _, _, _, _, _⟩ :: _) _ _; refine wpList_val rfl (opU_gtr (b := 1125899906842624) rfl rfl rfl HG.out) ?_; go_frame)
            )
          go_ret
          exact ⟨rfl, hS.sel (by repeat (first | exact Sel.refl | refine Sel.take (by repeat (first | exact t0 | apply tS)) ?_ | apply Sel.drop))⟩
        · have HG : Hid (decide (1125899906842624 < v) = false) := decide_eq_false hvb
          have HA2 : Hid (∀ j (hj : j < m.outs.length), j < k + 1 → m.outs[j].value ≠ 0 ∧ m.outs[j].value ≤ 1125899906842624) := fun j hj h => by
            by_cases e : j = k
            · subst e
              rw [HAT.out.2, HV.out]
              omega
            · exact HA.out j hj (by omega)
          have HS2 : Hid (s + v = ((m.outs.map POut.value).take (k + 1)).sum) := by
            have g := money_next HAT.out HS.out
            rw [HV.out] at g
            exact g
          have hsv : s + v < 18446744073709551616 := by omega
          have hs2 : s + v ≤ (k + 1) * 1125899906842624 := by omega
          clear hv0 hvb HA HS
          go_wp2_with (first
            | go_big_skip
            | (show wpList _ _ _ (⟨_, .indexAddr 24 _ _, _, _, _, _⟩ :: _) _ _; refine wpList_val rfl (op_indexAddr slOuts rfl (v := m.ov) (xs := m.outs.map outC) rfl (k := k) rfl (by exact hS.rd HRO.out) hkr) ?_; go_frame)
            | (show wpList _ _ _ (⟨_, .load 60 _, _, _, _, _⟩ :: _) _ _; refine wpList_val rfl (op_loadE aggOut rfl (v := m.ov) (xs := m.outs.map outC) (k := k) rfl (by exact hS.rd HRO.out) hkr) ?_; rw [HX.out]; go_frame)
            | (show wpList _ _ _ (⟨_, .alloc 60, _, _, _, _⟩ :: _) _ _; refine wpS_alloc hS rfl rfl zeroOut (zs := zOut) rfl ?_; clear hS; intro nx w hS; go_frame)
            | (show wpList _ _ _ (⟨_, .store 60 _ _, _, _, _, _⟩ :: _) _ _; (refine wpS_storeAll (b := nx) aggOut (hS.bring (by repeat (first | exact t0 | apply tS))) rfl rfl rfl (vs := outC o) rfl HXL.out (outC_one o) rfl ?_); clear hS; intro w hS; go_frame)
            | (show wpList _ _ _ (⟨_, .load 29 _, _, _, _, _⟩ :: _) _ _; refine wpList_val rfl (op_load1S (b := nx) (T := 60) oneU ((hS.bring (by repeat (first | exact t0 | apply tS)))) rfl rfl rfl) ?_; rw [HV.out]; go_frame)
            | (show wpList _ _ _ (⟨some 31, .binOp _ _ _ _ _, _, _, _, _⟩ :: _) _ _; refine wpList_val rfl (opU_eql (b := 0) rfl rfl rfl HE.out) ?_; go_frame)
            | (show wpList _ _ _ (⟨some 35, .binOp _ _ _ _ _, _, _, _, _⟩ :: _) _ _; refine wpList_val rfl (opU_gtr (b := 1125899906842624) rfl rfl rfl HG.out) ?_; go_frame)
            | (show wpList _ _ _ (⟨some 40, .binOp _ _ _ _ _, _, _, _, _⟩ :: _) _ _; refine wpList_val rfl (opU_add rfl rfl rfl hsv) ?_; go_frame)
            )
          go_roundw
          case rel => exact ⟨k + 1, s + v, by go_num, rfl, hlt, hs2, HS2, HA2, hS.sel (by repeat (first | exact Sel.refl | refine Sel.take (by repeat (first | exact t0 | apply tS)) ?_ | apply Sel.drop))⟩
          case measure => simp [intOf]; omega
      · have hkq : k = q := by omega
        have HSUM : Hid (moneyB m.outs = decide (s ≤ 1125899906842624)) := by
          have g := money_all (o := m.outs) fun j hj => HA.out j hj (by omega)
          have e : (m.outs.map POut.value).take k = m.outs.map POut.value := List.take_of_length_le (by rw [List.length_map]; omega)
          rw [← e, ← HS.out] at g
          exact g
        clear HA HS
        by_cases hbig : 1125899906842624 < s
        · have HG : Hid (decide (1125899906842624 < s) = true) := decide_eq_true hbig
          have e : c = 11 := HM11.out (by rw [HSUM.out]; exact decide_eq_false (by omega))
          subst e
          clear hbig HC HM11 HMOK HSUM
          go_wp2_with (first
            | (show wpList _ _ _ (⟨some 43, .binOp _ _ _ _ _, _, _, _, _⟩ :: _) _ _; refine wpList_val rfl (opU_gtr (b := 1125899906842624) rfl rfl rfl HG.out) ?_; go_frame)
            )
          go_ret
          exact ⟨rfl, hS.sel (by repeat (first | exact Sel.refl | refine Sel.take (by repeat (first | exact t0 | apply tS)) ?_ | apply Sel.drop))⟩
        · have HG : Hid (decide (1125899906842624 < s) = false) := decide_eq_false hbig
          have HCE := hide (HMOK.out (by rw [HSUM.out]; exact decide_eq_true (by omega)))
          clear hbig HC HM11 HMOK HSUM hs
          go_wp2_with (first
            | (show wpList _ _ _ (⟨some 43, .binOp _ _ _ _ _, _, _, _, _⟩ :: _) _ _; refine wpList_val rfl (opU_gtr (b := 1125899906842624) rfl rfl rfl HG.out) ?_; go_frame)
            | (show wpList _ _ _ (⟨some 44, .makeMap _ _, _, _, _, _⟩ :: _) _ _; refine wpS_makeKeys mapPt hS rfl rfl ?_; clear hS; intro nm w hS; go_frame)
            | (show wpList _ _ _ (⟨_, .load 23 _, _, _, _, _⟩ :: _) _ _; refine wpList_val rfl (op_load1S (b := n1) (T := 26) oneIns ((hS.bring (by repeat (first | exact t0 | apply tS)))) rfl rfl rfl) ?_; go_frame)
            | (show wpList _ _ _ (⟨_, .load 24 _, _, _, _, _⟩ :: _) _ _; refine wpList_val rfl (op_load1S (b := n1) (T := 26) oneOuts ((hS.bring (by repeat (first | exact t0 | apply tS)))) rfl rfl rfl) ?_; go_frame)
            | (show wpList _ _ _ (⟨some 47, .call _, _, _, _, _⟩ :: _) _ _; refine wpList_val rfl (op_len slIns rfl rfl (v := m.iv) (xs := m.L.map inC) rfl (by exact hS.rd HRI.out)) ?_; rw [HNL.out]; go_frame)
            )
          go_loopw [48] (fun kv wr => ∃ k : Nat, kv = .int .i64 k ∧ k ≤ n ∧ SepL R base wr (Hp.keysAt Tryd.prog 36 nm ((once [] ((m.pt.ins.map ptOf).take k)).map ptV) none :: .blk n1 26 [N32 m.ver, m.iv, m.ov] :: F)) (fun kv _ => n - (intOf kv).toNat)
          case atStart => exact ⟨0, rfl, Nat.zero_le _, hS⟩
          case round =>
            clear hS
            obtain ⟨k, rfl, hk, hS⟩ := hrel
            by_cases hlt2 : k < n
            ·
              have hkL : k < m.L.length := by omega
              have hkr : k < (m.L.map inC).length := by rw [List.length_map]; exact hkL
              obtain ⟨p, hp⟩ : ∃ p, m.L[k] = p := ⟨_, rfl⟩
              have hpm : p ∈ m.L := hp ▸ List.getElem_mem hkL
              have HX : Hid ((m.L.map inC)[k] = inC p) := by unfold Hid; rw [List.getElem_map, hp]
              have hok := HIOK.out p hpm
              have HOK := hide hok
              have HXL : Hid ((inC p).length = 34) := inC_len hok
              have HX1 : Hid (∀ v ∈ inC p, v.oneCell' = true) := inC_one (slice_one (HKEY.out p hpm)).1
              have HPT : Hid ((inC p).take 33 = ptC p.1) := inC_pt hok
              have HPL : Hid ((ptC p.1).length = 33) := ptC_len hok
              have HAT : Hid (∃ h : k < m.L.length, m.L[k] = p) := ⟨hkL, hp⟩
              clear hpm hp
              have HKEYP : Hid (IsKey Tryd.prog 36 (.agg (ptC p.1).toArray)) := isKeyPt HOK.out.1 HOK.out.2
              have HNEXT : Hid (withK ((once [] ((m.pt.ins.map ptOf).take k)).map ptV) (.agg (ptC p.1).toArray) = (once [] ((m.pt.ins.map ptOf).take (k + 1))).map ptV) := seen_next (pts_len HIOK.out) (pts_at HAT.out)
              clear hok HOK
              go_wp2_with (first
                | (show wpList _ _ _ (⟨_, .indexAddr 23 _ _, _, _, _, _⟩ :: _) _ _; refine wpList_val rfl (op_indexAddr slIns rfl (v := m.iv) (xs := m.L.map inC) rfl (k := k) rfl (by exact hS.rd HRI.out) hkr) ?_; go_frame)
                | (show wpList _ _ _ (⟨_, .load 39 _, _, _, _, _⟩ :: _) _ _; refine wpList_val rfl (op_loadE aggIn rfl (v := m.iv) (xs := m.L.map inC) (k := k) rfl (by exact hS.rd HRI.out) hkr) ?_; rw [HX.out]; go_frame)
                | (show wpList _ _ _ (⟨_, .alloc 39, _, _, _, _⟩ :: _) _ _; refine wpS_alloc hS rfl rfl zeroIn (zs := zIn) rfl ?_; clear hS; intro nx w hS; go_frame)
                | (show wpList _ _ _ (⟨_, .store 39 _ _, _, _, _, _⟩ :: _) _ _; (refine wpS_storeAll (b := nx) aggIn (hS.bring (by repeat (first | exact t0 | apply tS))) rfl rfl rfl (vs := inC p) rfl HXL.out HX1.out rfl ?_); clear hS; intro w hS; go_frame)
                | (show wpList _ _ _ (⟨_, .load 36 _, _, _, _, _⟩ :: _) _ _; refine wpList_val rfl (op_load aggPt rfl rfl (blk_take (b := nx) (T := 39) ((hS.bring (by repeat (first | exact t0 | apply tS))).getBlk) HPT.out) HPL.out) ?_; go_frame)
                )
              refine wp_region_ord (by kernel_rfl) [] [[0, 1, 2, 3, 4, 5, 6, 7], [0, 1, 2, 5, 6, 3, 4, 7]] (by kernel_rfl) (by kernel_rfl) (fun _ => True) (fun _ _ _ _ => trivial) trivial (by repeat (first | exact Clean.body | refine Clean.then ?_ | refine Clean.inBlock ?_ | refine SegQ.clean ?_ | refine FinC.clean ?_)) ?_
              replace hS := hS.drew
              refine ord_seg (by repeat (first | exact Clean.body | refine Clean.then ?_ | refine Clean.inBlock ?_ | refine SegQ.clean ?_ | refine FinC.clean ?_)) (n := 5) (rest := [[3, 4, 5, 6, 7], [5, 6, 3, 4, 7]]) [0, 1, 2] [⟨_, _, _, _, _, _⟩, ⟨_, _, _, _, _, _⟩, ⟨_, _, _, _, _, _⟩] rfl (by kernel_rfl) (by simp) _ _ ?_
              go_wp2_with (first
                | (show wpList _ _ _ (⟨_, .indexAddr 23 _ _, _, _, _, _⟩ :: _) _ _; refine wpList_val rfl (op_indexAddr slIns rfl (v := m.iv) (xs := m.L.map inC) rfl (k := k) rfl (by exact hS.rd HRI.out) hkr) ?_; go_frame)
                | (show wpList _ _ _ (⟨_, .load 39 _, _, _, _, _⟩ :: _) _ _; refine wpList_val rfl (op_loadE aggIn rfl (v := m.iv) (xs := m.L.map inC) (k := k) rfl (by exact hS.rd HRI.out) hkr) ?_; rw [HX.out]; go_frame)
                | (show wpList _ _ _ (⟨_, .alloc 39, _, _, _, _⟩ :: _) _ _; refine wpS_alloc hS rfl rfl zeroIn (zs := zIn) rfl ?_; clear hS; intro nx w hS; go_frame)
                | (show wpList _ _ _ (⟨_, .store 39 _ _, _, _, _, _⟩ :: _) _ _; (refine wpS_storeAll (b := nx) aggIn (hS.bring (by repeat (first | exact t0 | apply tS))) rfl rfl rfl (vs := inC p) rfl HXL.out HX1.out rfl ?_); clear hS; intro w hS; go_frame)
                | (show wpList _ _ _ (⟨_, .load 36 _, _, _, _, _⟩ :: _) _ _; refine wpList_val rfl (op_load aggPt rfl rfl (blk_take (b := nx) (T := 39) ((hS.bring (by repeat (first | exact t0 | apply tS))).getBlk) HPT.out) HPL.out) ?_; go_frame)
                | (show wpList _ _ _ (⟨_, .lookup _ _ _ _, _, _, _, _⟩ :: _) _ _; (refine wpS_lookupK mapPt (hS.bring (by repeat (first | exact t0 | apply tS))) rfl rfl rfl rfl HKEYP.out ?_); intro z; go_frame)
                | (show wpList _ _ _ (⟨_, .mapEntry _ _ _, _, _, _, _⟩ :: _) _ _; ((refine wpS_mapEntry (x := .agg (ptC p.1).toArray) mapPt (hS.bring (by repeat (first | exact t0 | apply tS))) rfl rfl rfl rfl HKEYP.out ?_); clear hS; intro v0 s w hS; rw [HNEXT.out] at hS; go_frame))
                | (show wpList _ _ _ (⟨_, .entryStore _ _ _ _, _, _, _, _⟩ :: _) _ _; (refine wpS_entryStore (hS.bring (by repeat (first | exact t0 | apply tS))) rfl rfl rfl rfl rfl ?_); clear hS; intro w hS; go_frame)
                )
              refine segQ_mk trivial ?_
              refine ord_fork (n := 4) (os1 := [[3, 4, 5, 6, 7]]) (os2 := [[5, 6, 3, 4, 7]]) (by decide) ?_ ?_
              · skip
                refine ord_seg (by repeat (first | exact Clean.body | refine Clean.then ?_ | refine Clean.inBlock ?_ | refine SegQ.clean ?_ | refine FinC.clean ?_)) (n := 4) (rest := [[4, 5, 6, 7]]) [3] [⟨_, _, _, _, _, _⟩] rfl (by kernel_rfl) (by simp) _ _ ?_
                go_wp2_with (first
                  | (show wpList _ _ _ (⟨_, .indexAddr 23 _ _, _, _, _, _⟩ :: _) _ _; refine wpList_val rfl (op_indexAddr slIns rfl (v := m.iv) (xs := m.L.map inC) rfl (k := k) rfl (by exact hS.rd HRI.out) hkr) ?_; go_frame)
                  | (show wpList _ _ _ (⟨_, .load 39 _, _, _, _, _⟩ :: _) _ _; refine wpList_val rfl (op_loadE aggIn rfl (v := m.iv) (xs := m.L.map inC) (k := k) rfl (by exact hS.rd HRI.out) hkr) ?_; rw [HX.out]; go_frame)
                  | (show wpList _ _ _ (⟨_, .alloc 39, _, _, _, _⟩ :: _) _ _; refine wpS_alloc hS rfl rfl zeroIn (zs := zIn) rfl ?_; clear hS; intro nx w hS; go_frame)
                  | (show wpList _ _ _ (⟨_, .store 39 _ _, _, _, _, _⟩ :: _) _ _; (refine wpS_storeAll (b := nx) aggIn (hS.bring (by repeat (first | exact t0 | apply tS))) rfl rfl rfl (vs := inC p) rfl HXL.out HX1.out rfl ?_); clear hS; intro w hS; go_frame)
                  | (show wpList _ _ _ (⟨_, .load 36 _, _, _, _, _⟩ :: _) _ _; refine wpList_val rfl (op_load aggPt rfl rfl (blk_take (b := nx) (T := 39) ((hS.bring (by repeat (first | exact t0 | apply tS))).getBlk) HPT.out) HPL.out) ?_; go_frame)
                  | (show wpList _ _ _ (⟨_, .lookup _ _ _ _, _, _, _, _⟩ :: _) _ _; (refine wpS_lookupK mapPt (hS.bring (by repeat (first | exact t0 | apply tS))) rfl rfl rfl rfl HKEYP.out ?_); intro z; go_frame)
                  | (show wpList _ _ _ (⟨_, .mapEntry _ _ _, _, _, _, _⟩ :: _) _ _; ((refine wpS_mapEntry (x := .agg (ptC p.1).toArray) mapPt (hS.bring (by repeat (first | exact t0 | apply tS))) rfl rfl rfl rfl HKEYP.out ?_); clear hS; intro v0 s w hS; rw [HNEXT.out] at hS; go_frame))
                  | (show wpList _ _ _ (⟨_, .entryStore _ _ _ _, _, _, _, _⟩ :: _) _ _; (refine wpS_entryStore (hS.bring (by repeat (first | exact t0 | apply tS))) rfl rfl rfl rfl rfl ?_); clear hS; intro w hS; go_frame)
                  )
                refine segQ_mk trivial ?_
                refine ord_seg (by repeat (first | exact Clean.body | refine Clean.then ?_ | refine Clean.inBlock ?_ | refine SegQ.clean ?_ | refine FinC.clean ?_)) (n := 2) (rest := [[6, 7]]) [4, 5] [⟨_, _, _, _, _, _⟩, ⟨_, _, _, _, _, _⟩] rfl (by kernel_rfl) (by simp) _ _ ?_
                go_wp2_with (first
                  | (show wpList _ _ _ (⟨_, .indexAddr 23 _ _, _, _, _, _⟩ :: _) _ _; refine wpList_val rfl (op_indexAddr slIns rfl (v := m.iv) (xs := m.L.map inC) rfl (k := k) rfl (by exact hS.rd HRI.out) hkr) ?_; go_frame)
                  | (show wpList _ _ _ (⟨_, .load 39 _, _, _, _, _⟩ :: _) _ _; refine wpList_val rfl (op_loadE aggIn rfl (v := m.iv) (xs := m.L.map inC) (k := k) rfl (by exact hS.rd HRI.out) hkr) ?_; rw [HX.out]; go_frame)
                  | (show wpList _ _ _ (⟨_, .alloc 39, _, _, _, _⟩ :: _) _ _; refine wpS_alloc hS rfl rfl zeroIn (zs := zIn) rfl ?_; clear hS; intro nx w hS; go_frame)
                  | (show wpList _ _ _ (⟨_, .store 39 _ _, _, _, _, _⟩ :: _) _ _; (refine wpS_storeAll (b := nx) aggIn (hS.bring (by repeat (first | exact t0 | apply tS))) rfl rfl rfl (vs := inC p) rfl HXL.out HX1.out rfl ?_); clear hS; intro w hS; go_frame)
                  | (show wpList _ _ _ (⟨_, .load 36 _, _, _, _, _⟩ :: _) _ _; refine wpList_val rfl (op_load aggPt rfl rfl (blk_take (b := nx) (T := 39) ((hS.bring (by repeat (first | exact t0 | apply tS))).getBlk) HPT.out) HPL.out) ?_; go_frame)
                  | (show wpList _ _ _ (⟨_, .lookup _ _ _ _, _, _, _, _⟩ :: _) _ _; (refine wpS_lookupK mapPt (hS.bring (by repeat (first | exact t0 | apply tS))) rfl rfl rfl rfl HKEYP.out ?_); intro z; go_frame)
                  | (show wpList _ _ _ (⟨_, .mapEntry _ _ _, _, _, _, _⟩ :: _) _ _; ((refine wpS_mapEntry (x := .agg (ptC p.1).toArray) mapPt (hS.bring (by repeat (first | exact t0 | apply tS))) rfl rfl rfl rfl HKEYP.out ?_); clear hS; intro v0 s w hS; rw [HNEXT.out] at hS; go_frame))
                  | (show wpList _ _ _ (⟨_, .entryStore _ _ _ _, _, _, _, _⟩ :: _) _ _; (refine wpS_entryStore (hS.bring (by repeat (first | exact t0 | apply tS))) rfl rfl rfl rfl rfl ?_); clear hS; intro w hS; go_frame)
                  )
                refine segQ_mk trivial ?_
                refine ord_seg (by repeat (first | exact Clean.body | refine Clean.then ?_ | refine Clean.inBlock ?_ | refine SegQ.clean ?_ | refine FinC.clean ?_)) (n := 0) (rest := [[]]) [6, 7] [⟨_, _, _, _, _, _⟩, ⟨_, _, _, _, _, _⟩] rfl (by kernel_rfl) (by simp) _ _ ?_
                go_wp2_with (first
                  | (show wpList _ _ _ (⟨_, .indexAddr 23 _ _, _, _, _, _⟩ :: _) _ _; refine wpList_val rfl (op_indexAddr slIns rfl (v := m.iv) (xs := m.L.map inC) rfl (k := k) rfl (by exact hS.rd HRI.out) hkr) ?_; go_frame)
                  | (show wpList _ _ _ (⟨_, .load 39 _, _, _, _, _⟩ :: _) _ _; refine wpList_val rfl (op_loadE aggIn rfl (v := m.iv) (xs := m.L.map inC) (k := k) rfl (by exact hS.rd HRI.out) hkr) ?_; rw [HX.out]; go_frame)
                  | (show wpList _ _ _ (⟨_, .alloc 39, _, _, _, _⟩ :: _) _ _; refine wpS_alloc hS rfl rfl zeroIn (zs := zIn) rfl ?_; clear hS; intro nx w hS; go_frame)
                  | (show wpList _ _ _ (⟨_, .store 39 _ _, _, _, _, _⟩ :: _) _ _; (refine wpS_storeAll (b := nx) aggIn (hS.bring (by repeat (first | exact t0 | apply tS))) rfl rfl rfl (vs := inC p) rfl HXL.out HX1.out rfl ?_); clear hS; intro w hS; go_frame)
                  | (show wpList _ _ _ (⟨_, .load 36 _, _, _, _, _⟩ :: _) _ _; refine wpList_val rfl (op_load aggPt rfl rfl (blk_take (b := nx) (T := 39) ((hS.bring (by repeat (first | exact t0 | apply tS))).getBlk) HPT.out) HPL.out) ?_; go_frame)
                  | (show wpList _ _ _ (⟨_, .lookup _ _ _ _, _, _, _, _⟩ :: _) _ _; (refine wpS_lookupK mapPt (hS.bring (by repeat (first | exact t0 | apply tS))) rfl rfl rfl rfl HKEYP.out ?_); intro z; go_frame)
                  | (show wpList _ _ _ (⟨_, .mapEntry _ _ _, _, _, _, _⟩ :: _) _ _; ((refine wpS_mapEntry (x := .agg (ptC p.1).toArray) mapPt (hS.bring (by repeat (first | exact t0 | apply tS))) rfl rfl rfl rfl HKEYP.out ?_); clear hS; intro v0 s w hS; rw [HNEXT.out] at hS; go_frame))
                  | (show wpList _ _ _ (⟨_, .entryStore _ _ _ _, _, _, _, _⟩ :: _) _ _; (refine wpS_entryStore (hS.bring (by repeat (first | exact t0 | apply tS))) rfl rfl rfl rfl rfl ?_); clear hS; intro w hS; go_frame)
                  )
                refine segQ_mk trivial ?_
                refine finC_mk (by kernel_rfl) (by
                  intro t ht
                  cases ht) ?_
                go_wp2_with fail
                go_roundw
                case rel => exact ⟨k + 1, by go_num, hlt2, hS.sel (by repeat (first | exact Sel.refl | refine Sel.take (by repeat (first | exact t0 | apply tS)) ?_ | apply Sel.drop))⟩
                case measure => simp [intOf]; omega
              · skip
                refine ord_seg (by repeat (first | exact Clean.body | refine Clean.then ?_ | refine Clean.inBlock ?_ | refine SegQ.clean ?_ | refine FinC.clean ?_)) (n := 4) (rest := [[6, 3, 4, 7]]) [5] [⟨_, _, _, _, _, _⟩] rfl (by kernel_rfl) (by simp) _ _ ?_
                go_wp2_with (first
                  | (show wpList _ _ _ (⟨_, .indexAddr 23 _ _, _, _, _, _⟩ :: _) _ _; refine wpList_val rfl (op_indexAddr slIns rfl (v := m.iv) (xs := m.L.map inC) rfl (k := k) rfl (by exact hS.rd HRI.out) hkr) ?_; go_frame)
                  | (show wpList _ _ _ (⟨_, .load 39 _, _, _, _, _⟩ :: _) _ _; refine wpList_val rfl (op_loadE aggIn rfl (v := m.iv) (xs := m.L.map inC) (k := k) rfl (by exact hS.rd HRI.out) hkr) ?_; rw [HX.out]; go_frame)
                  | (show wpList _ _ _ (⟨_, .alloc 39, _, _, _, _⟩ :: _) _ _; refine wpS_alloc hS rfl rfl zeroIn (zs := zIn) rfl ?_; clear hS; intro nx w hS; go_frame)
                  | (show wpList _ _ _ (⟨_, .store 39 _ _, _, _, _, _⟩ :: _) _ _; (refine wpS_storeAll (b := nx) aggIn (hS.bring (by repeat (first | exact t0 | apply tS))) rfl rfl rfl (vs := inC p) rfl HXL.out HX1.out rfl ?_); clear hS; intro w hS; go_frame)
                  | (show wpList _ _ _ (⟨_, .load 36 _, _, _, _, _⟩ :: _) _ _; refine wpList_val rfl (op_load aggPt rfl rfl (blk_take (b := nx) (T := 39) ((hS.bring (by repeat (first | exact t0 | apply tS))).getBlk) HPT.out) HPL.out) ?_; go_frame)
                  | (show wpList _ _ _ (⟨_, .lookup _ _ _ _, _, _, _, _⟩ :: _) _ _; (refine wpS_lookupK mapPt (hS.bring (by repeat (first | exact t0 | apply tS))) rfl rfl rfl rfl HKEYP.out ?_); intro z; go_frame)
                  | (show wpList _ _ _ (⟨_, .mapEntry _ _ _, _, _, _, _⟩ :: _) _ _; ((refine wpS_mapEntry (x := .agg (ptC p.1).toArray) mapPt (hS.bring (by repeat (first | exact t0 | apply tS))) rfl rfl rfl rfl HKEYP.out ?_); clear hS; intro v0 s w hS; rw [HNEXT.out] at hS; go_frame))
                  | (show wpList _ _ _ (⟨_, .entryStore _ _ _ _, _, _, _, _⟩ :: _) _ _; (refine wpS_entryStore (hS.bring (by repeat (first | exact t0 | apply tS))) rfl rfl rfl rfl rfl ?_); clear hS; intro w hS; go_frame)
                  )
                refine segQ_mk trivial ?_
                refine ord_seg (by repeat (first | exact Clean.body | refine Clean.then ?_ | refine Clean.inBlock ?_ | refine SegQ.clean ?_ | refine FinC.clean ?_)) (n := 2) (rest := [[4, 7]]) [6, 3] [⟨_, _, _, _, _, _⟩, ⟨_, _, _, _, _, _⟩] rfl (by kernel_rfl) (by simp) _ _ ?_
                go_wp2_with (first
                  | (show wpList _ _ _ (⟨_, .indexAddr 23 _ _, _, _, _, _⟩ :: _) _ _; refine wpList_val rfl (op_indexAddr slIns rfl (v := m.iv) (xs := m.L.map inC) rfl (k := k) rfl (by exact hS.rd HRI.out) hkr) ?_; go_frame)
                  | (show wpList _ _ _ (⟨_, .load 39 _, _, _, _, _⟩ :: _) _ _; refine wpList_val rfl (op_loadE aggIn rfl (v := m.iv) (xs := m.L.map inC) (k := k) rfl (by exact hS.rd HRI.out) hkr) ?_; rw [HX.out]; go_frame)
                  | (show wpList _ _ _ (⟨_, .alloc 39, _, _, _, _⟩ :: _) _ _; refine wpS_alloc hS rfl rfl zeroIn (zs := zIn) rfl ?_; clear hS; intro nx w hS; go_frame)
                  | (show wpList _ _ _ (⟨_, .store 39 _ _, _, _, _, _⟩ :: _) _ _; (refine wpS_storeAll (b := nx) aggIn (hS.bring (by repeat (first | exact t0 | apply tS))) rfl rfl rfl (vs := inC p) rfl HXL.out HX1.out rfl ?_); clear hS; intro w hS; go_frame)
                  | (show wpList _ _ _ (⟨_, .load 36 _, _, _, _, _⟩ :: _) _ _; refine wpList_val rfl (op_load aggPt rfl rfl (blk_take (b := nx) (T := 39) ((hS.bring (by repeat (first | exact t0 | apply tS))).getBlk) HPT.out) HPL.out) ?_; go_frame)
                  | (show wpList _ _ _ (⟨_, .lookup _ _ _ _, _, _, _, _⟩ :: _) _ _; (refine wpS_lookupK mapPt (hS.bring (by repeat (first | exact t0 | apply tS))) rfl rfl rfl rfl HKEYP.out ?_); intro z; go_frame)
                  | (show wpList _ _ _ (⟨_, .mapEntry _ _ _, _, _, _, _⟩ :: _) _ _; ((refine wpS_mapEntry (x := .agg (ptC p.1).toArray) mapPt (hS.bring (by repeat (first | exact t0 | apply tS))) rfl rfl rfl rfl HKEYP.out ?_); clear hS; intro v0 s w hS; rw [HNEXT.out] at hS; go_frame))
                  | (show wpList _ _ _ (⟨_, .entryStore _ _ _ _, _, _, _, _⟩ :: _) _ _; (refine wpS_entryStore (hS.bring (by repeat (first | exact t0 | apply tS))) rfl rfl rfl rfl rfl ?_); clear hS; intro w hS; go_frame)
                  )
                refine segQ_mk trivial ?_
                refine ord_seg (by repeat (first | exact Clean.body | refine Clean.then ?_ | refine Clean.inBlock ?_ | refine SegQ.clean ?_ | refine FinC.clean ?_)) (n := 0) (rest := [[]]) [4, 7] [⟨_, _, _, _, _, _⟩, ⟨_, _, _, _, _, _⟩] rfl (by kernel_rfl) (by simp) _ _ ?_
                go_wp2_with (first
                  | (show wpList _ _ _ (⟨_, .indexAddr 23 _ _, _, _, _, _⟩ :: _) _ _; refine wpList_val rfl (op_indexAddr slIns rfl (v := m.iv) (xs := m.L.map inC) rfl (k := k) rfl (by exact hS.rd HRI.out) hkr) ?_; go_frame)
                  | (show wpList _ _ _ (⟨_, .load 39 _, _, _, _, _⟩ :: _) _ _; refine wpList_val rfl (op_loadE aggIn rfl (v := m.iv) (xs := m.L.map inC) (k := k) rfl (by exact hS.rd HRI.out) hkr) ?_; rw [HX.out]; go_frame)
                  | (show wpList _ _ _ (⟨_, .alloc 39, _, _, _, _⟩ :: _) _ _; refine wpS_alloc hS rfl rfl zeroIn (zs := zIn) rfl ?_; clear hS; intro nx w hS; go_frame)
                  | (show wpList _ _ _ (⟨_, .store 39 _ _, _, _, _, _⟩ :: _) _ _; (refine wpS_storeAll (b := nx) aggIn (hS.bring (by repeat (first | exact t0 | apply tS))) rfl rfl rfl (vs := inC p) rfl HXL.out HX1.out rfl ?_); clear hS; intro w hS; go_frame)
                  | (show wpList _ _ _ (⟨_, .load 36 _, _, _, _, _⟩ :: _) _ _; refine wpList_val rfl (op_load aggPt rfl rfl (blk_take (b := nx) (T := 39) ((hS.bring (by repeat (first | exact t0 | apply tS))).getBlk) HPT.out) HPL.out) ?_; go_frame)
                  | (show wpList _ _ _ (⟨_, .lookup _ _ _ _, _, _, _, _⟩ :: _) _ _; (refine wpS_lookupK mapPt (hS.bring (by repeat (first | exact t0 | apply tS))) rfl rfl rfl rfl HKEYP.out ?_); intro z; go_frame)
                  | (show wpList _ _ _ (⟨_, .mapEntry _ _ _, _, _, _, _⟩ :: _) _ _; ((refine wpS_mapEntry (x := .agg (ptC p.1).toArray) mapPt (hS.bring (by repeat (first | exact t0 | apply tS))) rfl rfl rfl rfl HKEYP.out ?_); clear hS; intro v0 s w hS; rw [HNEXT.out] at hS; go_frame))
                  | (show wpList _ _ _ (⟨_, .entryStore _ _ _ _, _, _, _, _⟩ :: _) _ _; (refine wpS_entryStore (hS.bring (by repeat (first | exact t0 | apply tS))) rfl rfl rfl rfl rfl ?_); clear hS; intro w hS; go_frame)
                  )
                refine segQ_mk trivial ?_
                refine finC_mk (by kernel_rfl) (by
                  intro t ht
                  cases ht) ?_
                go_wp2_with fail
                go_roundw
                case rel => exact ⟨k + 1, by go_num, hlt2, hS.sel (by repeat (first | exact Sel.refl | refine Sel.take (by repeat (first | exact t0 | apply tS)) ?_ | apply Sel.drop))⟩
                case measure => simp [intOf]; omega
            · have hkn : k = n := by omega
              subst hkn
              obtain ⟨d, hd⟩ : ∃ d, (once [] ((m.pt.ins.map ptOf).take k)).length = d := ⟨_, rfl⟩
              have HD : Hid (((once [] ((m.pt.ins.map ptOf).take k)).map ptV).length = d) := by unfold Hid; rw [List.length_map, hd]
              have HTW := hide (twice_at hn hd)
              clear hd
              by_cases hdn : d < k
              · have HL : Hid (decide ((d : Int) < (k : Int)) = true) := decide_eq_true (by omega)
                have e : c = 12 := by rw [HCE.out, HTW.out, decide_eq_true hdn]; rfl
                subst e
                clear hdn HCE HTW
                go_wp2_with (first
                  | (show wpList _ _ _ (⟨_, .load 23 _, _, _, _, _⟩ :: _) _ _; refine wpList_val rfl (op_load1S (b := n1) (T := 26) oneIns ((hS.bring (by repeat (first | exact t0 | apply tS)))) rfl rfl rfl) ?_; go_frame)
                  | (show wpList _ _ _ (⟨_, .load 24 _, _, _, _, _⟩ :: _) _ _; refine wpList_val rfl (op_load1S (b := n1) (T := 26) oneOuts ((hS.bring (by repeat (first | exact t0 | apply tS)))) rfl rfl rfl) ?_; go_frame)
                  | (show wpList _ _ _ (⟨some 64, .call _, _, _, _, _⟩ :: _) _ _; refine wpList_val rfl (op_len slIns rfl rfl (v := m.iv) (xs := m.L.map inC) rfl (by exact hS.rd HRI.out)) ?_; rw [HNL.out]; go_frame)
                  | (show wpList _ _ _ (⟨some 61, .call _, _, _, _, _⟩ :: _) _ _; refine wpList_val rfl (op_lenK mapPt (keys_get (b := nm) ((hS.bring (by repeat (first | exact t0 | apply tS))))) rfl rfl rfl) ?_; rw [HD.out]; go_frame)
                  | (show wpList _ _ _ (⟨some 65, .binOp _ _ _ _ _, _, _, _, _⟩ :: _) _ _; refine wpList_val rfl (op_ilss rfl rfl rfl HL.out) ?_; go_frame)
                  )
                go_ret
                exact ⟨rfl, hS.sel (by repeat (first | exact Sel.refl | refine Sel.take (by repeat (first | exact t0 | apply tS)) ?_ | apply Sel.drop))⟩
              · have HL : Hid (decide ((d : Int) < (k : Int)) = false) := decide_eq_false (by omega)
                have e : c = 0 := by rw [HCE.out, HTW.out, decide_eq_false hdn]; rfl
                subst e
                clear hdn HCE HTW
                go_wp2_with (first
                  | (show wpList _ _ _ (⟨_, .load 23 _, _, _, _, _⟩ :: _) _ _; refine wpList_val rfl (op_load1S (b := n1) (T := 26) oneIns ((hS.bring (by repeat (first | exact t0 | apply tS)))) rfl rfl rfl) ?_; go_frame)
                  | (show wpList _ _ _ (⟨_, .load 24 _, _, _, _, _⟩ :: _) _ _; refine wpList_val rfl (op_load1S (b := n1) (T := 26) oneOuts ((hS.bring (by repeat (first | exact t0 | apply tS)))) rfl rfl rfl) ?_; go_frame)
                  | (show wpList _ _ _ (⟨some 64, .call _, _, _, _, _⟩ :: _) _ _; refine wpList_val rfl (op_len slIns rfl rfl (v := m.iv) (xs := m.L.map inC) rfl (by exact hS.rd HRI.out)) ?_; rw [HNL.out]; go_frame)
                  | (show wpList _ _ _ (⟨some 61, .call _, _, _, _, _⟩ :: _) _ _; refine wpList_val rfl (op_lenK mapPt (keys_get (b := nm) ((hS.bring (by repeat (first | exact t0 | apply tS))))) rfl rfl rfl) ?_; rw [HD.out]; go_frame)
                  | (show wpList _ _ _ (⟨some 65, .binOp _ _ _ _ _, _, _, _, _⟩ :: _) _ _; refine wpList_val rfl (op_ilss rfl rfl rfl HL.out) ?_; go_frame)
                  )
                go_ret
                exact ⟨rfl, hS.sel (by repeat (first | exact Sel.refl | refine Sel.take (by repeat (first | exact t0 | apply tS)) ?_ | apply Sel.drop))⟩
end
end Go.Proofs.YtieobcaegegboaaDoor
namespace Go.Proofs.YtieobcaegegboaaDoor
open Go Go.RowKit Go.Px Go.Sha Go.Calc
theorem left_next {o : List POut} {k s : Nat} {x : POut} (h : ∃ hk : k < o.length, o[k] = x) : leftM s (o.drop k) = if x.value = 0 ∨ s < x.value then none else leftM (s - x.value) (o.drop (k + 1)) := by
  obtain ⟨hk, h⟩ := h
  rw [List.drop_eq_getElem_cons hk, h]
  rfl
theorem twice_found {m : MT} {i k : Nat} {p x : PIn × Value} (hik : i < k) (hi : ∃ h : i < m.L.length, m.L[i] = x) (hk : ∃ h : k < m.L.length, m.L[k] = p) (he : ptOf p.1 = ptOf x.1) : twiceB m.pt = true := by
  rw [twice_iff]
  intro hn
  obtain ⟨h1, h2⟩ := pts_at hi
  obtain ⟨h3, h4⟩ := pts_at hk
  have := (List.getElem_inj hn (h₀ := h1) (h₁ := h3)).1 (by rw [h2, h4, he])
  omega
theorem twice_none {m : MT} (h : ∀ k (hk : k < m.L.length) i (hi : i < k), ptOf m.L[k].1 ≠ ptOf m.L[i].1) : twiceB m.pt = false := by
  have : ¬ twiceB m.pt = true := by
    rw [twice_iff, Classical.not_not, List.nodup_iff_pairwise_ne, List.pairwise_iff_getElem]
    intro i j hi hj hij
    simp only [MT.pt, List.length_map] at hi hj
    simp only [MT.pt, List.getElem_map]
    exact fun e => h j hj i hij e.symm
  simpa using this
theorem op_eqPt {o : Oper} {ρ : Operand → Value} {w : World} {a b : Operand} {t : TypeId} (ho : o.op = .binOp .eql 36 a b t) {x y : PIn} (hx : ρ a = .agg (ptC x).toArray) (hy : ρ b = .agg (ptC y).toArray) (h1 : x.tx.length = 32 ∧ x.n < 4294967296) (h2 : y.tx.length = 32 ∧ y.n < 4294967296) {r : Bool} (hr : decide (ptOf x = ptOf y) = r) : (execOp ρ o).run Tryd.prog w = .ok (.value (.bool r)) w := by
  rw [op_eql keyPt ho hx hy (isKeyPt h1.1 h1.2) (isKeyPt h2.1 h2.2), ptV_eqv h1.1 h2.1, hr]
theorem take_rows (m : MT) (k : Nat) : ((m.L.map inC).drop 0).take (k - 0) = (m.L.take k).map inC := by
  rw [List.drop_zero, Nat.sub_zero, List.map_take]
section
variable {R : Nat → Prop} {base w : World} {F : List Hp}
set_option maxRecDepth 100000 in
set_option maxHeartbeats 8000000 in
theorem rcheck_s {m : MT} (hS : SepL R base w F) (ht : TxIn R base m) :
    Calls Tryd.prog 30 #[txV m] w (Ret fun r w' => r = .int .i64 ((checkN m.pt : Nat) : Int) ∧ SepL R base w' F) := by
  obtain ⟨n, hn⟩ : ∃ n, m.L.length = n := ⟨_, rfl⟩
  obtain ⟨q, hq⟩ : ∃ q, m.outs.length = q := ⟨_, rfl⟩
  have HNL : Hid ((m.L.map inC).length = n) := by unfold Hid; rw [List.length_map, hn]
  have HNO : Hid ((m.outs.map outC).length = q) := by unfold Hid; rw [List.length_map, hq]
  have HRI := hide ht.ins
  have HRO := hide ht.outs.rd
  have HKEY := hide ht.key
  have HIOK := hide ht.iok
  have HOOK := hide ht.outs.ok
  obtain ⟨c, hc⟩ : ∃ c, checkN m.pt = c := ⟨_, rfl⟩
  have HC := hide hc
  rw [hc]
  obtain ⟨b, hb⟩ : ∃ b, formB m.pt = b := ⟨_, rfl⟩
  have HFB := hide hb
  clear hb hc

  cases b with
  | false =>
    have e : c = 5 := HC.out.symm.trans (chk_form HFB.out)
    subst e
    go_enter Tryd.func30, Tryd.ntmps30
    go_wp2_with (first
      | (show wpList _ _ _ (⟨some 1, .box _ _, _, _, _, _⟩ :: _) _ _; refine wpS_boxA (cs := [N32 m.ver, m.iv, m.ov]) hS rfl rfl rfl ?_; clear hS; intro n1 w hS; go_frame)
      | (show wpList _ _ _ (⟨_, .load 26 _, _, _, _, _⟩ :: _) _ _; refine wpList_val rfl (op_load aggTx rfl rfl (SepL.getBlk (b := n1) (T := 26) ((hS.bring (by repeat (first | exact t0 | apply tS))))).cells rfl) ?_; go_frame)
      | (go_at_call 44; refine Ret.calls (rform_s hS ht HFB) ?_; clear hS; rintro r1 w ⟨rfl, hS⟩)
      )
    go_ret
    exact ⟨rfl, hS.sel (by repeat (first | exact Sel.refl | refine Sel.take (by repeat (first | exact t0 | apply tS)) ?_ | apply Sel.drop))⟩
  | true =>
    by_cases hn0 : n = 0
    · have e : c = 9 := HC.out.symm.trans (chk_none HFB.out (.inl (by unfold MT.pt; exact List.map_eq_nil_iff.2 (List.length_eq_zero_iff.1 (by omega)))))
      subst e
      have H1 : Hid (((n : Int) == 0) = true) := eqT (by omega)
      clear hn0 hn hq
      go_enter Tryd.func30, Tryd.ntmps30
      go_wp2_with (first
        | go_big_skip
        | (show wpList _ _ _ (⟨some 1, .box _ _, _, _, _, _⟩ :: _) _ _; refine wpS_boxA (cs := [N32 m.ver, m.iv, m.ov]) hS rfl rfl rfl ?_; clear hS; intro n1 w hS; go_frame)
        | (show wpList _ _ _ (⟨_, .load 26 _, _, _, _, _⟩ :: _) _ _; refine wpList_val rfl (op_load aggTx rfl rfl (SepL.getBlk (b := n1) (T := 26) ((hS.bring (by repeat (first | exact t0 | apply tS))))).cells rfl) ?_; go_frame)
        | (go_at_call 44; refine Ret.calls (rform_s hS ht HFB) ?_; clear hS; rintro r1 w ⟨rfl, hS⟩)
        | (show wpList _ _ _ (⟨_, .load 23 _, _, _, _, _⟩ :: _) _ _; refine wpList_val rfl (op_load1S (b := n1) (T := 26) oneIns ((hS.bring (by repeat (first | exact t0 | apply tS)))) rfl rfl rfl) ?_; go_frame)
        | (show wpList _ _ _ (⟨_, .load 24 _, _, _, _, _⟩ :: _) _ _; refine wpList_val rfl (op_load1S (b := n1) (T := 26) oneOuts ((hS.bring (by repeat (first | exact t0 | apply tS)))) rfl rfl rfl) ?_; go_frame)
        | (show wpList _ _ _ (⟨some 15, .call _, _, _, _, _⟩ :: _) _ _; refine wpList_val rfl (op_len slIns rfl rfl (v := m.iv) (xs := m.L.map inC) rfl (by exact hS.rd HRI.out)) ?_; rw [HNL.out]; go_frame)
        | (show wpList _ _ _ (⟨some 16, .binOp _ _ _ _ _, _, _, _, _⟩ :: _) _ _; refine wpList_val rfl (op_eqI' rfl rfl rfl H1.out) ?_; go_frame)
        )
      go_ret
      exact ⟨rfl, hS.sel (by repeat (first | exact Sel.refl | refine Sel.take (by repeat (first | exact t0 | apply tS)) ?_ | apply Sel.drop))⟩
    have H1 : Hid (((n : Int) == 0) = false) := eqF (by omega)
    by_cases hq0 : q = 0
    · have e : c = 9 := HC.out.symm.trans (chk_none HFB.out (.inr (List.length_eq_zero_iff.1 (show m.outs.length = 0 by omega))))
      subst e
      have H2 : Hid (((q : Int) == 0) = true) := eqT (by omega)
      clear hq0 hn0 hn hq
      go_enter Tryd.func30, Tryd.ntmps30
      go_wp2_with (first
        | go_big_skip
        | (show wpList _ _ _ (⟨some 1, .box _ _, _, _, _, _⟩ :: _) _ _; refine wpS_boxA (cs := [N32 m.ver, m.iv, m.ov]) hS rfl rfl rfl ?_; clear hS; intro n1 w hS; go_frame)
        | (show wpList _ _ _ (⟨_, .load 26 _, _, _, _, _⟩ :: _) _ _; refine wpList_val rfl (op_load aggTx rfl rfl (SepL.getBlk (b := n1) (T := 26) ((hS.bring (by repeat (first | exact t0 | apply tS))))).cells rfl) ?_; go_frame)
        | (go_at_call 44; refine Ret.calls (rform_s hS ht HFB) ?_; clear hS; rintro r1 w ⟨rfl, hS⟩)
        | (show wpList _ _ _ (⟨_, .load 23 _, _, _, _, _⟩ :: _) _ _; refine wpList_val rfl (op_load1S (b := n1) (T := 26) oneIns ((hS.bring (by repeat (first | exact t0 | apply tS)))) rfl rfl rfl) ?_; go_frame)
        | (show wpList _ _ _ (⟨_, .load 24 _, _, _, _, _⟩ :: _) _ _; refine wpList_val rfl (op_load1S (b := n1) (T := 26) oneOuts ((hS.bring (by repeat (first | exact t0 | apply tS)))) rfl rfl rfl) ?_; go_frame)
        | (show wpList _ _ _ (⟨some 15, .call _, _, _, _, _⟩ :: _) _ _; refine wpList_val rfl (op_len slIns rfl rfl (v := m.iv) (xs := m.L.map inC) rfl (by exact hS.rd HRI.out)) ?_; rw [HNL.out]; go_frame)
        | (show wpList _ _ _ (⟨some 16, .binOp _ _ _ _ _, _, _, _, _⟩ :: _) _ _; refine wpList_val rfl (op_eqI' rfl rfl rfl H1.out) ?_; go_frame)
        | (show wpList _ _ _ (⟨some 20, .call _, _, _, _, _⟩ :: _) _ _; refine wpList_val rfl (op_len slOuts rfl rfl (v := m.ov) (xs := m.outs.map outC) rfl (by exact hS.rd HRO.out)) ?_; rw [HNO.out]; go_frame)
        | (show wpList _ _ _ (⟨some 21, .binOp _ _ _ _ _, _, _, _, _⟩ :: _) _ _; refine wpList_val rfl (op_eqI' rfl rfl rfl H2.out) ?_; go_frame)
        )
      go_ret
      exact ⟨rfl, hS.sel (by repeat (first | exact Sel.refl | refine Sel.take (by repeat (first | exact t0 | apply tS)) ?_ | apply Sel.drop))⟩
    have H2 : Hid (((q : Int) == 0) = false) := eqF (by omega)
    have HNE : Hid (¬ (m.pt.ins = [] ∨ m.pt.outs = [])) := by
      rintro (h | h)
      · exact hn0 (by rw [← hn]; exact List.length_eq_zero_iff.2 (List.map_eq_nil_iff.1 h))
      · exact hq0 (by rw [← hq]; exact List.length_eq_zero_iff.2 h)
    have hsm := form_small HFB.out
    rw [hn, hq] at hsm
    have hn8 := hsm.1
    have hq8 := hsm.2
    clear hsm
    have HM11 : Hid (moneyB m.outs = false → c = 11) := fun h => HC.out.symm.trans (chk_money HFB.out HNE.out h)
    have HMOK : Hid (moneyB m.outs = true → c = if twiceB m.pt then 12 else 0) := fun h => HC.out.symm.trans (chk_twice HFB.out HNE.out h)
    clear hn0 hq0
    go_enter Tryd.func30, Tryd.ntmps30
    go_wp2_with (first
      | go_big_skip
      | (show wpList _ _ _ (⟨some 1, .box _ _, _, _, _, _⟩ :: _) _ _; refine wpS_boxA (cs := [N32 m.ver, m.iv, m.ov]) hS rfl rfl rfl ?_; clear hS; intro n1 w hS; go_frame)
      | (show wpList _ _ _ (⟨_, .load 26 _, _, _, _, _⟩ :: _) _ _; refine wpList_val rfl (op_load aggTx rfl rfl (SepL.getBlk (b := n1) (T := 26) ((hS.bring (by repeat (first | exact t0 | apply tS))))).cells rfl) ?_; go_frame)
      | (go_at_call 44; refine Ret.calls (rform_s hS ht HFB) ?_; clear hS; rintro r1 w ⟨rfl, hS⟩)
      | (show wpList _ _ _ (⟨_, .load 23 _, _, _, _, _⟩ :: _) _ _; refine wpList_val rfl (op_load1S (b := n1) (T := 26) oneIns ((hS.bring (by repeat (first | exact t0 | apply tS)))) rfl rfl rfl) ?_; go_frame)
      | (show wpList _ _ _ (⟨_, .load 24 _, _, _, _, _⟩ :: _) _ _; refine wpList_val rfl (op_load1S (b := n1) (T := 26) oneOuts ((hS.bring (by repeat (first | exact t0 | apply tS)))) rfl rfl rfl) ?_; go_frame)
      | (show wpList _ _ _ (⟨some 15, .call _, _, _, _, _⟩ :: _) _ _; refine wpList_val rfl (op_len slIns rfl rfl (v := m.iv) (xs := m.L.map inC) rfl (by exact hS.rd HRI.out)) ?_; rw [HNL.out]; go_frame)
      | (show wpList _ _ _ (⟨some 16, .binOp _ _ _ _ _, _, _, _, _⟩ :: _) _ _; refine wpList_val rfl (op_eqI' rfl rfl rfl H1.out) ?_; go_frame)
      | (show wpList _ _ _ (⟨some 20, .call _, _, _, _, _⟩ :: _) _ _; refine wpList_val rfl (op_len slOuts rfl rfl (v := m.ov) (xs := m.outs.map outC) rfl (by exact hS.rd HRO.out)) ?_; rw [HNO.out]; go_frame)
      | (show wpList _ _ _ (⟨some 25, .call _, _, _, _, _⟩ :: _) _ _; refine wpList_val rfl (op_len slOuts rfl rfl (v := m.ov) (xs := m.outs.map outC) rfl (by exact hS.rd HRO.out)) ?_; rw [HNO.out]; go_frame)
      | (show wpList _ _ _ (⟨some 21, .binOp _ _ _ _ _, _, _, _, _⟩ :: _) _ _; refine wpList_val rfl (op_eqI' rfl rfl rfl H2.out) ?_; go_frame)
      )
    go_loopw [26, 3] (fun kv sv wr => ∃ k s : Nat, kv = .int .i64 k ∧ sv = U s ∧ k ≤ q ∧ s ≤ 1125899906842624 ∧ Hid (leftM 1125899906842624 m.outs = leftM s (m.outs.drop k)) ∧ SepL R base wr (.blk n1 26 [N32 m.ver, m.iv, m.ov] :: F)) (fun kv _ _ => q - (intOf kv).toNat)
    case atStart => exact ⟨0, 1125899906842624, rfl, rfl, Nat.zero_le _, Nat.le_refl _, rfl, hS⟩
    case round =>
      clear hS
      obtain ⟨k, s, rfl, rfl, hk, hs, HLM, hS⟩ := hrel
      by_cases hlt : k < q
      ·
        have hkL : k < m.outs.length := by omega
        have hkr : k < (m.outs.map outC).length := by rw [List.length_map]; exact hkL
        obtain ⟨o, ho⟩ : ∃ o, m.outs[k] = o := ⟨_, rfl⟩
        have hom : o ∈ m.outs := ho ▸ List.getElem_mem hkL
        have HX : Hid ((m.outs.map outC)[k] = outC o) := by unfold Hid; rw [List.getElem_map, ho]
        have HXL : Hid ((outC o).length = 33) := outC_len (HOOK.out o hom)
        have hov := (HOOK.out o hom).1
        have HAT : Hid (∃ h : k < m.outs.length, m.outs[k] = o) := ⟨hkL, ho⟩
        obtain ⟨v, hv⟩ : ∃ v, o.value = v := ⟨_, rfl⟩
        have HV := hide hv
        rw [hv] at hov
        clear hom ho hv
        have HNX := hide (left_next (s := s) HAT.out)
        by_cases hv0 : v = 0
        · have HE : Hid ((v == 0) = true) := by unfold Hid; rw [hv0]; rfl
          have e : c = 11 := HM11.out (by rw [money_left, HLM.out, HNX.out, if_pos (.inl (by rw [HV.out, hv0]))]; rfl)
          subst e
          clear hv0 HC HM11 HMOK
          go_wp2_with (first
            | go_big_skip
            | (show wpList _ _ _ (⟨_, .indexAddr 24 _ _, _, _, _, _⟩ :: _) _ _; refine wpList_val rfl (op_indexAddr slOuts rfl (v := m.ov) (xs := m.outs.map outC) rfl (k := k) rfl (by exact hS.rd HRO.out) hkr) ?_; go_frame)
            | (show wpList _ _ _ (⟨_, .load 60 _, _, _, _, _⟩ :: _) _ _; refine wpList_val rfl (op_loadE aggOut rfl (v := m.ov) (xs := m.outs.map outC) (k := k) rfl (by exact hS.rd HRO.out) hkr) ?_; rw [HX.out]; go_frame)
            | (show wpList _ _ _ (⟨_, .alloc 60, _, _, _, _⟩ :: _) _ _; refine wpS_alloc hS rfl rfl zeroOut (zs := zOut) rfl ?_; clear hS; intro nx w hS; go_frame)
            | (show wpList _ _ _ (⟨_, .store 60 _ _, _, _, _, _⟩ :: _) _ _; (refine wpS_storeAll (b := nx) aggOut (hS.bring (by repeat (first | exact t0 | apply tS))) rfl rfl rfl (vs := outC o) rfl HXL.out (outC_one o) rfl ?_); clear hS; intro w hS; go_frame)
            | (show wpList _ _ _ (⟨_, .load 29 _, _, _, _, _⟩ :: _) _ _; refine wpList_val rfl (op_load1S (b := nx) (T := 60) oneU ((hS.bring (by repeat (first | exact t0 | apply tS)))) rfl rfl rfl) ?_; rw [HV.out]; go_frame)
            | (show wpList _ _ _ (⟨some 32, .binOp _ _ _ _ _, _, _, _, _⟩ :: _) _ _; refine wpList_val rfl (opU_eql (b := 0) rfl rfl rfl HE.out) ?_; go_frame)
            )
          go_ret
          exact ⟨rfl, hS.sel (by repeat (first | exact Sel.refl | refine Sel.take (by repeat (first | exact t0 | apply tS)) ?_ | apply Sel.drop))⟩
        have HE : Hid ((v == 0) = false) := by unfold Hid; simpa using hv0
        by_cases hvb : s < v
        · have HG : Hid (decide (s < v) = true) := decide_eq_true hvb
          have e : c = 11 := HM11.out (by rw [money_left, HLM.out, HNX.out, if_pos (.inr (by rw [HV.out]; exact hvb))]; rfl)
          subst e
          clear hv0 hvb HC HM11 HMOK
          go_wp2_with (first
            | go_big_skip
            | (show wpList _ _ _ (⟨_, .indexAddr 24 _ _, _, _, _, _⟩ :: _) _ _; refine wpList_val rfl (op_indexAddr slOuts rfl (v := m.ov) (xs := m.outs.map outC) rfl (k := k) rfl (by exact hS.rd HRO.out) hkr) ?_; go_frame)
            | (show wpList _ _ _ (⟨_, .load 60 _, _, _, _, _⟩ :: _) _ _; refine wpList_val rfl (op_loadE aggOut rfl (v := m.ov) (xs := m.outs.map outC) (k := k) rfl (by exact hS.rd HRO.out) hkr) ?_; rw [HX.out]; go_frame)
            | (show wpList _ _ _ (⟨_, .alloc 60, _, _, _, _⟩ :: _) _ _; refine wpS_alloc hS rfl rfl zeroOut (zs := zOut) rfl ?_; clear hS; intro nx w hS; go_frame)
            | (show wpList _ _ _ (⟨_, .store 60 _ _, _, _, _, _⟩ :: _) _ _; (refine wpS_storeAll (b := nx) aggOut (hS.bring (by repeat (first | exact t0 | apply tS))) rfl rfl rfl (vs := outC o) rfl HXL.out (outC_one o) rfl ?_); clear hS; intro w hS; go_frame)
            | (show wpList _ _ _ (⟨_, .load 29 _, _, _, _, _⟩ :: _) _ _; refine wpList_val rfl (op_load1S (b := nx) (T := 60) oneU ((hS.bring (by repeat (first | exact t0 | apply tS)))) rfl rfl rfl) ?_; rw [HV.out]; go_frame)
            | (show wpList _ _ _ (⟨some 32, .binOp _ _ _ _ _, _, _, _, _⟩ :: _) _ _; refine wpList_val rfl (opU_eql (b := 0) rfl rfl rfl HE.out) ?_; go_frame)
            | (show wpList _ _ _ (⟨some 37, .binOp _ _ _ _ _, _, _, _, _⟩ :: _) _ _; refine wpList_val rfl (opU_gtr (a := v) (b := s) rfl rfl rfl HG.out) ?_; go_frame)
            )
          go_ret
          exact ⟨rfl, hS.sel (by repeat (first | exact Sel.refl | refine Sel.take (by repeat (first | exact t0 | apply tS)) ?_ | apply Sel.drop))⟩
        · have HG : Hid (decide (s < v) = false) := decide_eq_false hvb
          have HLM2 : Hid (leftM 1125899906842624 m.outs = leftM (s - v) (m.outs.drop (k + 1))) := by
            unfold Hid
            rw [HLM.out, HNX.out, if_neg (by rw [HV.out]; omega), HV.out]
          have hvs : v ≤ s := by omega
          have hs64 : s < 18446744073709551616 := by omega
          clear hv0 hvb HLM HNX
          go_wp2_with (first
            | go_big_skip
            | (show wpList _ _ _ (⟨_, .indexAddr 24 _ _, _, _, _, _⟩ :: _) _ _; refine wpList_val rfl (op_indexAddr slOuts rfl (v := m.ov) (xs := m.outs.map outC) rfl (k := k) rfl (by exact hS.rd HRO.out) hkr) ?_; go_frame)
            | (show wpList _ _ _ (⟨_, .load 60 _, _, _, _, _⟩ :: _) _ _; refine wpList_val rfl (op_loadE aggOut rfl (v := m.ov) (xs := m.outs.map outC) (k := k) rfl (by exact hS.rd HRO.out) hkr) ?_; rw [HX.out]; go_frame)
            | (show wpList _ _ _ (⟨_, .alloc 60, _, _, _, _⟩ :: _) _ _; refine wpS_alloc hS rfl rfl zeroOut (zs := zOut) rfl ?_; clear hS; intro nx w hS; go_frame)
            | (show wpList _ _ _ (⟨_, .store 60 _ _, _, _, _, _⟩ :: _) _ _; (refine wpS_storeAll (b := nx) aggOut (hS.bring (by repeat (first | exact t0 | apply tS))) rfl rfl rfl (vs := outC o) rfl HXL.out (outC_one o) rfl ?_); clear hS; intro w hS; go_frame)
            | (show wpList _ _ _ (⟨_, .load 29 _, _, _, _, _⟩ :: _) _ _; refine wpList_val rfl (op_load1S (b := nx) (T := 60) oneU ((hS.bring (by repeat (first | exact t0 | apply tS)))) rfl rfl rfl) ?_; rw [HV.out]; go_frame)
            | (show wpList _ _ _ (⟨some 32, .binOp _ _ _ _ _, _, _, _, _⟩ :: _) _ _; refine wpList_val rfl (opU_eql (b := 0) rfl rfl rfl HE.out) ?_; go_frame)
            | (show wpList _ _ _ (⟨some 37, .binOp _ _ _ _ _, _, _, _, _⟩ :: _) _ _; refine wpList_val rfl (opU_gtr (a := v) (b := s) rfl rfl rfl HG.out) ?_; go_frame)
            | (show wpList _ _ _ (⟨some 42, .binOp _ _ _ _ _, _, _, _, _⟩ :: _) _ _; refine wpList_val rfl (opU_sub (a := s) (b := v) rfl rfl rfl hvs hs64) ?_; go_frame)
            )
          go_roundw
          case rel => exact ⟨k + 1, s - v, by go_num, rfl, hlt, by omega, HLM2, hS.sel (by repeat (first | exact Sel.refl | refine Sel.take (by repeat (first | exact t0 | apply tS)) ?_ | apply Sel.drop))⟩
          case measure => simp [intOf]; omega
      · have hkq : k = q := by omega
        have hmt : moneyB m.outs = true := by
          rw [money_left, HLM.out, List.drop_of_length_le (by omega)]
          rfl
        have HCE := hide (HMOK.out hmt)
        clear HC HM11 HMOK HLM hmt hs
        go_wp2_with (first
          | (show wpList _ _ _ (⟨_, .load 23 _, _, _, _, _⟩ :: _) _ _; refine wpList_val rfl (op_load1S (b := n1) (T := 26) oneIns ((hS.bring (by repeat (first | exact t0 | apply tS)))) rfl rfl rfl) ?_; go_frame)
          | (show wpList _ _ _ (⟨_, .load 24 _, _, _, _, _⟩ :: _) _ _; refine wpList_val rfl (op_load1S (b := n1) (T := 26) oneOuts ((hS.bring (by repeat (first | exact t0 | apply tS)))) rfl rfl rfl) ?_; go_frame)
          | (show wpList _ _ _ (⟨some 46, .call _, _, _, _, _⟩ :: _) _ _; refine wpList_val rfl (op_len slIns rfl rfl (v := m.iv) (xs := m.L.map inC) rfl (by exact hS.rd HRI.out)) ?_; rw [HNL.out]; go_frame)
          )
        go_loopw [47, 6] (fun kv _ wr => ∃ k : Nat, kv = .int .i64 k ∧ k ≤ n ∧ Hid (∀ i (hi : i < m.L.length) j (hj : j < i), i < k → ptOf m.L[i].1 ≠ ptOf m.L[j].1) ∧ SepL R base wr (.blk n1 26 [N32 m.ver, m.iv, m.ov] :: F)) (fun kv _ _ => n - (intOf kv).toNat)
        case atStart => exact ⟨0, rfl, Nat.zero_le _, fun i _ _ _ h => absurd h (Nat.not_lt_zero _), hS⟩
        case round =>
          clear hS
          obtain ⟨k, rfl, hk, HA, hS⟩ := hrel
          by_cases hlt2 : k < n
          ·
            have hkL : k < m.L.length := by omega
            have hkr : k < (m.L.map inC).length := by rw [List.length_map]; exact hkL
            obtain ⟨p, hp⟩ : ∃ p, m.L[k] = p := ⟨_, rfl⟩
            have hpm : p ∈ m.L := hp ▸ List.getElem_mem hkL
            have HX : Hid ((m.L.map inC)[k] = inC p) := by unfold Hid; rw [List.getElem_map, hp]
            have hok := HIOK.out p hpm
            have HOK := hide hok
            have HXL : Hid ((inC p).length = 34) := inC_len hok
            have HX1 : Hid (∀ v ∈ inC p, v.oneCell' = true) := inC_one (slice_one (HKEY.out p hpm)).1
            have HPT : Hid ((inC p).take 33 = ptC p.1) := inC_pt hok
            have HPL : Hid ((ptC p.1).length = 33) := ptC_len hok
            have HAT : Hid (∃ h : k < m.L.length, m.L[k] = p) := ⟨hkL, hp⟩
            clear hpm hp
            clear hok
            have HKL : Hid (k ≤ (m.L.map inC).length) := Nat.le_of_lt hkr
            have HRC : Hid (RdIn R base 34 (cutV 34 m.iv 0 k) ((m.L.take k).map inC)) := by
              have g := HRI.out.cutV (l := 0) (h := k) (Nat.zero_le _) HKL.out
              rwa [take_rows] at g
            have HLC : Hid (((m.L.take k).map inC).length = k) := by
              unfold Hid
              rw [List.length_map, List.length_take]
              omega
            go_wp2_with (first
              | (show wpList _ _ _ (⟨_, .indexAddr 23 _ _, _, _, _, _⟩ :: _) _ _; refine wpList_val rfl (op_indexAddr slIns rfl (v := m.iv) (xs := m.L.map inC) rfl (k := k) rfl (by exact hS.rd HRI.out) hkr) ?_; go_frame)
              | (show wpList _ _ _ (⟨_, .load 39 _, _, _, _, _⟩ :: _) _ _; refine wpList_val rfl (op_loadE aggIn rfl (v := m.iv) (xs := m.L.map inC) (k := k) rfl (by exact hS.rd HRI.out) hkr) ?_; rw [HX.out]; go_frame)
              | (show wpList _ _ _ (⟨_, .alloc 39, _, _, _, _⟩ :: _) _ _; refine wpS_alloc hS rfl rfl zeroIn (zs := zIn) rfl ?_; clear hS; intro nx w hS; go_frame)
              | (show wpList _ _ _ (⟨_, .store 39 _ _, _, _, _, _⟩ :: _) _ _; (refine wpS_storeAll (b := nx) aggIn (hS.bring (by repeat (first | exact t0 | apply tS))) rfl rfl rfl (vs := inC p) rfl HXL.out HX1.out rfl ?_); clear hS; intro w hS; go_frame)
              | (show wpList _ _ _ (⟨_, .load 36 _, _, _, _, _⟩ :: _) _ _; refine wpList_val rfl (op_load aggPt rfl rfl (blk_take (b := nx) (T := 39) ((hS.bring (by repeat (first | exact t0 | apply tS))).getBlk) HPT.out) HPL.out) ?_; go_frame)
              | (show wpList _ _ _ (⟨_, .load 23 _, _, _, _, _⟩ :: _) _ _; refine wpList_val rfl (op_load1S (b := n1) (T := 26) oneIns ((hS.bring (by repeat (first | exact t0 | apply tS)))) rfl rfl rfl) ?_; go_frame)
              | (show wpList _ _ _ (⟨_, .load 24 _, _, _, _, _⟩ :: _) _ _; refine wpList_val rfl (op_load1S (b := n1) (T := 26) oneOuts ((hS.bring (by repeat (first | exact t0 | apply tS)))) rfl rfl rfl) ?_; go_frame)
              | (show wpList _ _ _ (⟨some 55, .slice _ _ _ _ _, _, _, _, _⟩ :: _) _ _; refine wpList_val rfl (op_cut slIns rfl (v := m.iv) (xs := m.L.map inC) rfl (by exact hS.rd HRI.out) (l := 0) (h := k) (Or.inl ⟨rfl, rfl⟩) (Or.inr rfl) (Nat.zero_le _) HKL.out) ?_; go_frame)
              | (show wpList _ _ _ (⟨some 56, .call _, _, _, _, _⟩ :: _) _ _; refine wpList_val rfl (op_len slIns rfl rfl (v := cutV 34 m.iv 0 k) (xs := (m.L.take k).map inC) rfl (by exact hS.rd HRC.out)) ?_; rw [HLC.out]; go_frame)
              )
            go_loopw [57] (fun jv wr => ∃ j : Nat, jv = .int .i64 j ∧ j ≤ k ∧ Hid (∀ i (hi : i < m.L.length), i < j → ptOf p.1 ≠ ptOf m.L[i].1) ∧ SepL R base wr (.blk nx 39 (inC p) :: .blk n1 26 [N32 m.ver, m.iv, m.ov] :: F)) (fun jv _ => k - (intOf jv).toNat)
            case atStart => exact ⟨0, rfl, Nat.zero_le _, fun i _ h => absurd h (Nat.not_lt_zero _), hS.sel (by repeat (first | exact Sel.refl | refine Sel.take (by repeat (first | exact t0 | apply tS)) ?_ | apply Sel.drop))⟩
            case round =>
              clear hS
              obtain ⟨j, rfl, hj, HB, hS⟩ := hrel
              by_cases hlt3 : j < k
              ·
                have hjL : j < m.L.length := by omega
                have hjt : j < (m.L.take k).length := by rw [List.length_take]; omega
                have hjr : j < ((m.L.take k).map inC).length := by rw [List.length_map]; exact hjt
                obtain ⟨y, hy⟩ : ∃ y, m.L[j] = y := ⟨_, rfl⟩
                have hym : y ∈ m.L := hy ▸ List.getElem_mem hjL
                have HXY : Hid (((m.L.take k).map inC)[j] = inC y) := by unfold Hid; rw [List.getElem_map, List.getElem_take, hy]
                have hyok := HIOK.out y hym
                have HYOK := hide hyok
                have HYL : Hid ((inC y).length = 34) := inC_len hyok
                have HY1 : Hid (∀ v ∈ inC y, v.oneCell' = true) := inC_one (slice_one (HKEY.out y hym)).1
                have HYT : Hid ((inC y).take 33 = ptC y.1) := inC_pt hyok
                have HYP : Hid ((ptC y.1).length = 33) := ptC_len hyok
                have HATJ : Hid (∃ h : j < m.L.length, m.L[j] = y) := ⟨hjL, hy⟩
                clear hym hy hyok
                by_cases heq : ptOf p.1 = ptOf y.1
                · have HEQ : Hid (decide (ptOf p.1 = ptOf y.1) = true) := decide_eq_true heq
                  have e : c = 12 := by rw [HCE.out, twice_found hlt3 HATJ.out HAT.out heq]; rfl
                  subst e
                  clear heq HCE
                  go_wp2_with (first
                    | (show wpList _ _ _ (⟨_, .indexAddr 23 (.tmp 55) _, _, _, _, _⟩ :: _) _ _; refine wpList_val rfl (op_indexAddr slIns rfl (v := cutV 34 m.iv 0 k) (xs := (m.L.take k).map inC) rfl (k := j) rfl (by exact hS.rd HRC.out) hjr) ?_; go_frame)
                    | (show wpList _ _ _ (⟨some 60, .load _ _, _, _, _, _⟩ :: _) _ _; refine wpList_val rfl (op_loadE aggIn rfl (v := cutV 34 m.iv 0 k) (xs := (m.L.take k).map inC) (k := j) rfl (by exact hS.rd HRC.out) hjr) ?_; rw [HXY.out]; go_frame)
                    | (show wpList _ _ _ (⟨some 9, .alloc _, _, _, _, _⟩ :: _) _ _; refine wpS_alloc hS rfl rfl zeroIn (zs := zIn) rfl ?_; clear hS; intro ny w hS; go_frame)
                    | (show wpList _ _ _ (⟨_, .store 39 (.tmp 9) _, _, _, _, _⟩ :: _) _ _; (refine wpS_storeAll (b := ny) aggIn (hS.bring (by repeat (first | exact t0 | apply tS))) rfl rfl rfl (vs := inC y) rfl HYL.out HY1.out rfl ?_); clear hS; intro w hS; go_frame)
                    | (show wpList _ _ _ (⟨some 62, .load _ _, _, _, _, _⟩ :: _) _ _; refine wpList_val rfl (op_load aggPt rfl rfl (blk_take (b := nx) (T := 39) ((hS.bring (by repeat (first | exact t0 | apply tS))).getBlk) HPT.out) HPL.out) ?_; go_frame)
                    | (show wpList _ _ _ (⟨some 64, .load _ _, _, _, _, _⟩ :: _) _ _; refine wpList_val rfl (op_load aggPt rfl rfl (blk_take (b := ny) (T := 39) ((hS.bring (by repeat (first | exact t0 | apply tS))).getBlk) HYT.out) HYP.out) ?_; go_frame)
                    | (show wpList _ _ _ (⟨some 65, .binOp _ _ _ _ _, _, _, _, _⟩ :: _) _ _; refine wpList_val rfl (op_eqPt rfl rfl rfl HOK.out HYOK.out HEQ.out) ?_; go_frame)
                    )
                  go_ret
                  exact ⟨rfl, hS.sel (by repeat (first | exact Sel.refl | refine Sel.take (by repeat (first | exact t0 | apply tS)) ?_ | apply Sel.drop))⟩
                · have HEQ : Hid (decide (ptOf p.1 = ptOf y.1) = false) := decide_eq_false heq
                  have HB2 : Hid (∀ i (hi : i < m.L.length), i < j + 1 → ptOf p.1 ≠ ptOf m.L[i].1) := fun i hi h => by
                    by_cases e : i = j
                    · subst e
                      rw [HATJ.out.2]
                      exact heq
                    · exact HB.out i hi (by omega)
                  clear heq HB
                  go_wp2_with (first
                    | (show wpList _ _ _ (⟨_, .indexAddr 23 (.tmp 55) _, _, _, _, _⟩ :: _) _ _; refine wpList_val rfl (op_indexAddr slIns rfl (v := cutV 34 m.iv 0 k) (xs := (m.L.take k).map inC) rfl (k := j) rfl (by exact hS.rd HRC.out) hjr) ?_; go_frame)
                    | (show wpList _ _ _ (⟨some 60, .load _ _, _, _, _, _⟩ :: _) _ _; refine wpList_val rfl (op_loadE aggIn rfl (v := cutV 34 m.iv 0 k) (xs := (m.L.take k).map inC) (k := j) rfl (by exact hS.rd HRC.out) hjr) ?_; rw [HXY.out]; go_frame)
                    | (show wpList _ _ _ (⟨some 9, .alloc _, _, _, _, _⟩ :: _) _ _; refine wpS_alloc hS rfl rfl zeroIn (zs := zIn) rfl ?_; clear hS; intro ny w hS; go_frame)
                    | (show wpList _ _ _ (⟨_, .store 39 (.tmp 9) _, _, _, _, _⟩ :: _) _ _; (refine wpS_storeAll (b := ny) aggIn (hS.bring (by repeat (first | exact t0 | apply tS))) rfl rfl rfl (vs := inC y) rfl HYL.out HY1.out rfl ?_); clear hS; intro w hS; go_frame)
                    | (show wpList _ _ _ (⟨some 62, .load _ _, _, _, _, _⟩ :: _) _ _; refine wpList_val rfl (op_load aggPt rfl rfl (blk_take (b := nx) (T := 39) ((hS.bring (by repeat (first | exact t0 | apply tS))).getBlk) HPT.out) HPL.out) ?_; go_frame)
                    | (show wpList _ _ _ (⟨some 64, .load _ _, _, _, _, _⟩ :: _) _ _; refine wpList_val rfl (op_load aggPt rfl rfl (blk_take (b := ny) (T := 39) ((hS.bring (by repeat (first | exact t0 | apply tS))).getBlk) HYT.out) HYP.out) ?_; go_frame)
                    | (show wpList _ _ _ (⟨some 65, .binOp _ _ _ _ _, _, _, _, _⟩ :: _) _ _; refine wpList_val rfl (op_eqPt rfl rfl rfl HOK.out HYOK.out HEQ.out) ?_; go_frame)
                    )
                  go_roundw
                  case rel => exact ⟨j + 1, by go_num, hlt3, HB2, hS.sel (by repeat (first | exact Sel.refl | refine Sel.take (by repeat (first | exact t0 | apply tS)) ?_ | apply Sel.drop))⟩
                  case measure => simp [intOf]; omega
              · have HA2 : Hid (∀ i (hi : i < m.L.length) j (hj : j < i), i < k + 1 → ptOf m.L[i].1 ≠ ptOf m.L[j].1) := fun i hi j2 hj2 h => by
                  by_cases e : i = k
                  · subst e
                    rw [HAT.out.2]
                    exact HB.out j2 (by omega) (by omega)
                  · exact HA.out i hi j2 hj2 (by omega)
                clear HA HB
                go_wp2_with fail
                go_roundw
                case rel => exact ⟨k + 1, by go_num, hlt2, HA2, hS.sel (by repeat (first | exact Sel.refl | refine Sel.take (by repeat (first | exact t0 | apply tS)) ?_ | apply Sel.drop))⟩
                case measure => simp [intOf]; omega
          · have e : c = 0 := by rw [HCE.out, twice_none fun i hi j hj => HA.out i hi j hj (by omega)]; rfl
            subst e
            go_wp2_with fail
            go_ret
            exact ⟨rfl, hS.sel (by repeat (first | exact Sel.refl | refine Sel.take (by repeat (first | exact t0 | apply tS)) ?_ | apply Sel.drop))⟩
end
end Go.Proofs.YtieobcaegegboaaDoor
