/- With opened locks a transaction is taken as soon as there is enough; with one less it is not: the law returns true. Conditions: those that stand ahead of each theorem. -/
import Derived.Test.YtieobcaegegboaaDoorGWfC
namespace Go.Proofs.YtieobcaegegboaaDoor
open Go Go.RowKit Go.Px Go.Sha Go.Calc Go.WideMaps
def lkO (p : PIn × Value) : POut := ⟨0, sum p.1.key⟩
theorem out_flat (o : POut) : Flat [outC o] := by
  intro x hx v hv
  rw [List.mem_singleton.1 hx] at hv
  exact outC_one o v hv
theorem lockB_lk {L : List (PIn × Value)} {l : List POut} (h : l.map POut.lock = L.map fun p => sum p.1.key) : lockB sum (L.map (·.1)) l = true := by
  refine lock_of fun k h1 h2 => ?_
  have g1 : k < L.length := by simpa using h1
  have e : (l.map POut.lock)[k]? = (L.map fun p => sum p.1.key)[k]? := by rw [h]
  rw [List.getElem?_map, List.getElem?_map, List.getElem?_eq_getElem h2, List.getElem?_eq_getElem g1] at e
  simp only [Option.map_some, Option.some.injEq] at e
  rw [List.getElem_map]
  exact e.symm
theorem lkO_zero (L : List (PIn × Value)) : sumO (L.map lkO) = 0 := by
  induction L with
  | nil => rfl
  | cons p L ih => exact (Nat.zero_add _).trans ih
theorem lkO_ok (L : List (PIn × Value)) : ∀ o ∈ L.map lkO, OOk o := by
  intro o ho
  obtain ⟨p, _, rfl⟩ := List.mem_map.1 ho
  exact ⟨Nat.zero_lt_succ _, sum_len _⟩
theorem lkO_lock (L : List (PIn × Value)) : (L.map lkO).map POut.lock = L.map fun p => sum p.1.key := by
  rw [List.map_map]
  rfl
theorem sumO_cons (o : POut) (l : List POut) : sumO (o :: l) = o.value + sumO l := rfl
theorem sumO_pos {l : List POut} (hne : l ≠ []) (h : ∀ o ∈ l, 0 < o.value) : 0 < sumO l := by
  cases l with
  | nil => exact absurd rfl hne
  | cons o l =>
    have := h o (by simp)
    rw [sumO_cons]
    omega
set_option maxRecDepth 100000 in
theorem buildOL (lk : List Byte) (h : lk.length = 32) (w : World) : (Instr.build 60 #[(1, .agg (lk.map B8).toArray)]).run Tryd.prog w = .ok (.agg (outC ⟨0, lk⟩).toArray) w := by
  match lk, h with
  | [a0, a1, a2, a3, a4, a5, a6, a7, a8, a9, a10, a11, a12, a13, a14, a15, a16, a17, a18, a19, a20, a21, a22, a23, a24, a25, a26, a27, a28, a29, a30, a31], _ => exact run_build w 60 _ _ (by kernel_rfl)
set_option maxRecDepth 100000 in
theorem buildO0 (w : World) : (Instr.build 60 #[]).run Tryd.prog w = .ok (.agg (outC ⟨0, z32⟩).toArray) w := run_build w 60 _ _ (by kernel_rfl)
theorem op_u32u64 {o : Oper} {ρ : Operand → Value} {w : World} {s d : TypeId} {sd : TypeDesc} (hs : Tryd.prog.underlying s = some sd) (hd : Tryd.prog.underlying d = some (.int .u64)) {x : Operand} (ho : o.op = .convert s d x) {n : Nat} (hx : ρ x = N32 n) (hb : n < 4294967296) : (execOp ρ o).run Tryd.prog w = .ok (.value (U n)) w := by
  rw [op_convert hs hd ho hx]
  have e : IntKind.u64.wrap (n : Int) = n := by rw [Go.Px.wrap64]; omega
  rw [e]
  rfl
theorem of_p {W w : World} {F : List Hp} {m : MT} {vp : Value} {prev : List POut} (hS : SepL All W w (.own 60 33 vp (prev.map outC) :: F)) (hK : CIn All W 3 (kTab.map W32)) (hF : CIn All W 0 (first.map W32)) (ht : TxIn All W m) (hp : ∀ o ∈ prev, OOk o) :
    Calls Tryd.prog 13 #[txV m, vp] w (Ret fun r w' => r = .tuple #[U (payN sum m.pt prev).1, .int .i64 (((payN sum m.pt prev).2 : Nat) : Int)] ∧ SepL All W w' (.own 60 33 vp (prev.map outC) :: F)) := by
  obtain ⟨R1, h1, h2, h3, h4⟩ := hS.freezeOwn
  refine Ret.calls (of_s h1 (kTab_mv hK h3) (first_mv hF h3) (ht.mv h3) ⟨h2, hp⟩) ?_
  rintro r w' ⟨h5, h6⟩
  exact ⟨h5, h4 w' _ h6⟩
set_option maxRecDepth 100000 in
set_option maxHeartbeats 8000000 in
theorem feeTakes_w {W : World} (hK : CIn All W 3 (kTab.map W32)) (hF : CIn All W 0 (first.map W32)) {m : MT} (ht : TxIn All W m) {more : Nat} (hm : more < 4294967296) :
    Calls Tryd.prog 6 #[txV m, N32 more] W (Ret fun r w' => r = .bool true ∧ Chg No W w') := by
  have hS := SepL.start W
  obtain ⟨g, hg⟩ : ∃ g, greatB m.pt 0 = g := ⟨_, rfl⟩
  have HGR : Hid (∀ {w : World} {F : List Hp}, SepL All W w F → Calls Tryd.prog 12 #[txV m, .slice none 0 0] w (Ret fun r w' => r = .bool g ∧ SepL All W w' F)) := fun hS => great_s (prev := []) hS ht (RdIn.nil 33) hg
  obtain ⟨c, hc⟩ : ∃ c, checkN m.pt = c := ⟨_, rfl⟩
  have HC := hide hc
  have HCK : Hid (∀ {w : World} {F : List Hp}, SepL All W w F → Calls Tryd.prog 26 #[txV m] w (Ret fun r w' => r = .int .i64 c ∧ SepL All W w' F)) := fun hS => by
    have g := check_s hS ht
    rwa [hc] at g
  clear hg hc
  cases g with
  | true =>
    go_enter Tryd.func6, Tryd.ntmps6
    go_wp2_with (first
      | go_big_skip
      | (show wpList _ _ _ (⟨some 2, .box _ _, _, _, _, _⟩ :: _) _ _; refine wpS_boxA (cs := [N32 m.ver, m.iv, m.ov]) hS rfl rfl rfl ?_; clear hS; intro n1 w hS; go_frame)
      | (go_at_call 11; refine Ret.calls (alive_s hS hK hF) ?_; clear hS; rintro r1 w ⟨rfl, hS⟩)
      | (show wpList _ _ _ (⟨_, .load 26 _, _, _, _, _⟩ :: _) _ _; refine wpList_val rfl (op_load aggTx rfl rfl (SepL.getBlk (b := n1) (T := 26) ((hS.bring (by repeat (first | exact t0 | apply tS))))).cells rfl) ?_; go_frame)
      | (go_at_call 12; refine Ret.calls (HGR.out hS) ?_; clear hS; rintro r1 w ⟨rfl, hS⟩)
      )
    go_ret
    exact ⟨rfl, (hS.sel (M := []) (by repeat (first | exact Sel.refl | refine Sel.take (by repeat (first | exact t0 | apply tS)) ?_ | apply Sel.drop))).chg⟩
  | false =>
  by_cases hc0 : c ≠ 0
  · have H1 : Hid (((c : Int) != 0) = true) := neT (by omega)
    clear hc0 HC
    go_enter Tryd.func6, Tryd.ntmps6
    go_wp2_with (first
      | go_big_skip
      | (show wpList _ _ _ (⟨some 2, .box _ _, _, _, _, _⟩ :: _) _ _; refine wpS_boxA (cs := [N32 m.ver, m.iv, m.ov]) hS rfl rfl rfl ?_; clear hS; intro n1 w hS; go_frame)
      | (go_at_call 11; refine Ret.calls (alive_s hS hK hF) ?_; clear hS; rintro r1 w ⟨rfl, hS⟩)
      | (show wpList _ _ _ (⟨_, .load 26 _, _, _, _, _⟩ :: _) _ _; refine wpList_val rfl (op_load aggTx rfl rfl (SepL.getBlk (b := n1) (T := 26) ((hS.bring (by repeat (first | exact t0 | apply tS))))).cells rfl) ?_; go_frame)
      | (go_at_call 12; refine Ret.calls (HGR.out hS) ?_; clear hS; rintro r1 w ⟨rfl, hS⟩)
      | (go_at_call 26; refine Ret.calls (HCK.out hS) ?_; clear hS; rintro r1 w ⟨rfl, hS⟩)
      | (show wpList _ _ _ (⟨some 24, .binOp _ _ _ _ _, _, _, _, _⟩ :: _) _ _; refine wpList_val rfl (op_ineI rfl rfl rfl H1.out) ?_; go_frame)
      )
    go_ret
    exact ⟨rfl, (hS.sel (M := []) (by repeat (first | exact Sel.refl | refine Sel.take (by repeat (first | exact t0 | apply tS)) ?_ | apply Sel.drop))).chg⟩
  replace hc0 : c = 0 := Classical.not_not.1 hc0
  have HC0 : Hid (checkN m.pt = 0) := HC.out.trans hc0
  have H1 : Hid (((c : Int) != 0) = false) := neF (by omega)
  clear hc0 HC
  have hok := check_ok.1 HC0.out
  have hsm := hok.small
  obtain ⟨n, hn⟩ : ∃ n, m.L.length = n := ⟨_, rfl⟩
  obtain ⟨q, hq⟩ : ∃ q, m.outs.length = q := ⟨_, rfl⟩
  have HNL : Hid ((m.L.map inC).length = n) := by unfold Hid; rw [List.length_map, hn]
  have HNO : Hid ((m.outs.map outC).length = q) := by unfold Hid; rw [List.length_map, hq]
  have HRI := hide ht.ins
  have HRO := hide ht.outs.rd
  have HKEY := hide ht.key
  have HIOK := hide ht.iok
  have HOOK := hide ht.outs.ok
  have HKL : Hid (∀ p ∈ m.L, p.1.key.length ≤ 64) := fun p hp => hsm.1 p.1 (List.mem_map.2 ⟨p, hp, rfl⟩)
  have hn8 : n ≤ 8 := by
    have := hsm.2.1
    unfold MT.pt at this
    rwa [List.length_map, hn] at this
  have hq8 : q ≤ 8 := by rw [← hq]; exact hsm.2.2.1
  obtain ⟨t, hts⟩ : ∃ t, sumO m.outs = t := ⟨_, rfl⟩
  have ht1 : 0 < t := by rw [← hts]; exact sumO_pos hok.outs fun o ho => (hsm.2.2.2.1 o ho).1
  have ht2 : t ≤ 1125899906842624 := by rw [← hts]; exact hsm.2.2.2.2
  have HB : Hid (∀ o ∈ m.outs, o.value ≤ 1125899906842624) := fun o ho => (hsm.2.2.2.1 o ho).2
  have hpo : m.pt.outs = m.outs := rfl
  obtain ⟨h0, R, hR, hRl, hR0, hRo, hRk⟩ : ∃ h0 R, m.L.map lkO = ⟨0, h0⟩ :: R ∧ R.length + 1 = n ∧ sumO R = 0 ∧ (∀ v, v < 18446744073709551616 → ∀ o ∈ (⟨v, h0⟩ :: R : List POut), OOk o) ∧ ∀ v, (⟨v, h0⟩ :: R : List POut).map POut.lock = m.L.map fun p => sum p.1.key := by
    have hne : m.L ≠ [] := fun h => hok.ins (by unfold MT.pt; rw [h]; rfl)
    have e1 := lkO_ok m.L
    have e2 := lkO_lock m.L
    cases hL : m.L with
    | nil => exact absurd hL hne
    | cons p L =>
      rw [hL] at e1 e2 hn
      refine ⟨sum p.1.key, L.map lkO, rfl, by rw [List.length_map]; exact hn, lkO_zero L, fun v hv o ho => ?_, fun v => e2⟩
      rcases List.mem_cons.1 ho with rfl | ho
      · exact ⟨hv, sum_len _⟩
      · exact e1 o (List.mem_cons_of_mem _ ho)
  have HR := hide hR
  have HRL : Hid ((R.map outC).length = n - 1) := by unfold Hid; rw [List.length_map]; omega
  obtain ⟨v1, hv1⟩ : ∃ v1, t + more = v1 := ⟨_, rfl⟩
  obtain ⟨v2s, hv2⟩ : ∃ v2, t - 1 = v2 := ⟨_, rfl⟩
  have HV1 : Hid ((t + more) % 18446744073709551616 = v1) := by unfold Hid; omega
  have HV2 : Hid (((t : Int) - (1 : Nat)) % 18446744073709551616 = v2s) := by unfold Hid; omega
  have hlen : ∀ v, (⟨v, h0⟩ :: R : List POut).length = m.pt.ins.length := fun v => by
    unfold MT.pt
    rw [List.length_cons, List.length_map]
    omega
  have C1 : Hid (∀ (u : Value) (F : List Hp) (w : World), SepL All W w (.own 60 33 u (outC ⟨v1, h0⟩ :: R.map outC) :: F) → Calls Tryd.prog 13 #[txV m, u] w (Ret fun r w' => r = .tuple #[U more, .int .i64 0] ∧ SepL All W w' (.own 60 33 u (outC ⟨v1, h0⟩ :: R.map outC) :: F))) := fun u F w hS => by
    have g := of_p (prev := ⟨v1, h0⟩ :: R) hS hK hF ht (hRo v1 (by omega))
    rw [pay_yes HC0.out (hlen v1) (lockB_lk (hRk v1)) (by rw [sumO_cons, hR0]; show v1 + 0 < _; omega) (by rw [sumO_cons, hR0, hpo, hts]; show t ≤ v1 + 0; omega), sumO_cons, hR0, hpo, hts, show (⟨v1, h0⟩ : POut).value + 0 - t = more from (show v1 + 0 - t = more by omega)] at g
    exact g
  have C2 : Hid (∀ (u : Value) (F : List Hp) (w : World), SepL All W w (.own 60 33 u (outC ⟨v2s, h0⟩ :: R.map outC) :: F) → Calls Tryd.prog 13 #[txV m, u] w (Ret fun r w' => r = .tuple #[U 0, .int .i64 11] ∧ SepL All W w' (.own 60 33 u (outC ⟨v2s, h0⟩ :: R.map outC) :: F))) := fun u F w hS => by
    have g := of_p (prev := ⟨v2s, h0⟩ :: R) hS hK hF ht (hRo v2s (by omega))
    rw [pay_money HC0.out (hlen v2s) (lockB_lk (hRk v2s)) (by rw [sumO_cons, hR0, hpo, hts]; show ¬ (v2s + 0 < _ ∧ t ≤ v2s + 0); omega)] at g
    exact g
  have C3 : Hid (∀ (u : Value) (F : List Hp) (w : World), SepL All W w (.own 60 33 u ((outC ⟨v2s, h0⟩ :: R.map outC) ++ [outC ⟨0, z32⟩]) :: F) → Calls Tryd.prog 13 #[txV m, u] w (Ret fun r w' => r = .tuple #[U 0, .int .i64 2] ∧ SepL All W w' (.own 60 33 u ((outC ⟨v2s, h0⟩ :: R.map outC) ++ [outC ⟨0, z32⟩]) :: F))) := fun u F w hS => by
    have e : (outC ⟨v2s, h0⟩ :: R.map outC) ++ [outC ⟨0, z32⟩] = ((⟨v2s, h0⟩ :: R : List POut) ++ ([⟨0, z32⟩] : List POut)).map outC := by rw [List.map_append]; rfl
    rw [e] at hS ⊢
    have g := of_p hS hK hF ht (by
      intro o ho
      rcases List.mem_append.1 ho with ho | ho
      · exact hRo v2s (by omega) o ho
      · rw [List.mem_singleton.1 ho]
        exact ⟨Nat.zero_lt_succ _, rfl⟩)
    rw [pay_len HC0.out (by rw [List.length_append, hlen v2s]; simp)] at g
    exact g
  have H0 : Hid (((m.L.take 0).map lkO).map outC = []) := by unfold Hid; rw [List.take_zero]; rfl
  have HEND : Hid (((m.L.take n).map lkO).map outC = outC ⟨0, h0⟩ :: R.map outC) := by
    unfold Hid
    rw [List.take_of_length_le (by omega), hR]
    rfl
  have HK1 : Hid (∀ v : Nat, 0 < (outC ⟨v, h0⟩ :: R.map outC).length) := fun v => Nat.succ_pos _
  have hqs : Hid (((m.outs.map POut.value).take q).sum = t) := by
    unfold Hid
    rw [List.take_of_length_le (by rw [List.length_map]; omega)]
    exact hts
  clear hok hsm hR hRl hR0 hRo hRk hlen hv1 hv2 hpo hts
  go_enter Tryd.func6, Tryd.ntmps6
  go_wp2_with (first
    | go_big_skip
    | (show wpList _ _ _ (⟨some 2, .box _ _, _, _, _, _⟩ :: _) _ _; refine wpS_boxA (cs := [N32 m.ver, m.iv, m.ov]) hS rfl rfl rfl ?_; clear hS; intro n1 w hS; go_frame)
    | (go_at_call 11; refine Ret.calls (alive_s hS hK hF) ?_; clear hS; rintro r1 w ⟨rfl, hS⟩)
    | (show wpList _ _ _ (⟨_, .load 26 _, _, _, _, _⟩ :: _) _ _; refine wpList_val rfl (op_load aggTx rfl rfl (SepL.getBlk (b := n1) (T := 26) ((hS.bring (by repeat (first | exact t0 | apply tS))))).cells rfl) ?_; go_frame)
    | (go_at_call 12; refine Ret.calls (HGR.out hS) ?_; clear hS; rintro r1 w ⟨rfl, hS⟩)
    | (go_at_call 26; refine Ret.calls (HCK.out hS) ?_; clear hS; rintro r1 w ⟨rfl, hS⟩)
    | (show wpList _ _ _ (⟨some 24, .binOp _ _ _ _ _, _, _, _, _⟩ :: _) _ _; refine wpList_val rfl (op_ineI rfl rfl rfl H1.out) ?_; go_frame)
    | (show wpList _ _ _ (⟨_, .load 23 _, _, _, _, _⟩ :: _) _ _; refine wpList_val rfl (op_load1S (b := n1) (T := 26) oneIns ((hS.bring (by repeat (first | exact t0 | apply tS)))) rfl rfl rfl) ?_; go_frame)
    | (show wpList _ _ _ (⟨_, .load 24 _, _, _, _, _⟩ :: _) _ _; refine wpList_val rfl (op_load1S (b := n1) (T := 26) oneOuts ((hS.bring (by repeat (first | exact t0 | apply tS)))) rfl rfl rfl) ?_; go_frame)
    | (show wpList _ _ _ (⟨some 28, .call _, _, _, _, _⟩ :: _) _ _; refine wpList_val rfl (op_len slIns rfl rfl (v := m.iv) (xs := m.L.map inC) rfl (by exact hS.rd HRI.out)) ?_; rw [HNL.out]; go_frame)
    )
  have hS1 := hS.nilOwn 60 33
  rw [← H0.out] at hS1
  go_loopw [29, 5] (fun kv v wr => ∃ k : Nat, kv = .int .i64 k ∧ k ≤ n ∧ SepL All W wr (.own 60 33 v (((m.L.take k).map lkO).map outC) :: [.blk n1 26 [N32 m.ver, m.iv, m.ov]])) (fun kv _ _ => n - (intOf kv).toNat)
  case atStart => exact ⟨0, rfl, Nat.zero_le _, hS1⟩
  case round =>
    clear hS hS1 H0
    obtain ⟨k, rfl, hk, hS⟩ := hrel
    by_cases hlt : k < n
    ·
      have hkL : k < m.L.length := by omega
      have hkr : k < (m.L.map inC).length := by rw [List.length_map]; exact hkL
      obtain ⟨p, hp⟩ : ∃ p, m.L[k] = p := ⟨_, rfl⟩
      have hpm : p ∈ m.L := hp ▸ List.getElem_mem hkL
      have HX : Hid ((m.L.map inC)[k] = inC p) := by unfold Hid; rw [List.getElem_map, hp]
      have hok := HIOK.out p hpm
      have HOK := hide hok
      have HXL : Hid ((inC p).length = 34) := inC_len hok
      have HX1 : Hid (∀ v ∈ inC p, v.oneCell' = true) := inC_one (slice_one (HKEY.out p hpm)).1
      have HPT : Hid ((inC p).take 33 = ptC p.1) := inC_pt hok
      have HPL : Hid ((ptC p.1).length = 33) := ptC_len hok
      have HAT : Hid (∃ h : k < m.L.length, m.L[k] = p) := ⟨hkL, hp⟩

      have HX33 : Hid ((inC p)[33]? = some p.2) := inC_key hok
      have hk64 := HKL.out p hpm
      obtain ⟨lk, hlk⟩ : ∃ lk, sum p.1.key = lk := ⟨_, rfl⟩
      have HLKL : Hid (lk.length = 32) := by unfold Hid; rw [← hlk, sum_len]
      have HOL : Hid ((outC ⟨0, lk⟩).length = 33) := outC_len ⟨Nat.zero_lt_succ _, HLKL.out⟩
      have HLK : Hid (∀ {w : World} {F : List Hp}, SepL All W w F → Calls Tryd.prog 15 #[p.2] w (Ret fun r w' => r = .agg (lk.map B8).toArray ∧ SepL All W w' F)) := fun hS => by
        have g := lock_s hS hK hF (HKEY.out p hpm) (by omega)
        rwa [hlk] at g
      have HNX : Hid (((m.L.take k).map lkO).map outC ++ [outC ⟨0, lk⟩] = ((m.L.take (k + 1)).map lkO).map outC) := by
        unfold Hid
        rw [List.take_add_one, List.getElem?_eq_getElem hkL, hp, List.map_append, List.map_append, ← hlk]
        rfl
      have HTL : Hid ((((m.L.take k).map lkO).map outC).length = k) := by
        unfold Hid
        rw [List.length_map, List.length_map, List.length_take]
        omega
      clear hpm hp hlk hok HOK
      go_wp2_with (first
        | (show wpList _ _ _ (⟨_, .indexAddr 23 _ _, _, _, _, _⟩ :: _) _ _; refine wpList_val rfl (op_indexAddr slIns rfl (v := m.iv) (xs := m.L.map inC) rfl (k := k) rfl (by exact hS.rd HRI.out) hkr) ?_; go_frame)
        | (show wpList _ _ _ (⟨_, .load 39 _, _, _, _, _⟩ :: _) _ _; refine wpList_val rfl (op_loadE aggIn rfl (v := m.iv) (xs := m.L.map inC) (k := k) rfl (by exact hS.rd HRI.out) hkr) ?_; rw [HX.out]; go_frame)
        | (show wpList _ _ _ (⟨_, .alloc 39, _, _, _, _⟩ :: _) _ _; refine wpS_alloc hS rfl rfl zeroIn (zs := zIn) rfl ?_; clear hS; intro nx w hS; go_frame)
        | (show wpList _ _ _ (⟨_, .store 39 _ _, _, _, _, _⟩ :: _) _ _; (refine wpS_storeAll (b := nx) aggIn (hS.bring (by repeat (first | exact t0 | apply tS))) rfl rfl rfl (vs := inC p) rfl HXL.out HX1.out rfl ?_); clear hS; intro w hS; go_frame)
        | (show wpList _ _ _ (⟨some 35, .load _ _, _, _, _, _⟩ :: _) _ _; refine wpList_val rfl (op_load1S (b := nx) (T := 39) oneBytes ((hS.bring (by repeat (first | exact t0 | apply tS)))) rfl rfl HX33.out) ?_; go_frame)
        | (go_at_call 15; refine Ret.calls (HLK.out hS) ?_; clear hS; rintro r1 w ⟨rfl, hS⟩)
        | (show wpList _ _ _ (⟨some 37, .build _ _, _, _, _, _⟩ :: _) _ _; refine wpList_val rfl (op_build (ps := #[(1, .agg (lk.map B8).toArray)]) rfl rfl (buildOL lk HLKL.out) _) ?_; go_frame)
        | (show wpList _ _ _ (⟨some 38, .buildSlice _ _ _, _, _, _, _⟩ :: _) _ _; refine wpS_build1A slOuts (by omega) hS rfl rfl (cs := outC ⟨0, lk⟩) rfl HOL.out ?_; clear hS; intro v2 w hS; go_frame)
        | (show wpList _ _ _ (⟨some 39, .call _, _, _, _, _⟩ :: _) _ _; replace hS := hS.sel (M := .own 60 33 u5 (((m.L.take k).map lkO).map outC) :: .own 60 33 v2 [outC ⟨0, lk⟩] :: [.blk n1 26 [N32 m.ver, m.iv, m.ov]]) (by repeat (first | exact Sel.refl | refine Sel.take (by repeat (first | exact t0 | apply tS)) ?_ | apply Sel.drop)); refine wpS_append slOuts hS rfl rfl rfl rfl (by exact hS.tail.getOwn.rd) (by exact out_flat _) (by rw [HTL.out]; simp only [List.length_cons, List.length_nil]; omega) (by rw [HTL.out]; simp only [maxLen, List.length_cons, List.length_nil]; omega) ?_; clear hS; intro v3 w hS; rw [HNX.out] at hS; go_frame)
        )
      go_roundw
      case rel => exact ⟨k + 1, by go_num, hlt, hS.sel (by repeat (first | exact Sel.refl | refine Sel.take (by repeat (first | exact t0 | apply tS)) ?_ | apply Sel.drop))⟩
      case measure => simp [intOf]; omega
    ·
      have hkn : k = n := by omega
      have HALL : Hid (((m.L.take k).map lkO).map outC = outC ⟨0, h0⟩ :: R.map outC) := by
        unfold Hid
        rw [hkn]
        exact HEND.out
      rw [HALL.out] at hS
      clear hkn HALL
      go_wp2_with (first
        | (show wpList _ _ _ (⟨_, .load 23 _, _, _, _, _⟩ :: _) _ _; refine wpList_val rfl (op_load1S (b := n1) (T := 26) oneIns ((hS.bring (by repeat (first | exact t0 | apply tS)))) rfl rfl rfl) ?_; go_frame)
        | (show wpList _ _ _ (⟨_, .load 24 _, _, _, _, _⟩ :: _) _ _; refine wpList_val rfl (op_load1S (b := n1) (T := 26) oneOuts ((hS.bring (by repeat (first | exact t0 | apply tS)))) rfl rfl rfl) ?_; go_frame)
        | (show wpList _ _ _ (⟨some 43, .call _, _, _, _, _⟩ :: _) _ _; refine wpList_val rfl (op_len slOuts rfl rfl (v := m.ov) (xs := m.outs.map outC) rfl (by exact hS.rd HRO.out)) ?_; rw [HNO.out]; go_frame)
        )
      go_loopw [44, 8] (fun kv sv wr => ∃ j s : Nat, kv = .int .i64 j ∧ sv = U s ∧ j ≤ q ∧ s ≤ j * 1125899906842624 ∧ Hid (s = ((m.outs.map POut.value).take j).sum) ∧ SepL All W wr (.own 60 33 u5 (outC ⟨0, h0⟩ :: R.map outC) :: [.blk n1 26 [N32 m.ver, m.iv, m.ov]])) (fun kv _ _ => q - (intOf kv).toNat)
      case atStart => exact ⟨0, 0, rfl, rfl, Nat.zero_le _, Nat.zero_le _, rfl, hS⟩
      case round =>
        clear hS
        obtain ⟨k, s, rfl, rfl, hk, hs, HS, hS⟩ := hrel
        by_cases hlt : k < q
        ·
          have hkL : k < m.outs.length := by omega
          have hkr : k < (m.outs.map outC).length := by rw [List.length_map]; exact hkL
          obtain ⟨o, ho⟩ : ∃ o, m.outs[k] = o := ⟨_, rfl⟩
          have hom : o ∈ m.outs := ho ▸ List.getElem_mem hkL
          have HX : Hid ((m.outs.map outC)[k] = outC o) := by unfold Hid; rw [List.getElem_map, ho]
          have HXL : Hid ((outC o).length = 33) := outC_len (HOOK.out o hom)
          have hov := (HOOK.out o hom).1
          have HAT : Hid (∃ h : k < m.outs.length, m.outs[k] = o) := ⟨hkL, ho⟩
          obtain ⟨v, hv⟩ : ∃ v, o.value = v := ⟨_, rfl⟩
          have HV := hide hv
          rw [hv] at hov
          clear hom ho hv
          have hvb : v ≤ 1125899906842624 := by
            obtain ⟨h1, h2⟩ := HAT.out
            rw [← HV.out, ← h2]
            exact HB.out _ (List.getElem_mem h1)
          have hsv : s + v < 18446744073709551616 := by omega
          have HS2 : Hid (s + v = ((m.outs.map POut.value).take (k + 1)).sum) := by
            have g := money_next HAT.out HS.out
            rwa [HV.out] at g
          go_wp2_with (first
            | (show wpList _ _ _ (⟨_, .indexAddr 24 _ _, _, _, _, _⟩ :: _) _ _; refine wpList_val rfl (op_indexAddr slOuts rfl (v := m.ov) (xs := m.outs.map outC) rfl (k := k) rfl (by exact hS.rd HRO.out) hkr) ?_; go_frame)
            | (show wpList _ _ _ (⟨_, .load 60 _, _, _, _, _⟩ :: _) _ _; refine wpList_val rfl (op_loadE aggOut rfl (v := m.ov) (xs := m.outs.map outC) (k := k) rfl (by exact hS.rd HRO.out) hkr) ?_; rw [HX.out]; go_frame)
            | (show wpList _ _ _ (⟨_, .alloc 60, _, _, _, _⟩ :: _) _ _; refine wpS_alloc hS rfl rfl zeroOut (zs := zOut) rfl ?_; clear hS; intro nx w hS; go_frame)
            | (show wpList _ _ _ (⟨_, .store 60 _ _, _, _, _, _⟩ :: _) _ _; (refine wpS_storeAll (b := nx) aggOut (hS.bring (by repeat (first | exact t0 | apply tS))) rfl rfl rfl (vs := outC o) rfl HXL.out (outC_one o) rfl ?_); clear hS; intro w hS; go_frame)
            | (show wpList _ _ _ (⟨_, .load 29 _, _, _, _, _⟩ :: _) _ _; refine wpList_val rfl (op_load1S (b := nx) (T := 60) oneU ((hS.bring (by repeat (first | exact t0 | apply tS)))) rfl rfl rfl) ?_; rw [HV.out]; go_frame)
            | (show wpList _ _ _ (⟨some 51, .binOp _ _ _ _ _, _, _, _, _⟩ :: _) _ _; refine wpList_val rfl (opU_add rfl rfl rfl hsv) ?_; go_frame)
            )
          go_roundw
          case rel => exact ⟨k + 1, s + v, by go_num, rfl, hlt, by omega, HS2, hS.sel (by repeat (first | exact Sel.refl | refine Sel.take (by repeat (first | exact t0 | apply tS)) ?_ | apply Sel.drop))⟩
          case measure => simp [intOf]; omega
        ·
          obtain rfl : t = s := by
            have hkq : k = q := by omega
            rw [HS.out, hkq, hqs.out]
          clear HS hs
          go_wp2_with (first
            | go_big_skip
            | (show wpList _ _ _ (⟨some 56, .convert _ _ _, _, _, _, _⟩ :: _) _ _; refine wpList_val rfl (op_u32u64 undU32 undU64 rfl rfl hm) ?_; go_frame)
            | (show wpList _ _ _ (⟨some 57, .binOp _ _ _ _ _, _, _, _, _⟩ :: _) _ _; refine wpList_val rfl (opU_addW rfl rfl rfl v1 HV1.out) ?_; go_frame)
            | (show wpList _ _ _ (⟨some 58, .indexAddr _ _ _, _, _, _, _⟩ :: _) _ _; refine wpList_val rfl (op_indexAddr slOuts rfl (v := u5) (xs := outC ⟨0, h0⟩ :: R.map outC) rfl (k := 0) rfl ((hS.bring (by repeat (first | exact t0 | apply tS))).getOwn.rd) (HK1.out 0)) ?_; go_frame)
            | (show wpList _ _ _ (⟨some 59, .fieldAddr _ _ _, _, _, _, _⟩ :: _) _ _; refine wpList_val rfl (op_fieldAddrE (j := 0) (by kernel_rfl) rfl (n := 33) (k := 0) (v := u5) (xs := outC ⟨0, h0⟩ :: R.map outC) rfl ((hS.bring (by repeat (first | exact t0 | apply tS))).getOwn.rd) (HK1.out 0)) ?_; go_frame)
            | (show wpList _ _ _ (⟨_, .store 29 _ _, _, _, _, _⟩ :: _) _ _; (refine wpS_storeF1 (by kernel_rfl) (hS.bring (by repeat (first | exact t0 | apply tS))) rfl rfl (k := 0) (j := 0) (v := u5) (xs := outC ⟨0, h0⟩ :: R.map outC) rfl (u := U v1) rfl rfl rfl (HK1.out 0) (by omega) ?_); clear hS; intro w hS; replace hS : SepL All W w (.own 60 33 u5 (outC ⟨v1, h0⟩ :: R.map outC) :: [.blk n1 26 [N32 m.ver, m.iv, m.ov]]) := hS; go_frame)
            | (show wpList _ _ _ (⟨_, .load 26 _, _, _, _, _⟩ :: _) _ _; refine wpList_val rfl (op_load aggTx rfl rfl (SepL.getBlk (b := n1) (T := 26) ((hS.bring (by repeat (first | exact t0 | apply tS))))).cells rfl) ?_; go_frame)
            | (go_at_call 13; with_reducible refine Ret.calls (C1.out u5 _ _ hS) ?_; clear hS; rintro r1 w ⟨rfl, hS⟩)
            | (show wpList _ _ _ (⟨some 68, .binOp _ _ _ _ _, _, _, _, _⟩ :: _) _ _; refine wpList_val rfl (opU_subW rfl rfl (b := 1) rfl v2s HV2.out) ?_; go_frame)
            | (show wpList _ _ _ (⟨some 69, .indexAddr _ _ _, _, _, _, _⟩ :: _) _ _; refine wpList_val rfl (op_indexAddr slOuts rfl (v := u5) (xs := outC ⟨v1, h0⟩ :: R.map outC) rfl (k := 0) rfl ((hS.bring (by repeat (first | exact t0 | apply tS))).getOwn.rd) (HK1.out v1)) ?_; go_frame)
            | (show wpList _ _ _ (⟨some 70, .fieldAddr _ _ _, _, _, _, _⟩ :: _) _ _; refine wpList_val rfl (op_fieldAddrE (j := 0) (by kernel_rfl) rfl (n := 33) (k := 0) (v := u5) (xs := outC ⟨v1, h0⟩ :: R.map outC) rfl ((hS.bring (by repeat (first | exact t0 | apply tS))).getOwn.rd) (HK1.out v1)) ?_; go_frame)
            | (show wpList _ _ _ (⟨_, .store 29 _ _, _, _, _, _⟩ :: _) _ _; (refine wpS_storeF1 (by kernel_rfl) (hS.bring (by repeat (first | exact t0 | apply tS))) rfl rfl (k := 0) (j := 0) (v := u5) (xs := outC ⟨v1, h0⟩ :: R.map outC) rfl (u := U v2s) rfl rfl rfl (HK1.out v1) (by omega) ?_); clear hS; intro w hS; replace hS : SepL All W w (.own 60 33 u5 (outC ⟨v2s, h0⟩ :: R.map outC) :: [.blk n1 26 [N32 m.ver, m.iv, m.ov]]) := hS; go_frame)
            | (go_at_call 13; with_reducible refine Ret.calls (C2.out u5 _ _ hS) ?_; clear hS; rintro r1 w ⟨rfl, hS⟩)
            )
          refine wp_region_ord (by kernel_rfl) [2] [[0, 1, 2, 3, 4, 5, 6, 7, 8, 9, 10]] (by kernel_rfl) (by kernel_rfl) (fun w' => Blk w' n1 26 [N32 m.ver, m.iv, m.ov]) Up.blk ((hS.bring (by repeat (first | exact t0 | apply tS))).getBlk) (by repeat (first | exact Clean.body | refine Clean.then ?_ | refine Clean.inBlock ?_ | refine SegQ.clean ?_ | refine FinC.clean ?_)) ?_
          replace hS := hS.drew
          refine ord_seg (by repeat (first | exact Clean.body | refine Clean.then ?_ | refine Clean.inBlock ?_ | refine SegQ.clean ?_ | refine FinC.clean ?_)) (n := 6) (rest := [[5, 6, 7, 8, 9, 10]]) [0, 1, 2, 3, 4] [⟨_, _, _, _, _, _⟩, ⟨_, _, _, _, _, _⟩, ⟨_, _, _, _, _, _⟩, ⟨_, _, _, _, _, _⟩, ⟨_, _, _, _, _, _⟩] rfl (by kernel_rfl) (by simp) _ _ ?_
          go_wp2_with (first
            | (show wpList _ _ _ (⟨_, .load 26 _, _, _, _, _⟩ :: _) _ _; refine wpList_val rfl (op_load aggTx rfl rfl (SepL.getBlk (b := n1) (T := 26) ((hS.bring (by repeat (first | exact t0 | apply tS))))).cells rfl) ?_; go_frame)
            | (show wpList _ _ _ (⟨some 80, .build _ _, _, _, _, _⟩ :: _) _ _; refine wpList_val rfl (op_build (ps := #[]) rfl rfl buildO0 _) ?_; go_frame)
            | (show wpList _ _ _ (⟨some 81, .buildSlice _ _ _, _, _, _, _⟩ :: _) _ _; refine wpS_build1A slOuts (by omega) hS rfl rfl (cs := outC ⟨0, z32⟩) rfl rfl ?_; clear hS; intro v2 w hS; go_frame)
            | (show wpList _ _ _ (⟨some 82, .call _, _, _, _, _⟩ :: _) _ _; replace hS := hS.sel (M := .own 60 33 u5 (outC ⟨v2s, h0⟩ :: R.map outC) :: .own 60 33 v2 [outC ⟨0, z32⟩] :: [.blk n1 26 [N32 m.ver, m.iv, m.ov]]) (by repeat (first | exact Sel.refl | refine Sel.take (by repeat (first | exact t0 | apply tS)) ?_ | apply Sel.drop)); refine wpS_append slOuts hS rfl rfl rfl rfl (by exact hS.tail.getOwn.rd) (by exact out_flat _) (by simp only [List.length_cons, List.length_nil, HRL.out]; omega) (by simp only [List.length_cons, List.length_nil, HRL.out, maxLen]; omega) ?_; clear hS; intro v3 w hS; go_frame)
            | (go_at_call 13; with_reducible refine Ret.calls (C3.out v3 _ _ hS) ?_; clear hS; rintro r1 w ⟨rfl, hS⟩)
            )
          refine segQ_mk (((hS.bring (by repeat (first | exact t0 | apply tS))).getBlk) : Blk _ n1 26 [N32 m.ver, m.iv, m.ov]) ?_
          refine ord_seg (by repeat (first | exact Clean.body | refine Clean.then ?_ | refine Clean.inBlock ?_ | refine SegQ.clean ?_ | refine FinC.clean ?_)) (n := 5) (rest := [[6, 7, 8, 9, 10]]) [5] [⟨_, _, _, _, _, _⟩] rfl (by kernel_rfl) (by simp) _ _ ?_
          go_wp2_with (first
            | (show wpList _ _ _ (⟨_, .load 26 _, _, _, _, _⟩ :: _) _ _; refine wpList_val rfl (op_load aggTx rfl rfl (SepL.getBlk (b := n1) (T := 26) ((hS.bring (by repeat (first | exact t0 | apply tS))))).cells rfl) ?_; go_frame)
            | (show wpList _ _ _ (⟨some 80, .build _ _, _, _, _, _⟩ :: _) _ _; refine wpList_val rfl (op_build (ps := #[]) rfl rfl buildO0 _) ?_; go_frame)
            | (show wpList _ _ _ (⟨some 81, .buildSlice _ _ _, _, _, _, _⟩ :: _) _ _; refine wpS_build1A slOuts (by omega) hS rfl rfl (cs := outC ⟨0, z32⟩) rfl rfl ?_; clear hS; intro v2 w hS; go_frame)
            | (show wpList _ _ _ (⟨some 82, .call _, _, _, _, _⟩ :: _) _ _; replace hS := hS.sel (M := .own 60 33 u5 (outC ⟨v2s, h0⟩ :: R.map outC) :: .own 60 33 v2 [outC ⟨0, z32⟩] :: [.blk n1 26 [N32 m.ver, m.iv, m.ov]]) (by repeat (first | exact Sel.refl | refine Sel.take (by repeat (first | exact t0 | apply tS)) ?_ | apply Sel.drop)); refine wpS_append slOuts hS rfl rfl rfl rfl (by exact hS.tail.getOwn.rd) (by exact out_flat _) (by simp only [List.length_cons, List.length_nil, HRL.out]; omega) (by simp only [List.length_cons, List.length_nil, HRL.out, maxLen]; omega) ?_; clear hS; intro v3 w hS; go_frame)
            | (go_at_call 13; with_reducible refine Ret.calls (C3.out v3 _ _ hS) ?_; clear hS; rintro r1 w ⟨rfl, hS⟩)
            )
          refine segQ_mk (((hS.bring (by repeat (first | exact t0 | apply tS))).getBlk) : Blk _ n1 26 [N32 m.ver, m.iv, m.ov]) ?_
          refine ord_seg (by repeat (first | exact Clean.body | refine Clean.then ?_ | refine Clean.inBlock ?_ | refine SegQ.clean ?_ | refine FinC.clean ?_)) (n := 0) (rest := [[]]) [6, 7, 8, 9, 10] [⟨_, _, _, _, _, _⟩, ⟨_, _, _, _, _, _⟩, ⟨_, _, _, _, _, _⟩, ⟨_, _, _, _, _, _⟩, ⟨_, _, _, _, _, _⟩] rfl (by kernel_rfl) (by simp) _ _ ?_
          go_wp2_with (first
            | (show wpList _ _ _ (⟨_, .load 26 _, _, _, _, _⟩ :: _) _ _; refine wpList_val rfl (op_load aggTx rfl rfl (SepL.getBlk (b := n1) (T := 26) ((hS.bring (by repeat (first | exact t0 | apply tS))))).cells rfl) ?_; go_frame)
            | (show wpList _ _ _ (⟨some 80, .build _ _, _, _, _, _⟩ :: _) _ _; refine wpList_val rfl (op_build (ps := #[]) rfl rfl buildO0 _) ?_; go_frame)
            | (show wpList _ _ _ (⟨some 81, .buildSlice _ _ _, _, _, _, _⟩ :: _) _ _; refine wpS_build1A slOuts (by omega) hS rfl rfl (cs := outC ⟨0, z32⟩) rfl rfl ?_; clear hS; intro v2 w hS; go_frame)
            | (show wpList _ _ _ (⟨some 82, .call _, _, _, _, _⟩ :: _) _ _; replace hS := hS.sel (M := .own 60 33 u5 (outC ⟨v2s, h0⟩ :: R.map outC) :: .own 60 33 v2 [outC ⟨0, z32⟩] :: [.blk n1 26 [N32 m.ver, m.iv, m.ov]]) (by repeat (first | exact Sel.refl | refine Sel.take (by repeat (first | exact t0 | apply tS)) ?_ | apply Sel.drop)); refine wpS_append slOuts hS rfl rfl rfl rfl (by exact hS.tail.getOwn.rd) (by exact out_flat _) (by simp only [List.length_cons, List.length_nil, HRL.out]; omega) (by simp only [List.length_cons, List.length_nil, HRL.out, maxLen]; omega) ?_; clear hS; intro v3 w hS; go_frame)
            | (go_at_call 13; with_reducible refine Ret.calls (C3.out v3 _ _ hS) ?_; clear hS; rintro r1 w ⟨rfl, hS⟩)
            )
          refine segQ_mk (((hS.bring (by repeat (first | exact t0 | apply tS))).getBlk) : Blk _ n1 26 [N32 m.ver, m.iv, m.ov]) ?_
          refine finC_mk (by kernel_rfl) (by
            intro t ht
            simp only [List.mem_cons, List.not_mem_nil, or_false] at ht
            subst ht
            exact stab_blk (b := n1) (fun w h => h) _ none) ?_
          go_wp2_with (first
            | go_big_skip
            | (show wpList _ _ _ (⟨some 87, .binOp _ _ _ _ _, _, _, _, _⟩ :: _) _ _; refine wpList_val rfl (op_eqI' rfl rfl rfl (r := true) rfl) ?_; go_frame)
            | (show wpList _ _ _ (⟨some 92, .binOp _ _ _ _ _, _, _, _, _⟩ :: _) _ _; refine wpList_val rfl (opU_eql (a := more) (b := more) rfl rfl rfl (beq_self_eq_true more)) ?_; go_frame)
            | (show wpList _ _ _ (⟨some 91, .convert _ _ _, _, _, _, _⟩ :: _) _ _; refine wpList_val rfl (op_u32u64 undU32 undU64 rfl rfl hm) ?_; go_frame)
            | (show wpList _ _ _ (⟨some 96, .binOp _ _ _ _ _, _, _, _, _⟩ :: _) _ _; refine wpList_val rfl (op_eqI' rfl rfl rfl (r := true) rfl) ?_; go_frame)
            | (show wpList _ _ _ (⟨some 100, .binOp _ _ _ _ _, _, _, _, _⟩ :: _) _ _; refine wpList_val rfl (op_eqI' rfl rfl rfl (r := true) rfl) ?_; go_frame)
            )
          go_ret
          exact ⟨rfl, (hS.sel (M := []) (by repeat (first | exact Sel.refl | refine Sel.take (by repeat (first | exact t0 | apply tS)) ?_ | apply Sel.drop))).chg⟩
end Go.Proofs.YtieobcaegegboaaDoor
