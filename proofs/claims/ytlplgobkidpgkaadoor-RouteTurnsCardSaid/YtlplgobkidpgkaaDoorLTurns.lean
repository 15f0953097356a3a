/- With so many misses in a row a source goes the other way: the law returns true. Conditions: those that stand ahead of each theorem. -/
import Derived.Test.YtlplgobkidpgkaaDoorRlX
namespace Go.Proofs.YtlplgobkidpgkaaDoor
open Go Go.RowKit Go.Px Go.Sha
theorem op_iaddW {P : Program} {o : Oper} {w : World} {ρ : Operand → Value} {t t' : TypeId} {x y : Operand} (ho : o.op = .binOp .add t x y t') {a b : Int} (hx : ρ x = .int .i64 a) (hy : ρ y = .int .i64 b) (z : Int) (hz : IntKind.i64.wrap (a + b) = z) : (execOp ρ o).run P w = .ok (.value (.int .i64 z)) w := by
  unfold execOp
  simp only [ho, hx, hy, Sem.run_bind, run_eqGuard_int, Result.andThen_ok, binOp, ne_eq, not_true_eq_false, if_false, Op.intArith, Sem.run_pure, hz, Result.andThen_ok]
theorem op_isubW {P : Program} {o : Oper} {w : World} {ρ : Operand → Value} {t t' : TypeId} {x y : Operand} (ho : o.op = .binOp .sub t x y t') {a b : Int} (hx : ρ x = .int .i64 a) (hy : ρ y = .int .i64 b) (z : Int) (hz : IntKind.i64.wrap (a - b) = z) : (execOp ρ o).run P w = .ok (.value (.int .i64 z)) w := by
  unfold execOp
  simp only [ho, hx, hy, Sem.run_bind, run_eqGuard_int, Result.andThen_ok, binOp, ne_eq, not_true_eq_false, if_false, Op.intArith, Sem.run_pure, hz, Result.andThen_ok]
theorem wrap_back {a b f : Int} (h : In64 (a + b - f)) : IntKind.i64.wrap (IntKind.i64.wrap (a + b) - f) = a + b - f := by
  have h1 := h.1
  have h2 := h.2
  rw [IntKind.wrap_i64, IntKind.wrap_i64]
  omega
/-- both successors are numbers of 64 bits -/
structure RIn (r : Rt) : Prop where
  s0 : In64 r.s0
  s1 : In64 r.s1
theorem none_in : In64 (-1) := ⟨by omega, by omega⟩
theorem pick_in {peers but : List Int} (h : ∀ z ∈ peers, In64 z) (d : Nat) : In64 (pickI (cntP peers but) d) := by
  rcases pick_cases peers but d with h1 | h1
  · rw [h1.1]
    exact none_in
  · exact h _ h1.1
theorem RIn.act {r : Rt} (h : RIn r) {a : RA} (ha : AOk a) : RIn (doR r a) := by
  unfold doR
  split
  · unfold tickR
    split
    · exact h
    · exact ⟨pick_in ha.peers _, pick_in ha.peers _⟩
  · split
    · unfold joinR
      split
      · exact h
      · split
        · exact ⟨ha.peer, h.s1⟩
        · split
          · exact ⟨h.s0, ha.peer⟩
          · exact h
    · split
      · unfold leftR
        split
        · exact h
        · split
          · exact ⟨pick_in ha.peers _, h.s1⟩
          · split
            · exact ⟨h.s0, pick_in ha.peers _⟩
            · exact h
      · split
        · unfold missR
          split
          · split
            · exact ⟨h.s0, h.s1⟩
            · exact ⟨h.s0, h.s1⟩
          · exact h
        · split
          · unfold hitR
            split
            · exact ⟨h.s0, h.s1⟩
            · exact h
          · exact h
theorem RIn.foldl : ∀ {L : List RA} {r : Rt}, RIn r → (∀ a ∈ L, AOk a) → RIn (L.foldl doR r)
  | [], _, h, _ => h
  | a :: L, _, h, hL => RIn.foldl (L := L) (h.act (hL a (by simp))) fun b hb => hL b (by simp [hb])
theorem runs_in {L : List RA} (h : ∀ a ∈ L, AOk a) : RIn (runs L) := RIn.foldl ⟨none_in, none_in⟩ h
/-- a router at the j-th turn, with i misses -/
structure TInv (e : Nat) (a b s : Int) (tb : Bool) (q : Rt) (j i : Nat) : Prop where
  ok : ROk 3 q
  ep : q.epoch = e
  s0 : q.s0 = a
  s1 : q.s1 = b
  m : missN q s = i
  t : turnB q s = (tb != decide (j % 2 = 1))
theorem miss_ep (MM : Nat) (r : Rt) (s : Int) : (missR MM r s).epoch = r.epoch := by
  unfold missR
  split
  · split <;> rfl
  · rfl
theorem TInv.more {e : Nat} {a b s : Int} {tb : Bool} {q : Rt} {j i : Nat} (h : TInv e a b s tb q j i) (hs : isSrc s = true) (hi : i + 1 < 3) : TInv e a b s tb (missR 3 q s) j (i + 1) := by
  obtain ⟨_, h1, h2, h3, h4⟩ := miss_more h.ok hs (by rw [h.m]; exact hi)
  exact ⟨h.ok.miss (by omega) s, (miss_ep 3 q s).trans h.ep, h3.trans h.s0, h4.trans h.s1, by rw [h1, h.m], (h2 s).trans h.t⟩
theorem TInv.last {e : Nat} {a b s : Int} {tb : Bool} {q : Rt} {j i : Nat} (h : TInv e a b s tb q j i) (hs : isSrc s = true) (hi : ¬ i + 1 < 3) : TInv e a b s tb (missR 3 q s) (j + 1) 0 := by
  obtain ⟨_, h1, h2, h3, h4⟩ := miss_last h.ok hs (by rw [h.m]; exact hi)
  refine ⟨h.ok.miss (by omega) s, (miss_ep 3 q s).trans h.ep, h3.trans h.s0, h4.trans h.s1, h1, ?_⟩
  rw [h2, h.t]
  by_cases hj : j % 2 = 1
  · rw [decide_eq_true hj, decide_eq_false (by omega)]
    cases tb <;> rfl
  · rw [decide_eq_false hj, decide_eq_true (by omega)]
    cases tb <;> rfl
/-- where a source goes at the j-th turn -/
def wantI (f a b s : Int) (j : Nat) : Int := if j % 2 = 1 ∧ a ≠ -1 ∧ b ≠ -1 ∧ a ≠ s ∧ b ≠ s then a + b - f else f
theorem TInv.way {sa : List Byte} {e : Nat} {a b s : Int} {tb : Bool} {q0 q : Rt} {j i : Nat} (h0 : TInv e a b s tb q0 0 0) (h : TInv e a b s tb q j i) (hs : isSrc s = true) : wayS sa q s = wantI (wayS sa q0 s) a b s j := by
  have hk : kOf sa q s = kOf sa q0 s := by
    unfold kOf
    rw [h.ep, h0.ep]
  unfold wayS wayR
  rw [if_pos hs, if_pos hs, hk, h.s0, h.s1, h0.s0, h0.s1, h.t, h0.t]
  generalize kOf sa q0 s = k
  unfold wantI
  by_cases hj : j % 2 = 1
  · rw [decide_eq_true hj]
    by_cases hc : a ≠ -1 ∧ b ≠ -1 ∧ a ≠ s ∧ b ≠ s
    · rw [if_pos (show j % 2 = 1 ∧ a ≠ -1 ∧ b ≠ -1 ∧ a ≠ s ∧ b ≠ s from ⟨hj, hc⟩)]
      have hc2 : b ≠ -1 ∧ a ≠ -1 ∧ b ≠ s ∧ a ≠ s := ⟨hc.2.1, hc.1, hc.2.2.2, hc.2.2.1⟩
      have f1 := way2_flip hc
      have f2 := way2_flip hc2
      by_cases hk0 : k = 0 <;> cases tb <;> simp [hk0] <;> omega
    · rw [if_neg (show ¬ (j % 2 = 1 ∧ a ≠ -1 ∧ b ≠ -1 ∧ a ≠ s ∧ b ≠ s) from fun h => hc h.2)]
      have f1 := way2_stay hc
      by_cases hk0 : k = 0 <;> cases tb <;> simp [hk0] <;> omega
  · rw [if_neg (show ¬ (j % 2 = 1 ∧ a ≠ -1 ∧ b ≠ -1 ∧ a ≠ s ∧ b ≠ s) from fun h => hj h.1), decide_eq_false hj]
    cases tb <;> rfl
theorem want_in {sa : List Byte} {e : Nat} {a b s : Int} {tb : Bool} {q0 : Rt} (h0 : TInv e a b s tb q0 0 0) (hs : isSrc s = true) (ha : In64 a) (hb : In64 b) (hc : a ≠ -1 ∧ b ≠ -1 ∧ a ≠ s ∧ b ≠ s) : In64 (a + b - wayS sa q0 s) := by
  have hf : wayS sa q0 s = a ∨ wayS sa q0 s = b := by
    unfold wayS wayR
    rw [if_pos hs, h0.s0, h0.s1]
    split
    · exact .inl (if_pos ⟨hc.1, hc.2.2.1⟩)
    · exact .inr (if_pos ⟨hc.2.1, hc.2.2.2⟩)
  rcases hf with h | h
  · rw [h, show a + b - a = b by omega]
    exact hb
  · rw [h, show a + b - b = a by omega]
    exact ha
theorem hit_ep (r : Rt) (s : Int) : (hitR r s).epoch = r.epoch ∧ (hitR r s).s0 = r.s0 ∧ (hitR r s).s1 = r.s1 := by
  unfold hitR
  split <;> exact ⟨rfl, rfl, rfl⟩
set_option maxRecDepth 100000 in
set_option maxHeartbeats 8000000 in
theorem routeTurns_w {W : World} (hK : CIn All W 1 (kTab.map W32)) (hF : CIn All W 0 (first.map W32)) {sa : List Byte} (hsa : sa.length = 32) {v : Value} {L : List (Value × RA)} (hv : AIn All W v L) (hao : ∀ x ∈ L, AOk x.2) (s : Int) :
    Calls Tryd.prog 7 #[HV sa, v, I64 s] W (Ret fun r w' => r = .bool true ∧ Chg No W w') := by
  have hri := runs_in (L := L.map (·.2)) (fun a ha => by
    obtain ⟨x, hx, rfl⟩ := List.mem_map.1 ha
    exact hao x hx)
  have hS := SepL.start W
  have HSL : Hid ((sa.map B8).length = 32) := by simp [Hid, hsa]
  have HAO := hide hao
  have hok := runs_ok (L.map (·.2))
  obtain ⟨r, hr⟩ : ∃ r, runs (L.map (·.2)) = r := ⟨_, rfl⟩
  have HQ := hide hr
  rw [hr] at hok hri
  have HOK := hide hok
  unfold HV
  clear hr hao
  cases hg : greatR (L.map (·.2)) with
  | true =>
    have HGR := hide hg
    clear hg hok
    go_enter Tryd.func7, Tryd.ntmps7
    go_wp2_with (first
      | go_big_skip
      | (show wpList _ _ _ (⟨_, .box 23 _, _, _, _, _⟩ :: _) _ _; refine wpS_boxA (cs := sa.map B8) hS rfl rfl rfl ?_; clear hS; intro nh w hS; go_frame)
      | (go_at_call 10; refine Ret.calls (alive_s hS hK hF) ?_; clear hS; rintro r1 w ⟨rfl, hS⟩)
      | (go_at_call 11; refine Ret.calls (great_s hS hv HGR.out) ?_; clear hS; rintro r1 w ⟨rfl, hS⟩)
      | (show wpList _ _ _ (⟨some 19, .binOp _ _ _ _ _, _, _, _, _⟩ :: _) _ _; refine wpList_val rfl (op_ilss rfl rfl rfl HLO.out) ?_; go_frame)
      | (show wpList _ _ _ (⟨some 23, .binOp _ _ _ _ _, _, _, _, _⟩ :: _) _ _; refine wpList_val rfl (op_igtr rfl rfl rfl HHI.out) ?_; go_frame)
      )
    go_ret
    exact ⟨rfl, hS.chg⟩
  | false =>
    have HGR := hide hg
    by_cases hlo : s < 0
    · have HLO : Hid (decide (s < 0) = true) := decide_eq_true hlo
      clear hg hok hlo
      go_enter Tryd.func7, Tryd.ntmps7
      go_wp2_with (first
        | go_big_skip
        | (show wpList _ _ _ (⟨_, .box 23 _, _, _, _, _⟩ :: _) _ _; refine wpS_boxA (cs := sa.map B8) hS rfl rfl rfl ?_; clear hS; intro nh w hS; go_frame)
        | (go_at_call 10; refine Ret.calls (alive_s hS hK hF) ?_; clear hS; rintro r1 w ⟨rfl, hS⟩)
        | (go_at_call 11; refine Ret.calls (great_s hS hv HGR.out) ?_; clear hS; rintro r1 w ⟨rfl, hS⟩)
        | (show wpList _ _ _ (⟨some 19, .binOp _ _ _ _ _, _, _, _, _⟩ :: _) _ _; refine wpList_val rfl (op_ilss rfl rfl rfl HLO.out) ?_; go_frame)
        | (show wpList _ _ _ (⟨some 23, .binOp _ _ _ _ _, _, _, _, _⟩ :: _) _ _; refine wpList_val rfl (op_igtr rfl rfl rfl HHI.out) ?_; go_frame)
        )
      go_ret
      exact ⟨rfl, hS.chg⟩
    have HLO : Hid (decide (s < 0) = false) := decide_eq_false hlo
    by_cases hhi : 64 < s
    · have HHI : Hid (decide ((64 : Int) < s) = true) := decide_eq_true hhi
      clear hg hok hlo hhi
      go_enter Tryd.func7, Tryd.ntmps7
      go_wp2_with (first
        | go_big_skip
        | (show wpList _ _ _ (⟨_, .box 23 _, _, _, _, _⟩ :: _) _ _; refine wpS_boxA (cs := sa.map B8) hS rfl rfl rfl ?_; clear hS; intro nh w hS; go_frame)
        | (go_at_call 10; refine Ret.calls (alive_s hS hK hF) ?_; clear hS; rintro r1 w ⟨rfl, hS⟩)
        | (go_at_call 11; refine Ret.calls (great_s hS hv HGR.out) ?_; clear hS; rintro r1 w ⟨rfl, hS⟩)
        | (show wpList _ _ _ (⟨some 19, .binOp _ _ _ _ _, _, _, _, _⟩ :: _) _ _; refine wpList_val rfl (op_ilss rfl rfl rfl HLO.out) ?_; go_frame)
        | (show wpList _ _ _ (⟨some 23, .binOp _ _ _ _ _, _, _, _, _⟩ :: _) _ _; refine wpList_val rfl (op_igtr rfl rfl rfl HHI.out) ?_; go_frame)
        )
      go_ret
      exact ⟨rfl, hS.chg⟩
    have HHI : Hid (decide ((64 : Int) < s) = false) := decide_eq_false hhi
    have hs : isSrc s = true := by
      unfold isSrc
      rw [decide_eq_true (show 0 ≤ s by omega), decide_eq_true (show s ≤ 64 by omega)]
      rfl
    have HSR := hide hs
    obtain ⟨he1, he2, he3⟩ := hit_ep r s
    have hq00 : TInv r.epoch r.s0 r.s1 s (turnB (hitR r s) s) (hitR r s) 0 0 := ⟨hok.hit (by omega) s, he1, he2, he3, missN_hit hok s, by simp⟩
    obtain ⟨q0, hq0⟩ : ∃ q, hitR r s = q := ⟨_, rfl⟩
    have HHT := hide hq0
    obtain ⟨e, he⟩ : ∃ e, r.epoch = e := ⟨_, rfl⟩
    obtain ⟨a, ha⟩ : ∃ a, r.s0 = a := ⟨_, rfl⟩
    obtain ⟨b, hb⟩ : ∃ b, r.s1 = b := ⟨_, rfl⟩
    have hai := hri.s0
    have hbi := hri.s1
    rw [hq0, he, ha, hb] at hq00
    rw [ha] at hai
    rw [hb] at hbi
    obtain ⟨tb, ht0⟩ : ∃ t, turnB q0 s = t := ⟨_, rfl⟩
    rw [ht0] at hq00
    have HA : Hid (q0.s0 = a) := hq00.s0
    have HB : Hid (q0.s1 = b) := hq00.s1
    have HOK0 := hide hq00.ok
    obtain ⟨f, hf⟩ : ∃ f, wayS sa q0 s = f := ⟨_, rfl⟩
    have HFI := hide hf
    have hway : ∀ q j i, TInv e a b s tb q j i → wayS sa q s = wantI f a b s j := fun q j i h => by
      rw [← hf]
      exact hq00.way h hs
    have hwin : (a ≠ -1 ∧ b ≠ -1 ∧ a ≠ s ∧ b ≠ s) → In64 (a + b - f) := fun h => by
      rw [← hf]
      exact want_in hq00 hs hai hbi h
    have HWAY := hide hway
    have HWIN := hide hwin
    have HQ00 := hide hq00
    clear hg hok hlo hhi hs he1 he2 he3 hq00 hq0 he ha hb hai hbi ht0 hf hway hwin hri
    go_enter Tryd.func7, Tryd.ntmps7
    go_wp2_with (first
      | go_big_skip
      | (show wpList _ _ _ (⟨_, .box 23 _, _, _, _, _⟩ :: _) _ _; refine wpS_boxA (cs := sa.map B8) hS rfl rfl rfl ?_; clear hS; intro nh w hS; go_frame)
      | (go_at_call 10; refine Ret.calls (alive_s hS hK hF) ?_; clear hS; rintro r1 w ⟨rfl, hS⟩)
      | (go_at_call 11; refine Ret.calls (great_s hS hv HGR.out) ?_; clear hS; rintro r1 w ⟨rfl, hS⟩)
      | (show wpList _ _ _ (⟨some 19, .binOp _ _ _ _ _, _, _, _, _⟩ :: _) _ _; refine wpList_val rfl (op_ilss rfl rfl rfl HLO.out) ?_; go_frame)
      | (show wpList _ _ _ (⟨some 23, .binOp _ _ _ _ _, _, _, _, _⟩ :: _) _ _; refine wpList_val rfl (op_igtr rfl rfl rfl HHI.out) ?_; go_frame)
      | (show wpList _ _ _ (⟨_, .load 23 _, _, _, _, _⟩ :: _) _ _; refine wpList_val rfl (op_load agg32b rfl rfl (SepL.getBlk (b := nh) (T := 23) ((hS.bring (by repeat (first | exact t0 | apply tS))))).cells HSL.out) ?_; go_frame)
      | (go_at_call 12; refine Ret.calls (grown_s hS hsa hv HAO.out HGR.out) ?_; clear hS; rintro r1 w ⟨p, rfl, hS⟩; rw [HQ.out] at hS)
      | (go_at_call 31; (refine Ret.calls (hit_s (MM := 3) (p := p) (sa := sa) (r := r) (s := s) (hS.bring (by repeat (first | exact t0 | apply tS))) hsa HOK.out) ?_); clear hS; rintro r1 w hS; rw [HHT.out] at hS)
      | (show wpList _ _ _ (⟨some 8, .alloc _, _, _, _, _⟩ :: _) _ _; refine wpS_alloc hS rfl rfl Tryd.zeroValue29 (zs := [.int .i64 0, .int .i64 0]) rfl ?_; clear hS; intro n8 w hS; go_frame)
      | (show wpList _ _ _ (⟨_, .store 29 (.tmp 8) _, _, _, _, _⟩ :: _) _ _; (refine wpS_storeAll (b := n8) agg2 (hS.bring (by repeat (first | exact t0 | apply tS))) rfl rfl rfl (vs := [I64 a, I64 b]) rfl rfl (two_one _ _) rfl ?_); clear hS; intro w hS; go_frame)
      | (go_at_call 13; (refine Ret.calls (succ_s (p := p) (sa := sa) (r := q0) (hS.bring (by repeat (first | exact t0 | apply tS))) hsa) ?_); clear hS; rintro r1 w ⟨rfl, hS⟩; rw [HA.out, HB.out])
      | (go_at_call 14; (refine Ret.calls (way_s (p := p) (sa := sa) (r := q0) (s := s) (hS.bring (by repeat (first | exact t0 | apply tS))) hK hF hsa HOK0.out) ?_); clear hS; rintro r1 w ⟨rfl, hS⟩; rw [HFI.out])
      )
    go_loopw [36] (fun jv wr => ∃ (j : Nat) (q : Rt), jv = .int .i64 j ∧ j ≤ 4 ∧ Hid (TInv e a b s tb q j 0) ∧ SepL All W wr [.blk p 58 (rtC sa q), .blk n8 29 [I64 a, I64 b]]) (fun jv _ => 4 - (intOf jv).toNat)
    case atStart => exact ⟨0, q0, rfl, by omega, HQ00, hS.sel (by repeat (first | exact Sel.refl | refine Sel.take (by repeat (first | exact t0 | apply tS)) ?_ | apply Sel.drop))⟩
    case round =>
      clear hS
      obtain ⟨j, q, rfl, hj, HIN, hS⟩ := hrel
      by_cases hlt : j < 4
      · obtain ⟨want, hwant⟩ : ∃ z, wantI f a b s j = z := ⟨_, rfl⟩
        have HWJ : Hid (∀ q i, TInv e a b s tb q j i → wayS sa q s = want) := fun q i h => (HWAY.out q j i h).trans hwant
        unfold wantI at hwant
        obtain ⟨j2, hj2⟩ : ∃ x, j % 2 = x := ⟨_, rfl⟩
        have HJ2 := hide hj2
        rw [hj2] at hwant
        clear hj2
        by_cases hj1 : j2 = 1
        · have HJ : Hid ((((j2 : Nat) : Int) == 1) = true) := eqT (by omega)
          by_cases c0 : a = -1
          · have C0 := neF c0
            obtain rfl : want = f := hwant.symm.trans (if_neg (fun h => h.2.1 c0))
            clear hj1 c0 hwant
            go_wp2_with (first
              | go_big_skip
              | (show wpList _ _ _ (⟨some 41, .binOp _ _ _ _ _, _, _, _, _⟩ :: _) _ _; refine wpList_val rfl (op_iremN rfl (a := j) (b := 2) rfl rfl (by omega)) ?_; rw [HJ2.out]; go_frame)
              | (show wpList _ _ _ (⟨some 42, .binOp _ _ _ _ _, _, _, _, _⟩ :: _) _ _; refine wpList_val rfl (op_eqI' rfl rfl rfl HJ.out) ?_; go_frame)
              | (show wpList _ _ _ (⟨_, .indexAddr _ (.tmp 8) (.const (.int .i64 0)), _, _, _, _⟩ :: _) _ _; refine wpList_val rfl (op_indexArrZ arr2i rfl (b := n8) (off := 0) rfl rfl 0 rfl (by omega)) ?_; simp only [Nat.add_zero]; go_frame)
              | (show wpList _ _ _ (⟨_, .indexAddr _ (.tmp 8) (.const (.int .i64 1)), _, _, _, _⟩ :: _) _ _; refine wpList_val rfl (op_indexArrZ arr2i rfl (b := n8) (off := 0) rfl rfl 1 rfl (by omega)) ?_; simp only [Nat.zero_add]; go_frame)
              | (show wpList _ _ _ (⟨_, .load 3 _, _, _, _, _⟩ :: _) _ _; refine wpList_val rfl (op_load1S (b := n8) (T := 29) oneInt ((hS.bring (by repeat (first | exact t0 | apply tS)))) rfl rfl rfl) ?_; go_frame)
              | (show wpList _ _ _ (⟨some 46, .binOp _ _ _ _ _, _, _, _, _⟩ :: _) _ _; refine wpList_val rfl (op_ineI rfl rfl rfl C0.out) ?_; go_frame)
              | (show wpList _ _ _ (⟨some 51, .binOp _ _ _ _ _, _, _, _, _⟩ :: _) _ _; refine wpList_val rfl (op_ineI rfl rfl rfl C1.out) ?_; go_frame)
              | (show wpList _ _ _ (⟨some 57, .binOp _ _ _ _ _, _, _, _, _⟩ :: _) _ _; refine wpList_val rfl (op_ineI rfl rfl rfl C2.out) ?_; go_frame)
              | (show wpList _ _ _ (⟨some 63, .binOp _ _ _ _ _, _, _, _, _⟩ :: _) _ _; refine wpList_val rfl (op_ineI rfl rfl rfl C3.out) ?_; go_frame)
              | (show wpList _ _ _ (⟨some 69, .binOp _ _ _ _ _, _, _, _, _⟩ :: _) _ _; refine wpList_val rfl (op_iaddW rfl rfl rfl x HX.out) ?_; go_frame)
              | (show wpList _ _ _ (⟨some 71, .binOp _ _ _ _ _, _, _, _, _⟩ :: _) _ _; refine wpList_val rfl (op_isubW rfl rfl rfl want HXS.out) ?_; go_frame)
              )
            rw [show decide ((j : Int) < 4) = true from decide_eq_true (by omega)]
            go_loopw [72] (fun iv wr => ∃ (i : Nat) (q : Rt), iv = .int .i64 i ∧ i ≤ 3 ∧ Hid ((i < 3 → TInv e a b s tb q j i) ∧ (i = 3 → TInv e a b s tb q (j + 1) 0)) ∧ SepL All W wr [.blk p 58 (rtC sa q), .blk n8 29 [I64 a, I64 b]]) (fun iv _ => 3 - (intOf iv).toNat)
            case atStart => exact ⟨0, q, rfl, by omega, ⟨fun _ => HIN.out, fun h => absurd h (by omega)⟩, hS.sel (by repeat (first | exact Sel.refl | refine Sel.take (by repeat (first | exact t0 | apply tS)) ?_ | apply Sel.drop))⟩
            case round =>
              clear hS HIN
              clear q
              obtain ⟨i, q, rfl, hi, HIN, hS⟩ := hrel
              by_cases hi3 : i < 3
              · have hin := HIN.out.1 hi3
                clear HIN
                have HWY : Hid (wayS sa q s = want) := HWJ.out q i hin
                have HMI : Hid (missN q s = i) := hin.m
                have HQO := hide hin.ok
                have HWW := neF (Eq.refl want)
                have HII := neF (Eq.refl (i : Int))
                obtain ⟨q2, hq2⟩ : ∃ q2, missR 3 q s = q2 := ⟨_, rfl⟩
                have HMR := hide hq2
                by_cases hl : i + 1 < 3
                · have HIV : Hid ((i + 1 < 3 → TInv e a b s tb q2 j (i + 1)) ∧ (i + 1 = 3 → TInv e a b s tb q2 (j + 1) 0)) := by
                    rw [← hq2]
                    exact ⟨fun _ => hin.more HSR.out hl, fun h => absurd h (by omega)⟩
                  have HMB : Hid (missB 3 q s = false) := (miss_more hin.ok HSR.out (by rw [hin.m]; exact hl)).1
                  have HI2 : Hid (((i : Int) == 2) = false) := eqF (by omega)
                  clear hin hq2 hl
                  go_wp2_with (first
                    | go_big_skip
                    | (go_at_call 14; (refine Ret.calls (way_s (p := p) (sa := sa) (r := q) (s := s) (hS.bring (by repeat (first | exact t0 | apply tS))) hK hF hsa HQO.out) ?_); clear hS; rintro r1 w ⟨rfl, hS⟩; rw [HWY.out])
                    | (go_at_call 28; (refine Ret.calls (misses_s (MM := 3) (p := p) (sa := sa) (r := q) (s := s) (hS.bring (by repeat (first | exact t0 | apply tS))) hsa HQO.out) ?_); clear hS; rintro r1 w ⟨rfl, hS⟩; rw [HMI.out])
                    | (go_at_call 32; (refine Ret.calls (miss_s (p := p) (sa := sa) (r := q) (s := s) (hS.bring (by repeat (first | exact t0 | apply tS))) hsa HQO.out) ?_); clear hS; rintro r1 w ⟨rfl, hS⟩; rw [HMB.out]; rw [HMR.out] at hS)
                    | (show wpList _ _ _ (⟨some 79, .binOp _ _ _ _ _, _, _, _, _⟩ :: _) _ _; refine wpList_val rfl (op_ineI rfl rfl rfl HWW.out) ?_; go_frame)
                    | (show wpList _ _ _ (⟨some 85, .binOp _ _ _ _ _, _, _, _, _⟩ :: _) _ _; refine wpList_val rfl (op_ineI rfl rfl rfl HII.out) ?_; go_frame)
                    | (show wpList _ _ _ (⟨some 92, .binOp _ _ _ _ _, _, _, _, _⟩ :: _) _ _; refine wpList_val rfl (op_eqI' rfl rfl rfl HI2.out) ?_; go_frame)
                    | (show wpList _ _ _ (⟨some 93, .binOp _ _ _ _ _, _, _, _, _⟩ :: _) _ _; refine wpList_val rfl (op_neBool rfl rfl rfl) ?_; go_frame)
                    )
                  go_roundw
                  case rel => exact ⟨i + 1, q2, by go_num, by omega, HIV, hS.sel (by repeat (first | exact Sel.refl | refine Sel.take (by repeat (first | exact t0 | apply tS)) ?_ | apply Sel.drop))⟩
                  case measure => simp [intOf]; omega
                · have HIV : Hid ((i + 1 < 3 → TInv e a b s tb q2 j (i + 1)) ∧ (i + 1 = 3 → TInv e a b s tb q2 (j + 1) 0)) := by
                    rw [← hq2]
                    exact ⟨fun h => absurd h hl, fun _ => hin.last HSR.out hl⟩
                  have HMB : Hid (missB 3 q s = true) := (miss_last hin.ok HSR.out (by rw [hin.m]; exact hl)).1
                  have HI2 : Hid (((i : Int) == 2) = true) := eqT (by omega)
                  clear hin hq2 hl
                  go_wp2_with (first
                    | go_big_skip
                    | (go_at_call 14; (refine Ret.calls (way_s (p := p) (sa := sa) (r := q) (s := s) (hS.bring (by repeat (first | exact t0 | apply tS))) hK hF hsa HQO.out) ?_); clear hS; rintro r1 w ⟨rfl, hS⟩; rw [HWY.out])
                    | (go_at_call 28; (refine Ret.calls (misses_s (MM := 3) (p := p) (sa := sa) (r := q) (s := s) (hS.bring (by repeat (first | exact t0 | apply tS))) hsa HQO.out) ?_); clear hS; rintro r1 w ⟨rfl, hS⟩; rw [HMI.out])
                    | (go_at_call 32; (refine Ret.calls (miss_s (p := p) (sa := sa) (r := q) (s := s) (hS.bring (by repeat (first | exact t0 | apply tS))) hsa HQO.out) ?_); clear hS; rintro r1 w ⟨rfl, hS⟩; rw [HMB.out]; rw [HMR.out] at hS)
                    | (show wpList _ _ _ (⟨some 79, .binOp _ _ _ _ _, _, _, _, _⟩ :: _) _ _; refine wpList_val rfl (op_ineI rfl rfl rfl HWW.out) ?_; go_frame)
                    | (show wpList _ _ _ (⟨some 85, .binOp _ _ _ _ _, _, _, _, _⟩ :: _) _ _; refine wpList_val rfl (op_ineI rfl rfl rfl HII.out) ?_; go_frame)
                    | (show wpList _ _ _ (⟨some 92, .binOp _ _ _ _ _, _, _, _, _⟩ :: _) _ _; refine wpList_val rfl (op_eqI' rfl rfl rfl HI2.out) ?_; go_frame)
                    | (show wpList _ _ _ (⟨some 93, .binOp _ _ _ _ _, _, _, _, _⟩ :: _) _ _; refine wpList_val rfl (op_neBool rfl rfl rfl) ?_; go_frame)
                    )
                  go_roundw
                  case rel => exact ⟨i + 1, q2, by go_num, by omega, HIV, hS.sel (by repeat (first | exact Sel.refl | refine Sel.take (by repeat (first | exact t0 | apply tS)) ?_ | apply Sel.drop))⟩
                  case measure => simp [intOf]; omega
              · have HIN2 := hide (HIN.out.2 (by omega))
                clear HIN
                go_wp2_with fail
                go_roundw
                case rel => exact ⟨j + 1, q, by go_num, by omega, HIN2, hS.sel (by repeat (first | exact Sel.refl | refine Sel.take (by repeat (first | exact t0 | apply tS)) ?_ | apply Sel.drop))⟩
                case measure => simp [intOf]; omega
          · have C0 := neT c0
            by_cases c1 : b = -1
            · have C1 := neF c1
              obtain rfl : want = f := hwant.symm.trans (if_neg (fun h => h.2.2.1 c1))
              clear hj1 c0 c1 hwant
              go_wp2_with (first
                | go_big_skip
                | (show wpList _ _ _ (⟨some 41, .binOp _ _ _ _ _, _, _, _, _⟩ :: _) _ _; refine wpList_val rfl (op_iremN rfl (a := j) (b := 2) rfl rfl (by omega)) ?_; rw [HJ2.out]; go_frame)
                | (show wpList _ _ _ (⟨some 42, .binOp _ _ _ _ _, _, _, _, _⟩ :: _) _ _; refine wpList_val rfl (op_eqI' rfl rfl rfl HJ.out) ?_; go_frame)
                | (show wpList _ _ _ (⟨_, .indexAddr _ (.tmp 8) (.const (.int .i64 0)), _, _, _, _⟩ :: _) _ _; refine wpList_val rfl (op_indexArrZ arr2i rfl (b := n8) (off := 0) rfl rfl 0 rfl (by omega)) ?_; simp only [Nat.add_zero]; go_frame)
                | (show wpList _ _ _ (⟨_, .indexAddr _ (.tmp 8) (.const (.int .i64 1)), _, _, _, _⟩ :: _) _ _; refine wpList_val rfl (op_indexArrZ arr2i rfl (b := n8) (off := 0) rfl rfl 1 rfl (by omega)) ?_; simp only [Nat.zero_add]; go_frame)
                | (show wpList _ _ _ (⟨_, .load 3 _, _, _, _, _⟩ :: _) _ _; refine wpList_val rfl (op_load1S (b := n8) (T := 29) oneInt ((hS.bring (by repeat (first | exact t0 | apply tS)))) rfl rfl rfl) ?_; go_frame)
                | (show wpList _ _ _ (⟨some 46, .binOp _ _ _ _ _, _, _, _, _⟩ :: _) _ _; refine wpList_val rfl (op_ineI rfl rfl rfl C0.out) ?_; go_frame)
                | (show wpList _ _ _ (⟨some 51, .binOp _ _ _ _ _, _, _, _, _⟩ :: _) _ _; refine wpList_val rfl (op_ineI rfl rfl rfl C1.out) ?_; go_frame)
                | (show wpList _ _ _ (⟨some 57, .binOp _ _ _ _ _, _, _, _, _⟩ :: _) _ _; refine wpList_val rfl (op_ineI rfl rfl rfl C2.out) ?_; go_frame)
                | (show wpList _ _ _ (⟨some 63, .binOp _ _ _ _ _, _, _, _, _⟩ :: _) _ _; refine wpList_val rfl (op_ineI rfl rfl rfl C3.out) ?_; go_frame)
                | (show wpList _ _ _ (⟨some 69, .binOp _ _ _ _ _, _, _, _, _⟩ :: _) _ _; refine wpList_val rfl (op_iaddW rfl rfl rfl x HX.out) ?_; go_frame)
                | (show wpList _ _ _ (⟨some 71, .binOp _ _ _ _ _, _, _, _, _⟩ :: _) _ _; refine wpList_val rfl (op_isubW rfl rfl rfl want HXS.out) ?_; go_frame)
                )
              rw [show decide ((j : Int) < 4) = true from decide_eq_true (by omega)]
              go_loopw [72] (fun iv wr => ∃ (i : Nat) (q : Rt), iv = .int .i64 i ∧ i ≤ 3 ∧ Hid ((i < 3 → TInv e a b s tb q j i) ∧ (i = 3 → TInv e a b s tb q (j + 1) 0)) ∧ SepL All W wr [.blk p 58 (rtC sa q), .blk n8 29 [I64 a, I64 b]]) (fun iv _ => 3 - (intOf iv).toNat)
              case atStart => exact ⟨0, q, rfl, by omega, ⟨fun _ => HIN.out, fun h => absurd h (by omega)⟩, hS.sel (by repeat (first | exact Sel.refl | refine Sel.take (by repeat (first | exact t0 | apply tS)) ?_ | apply Sel.drop))⟩
              case round =>
                clear hS HIN
                clear q
                obtain ⟨i, q, rfl, hi, HIN, hS⟩ := hrel
                by_cases hi3 : i < 3
                · have hin := HIN.out.1 hi3
                  clear HIN
                  have HWY : Hid (wayS sa q s = want) := HWJ.out q i hin
                  have HMI : Hid (missN q s = i) := hin.m
                  have HQO := hide hin.ok
                  have HWW := neF (Eq.refl want)
                  have HII := neF (Eq.refl (i : Int))
                  obtain ⟨q2, hq2⟩ : ∃ q2, missR 3 q s = q2 := ⟨_, rfl⟩
                  have HMR := hide hq2
                  by_cases hl : i + 1 < 3
                  · have HIV : Hid ((i + 1 < 3 → TInv e a b s tb q2 j (i + 1)) ∧ (i + 1 = 3 → TInv e a b s tb q2 (j + 1) 0)) := by
                      rw [← hq2]
                      exact ⟨fun _ => hin.more HSR.out hl, fun h => absurd h (by omega)⟩
                    have HMB : Hid (missB 3 q s = false) := (miss_more hin.ok HSR.out (by rw [hin.m]; exact hl)).1
                    have HI2 : Hid (((i : Int) == 2) = false) := eqF (by omega)
                    clear hin hq2 hl
                    go_wp2_with (first
                      | go_big_skip
                      | (go_at_call 14; (refine Ret.calls (way_s (p := p) (sa := sa) (r := q) (s := s) (hS.bring (by repeat (first | exact t0 | apply tS))) hK hF hsa HQO.out) ?_); clear hS; rintro r1 w ⟨rfl, hS⟩; rw [HWY.out])
                      | (go_at_call 28; (refine Ret.calls (misses_s (MM := 3) (p := p) (sa := sa) (r := q) (s := s) (hS.bring (by repeat (first | exact t0 | apply tS))) hsa HQO.out) ?_); clear hS; rintro r1 w ⟨rfl, hS⟩; rw [HMI.out])
                      | (go_at_call 32; (refine Ret.calls (miss_s (p := p) (sa := sa) (r := q) (s := s) (hS.bring (by repeat (first | exact t0 | apply tS))) hsa HQO.out) ?_); clear hS; rintro r1 w ⟨rfl, hS⟩; rw [HMB.out]; rw [HMR.out] at hS)
                      | (show wpList _ _ _ (⟨some 79, .binOp _ _ _ _ _, _, _, _, _⟩ :: _) _ _; refine wpList_val rfl (op_ineI rfl rfl rfl HWW.out) ?_; go_frame)
                      | (show wpList _ _ _ (⟨some 85, .binOp _ _ _ _ _, _, _, _, _⟩ :: _) _ _; refine wpList_val rfl (op_ineI rfl rfl rfl HII.out) ?_; go_frame)
                      | (show wpList _ _ _ (⟨some 92, .binOp _ _ _ _ _, _, _, _, _⟩ :: _) _ _; refine wpList_val rfl (op_eqI' rfl rfl rfl HI2.out) ?_; go_frame)
                      | (show wpList _ _ _ (⟨some 93, .binOp _ _ _ _ _, _, _, _, _⟩ :: _) _ _; refine wpList_val rfl (op_neBool rfl rfl rfl) ?_; go_frame)
                      )
                    go_roundw
                    case rel => exact ⟨i + 1, q2, by go_num, by omega, HIV, hS.sel (by repeat (first | exact Sel.refl | refine Sel.take (by repeat (first | exact t0 | apply tS)) ?_ | apply Sel.drop))⟩
                    case measure => simp [intOf]; omega
                  · have HIV : Hid ((i + 1 < 3 → TInv e a b s tb q2 j (i + 1)) ∧ (i + 1 = 3 → TInv e a b s tb q2 (j + 1) 0)) := by
                      rw [← hq2]
                      exact ⟨fun h => absurd h hl, fun _ => hin.last HSR.out hl⟩
                    have HMB : Hid (missB 3 q s = true) := (miss_last hin.ok HSR.out (by rw [hin.m]; exact hl)).1
                    have HI2 : Hid (((i : Int) == 2) = true) := eqT (by omega)
                    clear hin hq2 hl
                    go_wp2_with (first
                      | go_big_skip
                      | (go_at_call 14; (refine Ret.calls (way_s (p := p) (sa := sa) (r := q) (s := s) (hS.bring (by repeat (first | exact t0 | apply tS))) hK hF hsa HQO.out) ?_); clear hS; rintro r1 w ⟨rfl, hS⟩; rw [HWY.out])
                      | (go_at_call 28; (refine Ret.calls (misses_s (MM := 3) (p := p) (sa := sa) (r := q) (s := s) (hS.bring (by repeat (first | exact t0 | apply tS))) hsa HQO.out) ?_); clear hS; rintro r1 w ⟨rfl, hS⟩; rw [HMI.out])
                      | (go_at_call 32; (refine Ret.calls (miss_s (p := p) (sa := sa) (r := q) (s := s) (hS.bring (by repeat (first | exact t0 | apply tS))) hsa HQO.out) ?_); clear hS; rintro r1 w ⟨rfl, hS⟩; rw [HMB.out]; rw [HMR.out] at hS)
                      | (show wpList _ _ _ (⟨some 79, .binOp _ _ _ _ _, _, _, _, _⟩ :: _) _ _; refine wpList_val rfl (op_ineI rfl rfl rfl HWW.out) ?_; go_frame)
                      | (show wpList _ _ _ (⟨some 85, .binOp _ _ _ _ _, _, _, _, _⟩ :: _) _ _; refine wpList_val rfl (op_ineI rfl rfl rfl HII.out) ?_; go_frame)
                      | (show wpList _ _ _ (⟨some 92, .binOp _ _ _ _ _, _, _, _, _⟩ :: _) _ _; refine wpList_val rfl (op_eqI' rfl rfl rfl HI2.out) ?_; go_frame)
                      | (show wpList _ _ _ (⟨some 93, .binOp _ _ _ _ _, _, _, _, _⟩ :: _) _ _; refine wpList_val rfl (op_neBool rfl rfl rfl) ?_; go_frame)
                      )
                    go_roundw
                    case rel => exact ⟨i + 1, q2, by go_num, by omega, HIV, hS.sel (by repeat (first | exact Sel.refl | refine Sel.take (by repeat (first | exact t0 | apply tS)) ?_ | apply Sel.drop))⟩
                    case measure => simp [intOf]; omega
                · have HIN2 := hide (HIN.out.2 (by omega))
                  clear HIN
                  go_wp2_with fail
                  go_roundw
                  case rel => exact ⟨j + 1, q, by go_num, by omega, HIN2, hS.sel (by repeat (first | exact Sel.refl | refine Sel.take (by repeat (first | exact t0 | apply tS)) ?_ | apply Sel.drop))⟩
                  case measure => simp [intOf]; omega
            · have C1 := neT c1
              by_cases c2 : a = s
              · have C2 := neF c2
                obtain rfl : want = f := hwant.symm.trans (if_neg (fun h => h.2.2.2.1 c2))
                clear hj1 c0 c1 c2 hwant
                go_wp2_with (first
                  | go_big_skip
                  | (show wpList _ _ _ (⟨some 41, .binOp _ _ _ _ _, _, _, _, _⟩ :: _) _ _; refine wpList_val rfl (op_iremN rfl (a := j) (b := 2) rfl rfl (by omega)) ?_; rw [HJ2.out]; go_frame)
                  | (show wpList _ _ _ (⟨some 42, .binOp _ _ _ _ _, _, _, _, _⟩ :: _) _ _; refine wpList_val rfl (op_eqI' rfl rfl rfl HJ.out) ?_; go_frame)
                  | (show wpList _ _ _ (⟨_, .indexAddr _ (.tmp 8) (.const (.int .i64 0)), _, _, _, _⟩ :: _) _ _; refine wpList_val rfl (op_indexArrZ arr2i rfl (b := n8) (off := 0) rfl rfl 0 rfl (by omega)) ?_; simp only [Nat.add_zero]; go_frame)
                  | (show wpList _ _ _ (⟨_, .indexAddr _ (.tmp 8) (.const (.int .i64 1)), _, _, _, _⟩ :: _) _ _; refine wpList_val rfl (op_indexArrZ arr2i rfl (b := n8) (off := 0) rfl rfl 1 rfl (by omega)) ?_; simp only [Nat.zero_add]; go_frame)
                  | (show wpList _ _ _ (⟨_, .load 3 _, _, _, _, _⟩ :: _) _ _; refine wpList_val rfl (op_load1S (b := n8) (T := 29) oneInt ((hS.bring (by repeat (first | exact t0 | apply tS)))) rfl rfl rfl) ?_; go_frame)
                  | (show wpList _ _ _ (⟨some 46, .binOp _ _ _ _ _, _, _, _, _⟩ :: _) _ _; refine wpList_val rfl (op_ineI rfl rfl rfl C0.out) ?_; go_frame)
                  | (show wpList _ _ _ (⟨some 51, .binOp _ _ _ _ _, _, _, _, _⟩ :: _) _ _; refine wpList_val rfl (op_ineI rfl rfl rfl C1.out) ?_; go_frame)
                  | (show wpList _ _ _ (⟨some 57, .binOp _ _ _ _ _, _, _, _, _⟩ :: _) _ _; refine wpList_val rfl (op_ineI rfl rfl rfl C2.out) ?_; go_frame)
                  | (show wpList _ _ _ (⟨some 63, .binOp _ _ _ _ _, _, _, _, _⟩ :: _) _ _; refine wpList_val rfl (op_ineI rfl rfl rfl C3.out) ?_; go_frame)
                  | (show wpList _ _ _ (⟨some 69, .binOp _ _ _ _ _, _, _, _, _⟩ :: _) _ _; refine wpList_val rfl (op_iaddW rfl rfl rfl x HX.out) ?_; go_frame)
                  | (show wpList _ _ _ (⟨some 71, .binOp _ _ _ _ _, _, _, _, _⟩ :: _) _ _; refine wpList_val rfl (op_isubW rfl rfl rfl want HXS.out) ?_; go_frame)
                  )
                rw [show decide ((j : Int) < 4) = true from decide_eq_true (by omega)]
                go_loopw [72] (fun iv wr => ∃ (i : Nat) (q : Rt), iv = .int .i64 i ∧ i ≤ 3 ∧ Hid ((i < 3 → TInv e a b s tb q j i) ∧ (i = 3 → TInv e a b s tb q (j + 1) 0)) ∧ SepL All W wr [.blk p 58 (rtC sa q), .blk n8 29 [I64 a, I64 b]]) (fun iv _ => 3 - (intOf iv).toNat)
                case atStart => exact ⟨0, q, rfl, by omega, ⟨fun _ => HIN.out, fun h => absurd h (by omega)⟩, hS.sel (by repeat (first | exact Sel.refl | refine Sel.take (by repeat (first | exact t0 | apply tS)) ?_ | apply Sel.drop))⟩
                case round =>
                  clear hS HIN
                  clear q
                  obtain ⟨i, q, rfl, hi, HIN, hS⟩ := hrel
                  by_cases hi3 : i < 3
                  · have hin := HIN.out.1 hi3
                    clear HIN
                    have HWY : Hid (wayS sa q s = want) := HWJ.out q i hin
                    have HMI : Hid (missN q s = i) := hin.m
                    have HQO := hide hin.ok
                    have HWW := neF (Eq.refl want)
                    have HII := neF (Eq.refl (i : Int))
                    obtain ⟨q2, hq2⟩ : ∃ q2, missR 3 q s = q2 := ⟨_, rfl⟩
                    have HMR := hide hq2
                    by_cases hl : i + 1 < 3
                    · have HIV : Hid ((i + 1 < 3 → TInv e a b s tb q2 j (i + 1)) ∧ (i + 1 = 3 → TInv e a b s tb q2 (j + 1) 0)) := by
                        rw [← hq2]
                        exact ⟨fun _ => hin.more HSR.out hl, fun h => absurd h (by omega)⟩
                      have HMB : Hid (missB 3 q s = false) := (miss_more hin.ok HSR.out (by rw [hin.m]; exact hl)).1
                      have HI2 : Hid (((i : Int) == 2) = false) := eqF (by omega)
                      clear hin hq2 hl
                      go_wp2_with (first
                        | go_big_skip
                        | (go_at_call 14; (refine Ret.calls (way_s (p := p) (sa := sa) (r := q) (s := s) (hS.bring (by repeat (first | exact t0 | apply tS))) hK hF hsa HQO.out) ?_); clear hS; rintro r1 w ⟨rfl, hS⟩; rw [HWY.out])
                        | (go_at_call 28; (refine Ret.calls (misses_s (MM := 3) (p := p) (sa := sa) (r := q) (s := s) (hS.bring (by repeat (first | exact t0 | apply tS))) hsa HQO.out) ?_); clear hS; rintro r1 w ⟨rfl, hS⟩; rw [HMI.out])
                        | (go_at_call 32; (refine Ret.calls (miss_s (p := p) (sa := sa) (r := q) (s := s) (hS.bring (by repeat (first | exact t0 | apply tS))) hsa HQO.out) ?_); clear hS; rintro r1 w ⟨rfl, hS⟩; rw [HMB.out]; rw [HMR.out] at hS)
                        | (show wpList _ _ _ (⟨some 79, .binOp _ _ _ _ _, _, _, _, _⟩ :: _) _ _; refine wpList_val rfl (op_ineI rfl rfl rfl HWW.out) ?_; go_frame)
                        | (show wpList _ _ _ (⟨some 85, .binOp _ _ _ _ _, _, _, _, _⟩ :: _) _ _; refine wpList_val rfl (op_ineI rfl rfl rfl HII.out) ?_; go_frame)
                        | (show wpList _ _ _ (⟨some 92, .binOp _ _ _ _ _, _, _, _, _⟩ :: _) _ _; refine wpList_val rfl (op_eqI' rfl rfl rfl HI2.out) ?_; go_frame)
                        | (show wpList _ _ _ (⟨some 93, .binOp _ _ _ _ _, _, _, _, _⟩ :: _) _ _; refine wpList_val rfl (op_neBool rfl rfl rfl) ?_; go_frame)
                        )
                      go_roundw
                      case rel => exact ⟨i + 1, q2, by go_num, by omega, HIV, hS.sel (by repeat (first | exact Sel.refl | refine Sel.take (by repeat (first | exact t0 | apply tS)) ?_ | apply Sel.drop))⟩
                      case measure => simp [intOf]; omega
                    · have HIV : Hid ((i + 1 < 3 → TInv e a b s tb q2 j (i + 1)) ∧ (i + 1 = 3 → TInv e a b s tb q2 (j + 1) 0)) := by
                        rw [← hq2]
                        exact ⟨fun h => absurd h hl, fun _ => hin.last HSR.out hl⟩
                      have HMB : Hid (missB 3 q s = true) := (miss_last hin.ok HSR.out (by rw [hin.m]; exact hl)).1
                      have HI2 : Hid (((i : Int) == 2) = true) := eqT (by omega)
                      clear hin hq2 hl
                      go_wp2_with (first
                        | go_big_skip
                        | (go_at_call 14; (refine Ret.calls (way_s (p := p) (sa := sa) (r := q) (s := s) (hS.bring (by repeat (first | exact t0 | apply tS))) hK hF hsa HQO.out) ?_); clear hS; rintro r1 w ⟨rfl, hS⟩; rw [HWY.out])
                        | (go_at_call 28; (refine Ret.calls (misses_s (MM := 3) (p := p) (sa := sa) (r := q) (s := s) (hS.bring (by repeat (first | exact t0 | apply tS))) hsa HQO.out) ?_); clear hS; rintro r1 w ⟨rfl, hS⟩; rw [HMI.out])
                        | (go_at_call 32; (refine Ret.calls (miss_s (p := p) (sa := sa) (r := q) (s := s) (hS.bring (by repeat (first | exact t0 | apply tS))) hsa HQO.out) ?_); clear hS; rintro r1 w ⟨rfl, hS⟩; rw [HMB.out]; rw [HMR.out] at hS)
                        | (show wpList _ _ _ (⟨some 79, .binOp _ _ _ _ _, _, _, _, _⟩ :: _) _ _; refine wpList_val rfl (op_ineI rfl rfl rfl HWW.out) ?_; go_frame)
                        | (show wpList _ _ _ (⟨some 85, .binOp _ _ _ _ _, _, _, _, _⟩ :: _) _ _; refine wpList_val rfl (op_ineI rfl rfl rfl HII.out) ?_; go_frame)
                        | (show wpList _ _ _ (⟨some 92, .binOp _ _ _ _ _, _, _, _, _⟩ :: _) _ _; refine wpList_val rfl (op_eqI' rfl rfl rfl HI2.out) ?_; go_frame)
                        | (show wpList _ _ _ (⟨some 93, .binOp _ _ _ _ _, _, _, _, _⟩ :: _) _ _; refine wpList_val rfl (op_neBool rfl rfl rfl) ?_; go_frame)
                        )
                      go_roundw
                      case rel => exact ⟨i + 1, q2, by go_num, by omega, HIV, hS.sel (by repeat (first | exact Sel.refl | refine Sel.take (by repeat (first | exact t0 | apply tS)) ?_ | apply Sel.drop))⟩
                      case measure => simp [intOf]; omega
                  · have HIN2 := hide (HIN.out.2 (by omega))
                    clear HIN
                    go_wp2_with fail
                    go_roundw
                    case rel => exact ⟨j + 1, q, by go_num, by omega, HIN2, hS.sel (by repeat (first | exact Sel.refl | refine Sel.take (by repeat (first | exact t0 | apply tS)) ?_ | apply Sel.drop))⟩
                    case measure => simp [intOf]; omega
              · have C2 := neT c2
                by_cases c3 : b = s
                · have C3 := neF c3
                  obtain rfl : want = f := hwant.symm.trans (if_neg (fun h => h.2.2.2.2 c3))
                  clear hj1 c0 c1 c2 c3 hwant
                  go_wp2_with (first
                    | go_big_skip
                    | (show wpList _ _ _ (⟨some 41, .binOp _ _ _ _ _, _, _, _, _⟩ :: _) _ _; refine wpList_val rfl (op_iremN rfl (a := j) (b := 2) rfl rfl (by omega)) ?_; rw [HJ2.out]; go_frame)
                    | (show wpList _ _ _ (⟨some 42, .binOp _ _ _ _ _, _, _, _, _⟩ :: _) _ _; refine wpList_val rfl (op_eqI' rfl rfl rfl HJ.out) ?_; go_frame)
                    | (show wpList _ _ _ (⟨_, .indexAddr _ (.tmp 8) (.const (.int .i64 0)), _, _, _, _⟩ :: _) _ _; refine wpList_val rfl (op_indexArrZ arr2i rfl (b := n8) (off := 0) rfl rfl 0 rfl (by omega)) ?_; simp only [Nat.add_zero]; go_frame)
                    | (show wpList _ _ _ (⟨_, .indexAddr _ (.tmp 8) (.const (.int .i64 1)), _, _, _, _⟩ :: _) _ _; refine wpList_val rfl (op_indexArrZ arr2i rfl (b := n8) (off := 0) rfl rfl 1 rfl (by omega)) ?_; simp only [Nat.zero_add]; go_frame)
                    | (show wpList _ _ _ (⟨_, .load 3 _, _, _, _, _⟩ :: _) _ _; refine wpList_val rfl (op_load1S (b := n8) (T := 29) oneInt ((hS.bring (by repeat (first | exact t0 | apply tS)))) rfl rfl rfl) ?_; go_frame)
                    | (show wpList _ _ _ (⟨some 46, .binOp _ _ _ _ _, _, _, _, _⟩ :: _) _ _; refine wpList_val rfl (op_ineI rfl rfl rfl C0.out) ?_; go_frame)
                    | (show wpList _ _ _ (⟨some 51, .binOp _ _ _ _ _, _, _, _, _⟩ :: _) _ _; refine wpList_val rfl (op_ineI rfl rfl rfl C1.out) ?_; go_frame)
                    | (show wpList _ _ _ (⟨some 57, .binOp _ _ _ _ _, _, _, _, _⟩ :: _) _ _; refine wpList_val rfl (op_ineI rfl rfl rfl C2.out) ?_; go_frame)
                    | (show wpList _ _ _ (⟨some 63, .binOp _ _ _ _ _, _, _, _, _⟩ :: _) _ _; refine wpList_val rfl (op_ineI rfl rfl rfl C3.out) ?_; go_frame)
                    | (show wpList _ _ _ (⟨some 69, .binOp _ _ _ _ _, _, _, _, _⟩ :: _) _ _; refine wpList_val rfl (op_iaddW rfl rfl rfl x HX.out) ?_; go_frame)
                    | (show wpList _ _ _ (⟨some 71, .binOp _ _ _ _ _, _, _, _, _⟩ :: _) _ _; refine wpList_val rfl (op_isubW rfl rfl rfl want HXS.out) ?_; go_frame)
                    )
                  rw [show decide ((j : Int) < 4) = true from decide_eq_true (by omega)]
                  go_loopw [72] (fun iv wr => ∃ (i : Nat) (q : Rt), iv = .int .i64 i ∧ i ≤ 3 ∧ Hid ((i < 3 → TInv e a b s tb q j i) ∧ (i = 3 → TInv e a b s tb q (j + 1) 0)) ∧ SepL All W wr [.blk p 58 (rtC sa q), .blk n8 29 [I64 a, I64 b]]) (fun iv _ => 3 - (intOf iv).toNat)
                  case atStart => exact ⟨0, q, rfl, by omega, ⟨fun _ => HIN.out, fun h => absurd h (by omega)⟩, hS.sel (by repeat (first | exact Sel.refl | refine Sel.take (by repeat (first | exact t0 | apply tS)) ?_ | apply Sel.drop))⟩
                  case round =>
                    clear hS HIN
                    clear q
                    obtain ⟨i, q, rfl, hi, HIN, hS⟩ := hrel
                    by_cases hi3 : i < 3
                    · have hin := HIN.out.1 hi3
                      clear HIN
                      have HWY : Hid (wayS sa q s = want) := HWJ.out q i hin
                      have HMI : Hid (missN q s = i) := hin.m
                      have HQO := hide hin.ok
                      have HWW := neF (Eq.refl want)
                      have HII := neF (Eq.refl (i : Int))
                      obtain ⟨q2, hq2⟩ : ∃ q2, missR 3 q s = q2 := ⟨_, rfl⟩
                      have HMR := hide hq2
                      by_cases hl : i + 1 < 3
                      · have HIV : Hid ((i + 1 < 3 → TInv e a b s tb q2 j (i + 1)) ∧ (i + 1 = 3 → TInv e a b s tb q2 (j + 1) 0)) := by
                          rw [← hq2]
                          exact ⟨fun _ => hin.more HSR.out hl, fun h => absurd h (by omega)⟩
                        have HMB : Hid (missB 3 q s = false) := (miss_more hin.ok HSR.out (by rw [hin.m]; exact hl)).1
                        have HI2 : Hid (((i : Int) == 2) = false) := eqF (by omega)
                        clear hin hq2 hl
                        go_wp2_with (first
                          | go_big_skip
                          | (go_at_call 14; (refine Ret.calls (way_s (p := p) (sa := sa) (r := q) (s := s) (hS.bring (by repeat (first | exact t0 | apply tS))) hK hF hsa HQO.out) ?_); clear hS; rintro r1 w ⟨rfl, hS⟩; rw [HWY.out])
                          | (go_at_call 28; (refine Ret.calls (misses_s (MM := 3) (p := p) (sa := sa) (r := q) (s := s) (hS.bring (by repeat (first | exact t0 | apply tS))) hsa HQO.out) ?_); clear hS; rintro r1 w ⟨rfl, hS⟩; rw [HMI.out])
                          | (go_at_call 32; (refine Ret.calls (miss_s (p := p) (sa := sa) (r := q) (s := s) (hS.bring (by repeat (first | exact t0 | apply tS))) hsa HQO.out) ?_); clear hS; rintro r1 w ⟨rfl, hS⟩; rw [HMB.out]; rw [HMR.out] at hS)
                          | (show wpList _ _ _ (⟨some 79, .binOp _ _ _ _ _, _, _, _, _⟩ :: _) _ _; refine wpList_val rfl (op_ineI rfl rfl rfl HWW.out) ?_; go_frame)
                          | (show wpList _ _ _ (⟨some 85, .binOp _ _ _ _ _, _, _, _, _⟩ :: _) _ _; refine wpList_val rfl (op_ineI rfl rfl rfl HII.out) ?_; go_frame)
                          | (show wpList _ _ _ (⟨some 92, .binOp _ _ _ _ _, _, _, _, _⟩ :: _) _ _; refine wpList_val rfl (op_eqI' rfl rfl rfl HI2.out) ?_; go_frame)
                          | (show wpList _ _ _ (⟨some 93, .binOp _ _ _ _ _, _, _, _, _⟩ :: _) _ _; refine wpList_val rfl (op_neBool rfl rfl rfl) ?_; go_frame)
                          )
                        go_roundw
                        case rel => exact ⟨i + 1, q2, by go_num, by omega, HIV, hS.sel (by repeat (first | exact Sel.refl | refine Sel.take (by repeat (first | exact t0 | apply tS)) ?_ | apply Sel.drop))⟩
                        case measure => simp [intOf]; omega
                      · have HIV : Hid ((i + 1 < 3 → TInv e a b s tb q2 j (i + 1)) ∧ (i + 1 = 3 → TInv e a b s tb q2 (j + 1) 0)) := by
                          rw [← hq2]
                          exact ⟨fun h => absurd h hl, fun _ => hin.last HSR.out hl⟩
                        have HMB : Hid (missB 3 q s = true) := (miss_last hin.ok HSR.out (by rw [hin.m]; exact hl)).1
                        have HI2 : Hid (((i : Int) == 2) = true) := eqT (by omega)
                        clear hin hq2 hl
                        go_wp2_with (first
                          | go_big_skip
                          | (go_at_call 14; (refine Ret.calls (way_s (p := p) (sa := sa) (r := q) (s := s) (hS.bring (by repeat (first | exact t0 | apply tS))) hK hF hsa HQO.out) ?_); clear hS; rintro r1 w ⟨rfl, hS⟩; rw [HWY.out])
                          | (go_at_call 28; (refine Ret.calls (misses_s (MM := 3) (p := p) (sa := sa) (r := q) (s := s) (hS.bring (by repeat (first | exact t0 | apply tS))) hsa HQO.out) ?_); clear hS; rintro r1 w ⟨rfl, hS⟩; rw [HMI.out])
                          | (go_at_call 32; (refine Ret.calls (miss_s (p := p) (sa := sa) (r := q) (s := s) (hS.bring (by repeat (first | exact t0 | apply tS))) hsa HQO.out) ?_); clear hS; rintro r1 w ⟨rfl, hS⟩; rw [HMB.out]; rw [HMR.out] at hS)
                          | (show wpList _ _ _ (⟨some 79, .binOp _ _ _ _ _, _, _, _, _⟩ :: _) _ _; refine wpList_val rfl (op_ineI rfl rfl rfl HWW.out) ?_; go_frame)
                          | (show wpList _ _ _ (⟨some 85, .binOp _ _ _ _ _, _, _, _, _⟩ :: _) _ _; refine wpList_val rfl (op_ineI rfl rfl rfl HII.out) ?_; go_frame)
                          | (show wpList _ _ _ (⟨some 92, .binOp _ _ _ _ _, _, _, _, _⟩ :: _) _ _; refine wpList_val rfl (op_eqI' rfl rfl rfl HI2.out) ?_; go_frame)
                          | (show wpList _ _ _ (⟨some 93, .binOp _ _ _ _ _, _, _, _, _⟩ :: _) _ _; refine wpList_val rfl (op_neBool rfl rfl rfl) ?_; go_frame)
                          )
                        go_roundw
                        case rel => exact ⟨i + 1, q2, by go_num, by omega, HIV, hS.sel (by repeat (first | exact Sel.refl | refine Sel.take (by repeat (first | exact t0 | apply tS)) ?_ | apply Sel.drop))⟩
                        case measure => simp [intOf]; omega
                    · have HIN2 := hide (HIN.out.2 (by omega))
                      clear HIN
                      go_wp2_with fail
                      go_roundw
                      case rel => exact ⟨j + 1, q, by go_num, by omega, HIN2, hS.sel (by repeat (first | exact Sel.refl | refine Sel.take (by repeat (first | exact t0 | apply tS)) ?_ | apply Sel.drop))⟩
                      case measure => simp [intOf]; omega
                · have C3 := neT c3
                  have hw2 : a + b - f = want := (if_pos ⟨hj1, c0, c1, c2, c3⟩).symm.trans hwant
                  obtain ⟨x, hx⟩ : ∃ x, IntKind.i64.wrap (a + b) = x := ⟨_, rfl⟩
                  have HX := hide hx
                  have HXS : Hid (IntKind.i64.wrap (x - f) = want) := by
                    have h1 := wrap_back (HWIN.out ⟨c0, c1, c2, c3⟩)
                    rw [hx, hw2] at h1
                    exact h1
                  clear hj1 c0 c1 c2 c3 hwant hw2 hx
                  go_wp2_with (first
                    | go_big_skip
                    | (show wpList _ _ _ (⟨some 41, .binOp _ _ _ _ _, _, _, _, _⟩ :: _) _ _; refine wpList_val rfl (op_iremN rfl (a := j) (b := 2) rfl rfl (by omega)) ?_; rw [HJ2.out]; go_frame)
                    | (show wpList _ _ _ (⟨some 42, .binOp _ _ _ _ _, _, _, _, _⟩ :: _) _ _; refine wpList_val rfl (op_eqI' rfl rfl rfl HJ.out) ?_; go_frame)
                    | (show wpList _ _ _ (⟨_, .indexAddr _ (.tmp 8) (.const (.int .i64 0)), _, _, _, _⟩ :: _) _ _; refine wpList_val rfl (op_indexArrZ arr2i rfl (b := n8) (off := 0) rfl rfl 0 rfl (by omega)) ?_; simp only [Nat.add_zero]; go_frame)
                    | (show wpList _ _ _ (⟨_, .indexAddr _ (.tmp 8) (.const (.int .i64 1)), _, _, _, _⟩ :: _) _ _; refine wpList_val rfl (op_indexArrZ arr2i rfl (b := n8) (off := 0) rfl rfl 1 rfl (by omega)) ?_; simp only [Nat.zero_add]; go_frame)
                    | (show wpList _ _ _ (⟨_, .load 3 _, _, _, _, _⟩ :: _) _ _; refine wpList_val rfl (op_load1S (b := n8) (T := 29) oneInt ((hS.bring (by repeat (first | exact t0 | apply tS)))) rfl rfl rfl) ?_; go_frame)
                    | (show wpList _ _ _ (⟨some 46, .binOp _ _ _ _ _, _, _, _, _⟩ :: _) _ _; refine wpList_val rfl (op_ineI rfl rfl rfl C0.out) ?_; go_frame)
                    | (show wpList _ _ _ (⟨some 51, .binOp _ _ _ _ _, _, _, _, _⟩ :: _) _ _; refine wpList_val rfl (op_ineI rfl rfl rfl C1.out) ?_; go_frame)
                    | (show wpList _ _ _ (⟨some 57, .binOp _ _ _ _ _, _, _, _, _⟩ :: _) _ _; refine wpList_val rfl (op_ineI rfl rfl rfl C2.out) ?_; go_frame)
                    | (show wpList _ _ _ (⟨some 63, .binOp _ _ _ _ _, _, _, _, _⟩ :: _) _ _; refine wpList_val rfl (op_ineI rfl rfl rfl C3.out) ?_; go_frame)
                    | (show wpList _ _ _ (⟨some 69, .binOp _ _ _ _ _, _, _, _, _⟩ :: _) _ _; refine wpList_val rfl (op_iaddW rfl rfl rfl x HX.out) ?_; go_frame)
                    | (show wpList _ _ _ (⟨some 71, .binOp _ _ _ _ _, _, _, _, _⟩ :: _) _ _; refine wpList_val rfl (op_isubW rfl rfl rfl want HXS.out) ?_; go_frame)
                    )
                  rw [show decide ((j : Int) < 4) = true from decide_eq_true (by omega)]
                  go_loopw [72] (fun iv wr => ∃ (i : Nat) (q : Rt), iv = .int .i64 i ∧ i ≤ 3 ∧ Hid ((i < 3 → TInv e a b s tb q j i) ∧ (i = 3 → TInv e a b s tb q (j + 1) 0)) ∧ SepL All W wr [.blk p 58 (rtC sa q), .blk n8 29 [I64 a, I64 b]]) (fun iv _ => 3 - (intOf iv).toNat)
                  case atStart => exact ⟨0, q, rfl, by omega, ⟨fun _ => HIN.out, fun h => absurd h (by omega)⟩, hS.sel (by repeat (first | exact Sel.refl | refine Sel.take (by repeat (first | exact t0 | apply tS)) ?_ | apply Sel.drop))⟩
                  case round =>
                    clear hS HIN
                    clear q
                    obtain ⟨i, q, rfl, hi, HIN, hS⟩ := hrel
                    by_cases hi3 : i < 3
                    · have hin := HIN.out.1 hi3
                      clear HIN
                      have HWY : Hid (wayS sa q s = want) := HWJ.out q i hin
                      have HMI : Hid (missN q s = i) := hin.m
                      have HQO := hide hin.ok
                      have HWW := neF (Eq.refl want)
                      have HII := neF (Eq.refl (i : Int))
                      obtain ⟨q2, hq2⟩ : ∃ q2, missR 3 q s = q2 := ⟨_, rfl⟩
                      have HMR := hide hq2
                      by_cases hl : i + 1 < 3
                      · have HIV : Hid ((i + 1 < 3 → TInv e a b s tb q2 j (i + 1)) ∧ (i + 1 = 3 → TInv e a b s tb q2 (j + 1) 0)) := by
                          rw [← hq2]
                          exact ⟨fun _ => hin.more HSR.out hl, fun h => absurd h (by omega)⟩
                        have HMB : Hid (missB 3 q s = false) := (miss_more hin.ok HSR.out (by rw [hin.m]; exact hl)).1
                        have HI2 : Hid (((i : Int) == 2) = false) := eqF (by omega)
                        clear hin hq2 hl
                        go_wp2_with (first
                          | go_big_skip
                          | (go_at_call 14; (refine Ret.calls (way_s (p := p) (sa := sa) (r := q) (s := s) (hS.bring (by repeat (first | exact t0 | apply tS))) hK hF hsa HQO.out) ?_); clear hS; rintro r1 w ⟨rfl, hS⟩; rw [HWY.out])
                          | (go_at_call 28; (refine Ret.calls (misses_s (MM := 3) (p := p) (sa := sa) (r := q) (s := s) (hS.bring (by repeat (first | exact t0 | apply tS))) hsa HQO.out) ?_); clear hS; rintro r1 w ⟨rfl, hS⟩; rw [HMI.out])
                          | (go_at_call 32; (refine Ret.calls (miss_s (p := p) (sa := sa) (r := q) (s := s) (hS.bring (by repeat (first | exact t0 | apply tS))) hsa HQO.out) ?_); clear hS; rintro r1 w ⟨rfl, hS⟩; rw [HMB.out]; rw [HMR.out] at hS)
                          | (show wpList _ _ _ (⟨some 79, .binOp _ _ _ _ _, _, _, _, _⟩ :: _) _ _; refine wpList_val rfl (op_ineI rfl rfl rfl HWW.out) ?_; go_frame)
                          | (show wpList _ _ _ (⟨some 85, .binOp _ _ _ _ _, _, _, _, _⟩ :: _) _ _; refine wpList_val rfl (op_ineI rfl rfl rfl HII.out) ?_; go_frame)
                          | (show wpList _ _ _ (⟨some 92, .binOp _ _ _ _ _, _, _, _, _⟩ :: _) _ _; refine wpList_val rfl (op_eqI' rfl rfl rfl HI2.out) ?_; go_frame)
                          | (show wpList _ _ _ (⟨some 93, .binOp _ _ _ _ _, _, _, _, _⟩ :: _) _ _; refine wpList_val rfl (op_neBool rfl rfl rfl) ?_; go_frame)
                          )
                        go_roundw
                        case rel => exact ⟨i + 1, q2, by go_num, by omega, HIV, hS.sel (by repeat (first | exact Sel.refl | refine Sel.take (by repeat (first | exact t0 | apply tS)) ?_ | apply Sel.drop))⟩
                        case measure => simp [intOf]; omega
                      · have HIV : Hid ((i + 1 < 3 → TInv e a b s tb q2 j (i + 1)) ∧ (i + 1 = 3 → TInv e a b s tb q2 (j + 1) 0)) := by
                          rw [← hq2]
                          exact ⟨fun h => absurd h hl, fun _ => hin.last HSR.out hl⟩
                        have HMB : Hid (missB 3 q s = true) := (miss_last hin.ok HSR.out (by rw [hin.m]; exact hl)).1
                        have HI2 : Hid (((i : Int) == 2) = true) := eqT (by omega)
                        clear hin hq2 hl
                        go_wp2_with (first
                          | go_big_skip
                          | (go_at_call 14; (refine Ret.calls (way_s (p := p) (sa := sa) (r := q) (s := s) (hS.bring (by repeat (first | exact t0 | apply tS))) hK hF hsa HQO.out) ?_); clear hS; rintro r1 w ⟨rfl, hS⟩; rw [HWY.out])
                          | (go_at_call 28; (refine Ret.calls (misses_s (MM := 3) (p := p) (sa := sa) (r := q) (s := s) (hS.bring (by repeat (first | exact t0 | apply tS))) hsa HQO.out) ?_); clear hS; rintro r1 w ⟨rfl, hS⟩; rw [HMI.out])
                          | (go_at_call 32; (refine Ret.calls (miss_s (p := p) (sa := sa) (r := q) (s := s) (hS.bring (by repeat (first | exact t0 | apply tS))) hsa HQO.out) ?_); clear hS; rintro r1 w ⟨rfl, hS⟩; rw [HMB.out]; rw [HMR.out] at hS)
                          | (show wpList _ _ _ (⟨some 79, .binOp _ _ _ _ _, _, _, _, _⟩ :: _) _ _; refine wpList_val rfl (op_ineI rfl rfl rfl HWW.out) ?_; go_frame)
                          | (show wpList _ _ _ (⟨some 85, .binOp _ _ _ _ _, _, _, _, _⟩ :: _) _ _; refine wpList_val rfl (op_ineI rfl rfl rfl HII.out) ?_; go_frame)
                          | (show wpList _ _ _ (⟨some 92, .binOp _ _ _ _ _, _, _, _, _⟩ :: _) _ _; refine wpList_val rfl (op_eqI' rfl rfl rfl HI2.out) ?_; go_frame)
                          | (show wpList _ _ _ (⟨some 93, .binOp _ _ _ _ _, _, _, _, _⟩ :: _) _ _; refine wpList_val rfl (op_neBool rfl rfl rfl) ?_; go_frame)
                          )
                        go_roundw
                        case rel => exact ⟨i + 1, q2, by go_num, by omega, HIV, hS.sel (by repeat (first | exact Sel.refl | refine Sel.take (by repeat (first | exact t0 | apply tS)) ?_ | apply Sel.drop))⟩
                        case measure => simp [intOf]; omega
                    · have HIN2 := hide (HIN.out.2 (by omega))
                      clear HIN
                      go_wp2_with fail
                      go_roundw
                      case rel => exact ⟨j + 1, q, by go_num, by omega, HIN2, hS.sel (by repeat (first | exact Sel.refl | refine Sel.take (by repeat (first | exact t0 | apply tS)) ?_ | apply Sel.drop))⟩
                      case measure => simp [intOf]; omega
        · have HJ : Hid ((((j2 : Nat) : Int) == 1) = false) := eqF (by omega)
          obtain rfl : want = f := hwant.symm.trans (if_neg (fun h => hj1 h.1))
          clear hj1 hwant
          go_wp2_with (first
            | go_big_skip
            | (show wpList _ _ _ (⟨some 41, .binOp _ _ _ _ _, _, _, _, _⟩ :: _) _ _; refine wpList_val rfl (op_iremN rfl (a := j) (b := 2) rfl rfl (by omega)) ?_; rw [HJ2.out]; go_frame)
            | (show wpList _ _ _ (⟨some 42, .binOp _ _ _ _ _, _, _, _, _⟩ :: _) _ _; refine wpList_val rfl (op_eqI' rfl rfl rfl HJ.out) ?_; go_frame)
            | (show wpList _ _ _ (⟨_, .indexAddr _ (.tmp 8) (.const (.int .i64 0)), _, _, _, _⟩ :: _) _ _; refine wpList_val rfl (op_indexArrZ arr2i rfl (b := n8) (off := 0) rfl rfl 0 rfl (by omega)) ?_; simp only [Nat.add_zero]; go_frame)
            | (show wpList _ _ _ (⟨_, .indexAddr _ (.tmp 8) (.const (.int .i64 1)), _, _, _, _⟩ :: _) _ _; refine wpList_val rfl (op_indexArrZ arr2i rfl (b := n8) (off := 0) rfl rfl 1 rfl (by omega)) ?_; simp only [Nat.zero_add]; go_frame)
            | (show wpList _ _ _ (⟨_, .load 3 _, _, _, _, _⟩ :: _) _ _; refine wpList_val rfl (op_load1S (b := n8) (T := 29) oneInt ((hS.bring (by repeat (first | exact t0 | apply tS)))) rfl rfl rfl) ?_; go_frame)
            | (show wpList _ _ _ (⟨some 46, .binOp _ _ _ _ _, _, _, _, _⟩ :: _) _ _; refine wpList_val rfl (op_ineI rfl rfl rfl C0.out) ?_; go_frame)
            | (show wpList _ _ _ (⟨some 51, .binOp _ _ _ _ _, _, _, _, _⟩ :: _) _ _; refine wpList_val rfl (op_ineI rfl rfl rfl C1.out) ?_; go_frame)
            | (show wpList _ _ _ (⟨some 57, .binOp _ _ _ _ _, _, _, _, _⟩ :: _) _ _; refine wpList_val rfl (op_ineI rfl rfl rfl C2.out) ?_; go_frame)
            | (show wpList _ _ _ (⟨some 63, .binOp _ _ _ _ _, _, _, _, _⟩ :: _) _ _; refine wpList_val rfl (op_ineI rfl rfl rfl C3.out) ?_; go_frame)
            | (show wpList _ _ _ (⟨some 69, .binOp _ _ _ _ _, _, _, _, _⟩ :: _) _ _; refine wpList_val rfl (op_iaddW rfl rfl rfl x HX.out) ?_; go_frame)
            | (show wpList _ _ _ (⟨some 71, .binOp _ _ _ _ _, _, _, _, _⟩ :: _) _ _; refine wpList_val rfl (op_isubW rfl rfl rfl want HXS.out) ?_; go_frame)
            )
          rw [show decide ((j : Int) < 4) = true from decide_eq_true (by omega)]
          go_loopw [72] (fun iv wr => ∃ (i : Nat) (q : Rt), iv = .int .i64 i ∧ i ≤ 3 ∧ Hid ((i < 3 → TInv e a b s tb q j i) ∧ (i = 3 → TInv e a b s tb q (j + 1) 0)) ∧ SepL All W wr [.blk p 58 (rtC sa q), .blk n8 29 [I64 a, I64 b]]) (fun iv _ => 3 - (intOf iv).toNat)
          case atStart => exact ⟨0, q, rfl, by omega, ⟨fun _ => HIN.out, fun h => absurd h (by omega)⟩, hS.sel (by repeat (first | exact Sel.refl | refine Sel.take (by repeat (first | exact t0 | apply tS)) ?_ | apply Sel.drop))⟩
          case round =>
            clear hS HIN
            clear q
            obtain ⟨i, q, rfl, hi, HIN, hS⟩ := hrel
            by_cases hi3 : i < 3
            · have hin := HIN.out.1 hi3
              clear HIN
              have HWY : Hid (wayS sa q s = want) := HWJ.out q i hin
              have HMI : Hid (missN q s = i) := hin.m
              have HQO := hide hin.ok
              have HWW := neF (Eq.refl want)
              have HII := neF (Eq.refl (i : Int))
              obtain ⟨q2, hq2⟩ : ∃ q2, missR 3 q s = q2 := ⟨_, rfl⟩
              have HMR := hide hq2
              by_cases hl : i + 1 < 3
              · have HIV : Hid ((i + 1 < 3 → TInv e a b s tb q2 j (i + 1)) ∧ (i + 1 = 3 → TInv e a b s tb q2 (j + 1) 0)) := by
                  rw [← hq2]
                  exact ⟨fun _ => hin.more HSR.out hl, fun h => absurd h (by omega)⟩
                have HMB : Hid (missB 3 q s = false) := (miss_more hin.ok HSR.out (by rw [hin.m]; exact hl)).1
                have HI2 : Hid (((i : Int) == 2) = false) := eqF (by omega)
                clear hin hq2 hl
                go_wp2_with (first
                  | go_big_skip
                  | (go_at_call 14; (refine Ret.calls (way_s (p := p) (sa := sa) (r := q) (s := s) (hS.bring (by repeat (first | exact t0 | apply tS))) hK hF hsa HQO.out) ?_); clear hS; rintro r1 w ⟨rfl, hS⟩; rw [HWY.out])
                  | (go_at_call 28; (refine Ret.calls (misses_s (MM := 3) (p := p) (sa := sa) (r := q) (s := s) (hS.bring (by repeat (first | exact t0 | apply tS))) hsa HQO.out) ?_); clear hS; rintro r1 w ⟨rfl, hS⟩; rw [HMI.out])
                  | (go_at_call 32; (refine Ret.calls (miss_s (p := p) (sa := sa) (r := q) (s := s) (hS.bring (by repeat (first | exact t0 | apply tS))) hsa HQO.out) ?_); clear hS; rintro r1 w ⟨rfl, hS⟩; rw [HMB.out]; rw [HMR.out] at hS)
                  | (show wpList _ _ _ (⟨some 79, .binOp _ _ _ _ _, _, _, _, _⟩ :: _) _ _; refine wpList_val rfl (op_ineI rfl rfl rfl HWW.out) ?_; go_frame)
                  | (show wpList _ _ _ (⟨some 85, .binOp _ _ _ _ _, _, _, _, _⟩ :: _) _ _; refine wpList_val rfl (op_ineI rfl rfl rfl HII.out) ?_; go_frame)
                  | (show wpList _ _ _ (⟨some 92, .binOp _ _ _ _ _, _, _, _, _⟩ :: _) _ _; refine wpList_val rfl (op_eqI' rfl rfl rfl HI2.out) ?_; go_frame)
                  | (show wpList _ _ _ (⟨some 93, .binOp _ _ _ _ _, _, _, _, _⟩ :: _) _ _; refine wpList_val rfl (op_neBool rfl rfl rfl) ?_; go_frame)
                  )
                go_roundw
                case rel => exact ⟨i + 1, q2, by go_num, by omega, HIV, hS.sel (by repeat (first | exact Sel.refl | refine Sel.take (by repeat (first | exact t0 | apply tS)) ?_ | apply Sel.drop))⟩
                case measure => simp [intOf]; omega
              · have HIV : Hid ((i + 1 < 3 → TInv e a b s tb q2 j (i + 1)) ∧ (i + 1 = 3 → TInv e a b s tb q2 (j + 1) 0)) := by
                  rw [← hq2]
                  exact ⟨fun h => absurd h hl, fun _ => hin.last HSR.out hl⟩
                have HMB : Hid (missB 3 q s = true) := (miss_last hin.ok HSR.out (by rw [hin.m]; exact hl)).1
                have HI2 : Hid (((i : Int) == 2) = true) := eqT (by omega)
                clear hin hq2 hl
                go_wp2_with (first
                  | go_big_skip
                  | (go_at_call 14; (refine Ret.calls (way_s (p := p) (sa := sa) (r := q) (s := s) (hS.bring (by repeat (first | exact t0 | apply tS))) hK hF hsa HQO.out) ?_); clear hS; rintro r1 w ⟨rfl, hS⟩; rw [HWY.out])
                  | (go_at_call 28; (refine Ret.calls (misses_s (MM := 3) (p := p) (sa := sa) (r := q) (s := s) (hS.bring (by repeat (first | exact t0 | apply tS))) hsa HQO.out) ?_); clear hS; rintro r1 w ⟨rfl, hS⟩; rw [HMI.out])
                  | (go_at_call 32; (refine Ret.calls (miss_s (p := p) (sa := sa) (r := q) (s := s) (hS.bring (by repeat (first | exact t0 | apply tS))) hsa HQO.out) ?_); clear hS; rintro r1 w ⟨rfl, hS⟩; rw [HMB.out]; rw [HMR.out] at hS)
                  | (show wpList _ _ _ (⟨some 79, .binOp _ _ _ _ _, _, _, _, _⟩ :: _) _ _; refine wpList_val rfl (op_ineI rfl rfl rfl HWW.out) ?_; go_frame)
                  | (show wpList _ _ _ (⟨some 85, .binOp _ _ _ _ _, _, _, _, _⟩ :: _) _ _; refine wpList_val rfl (op_ineI rfl rfl rfl HII.out) ?_; go_frame)
                  | (show wpList _ _ _ (⟨some 92, .binOp _ _ _ _ _, _, _, _, _⟩ :: _) _ _; refine wpList_val rfl (op_eqI' rfl rfl rfl HI2.out) ?_; go_frame)
                  | (show wpList _ _ _ (⟨some 93, .binOp _ _ _ _ _, _, _, _, _⟩ :: _) _ _; refine wpList_val rfl (op_neBool rfl rfl rfl) ?_; go_frame)
                  )
                go_roundw
                case rel => exact ⟨i + 1, q2, by go_num, by omega, HIV, hS.sel (by repeat (first | exact Sel.refl | refine Sel.take (by repeat (first | exact t0 | apply tS)) ?_ | apply Sel.drop))⟩
                case measure => simp [intOf]; omega
            · have HIN2 := hide (HIN.out.2 (by omega))
              clear HIN
              go_wp2_with fail
              go_roundw
              case rel => exact ⟨j + 1, q, by go_num, by omega, HIN2, hS.sel (by repeat (first | exact Sel.refl | refine Sel.take (by repeat (first | exact t0 | apply tS)) ?_ | apply Sel.drop))⟩
              case measure => simp [intOf]; omega
      · have hj4 : j = 4 := by omega
        subst hj4
        have hin := HIN.out
        have HWY : Hid (wayS sa q s = f) := (HWAY.out q 4 0 hin).trans (if_neg (fun h => absurd h.1 (by omega)))
        have HQO := hide hin.ok
        have HQA : Hid (q.s0 = a) := hin.s0
        have HQB : Hid (q.s1 = b) := hin.s1
        have HT := and_self2 a b
        have HWW := eqT (Eq.refl f)
        clear hin
        go_wp2_with fail
        refine wp_region_ord (by kernel_rfl) [8] [[0, 1, 3, 2, 4, 5, 6, 8, 7, 9, 10, 11]] (by kernel_rfl) (by kernel_rfl) (fun w' => Blk w' n8 29 [I64 a, I64 b]) Up.blk ((hS.bring (by repeat (first | exact t0 | apply tS))).getBlk) (by repeat (first | exact Clean.body | refine Clean.then ?_ | refine Clean.inBlock ?_ | refine SegQ.clean ?_ | refine FinC.clean ?_)) ?_
        replace hS := hS.drew
        refine ord_seg (by repeat (first | exact Clean.body | refine Clean.then ?_ | refine Clean.inBlock ?_ | refine SegQ.clean ?_ | refine FinC.clean ?_)) (n := 8) (rest := [[4, 5, 6, 8, 7, 9, 10, 11]]) [0, 1, 3, 2] [⟨_, _, _, _, _, _⟩, ⟨_, _, _, _, _, _⟩, ⟨_, _, _, _, _, _⟩, ⟨_, _, _, _, _, _⟩] rfl (by kernel_rfl) (by simp) _ _ ?_
        go_wp2_with (first
          | go_big_skip
          | (go_at_call 14; (refine Ret.calls (way_s (p := p) (sa := sa) (r := q) (s := s) (hS.bring (by repeat (first | exact t0 | apply tS))) hK hF hsa HQO.out) ?_); clear hS; rintro r1 w ⟨rfl, hS⟩; rw [HWY.out])
          | (go_at_call 13; (refine Ret.calls (succ_s (p := p) (sa := sa) (r := q) (hS.bring (by repeat (first | exact t0 | apply tS))) hsa) ?_); clear hS; rintro r1 w ⟨rfl, hS⟩; rw [HQA.out, HQB.out])
          | (show wpList _ _ _ (⟨_, .load 29 _, _, _, _, _⟩ :: _) _ _; refine wpList_val rfl (op_load agg2 rfl rfl (SepL.getBlk (b := n8) (T := 29) ((hS.bring (by repeat (first | exact t0 | apply tS))))).cells rfl) ?_; go_frame)
          | (show wpList _ _ _ (⟨_, .binOp .eql 29 _ _ _, _, _, _, _⟩ :: _) _ _; refine wpList_val rfl (op_eqP rfl rfl rfl HT.out) ?_; go_frame)
          | (show wpList _ _ _ (⟨some 101, .binOp _ _ _ _ _, _, _, _, _⟩ :: _) _ _; refine wpList_val rfl (op_eqI' rfl rfl rfl HWW.out) ?_; go_frame)
          )
        refine segQ_mk (((hS.bring (by repeat (first | exact t0 | apply tS))).getBlk) : Blk _ n8 29 [I64 a, I64 b]) ?_
        refine ord_seg (by repeat (first | exact Clean.body | refine Clean.then ?_ | refine Clean.inBlock ?_ | refine SegQ.clean ?_ | refine FinC.clean ?_)) (n := 3) (rest := [[9, 10, 11]]) [4, 5, 6, 8, 7] [⟨_, _, _, _, _, _⟩, ⟨_, _, _, _, _, _⟩, ⟨_, _, _, _, _, _⟩, ⟨_, _, _, _, _, _⟩, ⟨_, _, _, _, _, _⟩] rfl (by kernel_rfl) (by simp) _ _ ?_
        go_wp2_with (first
          | go_big_skip
          | (go_at_call 14; (refine Ret.calls (way_s (p := p) (sa := sa) (r := q) (s := s) (hS.bring (by repeat (first | exact t0 | apply tS))) hK hF hsa HQO.out) ?_); clear hS; rintro r1 w ⟨rfl, hS⟩; rw [HWY.out])
          | (go_at_call 13; (refine Ret.calls (succ_s (p := p) (sa := sa) (r := q) (hS.bring (by repeat (first | exact t0 | apply tS))) hsa) ?_); clear hS; rintro r1 w ⟨rfl, hS⟩; rw [HQA.out, HQB.out])
          | (show wpList _ _ _ (⟨_, .load 29 _, _, _, _, _⟩ :: _) _ _; refine wpList_val rfl (op_load agg2 rfl rfl (SepL.getBlk (b := n8) (T := 29) ((hS.bring (by repeat (first | exact t0 | apply tS))))).cells rfl) ?_; go_frame)
          | (show wpList _ _ _ (⟨_, .binOp .eql 29 _ _ _, _, _, _, _⟩ :: _) _ _; refine wpList_val rfl (op_eqP rfl rfl rfl HT.out) ?_; go_frame)
          | (show wpList _ _ _ (⟨some 101, .binOp _ _ _ _ _, _, _, _, _⟩ :: _) _ _; refine wpList_val rfl (op_eqI' rfl rfl rfl HWW.out) ?_; go_frame)
          )
        refine segQ_mk (((hS.bring (by repeat (first | exact t0 | apply tS))).getBlk) : Blk _ n8 29 [I64 a, I64 b]) ?_
        refine ord_seg (by repeat (first | exact Clean.body | refine Clean.then ?_ | refine Clean.inBlock ?_ | refine SegQ.clean ?_ | refine FinC.clean ?_)) (n := 2) (rest := [[10, 11]]) [9] [⟨_, _, _, _, _, _⟩] rfl (by kernel_rfl) (by simp) _ _ ?_
        go_wp2_with (first
          | go_big_skip
          | (go_at_call 14; (refine Ret.calls (way_s (p := p) (sa := sa) (r := q) (s := s) (hS.bring (by repeat (first | exact t0 | apply tS))) hK hF hsa HQO.out) ?_); clear hS; rintro r1 w ⟨rfl, hS⟩; rw [HWY.out])
          | (go_at_call 13; (refine Ret.calls (succ_s (p := p) (sa := sa) (r := q) (hS.bring (by repeat (first | exact t0 | apply tS))) hsa) ?_); clear hS; rintro r1 w ⟨rfl, hS⟩; rw [HQA.out, HQB.out])
          | (show wpList _ _ _ (⟨_, .load 29 _, _, _, _, _⟩ :: _) _ _; refine wpList_val rfl (op_load agg2 rfl rfl (SepL.getBlk (b := n8) (T := 29) ((hS.bring (by repeat (first | exact t0 | apply tS))))).cells rfl) ?_; go_frame)
          | (show wpList _ _ _ (⟨_, .binOp .eql 29 _ _ _, _, _, _, _⟩ :: _) _ _; refine wpList_val rfl (op_eqP rfl rfl rfl HT.out) ?_; go_frame)
          | (show wpList _ _ _ (⟨some 101, .binOp _ _ _ _ _, _, _, _, _⟩ :: _) _ _; refine wpList_val rfl (op_eqI' rfl rfl rfl HWW.out) ?_; go_frame)
          )
        refine segQ_mk (((hS.bring (by repeat (first | exact t0 | apply tS))).getBlk) : Blk _ n8 29 [I64 a, I64 b]) ?_
        refine ord_seg (by repeat (first | exact Clean.body | refine Clean.then ?_ | refine Clean.inBlock ?_ | refine SegQ.clean ?_ | refine FinC.clean ?_)) (n := 0) (rest := [[]]) [10, 11] [⟨_, _, _, _, _, _⟩, ⟨_, _, _, _, _, _⟩] rfl (by kernel_rfl) (by simp) _ _ ?_
        go_wp2_with (first
          | go_big_skip
          | (go_at_call 14; (refine Ret.calls (way_s (p := p) (sa := sa) (r := q) (s := s) (hS.bring (by repeat (first | exact t0 | apply tS))) hK hF hsa HQO.out) ?_); clear hS; rintro r1 w ⟨rfl, hS⟩; rw [HWY.out])
          | (go_at_call 13; (refine Ret.calls (succ_s (p := p) (sa := sa) (r := q) (hS.bring (by repeat (first | exact t0 | apply tS))) hsa) ?_); clear hS; rintro r1 w ⟨rfl, hS⟩; rw [HQA.out, HQB.out])
          | (show wpList _ _ _ (⟨_, .load 29 _, _, _, _, _⟩ :: _) _ _; refine wpList_val rfl (op_load agg2 rfl rfl (SepL.getBlk (b := n8) (T := 29) ((hS.bring (by repeat (first | exact t0 | apply tS))))).cells rfl) ?_; go_frame)
          | (show wpList _ _ _ (⟨_, .binOp .eql 29 _ _ _, _, _, _, _⟩ :: _) _ _; refine wpList_val rfl (op_eqP rfl rfl rfl HT.out) ?_; go_frame)
          | (show wpList _ _ _ (⟨some 101, .binOp _ _ _ _ _, _, _, _, _⟩ :: _) _ _; refine wpList_val rfl (op_eqI' rfl rfl rfl HWW.out) ?_; go_frame)
          )
        refine segQ_mk (((hS.bring (by repeat (first | exact t0 | apply tS))).getBlk) : Blk _ n8 29 [I64 a, I64 b]) ?_
        refine finC_mk (by kernel_rfl) (by
          intro t ht
          simp only [List.mem_cons, List.not_mem_nil, or_false] at ht
          rcases ht with rfl
          exact stab_blk (b := n8) (fun w h => h) _ none) ?_
        go_wp2_with fail
        go_ret
        exact ⟨rfl, hS.chg⟩
end Go.Proofs.YtlplgobkidpgkaaDoor
