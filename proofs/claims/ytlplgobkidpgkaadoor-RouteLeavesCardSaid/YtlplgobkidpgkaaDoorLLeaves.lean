/- Who left is no successor any more, one of the peers comes in its place: the law returns true. Conditions: those that stand ahead of each theorem. -/
import Derived.Test.YtlplgobkidpgkaaDoorRlX
namespace Go.Proofs.YtlplgobkidpgkaaDoor
open Go Go.RowKit Go.Px Go.Sha
theorem op_irem2 {P : Program} {o : Oper} {w : World} {ρ : Operand → Value} {t t' : TypeId} {x y : Operand} (ho : o.op = .binOp .rem t x y t') {a : Int} (hx : ρ x = .int .i64 a) (hy : ρ y = .int .i64 2) : (execOp ρ o).run P w = .ok (.value (.int .i64 (a.tmod 2))) w := by
  have h0 : ¬ ((2 : Int) = 0) := by omega
  unfold execOp
  simp only [ho, hx, hy, Sem.run_bind, run_eqGuard_int, Result.andThen_ok, binOp, ne_eq, not_true_eq_false, if_false, Op.intDiv, Sem.run_pure, if_neg h0]
def okp (q o p : Int) : Bool := decide (0 ≤ p) && !decide (p = q) && !decide (p = o)
def fitB (z q o : Int) (l : List Int) : Bool := (z == -1) || decide (z ∈ l.filter (okp q o))
def othN (q o : Int) (l : List Int) : Nat := (l.filter (okp q o)).length
theorem fit_nil (z q o : Int) : fitB z q o [] = (z == -1) := by simp [fitB]
theorem fit_no {z q o y : Int} {l : List Int} (h : okp q o y = false) : fitB z q o (l ++ [y]) = fitB z q o l := by
  unfold fitB
  rw [List.filter_append, List.filter_cons, h]
  simp
theorem oth_no {q o y : Int} {l : List Int} (h : okp q o y = false) : othN q o (l ++ [y]) = othN q o l := by
  unfold othN
  rw [List.filter_append, List.filter_cons, h]
  simp
theorem fit_yes {z q o y : Int} {l : List Int} (h : okp q o y = true) : fitB z q o (l ++ [y]) = (fitB z q o l || (y == z)) := by
  unfold fitB
  rw [List.filter_append, List.filter_cons, h, if_pos rfl, List.filter_nil, Bool.or_assoc, Bool.eq_iff_iff]
  simp only [Bool.or_eq_true, decide_eq_true_eq, List.mem_append, List.mem_singleton, beq_iff_eq]
  constructor
  · rintro (h | h | h)
    · exact .inl h
    · exact .inr (.inl h)
    · exact .inr (.inr h.symm)
  · rintro (h | h | h)
    · exact .inl h
    · exact .inr (.inl h)
    · exact .inr (.inr h.symm)
theorem oth_yes {q o y : Int} {l : List Int} (h : okp q o y = true) : othN q o (l ++ [y]) = othN q o l + 1 := by
  unfold othN
  rw [List.filter_append, List.filter_cons, h, if_pos rfl, List.filter_nil, List.length_append]
  rfl
theorem leave_end {z q o : Int} {peers : List Int} {d : Nat} (hz : z = pickI (cntP peers [q, o]) d) (hq : 0 ≤ q) : fitB z q o peers = true ∧ (z == -1) = (othN q o peers == 0) ∧ z ≠ q := by
  rcases pick_cases peers [q, o] d with ⟨h1, h2⟩ | ⟨h1, h2, h3⟩
  · rw [← hz] at h1
    have hn : peers.filter (okp q o) = [] := by
      rw [List.filter_eq_nil_iff]
      intro x hx hk
      unfold okp at hk
      simp only [Bool.and_eq_true, decide_eq_true_eq, Bool.not_eq_true', decide_eq_false_iff_not] at hk
      have h4 := h2 x hx hk.1.1
      simp only [List.mem_cons, List.not_mem_nil, or_false] at h4
      rcases h4 with h4 | h4
      · exact hk.1.2 h4
      · exact hk.2 h4
    refine ⟨?_, ?_, by omega⟩
    · unfold fitB
      rw [h1]
      rfl
    · unfold othN
      rw [hn, h1]
      rfl
  · rw [← hz] at h1 h2 h3
    simp only [List.mem_cons, List.not_mem_nil, or_false, not_or] at h3
    have hm : z ∈ peers.filter (okp q o) := by
      rw [List.mem_filter]
      refine ⟨h1, ?_⟩
      unfold okp
      simp [h2, h3.1, h3.2]
    refine ⟨?_, ?_, h3.1⟩
    · unfold fitB
      rw [decide_eq_true hm, Bool.or_true]
    · have e1 : (z == -1) = false := by
        rw [beq_eq_false_iff_ne]
        omega
      have e2 : (othN q o peers == 0) = false := by
        rw [beq_eq_false_iff_ne]
        unfold othN
        intro h
        rw [List.length_eq_zero_iff] at h
        rw [h] at hm
        cases hm
      rw [e1, e2]
theorem leave_facts {r : Rt} (hok : ROk 3 r) (q : Int) (peers : List Int) (d : Nat) : ∀ k, k < 2 → ∃ (sk tk o : Int) (m : Nat), [I64 r.s0, I64 r.s1][k]? = some (I64 sk) ∧ [I64 (leftR r q peers d).s0, I64 (leftR r q peers d).s1][k]? = some (I64 tk) ∧ [I64 r.s0, I64 r.s1][m]? = some (I64 o) ∧ (1 : Int) - (k : Nat) = (m : Nat) ∧ m < 2 ∧ (¬ (sk = q ∧ 0 ≤ q) → tk = sk) ∧ (sk = q → 0 ≤ q → tk = pickI (cntP peers [q, o]) d) := by
  intro k hk
  have h01 : k = 0 ∨ k = 1 := by omega
  have hne := hok.ne
  unfold leftR
  rcases h01 with rfl | rfl
  · refine ⟨r.s0, _, r.s1, 1, rfl, rfl, rfl, by omega, by omega, fun h => ?_, fun h1 h2 => ?_⟩
    · split
      · rfl
      · rename_i hq
        rw [if_neg (fun e => h ⟨e, by omega⟩)]
        split <;> rfl
    · rw [if_neg (by omega), if_pos h1]
  · refine ⟨r.s1, _, r.s0, 0, rfl, rfl, rfl, by omega, by omega, fun h => ?_, fun h1 h2 => ?_⟩
    · split
      · rfl
      · rename_i hq
        split
        · rfl
        · rw [if_neg (fun e => h ⟨e, by omega⟩)]
    · rw [if_neg (by omega), if_neg (fun e => by
        have := hne (e.trans h1.symm)
        omega), if_pos h1]
set_option maxRecDepth 100000 in
set_option maxHeartbeats 16000000 in
theorem routeLeaves_w {W : World} (hK : CIn All W 1 (kTab.map W32)) (hF : CIn All W 0 (first.map W32)) {sa : List Byte} (hsa : sa.length = 32) {v : Value} {L : List (Value × RA)} (hv : AIn All W v L) (hao : ∀ x ∈ L, AOk x.2) {ua : Value} {s : RA} (hu : Rd 1 W ua (s.peers.map fun z => [I64 z])) (ha : AOk s) :
    Calls Tryd.prog 4 #[HV sa, v, .agg (aC (ua, s)).toArray] W (Ret fun r w' => r = .bool true ∧ Chg No W w') := by
  have hS := SepL.start W
  have HSL : Hid ((sa.map B8).length = 32) := by simp [Hid, hsa]
  have HAO := hide hao
  have hok := runs_ok (L.map (·.2))
  obtain ⟨r, hr⟩ : ∃ r, runs (L.map (·.2)) = r := ⟨_, rfl⟩
  have HQ := hide hr
  rw [hr] at hok
  have HOK := hide hok
  unfold HV
  clear hr hao
  have HUR := hide (RdIn.of hu)
  have HBN : Hid ((s.peers.map fun z => [I64 z]).length = s.peers.length) := by simp [Hid]
  cases hg : greatR (L.map (·.2)) with
  | true =>
    have HGR := hide hg
    clear hg hok
    go_enter Tryd.func4, Tryd.ntmps4
    go_wp2_with (first
      | go_big_skip
      | (show wpList _ _ _ (⟨_, .box 23 _, _, _, _, _⟩ :: _) _ _; refine wpS_boxA (cs := sa.map B8) hS rfl rfl rfl ?_; clear hS; intro nh w hS; go_frame)
      | (go_at_call 10; refine Ret.calls (alive_s hS hK hF) ?_; clear hS; rintro r1 w ⟨rfl, hS⟩)
      | (go_at_call 11; refine Ret.calls (great_s hS hv HGR.out) ?_; clear hS; rintro r1 w ⟨rfl, hS⟩)
      | (show wpList _ _ _ (⟨_, .box 38 _, _, _, _, _⟩ :: _) _ _; refine wpS_boxA (cs := aC (ua, s)) hS rfl rfl rfl ?_; clear hS; intro nb w hS; go_frame)
      | (show wpList _ _ _ (⟨some 22, .load _ _, _, _, _, _⟩ :: _) _ _; refine wpList_val rfl (op_load1S (b := nb) (T := 38) oneInts ((hS.bring (by repeat (first | exact t0 | apply tS)))) rfl rfl rfl) ?_; go_frame)
      | (show wpList _ _ _ (⟨some 23, .call _, _, _, _, _⟩ :: _) _ _; refine wpList_val rfl (op_len slInt rfl rfl (v := ua) (xs := s.peers.map fun z => [I64 z]) rfl (hS.rd HUR.out)) ?_; rw [HBN.out]; go_frame)
      | (show wpList _ _ _ (⟨some 24, .binOp _ _ _ _ _, _, _, _, _⟩ :: _) _ _; refine wpList_val rfl (op_igtr rfl rfl rfl HG7.out) ?_; go_frame)
      )
    go_ret
    exact ⟨rfl, hS.chg⟩
  | false =>
    have HGR := hide hg
    by_cases hl : 70 < s.peers.length
    · have HG7 : Hid (decide ((70 : Int) < (s.peers.length : Int)) = true) := decide_eq_true (by omega)
      clear hg hok hl
      go_enter Tryd.func4, Tryd.ntmps4
      go_wp2_with (first
        | go_big_skip
        | (show wpList _ _ _ (⟨_, .box 23 _, _, _, _, _⟩ :: _) _ _; refine wpS_boxA (cs := sa.map B8) hS rfl rfl rfl ?_; clear hS; intro nh w hS; go_frame)
        | (go_at_call 10; refine Ret.calls (alive_s hS hK hF) ?_; clear hS; rintro r1 w ⟨rfl, hS⟩)
        | (go_at_call 11; refine Ret.calls (great_s hS hv HGR.out) ?_; clear hS; rintro r1 w ⟨rfl, hS⟩)
        | (show wpList _ _ _ (⟨_, .box 38 _, _, _, _, _⟩ :: _) _ _; refine wpS_boxA (cs := aC (ua, s)) hS rfl rfl rfl ?_; clear hS; intro nb w hS; go_frame)
        | (show wpList _ _ _ (⟨some 22, .load _ _, _, _, _, _⟩ :: _) _ _; refine wpList_val rfl (op_load1S (b := nb) (T := 38) oneInts ((hS.bring (by repeat (first | exact t0 | apply tS)))) rfl rfl rfl) ?_; go_frame)
        | (show wpList _ _ _ (⟨some 23, .call _, _, _, _, _⟩ :: _) _ _; refine wpList_val rfl (op_len slInt rfl rfl (v := ua) (xs := s.peers.map fun z => [I64 z]) rfl (hS.rd HUR.out)) ?_; rw [HBN.out]; go_frame)
        | (show wpList _ _ _ (⟨some 24, .binOp _ _ _ _ _, _, _, _, _⟩ :: _) _ _; refine wpList_val rfl (op_igtr rfl rfl rfl HG7.out) ?_; go_frame)
        )
      go_ret
      exact ⟨rfl, hS.chg⟩
    · have HG7 : Hid (decide ((70 : Int) < (s.peers.length : Int)) = false) := decide_eq_false (by omega)
      have hpl : s.peers.length ≤ 70 := by omega
      have HPL : Hid (s.peers.length ≤ 1000000) := by
        unfold Hid
        omega
      have HD0 := hide ha.d0
      obtain ⟨a, ha0⟩ : ∃ a, r.s0 = a := ⟨_, rfl⟩
      obtain ⟨b, hb0⟩ : ∃ b, r.s1 = b := ⟨_, rfl⟩
      have HA := hide ha0
      have HB := hide hb0
      obtain ⟨z, hz⟩ : ∃ z, s.source.tmod 2 = z := ⟨_, rfl⟩
      have HSZ := hide hz
      clear hg hl hu ha ha0 hb0 hz
      by_cases hz0 : z = 0
      · have HZ0 := eqT hz0
        clear hz0
        by_cases hag : 0 ≤ a
        · have HAG : Hid (decide (0 ≤ a) = true) := decide_eq_true hag
          clear hag
          have HFX := hide (leave_facts hok a s.peers s.d0)
          obtain ⟨r2, hr2⟩ : ∃ r2, leftR r a s.peers s.d0 = r2 := ⟨_, rfl⟩
          have HLF := hide hr2
          obtain ⟨c, hc⟩ : ∃ c, r2.s0 = c := ⟨_, rfl⟩
          obtain ⟨d, hd⟩ : ∃ d, r2.s1 = d := ⟨_, rfl⟩
          have HC := hide hc
          have HD := hide hd
          rw [hr2, HA.out, HB.out, hc, hd] at HFX
          clear hr2 hc hd hok
          go_enter Tryd.func4, Tryd.ntmps4
          go_wp2_with (first
            | go_big_skip
            | (show wpList _ _ _ (⟨_, .box 23 _, _, _, _, _⟩ :: _) _ _; refine wpS_boxA (cs := sa.map B8) hS rfl rfl rfl ?_; clear hS; intro nh w hS; go_frame)
            | (go_at_call 10; refine Ret.calls (alive_s hS hK hF) ?_; clear hS; rintro r1 w ⟨rfl, hS⟩)
            | (go_at_call 11; refine Ret.calls (great_s hS hv HGR.out) ?_; clear hS; rintro r1 w ⟨rfl, hS⟩)
            | (show wpList _ _ _ (⟨_, .box 38 _, _, _, _, _⟩ :: _) _ _; refine wpS_boxA (cs := aC (ua, s)) hS rfl rfl rfl ?_; clear hS; intro nb w hS; go_frame)
            | (show wpList _ _ _ (⟨some 22, .load _ _, _, _, _, _⟩ :: _) _ _; refine wpList_val rfl (op_load1S (b := nb) (T := 38) oneInts ((hS.bring (by repeat (first | exact t0 | apply tS)))) rfl rfl rfl) ?_; go_frame)
            | (show wpList _ _ _ (⟨some 23, .call _, _, _, _, _⟩ :: _) _ _; refine wpList_val rfl (op_len slInt rfl rfl (v := ua) (xs := s.peers.map fun z => [I64 z]) rfl (hS.rd HUR.out)) ?_; rw [HBN.out]; go_frame)
            | (show wpList _ _ _ (⟨some 24, .binOp _ _ _ _ _, _, _, _, _⟩ :: _) _ _; refine wpList_val rfl (op_igtr rfl rfl rfl HG7.out) ?_; go_frame)
            | (show wpList _ _ _ (⟨_, .load 23 _, _, _, _, _⟩ :: _) _ _; refine wpList_val rfl (op_load agg32b rfl rfl (SepL.getBlk (b := nh) (T := 23) ((hS.bring (by repeat (first | exact t0 | apply tS))))).cells HSL.out) ?_; go_frame)
            | (go_at_call 12; refine Ret.calls (grown_s hS hsa hv HAO.out HGR.out) ?_; clear hS; rintro r1 w ⟨p, rfl, hS⟩; rw [HQ.out] at hS)
            | (show wpList _ _ _ (⟨some 8, .alloc _, _, _, _, _⟩ :: _) _ _; refine wpS_alloc hS rfl rfl Tryd.zeroValue29 (zs := [.int .i64 0, .int .i64 0]) rfl ?_; clear hS; intro n8 w hS; go_frame)
            | (show wpList _ _ _ (⟨some 10, .alloc _, _, _, _, _⟩ :: _) _ _; refine wpS_alloc hS rfl rfl Tryd.zeroValue29 (zs := [.int .i64 0, .int .i64 0]) rfl ?_; clear hS; intro n10 w hS; go_frame)
            | (show wpList _ _ _ (⟨_, .store 29 (.tmp 8) _, _, _, _, _⟩ :: _) _ _; (refine wpS_storeAll (b := n8) agg2 (hS.bring (by repeat (first | exact t0 | apply tS))) rfl rfl rfl (vs := [I64 a, I64 b]) rfl rfl (two_one _ _) rfl ?_); clear hS; intro w hS; go_frame)
            | (show wpList _ _ _ (⟨_, .store 29 (.tmp 10) _, _, _, _, _⟩ :: _) _ _; (refine wpS_storeAll (b := n10) agg2 (hS.bring (by repeat (first | exact t0 | apply tS))) rfl rfl rfl (vs := [I64 c, I64 d]) rfl rfl (two_one _ _) rfl ?_); clear hS; intro w hS; go_frame)
            | (go_at_call 13; with_reducible refine Ret.calls (succ_s (p := p) (sa := sa) (r := r) hS hsa) ?_; clear hS; rintro r1 w ⟨rfl, hS⟩; rw [HA.out, HB.out])
            | (go_at_call 13; with_reducible refine Ret.calls (succ_s (p := p) (sa := sa) (r := r2) hS hsa) ?_; clear hS; rintro r1 w ⟨rfl, hS⟩; rw [HC.out, HD.out])
            | (show wpList _ _ _ (⟨some 32, .load _ _, _, _, _, _⟩ :: _) _ _; refine wpList_val rfl (op_load1S (b := nb) (T := 38) oneInt ((hS.bring (by repeat (first | exact t0 | apply tS)))) rfl rfl rfl) ?_; (try rw [HQP.out]); go_frame)
            | (show wpList _ _ _ (⟨some 34, .load _ _, _, _, _, _⟩ :: _) _ _; refine wpList_val rfl (op_load1S (b := nb) (T := 38) oneInt ((hS.bring (by repeat (first | exact t0 | apply tS)))) rfl rfl rfl) ?_; go_frame)
            | (show wpList _ _ _ (⟨some 35, .binOp _ _ _ _ _, _, _, _, _⟩ :: _) _ _; refine wpList_val rfl (op_irem2 rfl rfl rfl) ?_; rw [HSZ.out]; go_frame)
            | (show wpList _ _ _ (⟨some 36, .binOp _ _ _ _ _, _, _, _, _⟩ :: _) _ _; refine wpList_val rfl (op_eqI' rfl rfl rfl HZ0.out) ?_; go_frame)
            | (show wpList _ _ _ (⟨_, .indexAddr _ (.tmp 8) (.const (.int .i64 0)), _, _, _, _⟩ :: _) _ _; refine wpList_val rfl (op_indexArrZ arr2i rfl (b := n8) (off := 0) rfl rfl 0 rfl (by omega)) ?_; simp only [Nat.add_zero]; go_frame)
            | (show wpList _ _ _ (⟨some 39, .load _ _, _, _, _, _⟩ :: _) _ _; refine wpList_val rfl (op_load1S (b := n8) (T := 29) oneInt ((hS.bring (by repeat (first | exact t0 | apply tS)))) rfl rfl rfl) ?_; go_frame)
            | (show wpList _ _ _ (⟨some 43, .load _ _, _, _, _, _⟩ :: _) _ _; refine wpList_val rfl (op_load1S (b := n8) (T := 29) oneInt ((hS.bring (by repeat (first | exact t0 | apply tS)))) rfl rfl rfl) ?_; go_frame)
            | (show wpList _ _ _ (⟨some 40, .binOp _ _ _ _ _, _, _, _, _⟩ :: _) _ _; refine wpList_val rfl (op_igeq rfl rfl rfl HAG.out) ?_; go_frame)
            | (show wpList _ _ _ (⟨some 47, .load _ _, _, _, _, _⟩ :: _) _ _; refine wpList_val rfl (op_load1S (b := nb) (T := 38) oneInts ((hS.bring (by repeat (first | exact t0 | apply tS)))) rfl rfl rfl) ?_; go_frame)
            | (show wpList _ _ _ (⟨some 49, .indexAddr _ _ _, _, _, _, _⟩ :: _) _ _; refine wpList_val rfl (op_indexArrZ arr3u rfl (b := nb) (off := 5) rfl rfl 0 rfl (by omega)) ?_; go_frame)
            | (show wpList _ _ _ (⟨some 50, .load _ _, _, _, _, _⟩ :: _) _ _; refine wpList_val rfl (op_load1S (b := nb) (T := 38) oneU16 ((hS.bring (by repeat (first | exact t0 | apply tS)))) rfl rfl rfl) ?_; go_frame)
            | (go_at_call 15; (refine Ret.calls (left_s (p := p) (r := r) (q := a) (peers := s.peers) (hS.bring (by repeat (first | exact t0 | apply tS))) hsa HUR.out HPL.out HD0.out) ?_); clear hS; rintro r1 w hS; rw [HLF.out] at hS)
            )
          go_loopw [54] (fun iv wr => ∃ k : Nat, iv = .int .i64 k ∧ k ≤ 2 ∧ SepL All W wr [.blk n8 29 [I64 a, I64 b], .blk n10 29 [I64 c, I64 d], .blk nb 38 (aC (ua, s))]) (fun iv _ => 2 - (intOf iv).toNat)
          case atStart => exact ⟨0, rfl, by omega, hS.sel (by repeat (first | exact Sel.refl | refine Sel.take (by repeat (first | exact t0 | apply tS)) ?_ | apply Sel.drop))⟩
          case round =>
            clear hS
            obtain ⟨k, rfl, hk, hS⟩ := hrel
            by_cases hlt : k < 2
            · obtain ⟨sk, tk, o, m, e1, e2, e3, e4, hm2, g1, g2⟩ := HFX.out k hlt
              have HSK := hide e1
              have HTK := hide e2
              have HOM := hide e3
              have HM := hide e4
              clear e1 e2 e3 e4
              by_cases h1 : sk = a
              · have HNQ := neF h1
                by_cases h2 : a < 0
                · have HQL : Hid (decide (a < 0) = true) := decide_eq_true h2
                  have HTS := neF (g1 (fun h => absurd h.2 (by omega)))
                  clear h1 h2 g1 g2
                  go_wp2_with (first
                    | go_big_skip
                    | (show wpList _ _ _ (⟨some 58, .indexAddr _ _ _, _, _, _, _⟩ :: _) _ _; refine wpList_val rfl (op_indexArr arr2i rfl (b := n8) (off := 0) rfl (k := k) rfl hlt) ?_; simp only [Nat.zero_add]; go_frame)
                    | (show wpList _ _ _ (⟨some 59, .load _ _, _, _, _, _⟩ :: _) _ _; refine wpList_val rfl (op_load1S (b := n8) (T := 29) oneInt ((hS.bring (by repeat (first | exact t0 | apply tS)))) rfl rfl HSK.out) ?_; go_frame)
                    | (show wpList _ _ _ (⟨some 61, .binOp _ _ _ _ _, _, _, _, _⟩ :: _) _ _; refine wpList_val rfl (op_ineI rfl rfl rfl HNQ.out) ?_; go_frame)
                    | (show wpList _ _ _ (⟨some 64, .binOp _ _ _ _ _, _, _, _, _⟩ :: _) _ _; refine wpList_val rfl (op_ilss rfl rfl rfl HQL.out) ?_; go_frame)
                    | (show wpList _ _ _ (⟨some 67, .indexAddr _ _ _, _, _, _, _⟩ :: _) _ _; refine wpList_val rfl (op_indexArr arr2i rfl (b := n10) (off := 0) rfl (k := k) rfl hlt) ?_; simp only [Nat.zero_add]; go_frame)
                    | (show wpList _ _ _ (⟨some 68, .load _ _, _, _, _, _⟩ :: _) _ _; refine wpList_val rfl (op_load1S (b := n10) (T := 29) oneInt ((hS.bring (by repeat (first | exact t0 | apply tS)))) rfl rfl HTK.out) ?_; go_frame)
                    | (show wpList _ _ _ (⟨some 70, .indexAddr _ _ _, _, _, _, _⟩ :: _) _ _; refine wpList_val rfl (op_indexArr arr2i rfl (b := n8) (off := 0) rfl (k := k) rfl hlt) ?_; simp only [Nat.zero_add]; go_frame)
                    | (show wpList _ _ _ (⟨some 71, .load _ _, _, _, _, _⟩ :: _) _ _; refine wpList_val rfl (op_load1S (b := n8) (T := 29) oneInt ((hS.bring (by repeat (first | exact t0 | apply tS)))) rfl rfl HSK.out) ?_; go_frame)
                    | (show wpList _ _ _ (⟨some 72, .binOp _ _ _ _ _, _, _, _, _⟩ :: _) _ _; refine wpList_val rfl (op_ineI rfl rfl rfl HTS.out) ?_; go_frame)
                    | (refine fin_mk (by kernel_rfl) ?_)
                    | (show wpList _ _ _ (⟨some 74, .indexAddr _ _ _, _, _, _, _⟩ :: _) _ _; refine wpList_val rfl (op_indexArr arr2i rfl (b := n10) (off := 0) rfl (k := k) rfl hlt) ?_; simp only [Nat.zero_add]; go_frame)
                    | (show wpList _ _ _ (⟨some 75, .load _ _, _, _, _, _⟩ :: _) _ _; refine wpList_val rfl (op_load1S (b := n10) (T := 29) oneInt ((hS.bring (by repeat (first | exact t0 | apply tS)))) rfl rfl HTK.out) ?_; go_frame)
                    | (show wpList _ _ _ (⟨some 76, .binOp _ _ _ _ _, _, _, _, _⟩ :: _) _ _; refine wpList_val rfl (op_eqI' rfl rfl rfl HBZ.out) ?_; go_frame)
                    | (show wpList _ _ _ (⟨some 78, .load _ _, _, _, _, _⟩ :: _) _ _; refine wpList_val rfl (op_load1S (b := nb) (T := 38) oneInts ((hS.bring (by repeat (first | exact t0 | apply tS)))) rfl rfl rfl) ?_; go_frame)
                    | (show wpList _ _ _ (⟨some 79, .call _, _, _, _, _⟩ :: _) _ _; refine wpList_val rfl (op_len slInt rfl rfl (v := ua) (xs := s.peers.map fun z => [I64 z]) rfl (hS.rd HUR.out)) ?_; rw [HBN.out]; go_frame)
                    )
                  refine wp_region_text (by kernel_rfl) (by kernel_rfl) (by repeat (first | exact Clean.body | refine Clean.then ?_ | refine Clean.inBlock ?_)) ?_
                  replace hS := hS.drew
                  go_wp2_with (first
                    | go_big_skip
                    | (show wpList _ _ _ (⟨some 58, .indexAddr _ _ _, _, _, _, _⟩ :: _) _ _; refine wpList_val rfl (op_indexArr arr2i rfl (b := n8) (off := 0) rfl (k := k) rfl hlt) ?_; simp only [Nat.zero_add]; go_frame)
                    | (show wpList _ _ _ (⟨some 59, .load _ _, _, _, _, _⟩ :: _) _ _; refine wpList_val rfl (op_load1S (b := n8) (T := 29) oneInt ((hS.bring (by repeat (first | exact t0 | apply tS)))) rfl rfl HSK.out) ?_; go_frame)
                    | (show wpList _ _ _ (⟨some 61, .binOp _ _ _ _ _, _, _, _, _⟩ :: _) _ _; refine wpList_val rfl (op_ineI rfl rfl rfl HNQ.out) ?_; go_frame)
                    | (show wpList _ _ _ (⟨some 64, .binOp _ _ _ _ _, _, _, _, _⟩ :: _) _ _; refine wpList_val rfl (op_ilss rfl rfl rfl HQL.out) ?_; go_frame)
                    | (show wpList _ _ _ (⟨some 67, .indexAddr _ _ _, _, _, _, _⟩ :: _) _ _; refine wpList_val rfl (op_indexArr arr2i rfl (b := n10) (off := 0) rfl (k := k) rfl hlt) ?_; simp only [Nat.zero_add]; go_frame)
                    | (show wpList _ _ _ (⟨some 68, .load _ _, _, _, _, _⟩ :: _) _ _; refine wpList_val rfl (op_load1S (b := n10) (T := 29) oneInt ((hS.bring (by repeat (first | exact t0 | apply tS)))) rfl rfl HTK.out) ?_; go_frame)
                    | (show wpList _ _ _ (⟨some 70, .indexAddr _ _ _, _, _, _, _⟩ :: _) _ _; refine wpList_val rfl (op_indexArr arr2i rfl (b := n8) (off := 0) rfl (k := k) rfl hlt) ?_; simp only [Nat.zero_add]; go_frame)
                    | (show wpList _ _ _ (⟨some 71, .load _ _, _, _, _, _⟩ :: _) _ _; refine wpList_val rfl (op_load1S (b := n8) (T := 29) oneInt ((hS.bring (by repeat (first | exact t0 | apply tS)))) rfl rfl HSK.out) ?_; go_frame)
                    | (show wpList _ _ _ (⟨some 72, .binOp _ _ _ _ _, _, _, _, _⟩ :: _) _ _; refine wpList_val rfl (op_ineI rfl rfl rfl HTS.out) ?_; go_frame)
                    | (refine fin_mk (by kernel_rfl) ?_)
                    | (show wpList _ _ _ (⟨some 74, .indexAddr _ _ _, _, _, _, _⟩ :: _) _ _; refine wpList_val rfl (op_indexArr arr2i rfl (b := n10) (off := 0) rfl (k := k) rfl hlt) ?_; simp only [Nat.zero_add]; go_frame)
                    | (show wpList _ _ _ (⟨some 75, .load _ _, _, _, _, _⟩ :: _) _ _; refine wpList_val rfl (op_load1S (b := n10) (T := 29) oneInt ((hS.bring (by repeat (first | exact t0 | apply tS)))) rfl rfl HTK.out) ?_; go_frame)
                    | (show wpList _ _ _ (⟨some 76, .binOp _ _ _ _ _, _, _, _, _⟩ :: _) _ _; refine wpList_val rfl (op_eqI' rfl rfl rfl HBZ.out) ?_; go_frame)
                    | (show wpList _ _ _ (⟨some 78, .load _ _, _, _, _, _⟩ :: _) _ _; refine wpList_val rfl (op_load1S (b := nb) (T := 38) oneInts ((hS.bring (by repeat (first | exact t0 | apply tS)))) rfl rfl rfl) ?_; go_frame)
                    | (show wpList _ _ _ (⟨some 79, .call _, _, _, _, _⟩ :: _) _ _; refine wpList_val rfl (op_len slInt rfl rfl (v := ua) (xs := s.peers.map fun z => [I64 z]) rfl (hS.rd HUR.out)) ?_; rw [HBN.out]; go_frame)
                    )
                  go_roundw
                  case rel => exact ⟨k + 1, by go_num, by omega, hS.sel (by repeat (first | exact Sel.refl | refine Sel.take (by repeat (first | exact t0 | apply tS)) ?_ | apply Sel.drop))⟩
                  case measure => simp [intOf]; omega
                · have HQL : Hid (decide (a < 0) = false) := decide_eq_false h2
                  have hz := g2 h1 (by omega)
                  obtain ⟨f1, f2, f3⟩ := leave_end hz (by omega)
                  have HF1 := hide f1
                  have HF2E := hide f2
                  have HF3 := eqF f3
                  obtain ⟨bz, hbz⟩ : ∃ x, (tk == -1) = x := ⟨_, rfl⟩
                  have HBZ := hide hbz
                  rw [hbz] at f2
                  have HF2Z := hide f2
                  clear h1 h2 g1 g2 hz f1 f2 f3 HF2E
                  go_wp2_with (first
                    | go_big_skip
                    | (show wpList _ _ _ (⟨some 58, .indexAddr _ _ _, _, _, _, _⟩ :: _) _ _; refine wpList_val rfl (op_indexArr arr2i rfl (b := n8) (off := 0) rfl (k := k) rfl hlt) ?_; simp only [Nat.zero_add]; go_frame)
                    | (show wpList _ _ _ (⟨some 59, .load _ _, _, _, _, _⟩ :: _) _ _; refine wpList_val rfl (op_load1S (b := n8) (T := 29) oneInt ((hS.bring (by repeat (first | exact t0 | apply tS)))) rfl rfl HSK.out) ?_; go_frame)
                    | (show wpList _ _ _ (⟨some 61, .binOp _ _ _ _ _, _, _, _, _⟩ :: _) _ _; refine wpList_val rfl (op_ineI rfl rfl rfl HNQ.out) ?_; go_frame)
                    | (show wpList _ _ _ (⟨some 64, .binOp _ _ _ _ _, _, _, _, _⟩ :: _) _ _; refine wpList_val rfl (op_ilss rfl rfl rfl HQL.out) ?_; go_frame)
                    | (show wpList _ _ _ (⟨some 67, .indexAddr _ _ _, _, _, _, _⟩ :: _) _ _; refine wpList_val rfl (op_indexArr arr2i rfl (b := n10) (off := 0) rfl (k := k) rfl hlt) ?_; simp only [Nat.zero_add]; go_frame)
                    | (show wpList _ _ _ (⟨some 68, .load _ _, _, _, _, _⟩ :: _) _ _; refine wpList_val rfl (op_load1S (b := n10) (T := 29) oneInt ((hS.bring (by repeat (first | exact t0 | apply tS)))) rfl rfl HTK.out) ?_; go_frame)
                    | (show wpList _ _ _ (⟨some 70, .indexAddr _ _ _, _, _, _, _⟩ :: _) _ _; refine wpList_val rfl (op_indexArr arr2i rfl (b := n8) (off := 0) rfl (k := k) rfl hlt) ?_; simp only [Nat.zero_add]; go_frame)
                    | (show wpList _ _ _ (⟨some 71, .load _ _, _, _, _, _⟩ :: _) _ _; refine wpList_val rfl (op_load1S (b := n8) (T := 29) oneInt ((hS.bring (by repeat (first | exact t0 | apply tS)))) rfl rfl HSK.out) ?_; go_frame)
                    | (show wpList _ _ _ (⟨some 72, .binOp _ _ _ _ _, _, _, _, _⟩ :: _) _ _; refine wpList_val rfl (op_ineI rfl rfl rfl HTS.out) ?_; go_frame)
                    | (refine fin_mk (by kernel_rfl) ?_)
                    | (show wpList _ _ _ (⟨some 74, .indexAddr _ _ _, _, _, _, _⟩ :: _) _ _; refine wpList_val rfl (op_indexArr arr2i rfl (b := n10) (off := 0) rfl (k := k) rfl hlt) ?_; simp only [Nat.zero_add]; go_frame)
                    | (show wpList _ _ _ (⟨some 75, .load _ _, _, _, _, _⟩ :: _) _ _; refine wpList_val rfl (op_load1S (b := n10) (T := 29) oneInt ((hS.bring (by repeat (first | exact t0 | apply tS)))) rfl rfl HTK.out) ?_; go_frame)
                    | (show wpList _ _ _ (⟨some 76, .binOp _ _ _ _ _, _, _, _, _⟩ :: _) _ _; refine wpList_val rfl (op_eqI' rfl rfl rfl HBZ.out) ?_; go_frame)
                    | (show wpList _ _ _ (⟨some 78, .load _ _, _, _, _, _⟩ :: _) _ _; refine wpList_val rfl (op_load1S (b := nb) (T := 38) oneInts ((hS.bring (by repeat (first | exact t0 | apply tS)))) rfl rfl rfl) ?_; go_frame)
                    | (show wpList _ _ _ (⟨some 79, .call _, _, _, _, _⟩ :: _) _ _; refine wpList_val rfl (op_len slInt rfl rfl (v := ua) (xs := s.peers.map fun z => [I64 z]) rfl (hS.rd HUR.out)) ?_; rw [HBN.out]; go_frame)
                    )
                  rw [show decide ((k : Int) < 2) = true from decide_eq_true (by omega)]
                  go_loopw [12, 13, 80] (fun fv nv jv wr => ∃ (j n : Nat) (f : Bool), jv = .int .i64 j ∧ nv = .int .i64 n ∧ fv = .bool f ∧ j ≤ s.peers.length ∧ n ≤ j ∧ Hid (fitB tk a o (s.peers.take j) = f) ∧ Hid (othN a o (s.peers.take j) = n) ∧ SepL All W wr [.blk n8 29 [I64 a, I64 b], .blk n10 29 [I64 c, I64 d], .blk nb 38 (aC (ua, s))]) (fun _ _ jv _ => s.peers.length - (intOf jv).toNat)
                  case atStart => exact ⟨0, 0, bz, rfl, rfl, rfl, by omega, by omega, (fit_nil _ _ _).trans HBZ.out, rfl, hS.sel (by repeat (first | exact Sel.refl | refine Sel.take (by repeat (first | exact t0 | apply tS)) ?_ | apply Sel.drop))⟩
                  case round =>
                    clear hS
                    obtain ⟨j, n, f, rfl, rfl, rfl, hj, hnj, HFT, HNT, hS⟩ := hrel
                    by_cases hjl : j < s.peers.length
                    · have hjm : j < (s.peers.map fun z => [I64 z]).length := by rw [HBN.out]; exact hjl
                      obtain ⟨y, hy⟩ : ∃ y, s.peers[j] = y := ⟨_, rfl⟩
                      have HY := hide hy
                      have htk : s.peers.take (j + 1) = s.peers.take j ++ [y] := by rw [List.take_succ_eq_append_getElem hjl, hy]
                      have hno : okp a o y = false → Hid (fitB tk a o (s.peers.take (j + 1)) = f) ∧ Hid (othN a o (s.peers.take (j + 1)) = n) := fun h => by
                        rw [htk, fit_no h, oth_no h]
                        exact ⟨HFT, HNT⟩
                      have hyes : okp a o y = true → Hid (fitB tk a o (s.peers.take (j + 1)) = (f || (y == tk))) ∧ Hid (othN a o (s.peers.take (j + 1)) = n + 1) := fun h => by
                        rw [htk, fit_yes h, oth_yes h, HFT.out, HNT.out]
                        exact ⟨rfl, rfl⟩
                      unfold okp at hno hyes
                      clear hy htk
                      by_cases p1 : 0 ≤ y
                      · have P1 : Hid (decide (0 ≤ y) = true) := decide_eq_true p1
                        by_cases p2 : y = a
                        · have P2 := neF p2
                          obtain ⟨HF2, HN2⟩ := hno (by simp [p2])
                          clear p1 p2 hno hyes
                          go_wp2_with (first
                            | go_big_skip
                            | (show wpList _ _ _ (⟨some 82, .indexAddr _ _ _, _, _, _, _⟩ :: _) _ _; refine wpList_val rfl (op_indexAddr slInt rfl (v := ua) rfl (k := j) rfl (hS.rd HUR.out) hjm) ?_; go_frame)
                            | (show wpList _ _ _ (⟨some 83, .load _ _, _, _, _, _⟩ :: _) _ _; refine wpList_val rfl (op_loadE1 oneInt rfl (v := ua) rfl (f := I64) (hS.rd HUR.out) hjl) ?_; rw [HY.out]; go_frame)
                            | (show wpList _ _ _ (⟨some 85, .binOp _ _ _ _ _, _, _, _, _⟩ :: _) _ _; refine wpList_val rfl (op_igeq rfl rfl rfl P1.out) ?_; go_frame)
                            | (show wpList _ _ _ (⟨some 89, .binOp _ _ _ _ _, _, _, _, _⟩ :: _) _ _; refine wpList_val rfl (op_ineI rfl rfl rfl P2.out) ?_; go_frame)
                            | (show wpList _ _ _ (⟨some 94, .binOp _ _ _ _ _, _, _, _, _⟩ :: _) _ _; refine wpList_val rfl (op_isubN rfl rfl rfl m HM.out (by omega)) ?_; go_frame)
                            | (show wpList _ _ _ (⟨some 95, .indexAddr _ _ _, _, _, _, _⟩ :: _) _ _; refine wpList_val rfl (op_indexArr arr2i rfl (b := n8) (off := 0) rfl (k := m) rfl hm2) ?_; simp only [Nat.zero_add]; go_frame)
                            | (show wpList _ _ _ (⟨some 96, .load _ _, _, _, _, _⟩ :: _) _ _; refine wpList_val rfl (op_load1S (b := n8) (T := 29) oneInt ((hS.bring (by repeat (first | exact t0 | apply tS)))) rfl rfl HOM.out) ?_; go_frame)
                            | (show wpList _ _ _ (⟨some 97, .binOp _ _ _ _ _, _, _, _, _⟩ :: _) _ _; refine wpList_val rfl (op_ineI rfl rfl rfl P3.out) ?_; go_frame)
                            | (show wpList _ _ _ (⟨some 100, .binOp _ _ _ _ _, _, _, _, _⟩ :: _) _ _; refine wpList_val rfl (op_iaddN rfl rfl rfl (n + 1) (by omega) (by omega)) ?_; go_frame)
                            | (show wpList _ _ _ (⟨some 105, .indexAddr _ _ _, _, _, _, _⟩ :: _) _ _; refine wpList_val rfl (op_indexArr arr2i rfl (b := n10) (off := 0) rfl (k := k) rfl hlt) ?_; simp only [Nat.zero_add]; go_frame)
                            | (show wpList _ _ _ (⟨some 106, .load _ _, _, _, _, _⟩ :: _) _ _; refine wpList_val rfl (op_load1S (b := n10) (T := 29) oneInt ((hS.bring (by repeat (first | exact t0 | apply tS)))) rfl rfl HTK.out) ?_; go_frame)
                            | (show wpList _ _ _ (⟨some 107, .binOp _ _ _ _ _, _, _, _, _⟩ :: _) _ _; refine wpList_val rfl (op_eqI' rfl rfl rfl P4.out) ?_; go_frame)
                            )
                          go_roundw
                          case rel => exact ⟨j + 1, n, f, by go_num, rfl, rfl, by omega, by omega, HF2, HN2, hS.sel (by repeat (first | exact Sel.refl | refine Sel.take (by repeat (first | exact t0 | apply tS)) ?_ | apply Sel.drop))⟩
                          case measure => simp [intOf]; omega
                        · have P2 := neT p2
                          by_cases p3 : y = o
                          · have P3 := neF p3
                            obtain ⟨HF2, HN2⟩ := hno (by simp [p3])
                            clear p1 p2 p3 hno hyes
                            go_wp2_with (first
                              | go_big_skip
                              | (show wpList _ _ _ (⟨some 82, .indexAddr _ _ _, _, _, _, _⟩ :: _) _ _; refine wpList_val rfl (op_indexAddr slInt rfl (v := ua) rfl (k := j) rfl (hS.rd HUR.out) hjm) ?_; go_frame)
                              | (show wpList _ _ _ (⟨some 83, .load _ _, _, _, _, _⟩ :: _) _ _; refine wpList_val rfl (op_loadE1 oneInt rfl (v := ua) rfl (f := I64) (hS.rd HUR.out) hjl) ?_; rw [HY.out]; go_frame)
                              | (show wpList _ _ _ (⟨some 85, .binOp _ _ _ _ _, _, _, _, _⟩ :: _) _ _; refine wpList_val rfl (op_igeq rfl rfl rfl P1.out) ?_; go_frame)
                              | (show wpList _ _ _ (⟨some 89, .binOp _ _ _ _ _, _, _, _, _⟩ :: _) _ _; refine wpList_val rfl (op_ineI rfl rfl rfl P2.out) ?_; go_frame)
                              | (show wpList _ _ _ (⟨some 94, .binOp _ _ _ _ _, _, _, _, _⟩ :: _) _ _; refine wpList_val rfl (op_isubN rfl rfl rfl m HM.out (by omega)) ?_; go_frame)
                              | (show wpList _ _ _ (⟨some 95, .indexAddr _ _ _, _, _, _, _⟩ :: _) _ _; refine wpList_val rfl (op_indexArr arr2i rfl (b := n8) (off := 0) rfl (k := m) rfl hm2) ?_; simp only [Nat.zero_add]; go_frame)
                              | (show wpList _ _ _ (⟨some 96, .load _ _, _, _, _, _⟩ :: _) _ _; refine wpList_val rfl (op_load1S (b := n8) (T := 29) oneInt ((hS.bring (by repeat (first | exact t0 | apply tS)))) rfl rfl HOM.out) ?_; go_frame)
                              | (show wpList _ _ _ (⟨some 97, .binOp _ _ _ _ _, _, _, _, _⟩ :: _) _ _; refine wpList_val rfl (op_ineI rfl rfl rfl P3.out) ?_; go_frame)
                              | (show wpList _ _ _ (⟨some 100, .binOp _ _ _ _ _, _, _, _, _⟩ :: _) _ _; refine wpList_val rfl (op_iaddN rfl rfl rfl (n + 1) (by omega) (by omega)) ?_; go_frame)
                              | (show wpList _ _ _ (⟨some 105, .indexAddr _ _ _, _, _, _, _⟩ :: _) _ _; refine wpList_val rfl (op_indexArr arr2i rfl (b := n10) (off := 0) rfl (k := k) rfl hlt) ?_; simp only [Nat.zero_add]; go_frame)
                              | (show wpList _ _ _ (⟨some 106, .load _ _, _, _, _, _⟩ :: _) _ _; refine wpList_val rfl (op_load1S (b := n10) (T := 29) oneInt ((hS.bring (by repeat (first | exact t0 | apply tS)))) rfl rfl HTK.out) ?_; go_frame)
                              | (show wpList _ _ _ (⟨some 107, .binOp _ _ _ _ _, _, _, _, _⟩ :: _) _ _; refine wpList_val rfl (op_eqI' rfl rfl rfl P4.out) ?_; go_frame)
                              )
                            go_roundw
                            case rel => exact ⟨j + 1, n, f, by go_num, rfl, rfl, by omega, by omega, HF2, HN2, hS.sel (by repeat (first | exact Sel.refl | refine Sel.take (by repeat (first | exact t0 | apply tS)) ?_ | apply Sel.drop))⟩
                            case measure => simp [intOf]; omega
                          · have P3 := neT p3
                            obtain ⟨hf2, HN2⟩ := hyes (by simp [p1, p2, p3])
                            clear p1 p2 p3 hno hyes
                            cases f with
                            | true =>
                              obtain ⟨g, hg⟩ : ∃ g, g = true := ⟨_, rfl⟩
                              have HF2 : Hid (fitB tk a o (s.peers.take (j + 1)) = g) := by
                                rw [hg]
                                exact hf2
                              clear hf2
                              subst hg
                              obtain ⟨g, hg⟩ : ∃ g, g = true := ⟨_, rfl⟩
                              rw [← hg] at HF2
                              go_wp2_with (first
                                | go_big_skip
                                | (show wpList _ _ _ (⟨some 82, .indexAddr _ _ _, _, _, _, _⟩ :: _) _ _; refine wpList_val rfl (op_indexAddr slInt rfl (v := ua) rfl (k := j) rfl (hS.rd HUR.out) hjm) ?_; go_frame)
                                | (show wpList _ _ _ (⟨some 83, .load _ _, _, _, _, _⟩ :: _) _ _; refine wpList_val rfl (op_loadE1 oneInt rfl (v := ua) rfl (f := I64) (hS.rd HUR.out) hjl) ?_; rw [HY.out]; go_frame)
                                | (show wpList _ _ _ (⟨some 85, .binOp _ _ _ _ _, _, _, _, _⟩ :: _) _ _; refine wpList_val rfl (op_igeq rfl rfl rfl P1.out) ?_; go_frame)
                                | (show wpList _ _ _ (⟨some 89, .binOp _ _ _ _ _, _, _, _, _⟩ :: _) _ _; refine wpList_val rfl (op_ineI rfl rfl rfl P2.out) ?_; go_frame)
                                | (show wpList _ _ _ (⟨some 94, .binOp _ _ _ _ _, _, _, _, _⟩ :: _) _ _; refine wpList_val rfl (op_isubN rfl rfl rfl m HM.out (by omega)) ?_; go_frame)
                                | (show wpList _ _ _ (⟨some 95, .indexAddr _ _ _, _, _, _, _⟩ :: _) _ _; refine wpList_val rfl (op_indexArr arr2i rfl (b := n8) (off := 0) rfl (k := m) rfl hm2) ?_; simp only [Nat.zero_add]; go_frame)
                                | (show wpList _ _ _ (⟨some 96, .load _ _, _, _, _, _⟩ :: _) _ _; refine wpList_val rfl (op_load1S (b := n8) (T := 29) oneInt ((hS.bring (by repeat (first | exact t0 | apply tS)))) rfl rfl HOM.out) ?_; go_frame)
                                | (show wpList _ _ _ (⟨some 97, .binOp _ _ _ _ _, _, _, _, _⟩ :: _) _ _; refine wpList_val rfl (op_ineI rfl rfl rfl P3.out) ?_; go_frame)
                                | (show wpList _ _ _ (⟨some 100, .binOp _ _ _ _ _, _, _, _, _⟩ :: _) _ _; refine wpList_val rfl (op_iaddN rfl rfl rfl (n + 1) (by omega) (by omega)) ?_; go_frame)
                                | (show wpList _ _ _ (⟨some 105, .indexAddr _ _ _, _, _, _, _⟩ :: _) _ _; refine wpList_val rfl (op_indexArr arr2i rfl (b := n10) (off := 0) rfl (k := k) rfl hlt) ?_; simp only [Nat.zero_add]; go_frame)
                                | (show wpList _ _ _ (⟨some 106, .load _ _, _, _, _, _⟩ :: _) _ _; refine wpList_val rfl (op_load1S (b := n10) (T := 29) oneInt ((hS.bring (by repeat (first | exact t0 | apply tS)))) rfl rfl HTK.out) ?_; go_frame)
                                | (show wpList _ _ _ (⟨some 107, .binOp _ _ _ _ _, _, _, _, _⟩ :: _) _ _; refine wpList_val rfl (op_eqI' rfl rfl rfl P4.out) ?_; go_frame)
                                )
                              go_roundw
                              case rel => exact ⟨j + 1, n + 1, true, by go_num, by go_num, rfl, by omega, by omega, by rw [← hg]; exact HF2, HN2, hS.sel (by repeat (first | exact Sel.refl | refine Sel.take (by repeat (first | exact t0 | apply tS)) ?_ | apply Sel.drop))⟩
                              case measure => simp [intOf]; omega
                            | false =>
                              obtain ⟨g, hg⟩ : ∃ g, (y == tk) = g := ⟨_, rfl⟩
                              have P4 := hide hg
                              have HF2 : Hid (fitB tk a o (s.peers.take (j + 1)) = g) := by
                                have h1 := hf2.out
                                rw [Bool.false_or, hg] at h1
                                exact h1
                              clear hf2 hg
                              go_wp2_with (first
                                | go_big_skip
                                | (show wpList _ _ _ (⟨some 82, .indexAddr _ _ _, _, _, _, _⟩ :: _) _ _; refine wpList_val rfl (op_indexAddr slInt rfl (v := ua) rfl (k := j) rfl (hS.rd HUR.out) hjm) ?_; go_frame)
                                | (show wpList _ _ _ (⟨some 83, .load _ _, _, _, _, _⟩ :: _) _ _; refine wpList_val rfl (op_loadE1 oneInt rfl (v := ua) rfl (f := I64) (hS.rd HUR.out) hjl) ?_; rw [HY.out]; go_frame)
                                | (show wpList _ _ _ (⟨some 85, .binOp _ _ _ _ _, _, _, _, _⟩ :: _) _ _; refine wpList_val rfl (op_igeq rfl rfl rfl P1.out) ?_; go_frame)
                                | (show wpList _ _ _ (⟨some 89, .binOp _ _ _ _ _, _, _, _, _⟩ :: _) _ _; refine wpList_val rfl (op_ineI rfl rfl rfl P2.out) ?_; go_frame)
                                | (show wpList _ _ _ (⟨some 94, .binOp _ _ _ _ _, _, _, _, _⟩ :: _) _ _; refine wpList_val rfl (op_isubN rfl rfl rfl m HM.out (by omega)) ?_; go_frame)
                                | (show wpList _ _ _ (⟨some 95, .indexAddr _ _ _, _, _, _, _⟩ :: _) _ _; refine wpList_val rfl (op_indexArr arr2i rfl (b := n8) (off := 0) rfl (k := m) rfl hm2) ?_; simp only [Nat.zero_add]; go_frame)
                                | (show wpList _ _ _ (⟨some 96, .load _ _, _, _, _, _⟩ :: _) _ _; refine wpList_val rfl (op_load1S (b := n8) (T := 29) oneInt ((hS.bring (by repeat (first | exact t0 | apply tS)))) rfl rfl HOM.out) ?_; go_frame)
                                | (show wpList _ _ _ (⟨some 97, .binOp _ _ _ _ _, _, _, _, _⟩ :: _) _ _; refine wpList_val rfl (op_ineI rfl rfl rfl P3.out) ?_; go_frame)
                                | (show wpList _ _ _ (⟨some 100, .binOp _ _ _ _ _, _, _, _, _⟩ :: _) _ _; refine wpList_val rfl (op_iaddN rfl rfl rfl (n + 1) (by omega) (by omega)) ?_; go_frame)
                                | (show wpList _ _ _ (⟨some 105, .indexAddr _ _ _, _, _, _, _⟩ :: _) _ _; refine wpList_val rfl (op_indexArr arr2i rfl (b := n10) (off := 0) rfl (k := k) rfl hlt) ?_; simp only [Nat.zero_add]; go_frame)
                                | (show wpList _ _ _ (⟨some 106, .load _ _, _, _, _, _⟩ :: _) _ _; refine wpList_val rfl (op_load1S (b := n10) (T := 29) oneInt ((hS.bring (by repeat (first | exact t0 | apply tS)))) rfl rfl HTK.out) ?_; go_frame)
                                | (show wpList _ _ _ (⟨some 107, .binOp _ _ _ _ _, _, _, _, _⟩ :: _) _ _; refine wpList_val rfl (op_eqI' rfl rfl rfl P4.out) ?_; go_frame)
                                )
                              go_roundw
                              case rel => exact ⟨j + 1, n + 1, g, by go_num, by go_num, rfl, by omega, by omega, HF2, HN2, hS.sel (by repeat (first | exact Sel.refl | refine Sel.take (by repeat (first | exact t0 | apply tS)) ?_ | apply Sel.drop))⟩
                              case measure => simp [intOf]; omega
                      · have P1 : Hid (decide (0 ≤ y) = false) := decide_eq_false p1
                        obtain ⟨HF2, HN2⟩ := hno (by simp [p1])
                        clear p1 hno hyes
                        go_wp2_with (first
                          | go_big_skip
                          | (show wpList _ _ _ (⟨some 82, .indexAddr _ _ _, _, _, _, _⟩ :: _) _ _; refine wpList_val rfl (op_indexAddr slInt rfl (v := ua) rfl (k := j) rfl (hS.rd HUR.out) hjm) ?_; go_frame)
                          | (show wpList _ _ _ (⟨some 83, .load _ _, _, _, _, _⟩ :: _) _ _; refine wpList_val rfl (op_loadE1 oneInt rfl (v := ua) rfl (f := I64) (hS.rd HUR.out) hjl) ?_; rw [HY.out]; go_frame)
                          | (show wpList _ _ _ (⟨some 85, .binOp _ _ _ _ _, _, _, _, _⟩ :: _) _ _; refine wpList_val rfl (op_igeq rfl rfl rfl P1.out) ?_; go_frame)
                          | (show wpList _ _ _ (⟨some 89, .binOp _ _ _ _ _, _, _, _, _⟩ :: _) _ _; refine wpList_val rfl (op_ineI rfl rfl rfl P2.out) ?_; go_frame)
                          | (show wpList _ _ _ (⟨some 94, .binOp _ _ _ _ _, _, _, _, _⟩ :: _) _ _; refine wpList_val rfl (op_isubN rfl rfl rfl m HM.out (by omega)) ?_; go_frame)
                          | (show wpList _ _ _ (⟨some 95, .indexAddr _ _ _, _, _, _, _⟩ :: _) _ _; refine wpList_val rfl (op_indexArr arr2i rfl (b := n8) (off := 0) rfl (k := m) rfl hm2) ?_; simp only [Nat.zero_add]; go_frame)
                          | (show wpList _ _ _ (⟨some 96, .load _ _, _, _, _, _⟩ :: _) _ _; refine wpList_val rfl (op_load1S (b := n8) (T := 29) oneInt ((hS.bring (by repeat (first | exact t0 | apply tS)))) rfl rfl HOM.out) ?_; go_frame)
                          | (show wpList _ _ _ (⟨some 97, .binOp _ _ _ _ _, _, _, _, _⟩ :: _) _ _; refine wpList_val rfl (op_ineI rfl rfl rfl P3.out) ?_; go_frame)
                          | (show wpList _ _ _ (⟨some 100, .binOp _ _ _ _ _, _, _, _, _⟩ :: _) _ _; refine wpList_val rfl (op_iaddN rfl rfl rfl (n + 1) (by omega) (by omega)) ?_; go_frame)
                          | (show wpList _ _ _ (⟨some 105, .indexAddr _ _ _, _, _, _, _⟩ :: _) _ _; refine wpList_val rfl (op_indexArr arr2i rfl (b := n10) (off := 0) rfl (k := k) rfl hlt) ?_; simp only [Nat.zero_add]; go_frame)
                          | (show wpList _ _ _ (⟨some 106, .load _ _, _, _, _, _⟩ :: _) _ _; refine wpList_val rfl (op_load1S (b := n10) (T := 29) oneInt ((hS.bring (by repeat (first | exact t0 | apply tS)))) rfl rfl HTK.out) ?_; go_frame)
                          | (show wpList _ _ _ (⟨some 107, .binOp _ _ _ _ _, _, _, _, _⟩ :: _) _ _; refine wpList_val rfl (op_eqI' rfl rfl rfl P4.out) ?_; go_frame)
                          )
                        go_roundw
                        case rel => exact ⟨j + 1, n, f, by go_num, rfl, rfl, by omega, by omega, HF2, HN2, hS.sel (by repeat (first | exact Sel.refl | refine Sel.take (by repeat (first | exact t0 | apply tS)) ?_ | apply Sel.drop))⟩
                        case measure => simp [intOf]; omega
                    · have hjE : j = s.peers.length := by omega
                      subst hjE
                      have hft := HFT.out
                      have hnt := HNT.out
                      rw [List.take_length] at hft hnt
                      obtain rfl : f = true := hft.symm.trans HF1.out
                      have HN0 : Hid (((n : Int) == 0) = bz) := by
                        have h1 := HF2Z.out
                        rw [hnt] at h1
                        unfold Hid
                        rw [h1, Bool.eq_iff_iff, beq_iff_eq, beq_iff_eq]
                        omega
                      clear hft hnt
                      go_wp2_with (first
                        | go_big_skip
                        | (show wpList _ _ _ (⟨some 114, .indexAddr _ _ _, _, _, _, _⟩ :: _) _ _; refine wpList_val rfl (op_indexArr arr2i rfl (b := n10) (off := 0) rfl (k := k) rfl hlt) ?_; simp only [Nat.zero_add]; go_frame)
                        | (show wpList _ _ _ (⟨some 123, .indexAddr _ _ _, _, _, _, _⟩ :: _) _ _; refine wpList_val rfl (op_indexArr arr2i rfl (b := n10) (off := 0) rfl (k := k) rfl hlt) ?_; simp only [Nat.zero_add]; go_frame)
                        | (show wpList _ _ _ (⟨_, .load 3 _, _, _, _, _⟩ :: _) _ _; refine wpList_val rfl (op_load1S (b := n10) (T := 29) oneInt ((hS.bring (by repeat (first | exact t0 | apply tS)))) rfl rfl HTK.out) ?_; go_frame)
                        | (show wpList _ _ _ (⟨some 116, .binOp _ _ _ _ _, _, _, _, _⟩ :: _) _ _; refine wpList_val rfl (op_eqI' rfl rfl rfl HBZ.out) ?_; go_frame)
                        | (show wpList _ _ _ (⟨some 118, .binOp _ _ _ _ _, _, _, _, _⟩ :: _) _ _; refine wpList_val rfl (op_eqI' rfl rfl rfl HN0.out) ?_; go_frame)
                        | (show wpList _ _ _ (⟨some 119, .binOp _ _ _ _ _, _, _, _, _⟩ :: _) _ _; refine wpList_val rfl (op_neBool rfl rfl rfl) ?_; go_frame)
                        | (show wpList _ _ _ (⟨some 126, .binOp _ _ _ _ _, _, _, _, _⟩ :: _) _ _; refine wpList_val rfl (op_eqI' rfl rfl rfl HF3.out) ?_; go_frame)
                        )
                      go_roundw
                      case rel => exact ⟨k + 1, by go_num, by omega, hS.sel (by repeat (first | exact Sel.refl | refine Sel.take (by repeat (first | exact t0 | apply tS)) ?_ | apply Sel.drop))⟩
                      case measure => simp [intOf]; omega
              · have HNQ := neT h1
                have HTS := neF (g1 (fun h => h1 h.1))
                clear h1 g1 g2
                go_wp2_with (first
                  | go_big_skip
                  | (show wpList _ _ _ (⟨some 58, .indexAddr _ _ _, _, _, _, _⟩ :: _) _ _; refine wpList_val rfl (op_indexArr arr2i rfl (b := n8) (off := 0) rfl (k := k) rfl hlt) ?_; simp only [Nat.zero_add]; go_frame)
                  | (show wpList _ _ _ (⟨some 59, .load _ _, _, _, _, _⟩ :: _) _ _; refine wpList_val rfl (op_load1S (b := n8) (T := 29) oneInt ((hS.bring (by repeat (first | exact t0 | apply tS)))) rfl rfl HSK.out) ?_; go_frame)
                  | (show wpList _ _ _ (⟨some 61, .binOp _ _ _ _ _, _, _, _, _⟩ :: _) _ _; refine wpList_val rfl (op_ineI rfl rfl rfl HNQ.out) ?_; go_frame)
                  | (show wpList _ _ _ (⟨some 64, .binOp _ _ _ _ _, _, _, _, _⟩ :: _) _ _; refine wpList_val rfl (op_ilss rfl rfl rfl HQL.out) ?_; go_frame)
                  | (show wpList _ _ _ (⟨some 67, .indexAddr _ _ _, _, _, _, _⟩ :: _) _ _; refine wpList_val rfl (op_indexArr arr2i rfl (b := n10) (off := 0) rfl (k := k) rfl hlt) ?_; simp only [Nat.zero_add]; go_frame)
                  | (show wpList _ _ _ (⟨some 68, .load _ _, _, _, _, _⟩ :: _) _ _; refine wpList_val rfl (op_load1S (b := n10) (T := 29) oneInt ((hS.bring (by repeat (first | exact t0 | apply tS)))) rfl rfl HTK.out) ?_; go_frame)
                  | (show wpList _ _ _ (⟨some 70, .indexAddr _ _ _, _, _, _, _⟩ :: _) _ _; refine wpList_val rfl (op_indexArr arr2i rfl (b := n8) (off := 0) rfl (k := k) rfl hlt) ?_; simp only [Nat.zero_add]; go_frame)
                  | (show wpList _ _ _ (⟨some 71, .load _ _, _, _, _, _⟩ :: _) _ _; refine wpList_val rfl (op_load1S (b := n8) (T := 29) oneInt ((hS.bring (by repeat (first | exact t0 | apply tS)))) rfl rfl HSK.out) ?_; go_frame)
                  | (show wpList _ _ _ (⟨some 72, .binOp _ _ _ _ _, _, _, _, _⟩ :: _) _ _; refine wpList_val rfl (op_ineI rfl rfl rfl HTS.out) ?_; go_frame)
                  | (refine fin_mk (by kernel_rfl) ?_)
                  | (show wpList _ _ _ (⟨some 74, .indexAddr _ _ _, _, _, _, _⟩ :: _) _ _; refine wpList_val rfl (op_indexArr arr2i rfl (b := n10) (off := 0) rfl (k := k) rfl hlt) ?_; simp only [Nat.zero_add]; go_frame)
                  | (show wpList _ _ _ (⟨some 75, .load _ _, _, _, _, _⟩ :: _) _ _; refine wpList_val rfl (op_load1S (b := n10) (T := 29) oneInt ((hS.bring (by repeat (first | exact t0 | apply tS)))) rfl rfl HTK.out) ?_; go_frame)
                  | (show wpList _ _ _ (⟨some 76, .binOp _ _ _ _ _, _, _, _, _⟩ :: _) _ _; refine wpList_val rfl (op_eqI' rfl rfl rfl HBZ.out) ?_; go_frame)
                  | (show wpList _ _ _ (⟨some 78, .load _ _, _, _, _, _⟩ :: _) _ _; refine wpList_val rfl (op_load1S (b := nb) (T := 38) oneInts ((hS.bring (by repeat (first | exact t0 | apply tS)))) rfl rfl rfl) ?_; go_frame)
                  | (show wpList _ _ _ (⟨some 79, .call _, _, _, _, _⟩ :: _) _ _; refine wpList_val rfl (op_len slInt rfl rfl (v := ua) (xs := s.peers.map fun z => [I64 z]) rfl (hS.rd HUR.out)) ?_; rw [HBN.out]; go_frame)
                  )
                refine wp_region_text (by kernel_rfl) (by kernel_rfl) (by repeat (first | exact Clean.body | refine Clean.then ?_ | refine Clean.inBlock ?_)) ?_
                replace hS := hS.drew
                go_wp2_with (first
                  | go_big_skip
                  | (show wpList _ _ _ (⟨some 58, .indexAddr _ _ _, _, _, _, _⟩ :: _) _ _; refine wpList_val rfl (op_indexArr arr2i rfl (b := n8) (off := 0) rfl (k := k) rfl hlt) ?_; simp only [Nat.zero_add]; go_frame)
                  | (show wpList _ _ _ (⟨some 59, .load _ _, _, _, _, _⟩ :: _) _ _; refine wpList_val rfl (op_load1S (b := n8) (T := 29) oneInt ((hS.bring (by repeat (first | exact t0 | apply tS)))) rfl rfl HSK.out) ?_; go_frame)
                  | (show wpList _ _ _ (⟨some 61, .binOp _ _ _ _ _, _, _, _, _⟩ :: _) _ _; refine wpList_val rfl (op_ineI rfl rfl rfl HNQ.out) ?_; go_frame)
                  | (show wpList _ _ _ (⟨some 64, .binOp _ _ _ _ _, _, _, _, _⟩ :: _) _ _; refine wpList_val rfl (op_ilss rfl rfl rfl HQL.out) ?_; go_frame)
                  | (show wpList _ _ _ (⟨some 67, .indexAddr _ _ _, _, _, _, _⟩ :: _) _ _; refine wpList_val rfl (op_indexArr arr2i rfl (b := n10) (off := 0) rfl (k := k) rfl hlt) ?_; simp only [Nat.zero_add]; go_frame)
                  | (show wpList _ _ _ (⟨some 68, .load _ _, _, _, _, _⟩ :: _) _ _; refine wpList_val rfl (op_load1S (b := n10) (T := 29) oneInt ((hS.bring (by repeat (first | exact t0 | apply tS)))) rfl rfl HTK.out) ?_; go_frame)
                  | (show wpList _ _ _ (⟨some 70, .indexAddr _ _ _, _, _, _, _⟩ :: _) _ _; refine wpList_val rfl (op_indexArr arr2i rfl (b := n8) (off := 0) rfl (k := k) rfl hlt) ?_; simp only [Nat.zero_add]; go_frame)
                  | (show wpList _ _ _ (⟨some 71, .load _ _, _, _, _, _⟩ :: _) _ _; refine wpList_val rfl (op_load1S (b := n8) (T := 29) oneInt ((hS.bring (by repeat (first | exact t0 | apply tS)))) rfl rfl HSK.out) ?_; go_frame)
                  | (show wpList _ _ _ (⟨some 72, .binOp _ _ _ _ _, _, _, _, _⟩ :: _) _ _; refine wpList_val rfl (op_ineI rfl rfl rfl HTS.out) ?_; go_frame)
                  | (refine fin_mk (by kernel_rfl) ?_)
                  | (show wpList _ _ _ (⟨some 74, .indexAddr _ _ _, _, _, _, _⟩ :: _) _ _; refine wpList_val rfl (op_indexArr arr2i rfl (b := n10) (off := 0) rfl (k := k) rfl hlt) ?_; simp only [Nat.zero_add]; go_frame)
                  | (show wpList _ _ _ (⟨some 75, .load _ _, _, _, _, _⟩ :: _) _ _; refine wpList_val rfl (op_load1S (b := n10) (T := 29) oneInt ((hS.bring (by repeat (first | exact t0 | apply tS)))) rfl rfl HTK.out) ?_; go_frame)
                  | (show wpList _ _ _ (⟨some 76, .binOp _ _ _ _ _, _, _, _, _⟩ :: _) _ _; refine wpList_val rfl (op_eqI' rfl rfl rfl HBZ.out) ?_; go_frame)
                  | (show wpList _ _ _ (⟨some 78, .load _ _, _, _, _, _⟩ :: _) _ _; refine wpList_val rfl (op_load1S (b := nb) (T := 38) oneInts ((hS.bring (by repeat (first | exact t0 | apply tS)))) rfl rfl rfl) ?_; go_frame)
                  | (show wpList _ _ _ (⟨some 79, .call _, _, _, _, _⟩ :: _) _ _; refine wpList_val rfl (op_len slInt rfl rfl (v := ua) (xs := s.peers.map fun z => [I64 z]) rfl (hS.rd HUR.out)) ?_; rw [HBN.out]; go_frame)
                  )
                go_roundw
                case rel => exact ⟨k + 1, by go_num, by omega, hS.sel (by repeat (first | exact Sel.refl | refine Sel.take (by repeat (first | exact t0 | apply tS)) ?_ | apply Sel.drop))⟩
                case measure => simp [intOf]; omega
            · go_wp2_with fail
              go_ret
              exact ⟨rfl, hS.chg⟩
        · have HAG : Hid (decide (0 ≤ a) = false) := decide_eq_false hag
          obtain ⟨q, hq⟩ : ∃ q, s.peer = q := ⟨_, rfl⟩
          have HQP := hide hq
          clear hag hq
          have HFX := hide (leave_facts hok q s.peers s.d0)
          obtain ⟨r2, hr2⟩ : ∃ r2, leftR r q s.peers s.d0 = r2 := ⟨_, rfl⟩
          have HLF := hide hr2
          obtain ⟨c, hc⟩ : ∃ c, r2.s0 = c := ⟨_, rfl⟩
          obtain ⟨d, hd⟩ : ∃ d, r2.s1 = d := ⟨_, rfl⟩
          have HC := hide hc
          have HD := hide hd
          rw [hr2, HA.out, HB.out, hc, hd] at HFX
          clear hr2 hc hd hok
          go_enter Tryd.func4, Tryd.ntmps4
          go_wp2_with (first
            | go_big_skip
            | (show wpList _ _ _ (⟨_, .box 23 _, _, _, _, _⟩ :: _) _ _; refine wpS_boxA (cs := sa.map B8) hS rfl rfl rfl ?_; clear hS; intro nh w hS; go_frame)
            | (go_at_call 10; refine Ret.calls (alive_s hS hK hF) ?_; clear hS; rintro r1 w ⟨rfl, hS⟩)
            | (go_at_call 11; refine Ret.calls (great_s hS hv HGR.out) ?_; clear hS; rintro r1 w ⟨rfl, hS⟩)
            | (show wpList _ _ _ (⟨_, .box 38 _, _, _, _, _⟩ :: _) _ _; refine wpS_boxA (cs := aC (ua, s)) hS rfl rfl rfl ?_; clear hS; intro nb w hS; go_frame)
            | (show wpList _ _ _ (⟨some 22, .load _ _, _, _, _, _⟩ :: _) _ _; refine wpList_val rfl (op_load1S (b := nb) (T := 38) oneInts ((hS.bring (by repeat (first | exact t0 | apply tS)))) rfl rfl rfl) ?_; go_frame)
            | (show wpList _ _ _ (⟨some 23, .call _, _, _, _, _⟩ :: _) _ _; refine wpList_val rfl (op_len slInt rfl rfl (v := ua) (xs := s.peers.map fun z => [I64 z]) rfl (hS.rd HUR.out)) ?_; rw [HBN.out]; go_frame)
            | (show wpList _ _ _ (⟨some 24, .binOp _ _ _ _ _, _, _, _, _⟩ :: _) _ _; refine wpList_val rfl (op_igtr rfl rfl rfl HG7.out) ?_; go_frame)
            | (show wpList _ _ _ (⟨_, .load 23 _, _, _, _, _⟩ :: _) _ _; refine wpList_val rfl (op_load agg32b rfl rfl (SepL.getBlk (b := nh) (T := 23) ((hS.bring (by repeat (first | exact t0 | apply tS))))).cells HSL.out) ?_; go_frame)
            | (go_at_call 12; refine Ret.calls (grown_s hS hsa hv HAO.out HGR.out) ?_; clear hS; rintro r1 w ⟨p, rfl, hS⟩; rw [HQ.out] at hS)
            | (show wpList _ _ _ (⟨some 8, .alloc _, _, _, _, _⟩ :: _) _ _; refine wpS_alloc hS rfl rfl Tryd.zeroValue29 (zs := [.int .i64 0, .int .i64 0]) rfl ?_; clear hS; intro n8 w hS; go_frame)
            | (show wpList _ _ _ (⟨some 10, .alloc _, _, _, _, _⟩ :: _) _ _; refine wpS_alloc hS rfl rfl Tryd.zeroValue29 (zs := [.int .i64 0, .int .i64 0]) rfl ?_; clear hS; intro n10 w hS; go_frame)
            | (show wpList _ _ _ (⟨_, .store 29 (.tmp 8) _, _, _, _, _⟩ :: _) _ _; (refine wpS_storeAll (b := n8) agg2 (hS.bring (by repeat (first | exact t0 | apply tS))) rfl rfl rfl (vs := [I64 a, I64 b]) rfl rfl (two_one _ _) rfl ?_); clear hS; intro w hS; go_frame)
            | (show wpList _ _ _ (⟨_, .store 29 (.tmp 10) _, _, _, _, _⟩ :: _) _ _; (refine wpS_storeAll (b := n10) agg2 (hS.bring (by repeat (first | exact t0 | apply tS))) rfl rfl rfl (vs := [I64 c, I64 d]) rfl rfl (two_one _ _) rfl ?_); clear hS; intro w hS; go_frame)
            | (go_at_call 13; with_reducible refine Ret.calls (succ_s (p := p) (sa := sa) (r := r) hS hsa) ?_; clear hS; rintro r1 w ⟨rfl, hS⟩; rw [HA.out, HB.out])
            | (go_at_call 13; with_reducible refine Ret.calls (succ_s (p := p) (sa := sa) (r := r2) hS hsa) ?_; clear hS; rintro r1 w ⟨rfl, hS⟩; rw [HC.out, HD.out])
            | (show wpList _ _ _ (⟨some 32, .load _ _, _, _, _, _⟩ :: _) _ _; refine wpList_val rfl (op_load1S (b := nb) (T := 38) oneInt ((hS.bring (by repeat (first | exact t0 | apply tS)))) rfl rfl rfl) ?_; (try rw [HQP.out]); go_frame)
            | (show wpList _ _ _ (⟨some 34, .load _ _, _, _, _, _⟩ :: _) _ _; refine wpList_val rfl (op_load1S (b := nb) (T := 38) oneInt ((hS.bring (by repeat (first | exact t0 | apply tS)))) rfl rfl rfl) ?_; go_frame)
            | (show wpList _ _ _ (⟨some 35, .binOp _ _ _ _ _, _, _, _, _⟩ :: _) _ _; refine wpList_val rfl (op_irem2 rfl rfl rfl) ?_; rw [HSZ.out]; go_frame)
            | (show wpList _ _ _ (⟨some 36, .binOp _ _ _ _ _, _, _, _, _⟩ :: _) _ _; refine wpList_val rfl (op_eqI' rfl rfl rfl HZ0.out) ?_; go_frame)
            | (show wpList _ _ _ (⟨_, .indexAddr _ (.tmp 8) (.const (.int .i64 0)), _, _, _, _⟩ :: _) _ _; refine wpList_val rfl (op_indexArrZ arr2i rfl (b := n8) (off := 0) rfl rfl 0 rfl (by omega)) ?_; simp only [Nat.add_zero]; go_frame)
            | (show wpList _ _ _ (⟨some 39, .load _ _, _, _, _, _⟩ :: _) _ _; refine wpList_val rfl (op_load1S (b := n8) (T := 29) oneInt ((hS.bring (by repeat (first | exact t0 | apply tS)))) rfl rfl rfl) ?_; go_frame)
            | (show wpList _ _ _ (⟨some 43, .load _ _, _, _, _, _⟩ :: _) _ _; refine wpList_val rfl (op_load1S (b := n8) (T := 29) oneInt ((hS.bring (by repeat (first | exact t0 | apply tS)))) rfl rfl rfl) ?_; go_frame)
            | (show wpList _ _ _ (⟨some 40, .binOp _ _ _ _ _, _, _, _, _⟩ :: _) _ _; refine wpList_val rfl (op_igeq rfl rfl rfl HAG.out) ?_; go_frame)
            | (show wpList _ _ _ (⟨some 47, .load _ _, _, _, _, _⟩ :: _) _ _; refine wpList_val rfl (op_load1S (b := nb) (T := 38) oneInts ((hS.bring (by repeat (first | exact t0 | apply tS)))) rfl rfl rfl) ?_; go_frame)
            | (show wpList _ _ _ (⟨some 49, .indexAddr _ _ _, _, _, _, _⟩ :: _) _ _; refine wpList_val rfl (op_indexArrZ arr3u rfl (b := nb) (off := 5) rfl rfl 0 rfl (by omega)) ?_; go_frame)
            | (show wpList _ _ _ (⟨some 50, .load _ _, _, _, _, _⟩ :: _) _ _; refine wpList_val rfl (op_load1S (b := nb) (T := 38) oneU16 ((hS.bring (by repeat (first | exact t0 | apply tS)))) rfl rfl rfl) ?_; go_frame)
            | (go_at_call 15; (refine Ret.calls (left_s (p := p) (r := r) (q := q) (peers := s.peers) (hS.bring (by repeat (first | exact t0 | apply tS))) hsa HUR.out HPL.out HD0.out) ?_); clear hS; rintro r1 w hS; rw [HLF.out] at hS)
            )
          go_loopw [54] (fun iv wr => ∃ k : Nat, iv = .int .i64 k ∧ k ≤ 2 ∧ SepL All W wr [.blk n8 29 [I64 a, I64 b], .blk n10 29 [I64 c, I64 d], .blk nb 38 (aC (ua, s))]) (fun iv _ => 2 - (intOf iv).toNat)
          case atStart => exact ⟨0, rfl, by omega, hS.sel (by repeat (first | exact Sel.refl | refine Sel.take (by repeat (first | exact t0 | apply tS)) ?_ | apply Sel.drop))⟩
          case round =>
            clear hS
            obtain ⟨k, rfl, hk, hS⟩ := hrel
            by_cases hlt : k < 2
            · obtain ⟨sk, tk, o, m, e1, e2, e3, e4, hm2, g1, g2⟩ := HFX.out k hlt
              have HSK := hide e1
              have HTK := hide e2
              have HOM := hide e3
              have HM := hide e4
              clear e1 e2 e3 e4
              by_cases h1 : sk = q
              · have HNQ := neF h1
                by_cases h2 : q < 0
                · have HQL : Hid (decide (q < 0) = true) := decide_eq_true h2
                  have HTS := neF (g1 (fun h => absurd h.2 (by omega)))
                  clear h1 h2 g1 g2
                  go_wp2_with (first
                    | go_big_skip
                    | (show wpList _ _ _ (⟨some 58, .indexAddr _ _ _, _, _, _, _⟩ :: _) _ _; refine wpList_val rfl (op_indexArr arr2i rfl (b := n8) (off := 0) rfl (k := k) rfl hlt) ?_; simp only [Nat.zero_add]; go_frame)
                    | (show wpList _ _ _ (⟨some 59, .load _ _, _, _, _, _⟩ :: _) _ _; refine wpList_val rfl (op_load1S (b := n8) (T := 29) oneInt ((hS.bring (by repeat (first | exact t0 | apply tS)))) rfl rfl HSK.out) ?_; go_frame)
                    | (show wpList _ _ _ (⟨some 61, .binOp _ _ _ _ _, _, _, _, _⟩ :: _) _ _; refine wpList_val rfl (op_ineI rfl rfl rfl HNQ.out) ?_; go_frame)
                    | (show wpList _ _ _ (⟨some 64, .binOp _ _ _ _ _, _, _, _, _⟩ :: _) _ _; refine wpList_val rfl (op_ilss rfl rfl rfl HQL.out) ?_; go_frame)
                    | (show wpList _ _ _ (⟨some 67, .indexAddr _ _ _, _, _, _, _⟩ :: _) _ _; refine wpList_val rfl (op_indexArr arr2i rfl (b := n10) (off := 0) rfl (k := k) rfl hlt) ?_; simp only [Nat.zero_add]; go_frame)
                    | (show wpList _ _ _ (⟨some 68, .load _ _, _, _, _, _⟩ :: _) _ _; refine wpList_val rfl (op_load1S (b := n10) (T := 29) oneInt ((hS.bring (by repeat (first | exact t0 | apply tS)))) rfl rfl HTK.out) ?_; go_frame)
                    | (show wpList _ _ _ (⟨some 70, .indexAddr _ _ _, _, _, _, _⟩ :: _) _ _; refine wpList_val rfl (op_indexArr arr2i rfl (b := n8) (off := 0) rfl (k := k) rfl hlt) ?_; simp only [Nat.zero_add]; go_frame)
                    | (show wpList _ _ _ (⟨some 71, .load _ _, _, _, _, _⟩ :: _) _ _; refine wpList_val rfl (op_load1S (b := n8) (T := 29) oneInt ((hS.bring (by repeat (first | exact t0 | apply tS)))) rfl rfl HSK.out) ?_; go_frame)
                    | (show wpList _ _ _ (⟨some 72, .binOp _ _ _ _ _, _, _, _, _⟩ :: _) _ _; refine wpList_val rfl (op_ineI rfl rfl rfl HTS.out) ?_; go_frame)
                    | (refine fin_mk (by kernel_rfl) ?_)
                    | (show wpList _ _ _ (⟨some 74, .indexAddr _ _ _, _, _, _, _⟩ :: _) _ _; refine wpList_val rfl (op_indexArr arr2i rfl (b := n10) (off := 0) rfl (k := k) rfl hlt) ?_; simp only [Nat.zero_add]; go_frame)
                    | (show wpList _ _ _ (⟨some 75, .load _ _, _, _, _, _⟩ :: _) _ _; refine wpList_val rfl (op_load1S (b := n10) (T := 29) oneInt ((hS.bring (by repeat (first | exact t0 | apply tS)))) rfl rfl HTK.out) ?_; go_frame)
                    | (show wpList _ _ _ (⟨some 76, .binOp _ _ _ _ _, _, _, _, _⟩ :: _) _ _; refine wpList_val rfl (op_eqI' rfl rfl rfl HBZ.out) ?_; go_frame)
                    | (show wpList _ _ _ (⟨some 78, .load _ _, _, _, _, _⟩ :: _) _ _; refine wpList_val rfl (op_load1S (b := nb) (T := 38) oneInts ((hS.bring (by repeat (first | exact t0 | apply tS)))) rfl rfl rfl) ?_; go_frame)
                    | (show wpList _ _ _ (⟨some 79, .call _, _, _, _, _⟩ :: _) _ _; refine wpList_val rfl (op_len slInt rfl rfl (v := ua) (xs := s.peers.map fun z => [I64 z]) rfl (hS.rd HUR.out)) ?_; rw [HBN.out]; go_frame)
                    )
                  refine wp_region_text (by kernel_rfl) (by kernel_rfl) (by repeat (first | exact Clean.body | refine Clean.then ?_ | refine Clean.inBlock ?_)) ?_
                  replace hS := hS.drew
                  go_wp2_with (first
                    | go_big_skip
                    | (show wpList _ _ _ (⟨some 58, .indexAddr _ _ _, _, _, _, _⟩ :: _) _ _; refine wpList_val rfl (op_indexArr arr2i rfl (b := n8) (off := 0) rfl (k := k) rfl hlt) ?_; simp only [Nat.zero_add]; go_frame)
                    | (show wpList _ _ _ (⟨some 59, .load _ _, _, _, _, _⟩ :: _) _ _; refine wpList_val rfl (op_load1S (b := n8) (T := 29) oneInt ((hS.bring (by repeat (first | exact t0 | apply tS)))) rfl rfl HSK.out) ?_; go_frame)
                    | (show wpList _ _ _ (⟨some 61, .binOp _ _ _ _ _, _, _, _, _⟩ :: _) _ _; refine wpList_val rfl (op_ineI rfl rfl rfl HNQ.out) ?_; go_frame)
                    | (show wpList _ _ _ (⟨some 64, .binOp _ _ _ _ _, _, _, _, _⟩ :: _) _ _; refine wpList_val rfl (op_ilss rfl rfl rfl HQL.out) ?_; go_frame)
                    | (show wpList _ _ _ (⟨some 67, .indexAddr _ _ _, _, _, _, _⟩ :: _) _ _; refine wpList_val rfl (op_indexArr arr2i rfl (b := n10) (off := 0) rfl (k := k) rfl hlt) ?_; simp only [Nat.zero_add]; go_frame)
                    | (show wpList _ _ _ (⟨some 68, .load _ _, _, _, _, _⟩ :: _) _ _; refine wpList_val rfl (op_load1S (b := n10) (T := 29) oneInt ((hS.bring (by repeat (first | exact t0 | apply tS)))) rfl rfl HTK.out) ?_; go_frame)
                    | (show wpList _ _ _ (⟨some 70, .indexAddr _ _ _, _, _, _, _⟩ :: _) _ _; refine wpList_val rfl (op_indexArr arr2i rfl (b := n8) (off := 0) rfl (k := k) rfl hlt) ?_; simp only [Nat.zero_add]; go_frame)
                    | (show wpList _ _ _ (⟨some 71, .load _ _, _, _, _, _⟩ :: _) _ _; refine wpList_val rfl (op_load1S (b := n8) (T := 29) oneInt ((hS.bring (by repeat (first | exact t0 | apply tS)))) rfl rfl HSK.out) ?_; go_frame)
                    | (show wpList _ _ _ (⟨some 72, .binOp _ _ _ _ _, _, _, _, _⟩ :: _) _ _; refine wpList_val rfl (op_ineI rfl rfl rfl HTS.out) ?_; go_frame)
                    | (refine fin_mk (by kernel_rfl) ?_)
                    | (show wpList _ _ _ (⟨some 74, .indexAddr _ _ _, _, _, _, _⟩ :: _) _ _; refine wpList_val rfl (op_indexArr arr2i rfl (b := n10) (off := 0) rfl (k := k) rfl hlt) ?_; simp only [Nat.zero_add]; go_frame)
                    | (show wpList _ _ _ (⟨some 75, .load _ _, _, _, _, _⟩ :: _) _ _; refine wpList_val rfl (op_load1S (b := n10) (T := 29) oneInt ((hS.bring (by repeat (first | exact t0 | apply tS)))) rfl rfl HTK.out) ?_; go_frame)
                    | (show wpList _ _ _ (⟨some 76, .binOp _ _ _ _ _, _, _, _, _⟩ :: _) _ _; refine wpList_val rfl (op_eqI' rfl rfl rfl HBZ.out) ?_; go_frame)
                    | (show wpList _ _ _ (⟨some 78, .load _ _, _, _, _, _⟩ :: _) _ _; refine wpList_val rfl (op_load1S (b := nb) (T := 38) oneInts ((hS.bring (by repeat (first | exact t0 | apply tS)))) rfl rfl rfl) ?_; go_frame)
                    | (show wpList _ _ _ (⟨some 79, .call _, _, _, _, _⟩ :: _) _ _; refine wpList_val rfl (op_len slInt rfl rfl (v := ua) (xs := s.peers.map fun z => [I64 z]) rfl (hS.rd HUR.out)) ?_; rw [HBN.out]; go_frame)
                    )
                  go_roundw
                  case rel => exact ⟨k + 1, by go_num, by omega, hS.sel (by repeat (first | exact Sel.refl | refine Sel.take (by repeat (first | exact t0 | apply tS)) ?_ | apply Sel.drop))⟩
                  case measure => simp [intOf]; omega
                · have HQL : Hid (decide (q < 0) = false) := decide_eq_false h2
                  have hz := g2 h1 (by omega)
                  obtain ⟨f1, f2, f3⟩ := leave_end hz (by omega)
                  have HF1 := hide f1
                  have HF2E := hide f2
                  have HF3 := eqF f3
                  obtain ⟨bz, hbz⟩ : ∃ x, (tk == -1) = x := ⟨_, rfl⟩
                  have HBZ := hide hbz
                  rw [hbz] at f2
                  have HF2Z := hide f2
                  clear h1 h2 g1 g2 hz f1 f2 f3 HF2E
                  go_wp2_with (first
                    | go_big_skip
                    | (show wpList _ _ _ (⟨some 58, .indexAddr _ _ _, _, _, _, _⟩ :: _) _ _; refine wpList_val rfl (op_indexArr arr2i rfl (b := n8) (off := 0) rfl (k := k) rfl hlt) ?_; simp only [Nat.zero_add]; go_frame)
                    | (show wpList _ _ _ (⟨some 59, .load _ _, _, _, _, _⟩ :: _) _ _; refine wpList_val rfl (op_load1S (b := n8) (T := 29) oneInt ((hS.bring (by repeat (first | exact t0 | apply tS)))) rfl rfl HSK.out) ?_; go_frame)
                    | (show wpList _ _ _ (⟨some 61, .binOp _ _ _ _ _, _, _, _, _⟩ :: _) _ _; refine wpList_val rfl (op_ineI rfl rfl rfl HNQ.out) ?_; go_frame)
                    | (show wpList _ _ _ (⟨some 64, .binOp _ _ _ _ _, _, _, _, _⟩ :: _) _ _; refine wpList_val rfl (op_ilss rfl rfl rfl HQL.out) ?_; go_frame)
                    | (show wpList _ _ _ (⟨some 67, .indexAddr _ _ _, _, _, _, _⟩ :: _) _ _; refine wpList_val rfl (op_indexArr arr2i rfl (b := n10) (off := 0) rfl (k := k) rfl hlt) ?_; simp only [Nat.zero_add]; go_frame)
                    | (show wpList _ _ _ (⟨some 68, .load _ _, _, _, _, _⟩ :: _) _ _; refine wpList_val rfl (op_load1S (b := n10) (T := 29) oneInt ((hS.bring (by repeat (first | exact t0 | apply tS)))) rfl rfl HTK.out) ?_; go_frame)
                    | (show wpList _ _ _ (⟨some 70, .indexAddr _ _ _, _, _, _, _⟩ :: _) _ _; refine wpList_val rfl (op_indexArr arr2i rfl (b := n8) (off := 0) rfl (k := k) rfl hlt) ?_; simp only [Nat.zero_add]; go_frame)
                    | (show wpList _ _ _ (⟨some 71, .load _ _, _, _, _, _⟩ :: _) _ _; refine wpList_val rfl (op_load1S (b := n8) (T := 29) oneInt ((hS.bring (by repeat (first | exact t0 | apply tS)))) rfl rfl HSK.out) ?_; go_frame)
                    | (show wpList _ _ _ (⟨some 72, .binOp _ _ _ _ _, _, _, _, _⟩ :: _) _ _; refine wpList_val rfl (op_ineI rfl rfl rfl HTS.out) ?_; go_frame)
                    | (refine fin_mk (by kernel_rfl) ?_)
                    | (show wpList _ _ _ (⟨some 74, .indexAddr _ _ _, _, _, _, _⟩ :: _) _ _; refine wpList_val rfl (op_indexArr arr2i rfl (b := n10) (off := 0) rfl (k := k) rfl hlt) ?_; simp only [Nat.zero_add]; go_frame)
                    | (show wpList _ _ _ (⟨some 75, .load _ _, _, _, _, _⟩ :: _) _ _; refine wpList_val rfl (op_load1S (b := n10) (T := 29) oneInt ((hS.bring (by repeat (first | exact t0 | apply tS)))) rfl rfl HTK.out) ?_; go_frame)
                    | (show wpList _ _ _ (⟨some 76, .binOp _ _ _ _ _, _, _, _, _⟩ :: _) _ _; refine wpList_val rfl (op_eqI' rfl rfl rfl HBZ.out) ?_; go_frame)
                    | (show wpList _ _ _ (⟨some 78, .load _ _, _, _, _, _⟩ :: _) _ _; refine wpList_val rfl (op_load1S (b := nb) (T := 38) oneInts ((hS.bring (by repeat (first | exact t0 | apply tS)))) rfl rfl rfl) ?_; go_frame)
                    | (show wpList _ _ _ (⟨some 79, .call _, _, _, _, _⟩ :: _) _ _; refine wpList_val rfl (op_len slInt rfl rfl (v := ua) (xs := s.peers.map fun z => [I64 z]) rfl (hS.rd HUR.out)) ?_; rw [HBN.out]; go_frame)
                    )
                  rw [show decide ((k : Int) < 2) = true from decide_eq_true (by omega)]
                  go_loopw [12, 13, 80] (fun fv nv jv wr => ∃ (j n : Nat) (f : Bool), jv = .int .i64 j ∧ nv = .int .i64 n ∧ fv = .bool f ∧ j ≤ s.peers.length ∧ n ≤ j ∧ Hid (fitB tk q o (s.peers.take j) = f) ∧ Hid (othN q o (s.peers.take j) = n) ∧ SepL All W wr [.blk n8 29 [I64 a, I64 b], .blk n10 29 [I64 c, I64 d], .blk nb 38 (aC (ua, s))]) (fun _ _ jv _ => s.peers.length - (intOf jv).toNat)
                  case atStart => exact ⟨0, 0, bz, rfl, rfl, rfl, by omega, by omega, (fit_nil _ _ _).trans HBZ.out, rfl, hS.sel (by repeat (first | exact Sel.refl | refine Sel.take (by repeat (first | exact t0 | apply tS)) ?_ | apply Sel.drop))⟩
                  case round =>
                    clear hS
                    obtain ⟨j, n, f, rfl, rfl, rfl, hj, hnj, HFT, HNT, hS⟩ := hrel
                    by_cases hjl : j < s.peers.length
                    · have hjm : j < (s.peers.map fun z => [I64 z]).length := by rw [HBN.out]; exact hjl
                      obtain ⟨y, hy⟩ : ∃ y, s.peers[j] = y := ⟨_, rfl⟩
                      have HY := hide hy
                      have htk : s.peers.take (j + 1) = s.peers.take j ++ [y] := by rw [List.take_succ_eq_append_getElem hjl, hy]
                      have hno : okp q o y = false → Hid (fitB tk q o (s.peers.take (j + 1)) = f) ∧ Hid (othN q o (s.peers.take (j + 1)) = n) := fun h => by
                        rw [htk, fit_no h, oth_no h]
                        exact ⟨HFT, HNT⟩
                      have hyes : okp q o y = true → Hid (fitB tk q o (s.peers.take (j + 1)) = (f || (y == tk))) ∧ Hid (othN q o (s.peers.take (j + 1)) = n + 1) := fun h => by
                        rw [htk, fit_yes h, oth_yes h, HFT.out, HNT.out]
                        exact ⟨rfl, rfl⟩
                      unfold okp at hno hyes
                      clear hy htk
                      by_cases p1 : 0 ≤ y
                      · have P1 : Hid (decide (0 ≤ y) = true) := decide_eq_true p1
                        by_cases p2 : y = q
                        · have P2 := neF p2
                          obtain ⟨HF2, HN2⟩ := hno (by simp [p2])
                          clear p1 p2 hno hyes
                          go_wp2_with (first
                            | go_big_skip
                            | (show wpList _ _ _ (⟨some 82, .indexAddr _ _ _, _, _, _, _⟩ :: _) _ _; refine wpList_val rfl (op_indexAddr slInt rfl (v := ua) rfl (k := j) rfl (hS.rd HUR.out) hjm) ?_; go_frame)
                            | (show wpList _ _ _ (⟨some 83, .load _ _, _, _, _, _⟩ :: _) _ _; refine wpList_val rfl (op_loadE1 oneInt rfl (v := ua) rfl (f := I64) (hS.rd HUR.out) hjl) ?_; rw [HY.out]; go_frame)
                            | (show wpList _ _ _ (⟨some 85, .binOp _ _ _ _ _, _, _, _, _⟩ :: _) _ _; refine wpList_val rfl (op_igeq rfl rfl rfl P1.out) ?_; go_frame)
                            | (show wpList _ _ _ (⟨some 89, .binOp _ _ _ _ _, _, _, _, _⟩ :: _) _ _; refine wpList_val rfl (op_ineI rfl rfl rfl P2.out) ?_; go_frame)
                            | (show wpList _ _ _ (⟨some 94, .binOp _ _ _ _ _, _, _, _, _⟩ :: _) _ _; refine wpList_val rfl (op_isubN rfl rfl rfl m HM.out (by omega)) ?_; go_frame)
                            | (show wpList _ _ _ (⟨some 95, .indexAddr _ _ _, _, _, _, _⟩ :: _) _ _; refine wpList_val rfl (op_indexArr arr2i rfl (b := n8) (off := 0) rfl (k := m) rfl hm2) ?_; simp only [Nat.zero_add]; go_frame)
                            | (show wpList _ _ _ (⟨some 96, .load _ _, _, _, _, _⟩ :: _) _ _; refine wpList_val rfl (op_load1S (b := n8) (T := 29) oneInt ((hS.bring (by repeat (first | exact t0 | apply tS)))) rfl rfl HOM.out) ?_; go_frame)
                            | (show wpList _ _ _ (⟨some 97, .binOp _ _ _ _ _, _, _, _, _⟩ :: _) _ _; refine wpList_val rfl (op_ineI rfl rfl rfl P3.out) ?_; go_frame)
                            | (show wpList _ _ _ (⟨some 100, .binOp _ _ _ _ _, _, _, _, _⟩ :: _) _ _; refine wpList_val rfl (op_iaddN rfl rfl rfl (n + 1) (by omega) (by omega)) ?_; go_frame)
                            | (show wpList _ _ _ (⟨some 105, .indexAddr _ _ _, _, _, _, _⟩ :: _) _ _; refine wpList_val rfl (op_indexArr arr2i rfl (b := n10) (off := 0) rfl (k := k) rfl hlt) ?_; simp only [Nat.zero_add]; go_frame)
                            | (show wpList _ _ _ (⟨some 106, .load _ _, _, _, _, _⟩ :: _) _ _; refine wpList_val rfl (op_load1S (b := n10) (T := 29) oneInt ((hS.bring (by repeat (first | exact t0 | apply tS)))) rfl rfl HTK.out) ?_; go_frame)
                            | (show wpList _ _ _ (⟨some 107, .binOp _ _ _ _ _, _, _, _, _⟩ :: _) _ _; refine wpList_val rfl (op_eqI' rfl rfl rfl P4.out) ?_; go_frame)
                            )
                          go_roundw
                          case rel => exact ⟨j + 1, n, f, by go_num, rfl, rfl, by omega, by omega, HF2, HN2, hS.sel (by repeat (first | exact Sel.refl | refine Sel.take (by repeat (first | exact t0 | apply tS)) ?_ | apply Sel.drop))⟩
                          case measure => simp [intOf]; omega
                        · have P2 := neT p2
                          by_cases p3 : y = o
                          · have P3 := neF p3
                            obtain ⟨HF2, HN2⟩ := hno (by simp [p3])
                            clear p1 p2 p3 hno hyes
                            go_wp2_with (first
                              | go_big_skip
                              | (show wpList _ _ _ (⟨some 82, .indexAddr _ _ _, _, _, _, _⟩ :: _) _ _; refine wpList_val rfl (op_indexAddr slInt rfl (v := ua) rfl (k := j) rfl (hS.rd HUR.out) hjm) ?_; go_frame)
                              | (show wpList _ _ _ (⟨some 83, .load _ _, _, _, _, _⟩ :: _) _ _; refine wpList_val rfl (op_loadE1 oneInt rfl (v := ua) rfl (f := I64) (hS.rd HUR.out) hjl) ?_; rw [HY.out]; go_frame)
                              | (show wpList _ _ _ (⟨some 85, .binOp _ _ _ _ _, _, _, _, _⟩ :: _) _ _; refine wpList_val rfl (op_igeq rfl rfl rfl P1.out) ?_; go_frame)
                              | (show wpList _ _ _ (⟨some 89, .binOp _ _ _ _ _, _, _, _, _⟩ :: _) _ _; refine wpList_val rfl (op_ineI rfl rfl rfl P2.out) ?_; go_frame)
                              | (show wpList _ _ _ (⟨some 94, .binOp _ _ _ _ _, _, _, _, _⟩ :: _) _ _; refine wpList_val rfl (op_isubN rfl rfl rfl m HM.out (by omega)) ?_; go_frame)
                              | (show wpList _ _ _ (⟨some 95, .indexAddr _ _ _, _, _, _, _⟩ :: _) _ _; refine wpList_val rfl (op_indexArr arr2i rfl (b := n8) (off := 0) rfl (k := m) rfl hm2) ?_; simp only [Nat.zero_add]; go_frame)
                              | (show wpList _ _ _ (⟨some 96, .load _ _, _, _, _, _⟩ :: _) _ _; refine wpList_val rfl (op_load1S (b := n8) (T := 29) oneInt ((hS.bring (by repeat (first | exact t0 | apply tS)))) rfl rfl HOM.out) ?_; go_frame)
                              | (show wpList _ _ _ (⟨some 97, .binOp _ _ _ _ _, _, _, _, _⟩ :: _) _ _; refine wpList_val rfl (op_ineI rfl rfl rfl P3.out) ?_; go_frame)
                              | (show wpList _ _ _ (⟨some 100, .binOp _ _ _ _ _, _, _, _, _⟩ :: _) _ _; refine wpList_val rfl (op_iaddN rfl rfl rfl (n + 1) (by omega) (by omega)) ?_; go_frame)
                              | (show wpList _ _ _ (⟨some 105, .indexAddr _ _ _, _, _, _, _⟩ :: _) _ _; refine wpList_val rfl (op_indexArr arr2i rfl (b := n10) (off := 0) rfl (k := k) rfl hlt) ?_; simp only [Nat.zero_add]; go_frame)
                              | (show wpList _ _ _ (⟨some 106, .load _ _, _, _, _, _⟩ :: _) _ _; refine wpList_val rfl (op_load1S (b := n10) (T := 29) oneInt ((hS.bring (by repeat (first | exact t0 | apply tS)))) rfl rfl HTK.out) ?_; go_frame)
                              | (show wpList _ _ _ (⟨some 107, .binOp _ _ _ _ _, _, _, _, _⟩ :: _) _ _; refine wpList_val rfl (op_eqI' rfl rfl rfl P4.out) ?_; go_frame)
                              )
                            go_roundw
                            case rel => exact ⟨j + 1, n, f, by go_num, rfl, rfl, by omega, by omega, HF2, HN2, hS.sel (by repeat (first | exact Sel.refl | refine Sel.take (by repeat (first | exact t0 | apply tS)) ?_ | apply Sel.drop))⟩
                            case measure => simp [intOf]; omega
                          · have P3 := neT p3
                            obtain ⟨hf2, HN2⟩ := hyes (by simp [p1, p2, p3])
                            clear p1 p2 p3 hno hyes
                            cases f with
                            | true =>
                              obtain ⟨g, hg⟩ : ∃ g, g = true := ⟨_, rfl⟩
                              have HF2 : Hid (fitB tk q o (s.peers.take (j + 1)) = g) := by
                                rw [hg]
                                exact hf2
                              clear hf2
                              subst hg
                              obtain ⟨g, hg⟩ : ∃ g, g = true := ⟨_, rfl⟩
                              rw [← hg] at HF2
                              go_wp2_with (first
                                | go_big_skip
                                | (show wpList _ _ _ (⟨some 82, .indexAddr _ _ _, _, _, _, _⟩ :: _) _ _; refine wpList_val rfl (op_indexAddr slInt rfl (v := ua) rfl (k := j) rfl (hS.rd HUR.out) hjm) ?_; go_frame)
                                | (show wpList _ _ _ (⟨some 83, .load _ _, _, _, _, _⟩ :: _) _ _; refine wpList_val rfl (op_loadE1 oneInt rfl (v := ua) rfl (f := I64) (hS.rd HUR.out) hjl) ?_; rw [HY.out]; go_frame)
                                | (show wpList _ _ _ (⟨some 85, .binOp _ _ _ _ _, _, _, _, _⟩ :: _) _ _; refine wpList_val rfl (op_igeq rfl rfl rfl P1.out) ?_; go_frame)
                                | (show wpList _ _ _ (⟨some 89, .binOp _ _ _ _ _, _, _, _, _⟩ :: _) _ _; refine wpList_val rfl (op_ineI rfl rfl rfl P2.out) ?_; go_frame)
                                | (show wpList _ _ _ (⟨some 94, .binOp _ _ _ _ _, _, _, _, _⟩ :: _) _ _; refine wpList_val rfl (op_isubN rfl rfl rfl m HM.out (by omega)) ?_; go_frame)
                                | (show wpList _ _ _ (⟨some 95, .indexAddr _ _ _, _, _, _, _⟩ :: _) _ _; refine wpList_val rfl (op_indexArr arr2i rfl (b := n8) (off := 0) rfl (k := m) rfl hm2) ?_; simp only [Nat.zero_add]; go_frame)
                                | (show wpList _ _ _ (⟨some 96, .load _ _, _, _, _, _⟩ :: _) _ _; refine wpList_val rfl (op_load1S (b := n8) (T := 29) oneInt ((hS.bring (by repeat (first | exact t0 | apply tS)))) rfl rfl HOM.out) ?_; go_frame)
                                | (show wpList _ _ _ (⟨some 97, .binOp _ _ _ _ _, _, _, _, _⟩ :: _) _ _; refine wpList_val rfl (op_ineI rfl rfl rfl P3.out) ?_; go_frame)
                                | (show wpList _ _ _ (⟨some 100, .binOp _ _ _ _ _, _, _, _, _⟩ :: _) _ _; refine wpList_val rfl (op_iaddN rfl rfl rfl (n + 1) (by omega) (by omega)) ?_; go_frame)
                                | (show wpList _ _ _ (⟨some 105, .indexAddr _ _ _, _, _, _, _⟩ :: _) _ _; refine wpList_val rfl (op_indexArr arr2i rfl (b := n10) (off := 0) rfl (k := k) rfl hlt) ?_; simp only [Nat.zero_add]; go_frame)
                                | (show wpList _ _ _ (⟨some 106, .load _ _, _, _, _, _⟩ :: _) _ _; refine wpList_val rfl (op_load1S (b := n10) (T := 29) oneInt ((hS.bring (by repeat (first | exact t0 | apply tS)))) rfl rfl HTK.out) ?_; go_frame)
                                | (show wpList _ _ _ (⟨some 107, .binOp _ _ _ _ _, _, _, _, _⟩ :: _) _ _; refine wpList_val rfl (op_eqI' rfl rfl rfl P4.out) ?_; go_frame)
                                )
                              go_roundw
                              case rel => exact ⟨j + 1, n + 1, true, by go_num, by go_num, rfl, by omega, by omega, by rw [← hg]; exact HF2, HN2, hS.sel (by repeat (first | exact Sel.refl | refine Sel.take (by repeat (first | exact t0 | apply tS)) ?_ | apply Sel.drop))⟩
                              case measure => simp [intOf]; omega
                            | false =>
                              obtain ⟨g, hg⟩ : ∃ g, (y == tk) = g := ⟨_, rfl⟩
                              have P4 := hide hg
                              have HF2 : Hid (fitB tk q o (s.peers.take (j + 1)) = g) := by
                                have h1 := hf2.out
                                rw [Bool.false_or, hg] at h1
                                exact h1
                              clear hf2 hg
                              go_wp2_with (first
                                | go_big_skip
                                | (show wpList _ _ _ (⟨some 82, .indexAddr _ _ _, _, _, _, _⟩ :: _) _ _; refine wpList_val rfl (op_indexAddr slInt rfl (v := ua) rfl (k := j) rfl (hS.rd HUR.out) hjm) ?_; go_frame)
                                | (show wpList _ _ _ (⟨some 83, .load _ _, _, _, _, _⟩ :: _) _ _; refine wpList_val rfl (op_loadE1 oneInt rfl (v := ua) rfl (f := I64) (hS.rd HUR.out) hjl) ?_; rw [HY.out]; go_frame)
                                | (show wpList _ _ _ (⟨some 85, .binOp _ _ _ _ _, _, _, _, _⟩ :: _) _ _; refine wpList_val rfl (op_igeq rfl rfl rfl P1.out) ?_; go_frame)
                                | (show wpList _ _ _ (⟨some 89, .binOp _ _ _ _ _, _, _, _, _⟩ :: _) _ _; refine wpList_val rfl (op_ineI rfl rfl rfl P2.out) ?_; go_frame)
                                | (show wpList _ _ _ (⟨some 94, .binOp _ _ _ _ _, _, _, _, _⟩ :: _) _ _; refine wpList_val rfl (op_isubN rfl rfl rfl m HM.out (by omega)) ?_; go_frame)
                                | (show wpList _ _ _ (⟨some 95, .indexAddr _ _ _, _, _, _, _⟩ :: _) _ _; refine wpList_val rfl (op_indexArr arr2i rfl (b := n8) (off := 0) rfl (k := m) rfl hm2) ?_; simp only [Nat.zero_add]; go_frame)
                                | (show wpList _ _ _ (⟨some 96, .load _ _, _, _, _, _⟩ :: _) _ _; refine wpList_val rfl (op_load1S (b := n8) (T := 29) oneInt ((hS.bring (by repeat (first | exact t0 | apply tS)))) rfl rfl HOM.out) ?_; go_frame)
                                | (show wpList _ _ _ (⟨some 97, .binOp _ _ _ _ _, _, _, _, _⟩ :: _) _ _; refine wpList_val rfl (op_ineI rfl rfl rfl P3.out) ?_; go_frame)
                                | (show wpList _ _ _ (⟨some 100, .binOp _ _ _ _ _, _, _, _, _⟩ :: _) _ _; refine wpList_val rfl (op_iaddN rfl rfl rfl (n + 1) (by omega) (by omega)) ?_; go_frame)
                                | (show wpList _ _ _ (⟨some 105, .indexAddr _ _ _, _, _, _, _⟩ :: _) _ _; refine wpList_val rfl (op_indexArr arr2i rfl (b := n10) (off := 0) rfl (k := k) rfl hlt) ?_; simp only [Nat.zero_add]; go_frame)
                                | (show wpList _ _ _ (⟨some 106, .load _ _, _, _, _, _⟩ :: _) _ _; refine wpList_val rfl (op_load1S (b := n10) (T := 29) oneInt ((hS.bring (by repeat (first | exact t0 | apply tS)))) rfl rfl HTK.out) ?_; go_frame)
                                | (show wpList _ _ _ (⟨some 107, .binOp _ _ _ _ _, _, _, _, _⟩ :: _) _ _; refine wpList_val rfl (op_eqI' rfl rfl rfl P4.out) ?_; go_frame)
                                )
                              go_roundw
                              case rel => exact ⟨j + 1, n + 1, g, by go_num, by go_num, rfl, by omega, by omega, HF2, HN2, hS.sel (by repeat (first | exact Sel.refl | refine Sel.take (by repeat (first | exact t0 | apply tS)) ?_ | apply Sel.drop))⟩
                              case measure => simp [intOf]; omega
                      · have P1 : Hid (decide (0 ≤ y) = false) := decide_eq_false p1
                        obtain ⟨HF2, HN2⟩ := hno (by simp [p1])
                        clear p1 hno hyes
                        go_wp2_with (first
                          | go_big_skip
                          | (show wpList _ _ _ (⟨some 82, .indexAddr _ _ _, _, _, _, _⟩ :: _) _ _; refine wpList_val rfl (op_indexAddr slInt rfl (v := ua) rfl (k := j) rfl (hS.rd HUR.out) hjm) ?_; go_frame)
                          | (show wpList _ _ _ (⟨some 83, .load _ _, _, _, _, _⟩ :: _) _ _; refine wpList_val rfl (op_loadE1 oneInt rfl (v := ua) rfl (f := I64) (hS.rd HUR.out) hjl) ?_; rw [HY.out]; go_frame)
                          | (show wpList _ _ _ (⟨some 85, .binOp _ _ _ _ _, _, _, _, _⟩ :: _) _ _; refine wpList_val rfl (op_igeq rfl rfl rfl P1.out) ?_; go_frame)
                          | (show wpList _ _ _ (⟨some 89, .binOp _ _ _ _ _, _, _, _, _⟩ :: _) _ _; refine wpList_val rfl (op_ineI rfl rfl rfl P2.out) ?_; go_frame)
                          | (show wpList _ _ _ (⟨some 94, .binOp _ _ _ _ _, _, _, _, _⟩ :: _) _ _; refine wpList_val rfl (op_isubN rfl rfl rfl m HM.out (by omega)) ?_; go_frame)
                          | (show wpList _ _ _ (⟨some 95, .indexAddr _ _ _, _, _, _, _⟩ :: _) _ _; refine wpList_val rfl (op_indexArr arr2i rfl (b := n8) (off := 0) rfl (k := m) rfl hm2) ?_; simp only [Nat.zero_add]; go_frame)
                          | (show wpList _ _ _ (⟨some 96, .load _ _, _, _, _, _⟩ :: _) _ _; refine wpList_val rfl (op_load1S (b := n8) (T := 29) oneInt ((hS.bring (by repeat (first | exact t0 | apply tS)))) rfl rfl HOM.out) ?_; go_frame)
                          | (show wpList _ _ _ (⟨some 97, .binOp _ _ _ _ _, _, _, _, _⟩ :: _) _ _; refine wpList_val rfl (op_ineI rfl rfl rfl P3.out) ?_; go_frame)
                          | (show wpList _ _ _ (⟨some 100, .binOp _ _ _ _ _, _, _, _, _⟩ :: _) _ _; refine wpList_val rfl (op_iaddN rfl rfl rfl (n + 1) (by omega) (by omega)) ?_; go_frame)
                          | (show wpList _ _ _ (⟨some 105, .indexAddr _ _ _, _, _, _, _⟩ :: _) _ _; refine wpList_val rfl (op_indexArr arr2i rfl (b := n10) (off := 0) rfl (k := k) rfl hlt) ?_; simp only [Nat.zero_add]; go_frame)
                          | (show wpList _ _ _ (⟨some 106, .load _ _, _, _, _, _⟩ :: _) _ _; refine wpList_val rfl (op_load1S (b := n10) (T := 29) oneInt ((hS.bring (by repeat (first | exact t0 | apply tS)))) rfl rfl HTK.out) ?_; go_frame)
                          | (show wpList _ _ _ (⟨some 107, .binOp _ _ _ _ _, _, _, _, _⟩ :: _) _ _; refine wpList_val rfl (op_eqI' rfl rfl rfl P4.out) ?_; go_frame)
                          )
                        go_roundw
                        case rel => exact ⟨j + 1, n, f, by go_num, rfl, rfl, by omega, by omega, HF2, HN2, hS.sel (by repeat (first | exact Sel.refl | refine Sel.take (by repeat (first | exact t0 | apply tS)) ?_ | apply Sel.drop))⟩
                        case measure => simp [intOf]; omega
                    · have hjE : j = s.peers.length := by omega
                      subst hjE
                      have hft := HFT.out
                      have hnt := HNT.out
                      rw [List.take_length] at hft hnt
                      obtain rfl : f = true := hft.symm.trans HF1.out
                      have HN0 : Hid (((n : Int) == 0) = bz) := by
                        have h1 := HF2Z.out
                        rw [hnt] at h1
                        unfold Hid
                        rw [h1, Bool.eq_iff_iff, beq_iff_eq, beq_iff_eq]
                        omega
                      clear hft hnt
                      go_wp2_with (first
                        | go_big_skip
                        | (show wpList _ _ _ (⟨some 114, .indexAddr _ _ _, _, _, _, _⟩ :: _) _ _; refine wpList_val rfl (op_indexArr arr2i rfl (b := n10) (off := 0) rfl (k := k) rfl hlt) ?_; simp only [Nat.zero_add]; go_frame)
                        | (show wpList _ _ _ (⟨some 123, .indexAddr _ _ _, _, _, _, _⟩ :: _) _ _; refine wpList_val rfl (op_indexArr arr2i rfl (b := n10) (off := 0) rfl (k := k) rfl hlt) ?_; simp only [Nat.zero_add]; go_frame)
                        | (show wpList _ _ _ (⟨_, .load 3 _, _, _, _, _⟩ :: _) _ _; refine wpList_val rfl (op_load1S (b := n10) (T := 29) oneInt ((hS.bring (by repeat (first | exact t0 | apply tS)))) rfl rfl HTK.out) ?_; go_frame)
                        | (show wpList _ _ _ (⟨some 116, .binOp _ _ _ _ _, _, _, _, _⟩ :: _) _ _; refine wpList_val rfl (op_eqI' rfl rfl rfl HBZ.out) ?_; go_frame)
                        | (show wpList _ _ _ (⟨some 118, .binOp _ _ _ _ _, _, _, _, _⟩ :: _) _ _; refine wpList_val rfl (op_eqI' rfl rfl rfl HN0.out) ?_; go_frame)
                        | (show wpList _ _ _ (⟨some 119, .binOp _ _ _ _ _, _, _, _, _⟩ :: _) _ _; refine wpList_val rfl (op_neBool rfl rfl rfl) ?_; go_frame)
                        | (show wpList _ _ _ (⟨some 126, .binOp _ _ _ _ _, _, _, _, _⟩ :: _) _ _; refine wpList_val rfl (op_eqI' rfl rfl rfl HF3.out) ?_; go_frame)
                        )
                      go_roundw
                      case rel => exact ⟨k + 1, by go_num, by omega, hS.sel (by repeat (first | exact Sel.refl | refine Sel.take (by repeat (first | exact t0 | apply tS)) ?_ | apply Sel.drop))⟩
                      case measure => simp [intOf]; omega
              · have HNQ := neT h1
                have HTS := neF (g1 (fun h => h1 h.1))
                clear h1 g1 g2
                go_wp2_with (first
                  | go_big_skip
                  | (show wpList _ _ _ (⟨some 58, .indexAddr _ _ _, _, _, _, _⟩ :: _) _ _; refine wpList_val rfl (op_indexArr arr2i rfl (b := n8) (off := 0) rfl (k := k) rfl hlt) ?_; simp only [Nat.zero_add]; go_frame)
                  | (show wpList _ _ _ (⟨some 59, .load _ _, _, _, _, _⟩ :: _) _ _; refine wpList_val rfl (op_load1S (b := n8) (T := 29) oneInt ((hS.bring (by repeat (first | exact t0 | apply tS)))) rfl rfl HSK.out) ?_; go_frame)
                  | (show wpList _ _ _ (⟨some 61, .binOp _ _ _ _ _, _, _, _, _⟩ :: _) _ _; refine wpList_val rfl (op_ineI rfl rfl rfl HNQ.out) ?_; go_frame)
                  | (show wpList _ _ _ (⟨some 64, .binOp _ _ _ _ _, _, _, _, _⟩ :: _) _ _; refine wpList_val rfl (op_ilss rfl rfl rfl HQL.out) ?_; go_frame)
                  | (show wpList _ _ _ (⟨some 67, .indexAddr _ _ _, _, _, _, _⟩ :: _) _ _; refine wpList_val rfl (op_indexArr arr2i rfl (b := n10) (off := 0) rfl (k := k) rfl hlt) ?_; simp only [Nat.zero_add]; go_frame)
                  | (show wpList _ _ _ (⟨some 68, .load _ _, _, _, _, _⟩ :: _) _ _; refine wpList_val rfl (op_load1S (b := n10) (T := 29) oneInt ((hS.bring (by repeat (first | exact t0 | apply tS)))) rfl rfl HTK.out) ?_; go_frame)
                  | (show wpList _ _ _ (⟨some 70, .indexAddr _ _ _, _, _, _, _⟩ :: _) _ _; refine wpList_val rfl (op_indexArr arr2i rfl (b := n8) (off := 0) rfl (k := k) rfl hlt) ?_; simp only [Nat.zero_add]; go_frame)
                  | (show wpList _ _ _ (⟨some 71, .load _ _, _, _, _, _⟩ :: _) _ _; refine wpList_val rfl (op_load1S (b := n8) (T := 29) oneInt ((hS.bring (by repeat (first | exact t0 | apply tS)))) rfl rfl HSK.out) ?_; go_frame)
                  | (show wpList _ _ _ (⟨some 72, .binOp _ _ _ _ _, _, _, _, _⟩ :: _) _ _; refine wpList_val rfl (op_ineI rfl rfl rfl HTS.out) ?_; go_frame)
                  | (refine fin_mk (by kernel_rfl) ?_)
                  | (show wpList _ _ _ (⟨some 74, .indexAddr _ _ _, _, _, _, _⟩ :: _) _ _; refine wpList_val rfl (op_indexArr arr2i rfl (b := n10) (off := 0) rfl (k := k) rfl hlt) ?_; simp only [Nat.zero_add]; go_frame)
                  | (show wpList _ _ _ (⟨some 75, .load _ _, _, _, _, _⟩ :: _) _ _; refine wpList_val rfl (op_load1S (b := n10) (T := 29) oneInt ((hS.bring (by repeat (first | exact t0 | apply tS)))) rfl rfl HTK.out) ?_; go_frame)
                  | (show wpList _ _ _ (⟨some 76, .binOp _ _ _ _ _, _, _, _, _⟩ :: _) _ _; refine wpList_val rfl (op_eqI' rfl rfl rfl HBZ.out) ?_; go_frame)
                  | (show wpList _ _ _ (⟨some 78, .load _ _, _, _, _, _⟩ :: _) _ _; refine wpList_val rfl (op_load1S (b := nb) (T := 38) oneInts ((hS.bring (by repeat (first | exact t0 | apply tS)))) rfl rfl rfl) ?_; go_frame)
                  | (show wpList _ _ _ (⟨some 79, .call _, _, _, _, _⟩ :: _) _ _; refine wpList_val rfl (op_len slInt rfl rfl (v := ua) (xs := s.peers.map fun z => [I64 z]) rfl (hS.rd HUR.out)) ?_; rw [HBN.out]; go_frame)
                  )
                refine wp_region_text (by kernel_rfl) (by kernel_rfl) (by repeat (first | exact Clean.body | refine Clean.then ?_ | refine Clean.inBlock ?_)) ?_
                replace hS := hS.drew
                go_wp2_with (first
                  | go_big_skip
                  | (show wpList _ _ _ (⟨some 58, .indexAddr _ _ _, _, _, _, _⟩ :: _) _ _; refine wpList_val rfl (op_indexArr arr2i rfl (b := n8) (off := 0) rfl (k := k) rfl hlt) ?_; simp only [Nat.zero_add]; go_frame)
                  | (show wpList _ _ _ (⟨some 59, .load _ _, _, _, _, _⟩ :: _) _ _; refine wpList_val rfl (op_load1S (b := n8) (T := 29) oneInt ((hS.bring (by repeat (first | exact t0 | apply tS)))) rfl rfl HSK.out) ?_; go_frame)
                  | (show wpList _ _ _ (⟨some 61, .binOp _ _ _ _ _, _, _, _, _⟩ :: _) _ _; refine wpList_val rfl (op_ineI rfl rfl rfl HNQ.out) ?_; go_frame)
                  | (show wpList _ _ _ (⟨some 64, .binOp _ _ _ _ _, _, _, _, _⟩ :: _) _ _; refine wpList_val rfl (op_ilss rfl rfl rfl HQL.out) ?_; go_frame)
                  | (show wpList _ _ _ (⟨some 67, .indexAddr _ _ _, _, _, _, _⟩ :: _) _ _; refine wpList_val rfl (op_indexArr arr2i rfl (b := n10) (off := 0) rfl (k := k) rfl hlt) ?_; simp only [Nat.zero_add]; go_frame)
                  | (show wpList _ _ _ (⟨some 68, .load _ _, _, _, _, _⟩ :: _) _ _; refine wpList_val rfl (op_load1S (b := n10) (T := 29) oneInt ((hS.bring (by repeat (first | exact t0 | apply tS)))) rfl rfl HTK.out) ?_; go_frame)
                  | (show wpList _ _ _ (⟨some 70, .indexAddr _ _ _, _, _, _, _⟩ :: _) _ _; refine wpList_val rfl (op_indexArr arr2i rfl (b := n8) (off := 0) rfl (k := k) rfl hlt) ?_; simp only [Nat.zero_add]; go_frame)
                  | (show wpList _ _ _ (⟨some 71, .load _ _, _, _, _, _⟩ :: _) _ _; refine wpList_val rfl (op_load1S (b := n8) (T := 29) oneInt ((hS.bring (by repeat (first | exact t0 | apply tS)))) rfl rfl HSK.out) ?_; go_frame)
                  | (show wpList _ _ _ (⟨some 72, .binOp _ _ _ _ _, _, _, _, _⟩ :: _) _ _; refine wpList_val rfl (op_ineI rfl rfl rfl HTS.out) ?_; go_frame)
                  | (refine fin_mk (by kernel_rfl) ?_)
                  | (show wpList _ _ _ (⟨some 74, .indexAddr _ _ _, _, _, _, _⟩ :: _) _ _; refine wpList_val rfl (op_indexArr arr2i rfl (b := n10) (off := 0) rfl (k := k) rfl hlt) ?_; simp only [Nat.zero_add]; go_frame)
                  | (show wpList _ _ _ (⟨some 75, .load _ _, _, _, _, _⟩ :: _) _ _; refine wpList_val rfl (op_load1S (b := n10) (T := 29) oneInt ((hS.bring (by repeat (first | exact t0 | apply tS)))) rfl rfl HTK.out) ?_; go_frame)
                  | (show wpList _ _ _ (⟨some 76, .binOp _ _ _ _ _, _, _, _, _⟩ :: _) _ _; refine wpList_val rfl (op_eqI' rfl rfl rfl HBZ.out) ?_; go_frame)
                  | (show wpList _ _ _ (⟨some 78, .load _ _, _, _, _, _⟩ :: _) _ _; refine wpList_val rfl (op_load1S (b := nb) (T := 38) oneInts ((hS.bring (by repeat (first | exact t0 | apply tS)))) rfl rfl rfl) ?_; go_frame)
                  | (show wpList _ _ _ (⟨some 79, .call _, _, _, _, _⟩ :: _) _ _; refine wpList_val rfl (op_len slInt rfl rfl (v := ua) (xs := s.peers.map fun z => [I64 z]) rfl (hS.rd HUR.out)) ?_; rw [HBN.out]; go_frame)
                  )
                go_roundw
                case rel => exact ⟨k + 1, by go_num, by omega, hS.sel (by repeat (first | exact Sel.refl | refine Sel.take (by repeat (first | exact t0 | apply tS)) ?_ | apply Sel.drop))⟩
                case measure => simp [intOf]; omega
            · go_wp2_with fail
              go_ret
              exact ⟨rfl, hS.chg⟩
      · have HZ0 := eqF hz0
        clear hz0
        obtain ⟨q, hq⟩ : ∃ q, s.peer = q := ⟨_, rfl⟩
        have HQP := hide hq
        clear hq
        have HFX := hide (leave_facts hok q s.peers s.d0)
        obtain ⟨r2, hr2⟩ : ∃ r2, leftR r q s.peers s.d0 = r2 := ⟨_, rfl⟩
        have HLF := hide hr2
        obtain ⟨c, hc⟩ : ∃ c, r2.s0 = c := ⟨_, rfl⟩
        obtain ⟨d, hd⟩ : ∃ d, r2.s1 = d := ⟨_, rfl⟩
        have HC := hide hc
        have HD := hide hd
        rw [hr2, HA.out, HB.out, hc, hd] at HFX
        clear hr2 hc hd hok
        go_enter Tryd.func4, Tryd.ntmps4
        go_wp2_with (first
          | go_big_skip
          | (show wpList _ _ _ (⟨_, .box 23 _, _, _, _, _⟩ :: _) _ _; refine wpS_boxA (cs := sa.map B8) hS rfl rfl rfl ?_; clear hS; intro nh w hS; go_frame)
          | (go_at_call 10; refine Ret.calls (alive_s hS hK hF) ?_; clear hS; rintro r1 w ⟨rfl, hS⟩)
          | (go_at_call 11; refine Ret.calls (great_s hS hv HGR.out) ?_; clear hS; rintro r1 w ⟨rfl, hS⟩)
          | (show wpList _ _ _ (⟨_, .box 38 _, _, _, _, _⟩ :: _) _ _; refine wpS_boxA (cs := aC (ua, s)) hS rfl rfl rfl ?_; clear hS; intro nb w hS; go_frame)
          | (show wpList _ _ _ (⟨some 22, .load _ _, _, _, _, _⟩ :: _) _ _; refine wpList_val rfl (op_load1S (b := nb) (T := 38) oneInts ((hS.bring (by repeat (first | exact t0 | apply tS)))) rfl rfl rfl) ?_; go_frame)
          | (show wpList _ _ _ (⟨some 23, .call _, _, _, _, _⟩ :: _) _ _; refine wpList_val rfl (op_len slInt rfl rfl (v := ua) (xs := s.peers.map fun z => [I64 z]) rfl (hS.rd HUR.out)) ?_; rw [HBN.out]; go_frame)
          | (show wpList _ _ _ (⟨some 24, .binOp _ _ _ _ _, _, _, _, _⟩ :: _) _ _; refine wpList_val rfl (op_igtr rfl rfl rfl HG7.out) ?_; go_frame)
          | (show wpList _ _ _ (⟨_, .load 23 _, _, _, _, _⟩ :: _) _ _; refine wpList_val rfl (op_load agg32b rfl rfl (SepL.getBlk (b := nh) (T := 23) ((hS.bring (by repeat (first | exact t0 | apply tS))))).cells HSL.out) ?_; go_frame)
          | (go_at_call 12; refine Ret.calls (grown_s hS hsa hv HAO.out HGR.out) ?_; clear hS; rintro r1 w ⟨p, rfl, hS⟩; rw [HQ.out] at hS)
          | (show wpList _ _ _ (⟨some 8, .alloc _, _, _, _, _⟩ :: _) _ _; refine wpS_alloc hS rfl rfl Tryd.zeroValue29 (zs := [.int .i64 0, .int .i64 0]) rfl ?_; clear hS; intro n8 w hS; go_frame)
          | (show wpList _ _ _ (⟨some 10, .alloc _, _, _, _, _⟩ :: _) _ _; refine wpS_alloc hS rfl rfl Tryd.zeroValue29 (zs := [.int .i64 0, .int .i64 0]) rfl ?_; clear hS; intro n10 w hS; go_frame)
          | (show wpList _ _ _ (⟨_, .store 29 (.tmp 8) _, _, _, _, _⟩ :: _) _ _; (refine wpS_storeAll (b := n8) agg2 (hS.bring (by repeat (first | exact t0 | apply tS))) rfl rfl rfl (vs := [I64 a, I64 b]) rfl rfl (two_one _ _) rfl ?_); clear hS; intro w hS; go_frame)
          | (show wpList _ _ _ (⟨_, .store 29 (.tmp 10) _, _, _, _, _⟩ :: _) _ _; (refine wpS_storeAll (b := n10) agg2 (hS.bring (by repeat (first | exact t0 | apply tS))) rfl rfl rfl (vs := [I64 c, I64 d]) rfl rfl (two_one _ _) rfl ?_); clear hS; intro w hS; go_frame)
          | (go_at_call 13; with_reducible refine Ret.calls (succ_s (p := p) (sa := sa) (r := r) hS hsa) ?_; clear hS; rintro r1 w ⟨rfl, hS⟩; rw [HA.out, HB.out])
          | (go_at_call 13; with_reducible refine Ret.calls (succ_s (p := p) (sa := sa) (r := r2) hS hsa) ?_; clear hS; rintro r1 w ⟨rfl, hS⟩; rw [HC.out, HD.out])
          | (show wpList _ _ _ (⟨some 32, .load _ _, _, _, _, _⟩ :: _) _ _; refine wpList_val rfl (op_load1S (b := nb) (T := 38) oneInt ((hS.bring (by repeat (first | exact t0 | apply tS)))) rfl rfl rfl) ?_; (try rw [HQP.out]); go_frame)
          | (show wpList _ _ _ (⟨some 34, .load _ _, _, _, _, _⟩ :: _) _ _; refine wpList_val rfl (op_load1S (b := nb) (T := 38) oneInt ((hS.bring (by repeat (first | exact t0 | apply tS)))) rfl rfl rfl) ?_; go_frame)
          | (show wpList _ _ _ (⟨some 35, .binOp _ _ _ _ _, _, _, _, _⟩ :: _) _ _; refine wpList_val rfl (op_irem2 rfl rfl rfl) ?_; rw [HSZ.out]; go_frame)
          | (show wpList _ _ _ (⟨some 36, .binOp _ _ _ _ _, _, _, _, _⟩ :: _) _ _; refine wpList_val rfl (op_eqI' rfl rfl rfl HZ0.out) ?_; go_frame)
          | (show wpList _ _ _ (⟨_, .indexAddr _ (.tmp 8) (.const (.int .i64 0)), _, _, _, _⟩ :: _) _ _; refine wpList_val rfl (op_indexArrZ arr2i rfl (b := n8) (off := 0) rfl rfl 0 rfl (by omega)) ?_; simp only [Nat.add_zero]; go_frame)
          | (show wpList _ _ _ (⟨some 39, .load _ _, _, _, _, _⟩ :: _) _ _; refine wpList_val rfl (op_load1S (b := n8) (T := 29) oneInt ((hS.bring (by repeat (first | exact t0 | apply tS)))) rfl rfl rfl) ?_; go_frame)
          | (show wpList _ _ _ (⟨some 43, .load _ _, _, _, _, _⟩ :: _) _ _; refine wpList_val rfl (op_load1S (b := n8) (T := 29) oneInt ((hS.bring (by repeat (first | exact t0 | apply tS)))) rfl rfl rfl) ?_; go_frame)
          | (show wpList _ _ _ (⟨some 40, .binOp _ _ _ _ _, _, _, _, _⟩ :: _) _ _; refine wpList_val rfl (op_igeq rfl rfl rfl HAG.out) ?_; go_frame)
          | (show wpList _ _ _ (⟨some 47, .load _ _, _, _, _, _⟩ :: _) _ _; refine wpList_val rfl (op_load1S (b := nb) (T := 38) oneInts ((hS.bring (by repeat (first | exact t0 | apply tS)))) rfl rfl rfl) ?_; go_frame)
          | (show wpList _ _ _ (⟨some 49, .indexAddr _ _ _, _, _, _, _⟩ :: _) _ _; refine wpList_val rfl (op_indexArrZ arr3u rfl (b := nb) (off := 5) rfl rfl 0 rfl (by omega)) ?_; go_frame)
          | (show wpList _ _ _ (⟨some 50, .load _ _, _, _, _, _⟩ :: _) _ _; refine wpList_val rfl (op_load1S (b := nb) (T := 38) oneU16 ((hS.bring (by repeat (first | exact t0 | apply tS)))) rfl rfl rfl) ?_; go_frame)
          | (go_at_call 15; (refine Ret.calls (left_s (p := p) (r := r) (q := q) (peers := s.peers) (hS.bring (by repeat (first | exact t0 | apply tS))) hsa HUR.out HPL.out HD0.out) ?_); clear hS; rintro r1 w hS; rw [HLF.out] at hS)
          )
        go_loopw [54] (fun iv wr => ∃ k : Nat, iv = .int .i64 k ∧ k ≤ 2 ∧ SepL All W wr [.blk n8 29 [I64 a, I64 b], .blk n10 29 [I64 c, I64 d], .blk nb 38 (aC (ua, s))]) (fun iv _ => 2 - (intOf iv).toNat)
        case atStart => exact ⟨0, rfl, by omega, hS.sel (by repeat (first | exact Sel.refl | refine Sel.take (by repeat (first | exact t0 | apply tS)) ?_ | apply Sel.drop))⟩
        case round =>
          clear hS
          obtain ⟨k, rfl, hk, hS⟩ := hrel
          by_cases hlt : k < 2
          · obtain ⟨sk, tk, o, m, e1, e2, e3, e4, hm2, g1, g2⟩ := HFX.out k hlt
            have HSK := hide e1
            have HTK := hide e2
            have HOM := hide e3
            have HM := hide e4
            clear e1 e2 e3 e4
            by_cases h1 : sk = q
            · have HNQ := neF h1
              by_cases h2 : q < 0
              · have HQL : Hid (decide (q < 0) = true) := decide_eq_true h2
                have HTS := neF (g1 (fun h => absurd h.2 (by omega)))
                clear h1 h2 g1 g2
                go_wp2_with (first
                  | go_big_skip
                  | (show wpList _ _ _ (⟨some 58, .indexAddr _ _ _, _, _, _, _⟩ :: _) _ _; refine wpList_val rfl (op_indexArr arr2i rfl (b := n8) (off := 0) rfl (k := k) rfl hlt) ?_; simp only [Nat.zero_add]; go_frame)
                  | (show wpList _ _ _ (⟨some 59, .load _ _, _, _, _, _⟩ :: _) _ _; refine wpList_val rfl (op_load1S (b := n8) (T := 29) oneInt ((hS.bring (by repeat (first | exact t0 | apply tS)))) rfl rfl HSK.out) ?_; go_frame)
                  | (show wpList _ _ _ (⟨some 61, .binOp _ _ _ _ _, _, _, _, _⟩ :: _) _ _; refine wpList_val rfl (op_ineI rfl rfl rfl HNQ.out) ?_; go_frame)
                  | (show wpList _ _ _ (⟨some 64, .binOp _ _ _ _ _, _, _, _, _⟩ :: _) _ _; refine wpList_val rfl (op_ilss rfl rfl rfl HQL.out) ?_; go_frame)
                  | (show wpList _ _ _ (⟨some 67, .indexAddr _ _ _, _, _, _, _⟩ :: _) _ _; refine wpList_val rfl (op_indexArr arr2i rfl (b := n10) (off := 0) rfl (k := k) rfl hlt) ?_; simp only [Nat.zero_add]; go_frame)
                  | (show wpList _ _ _ (⟨some 68, .load _ _, _, _, _, _⟩ :: _) _ _; refine wpList_val rfl (op_load1S (b := n10) (T := 29) oneInt ((hS.bring (by repeat (first | exact t0 | apply tS)))) rfl rfl HTK.out) ?_; go_frame)
                  | (show wpList _ _ _ (⟨some 70, .indexAddr _ _ _, _, _, _, _⟩ :: _) _ _; refine wpList_val rfl (op_indexArr arr2i rfl (b := n8) (off := 0) rfl (k := k) rfl hlt) ?_; simp only [Nat.zero_add]; go_frame)
                  | (show wpList _ _ _ (⟨some 71, .load _ _, _, _, _, _⟩ :: _) _ _; refine wpList_val rfl (op_load1S (b := n8) (T := 29) oneInt ((hS.bring (by repeat (first | exact t0 | apply tS)))) rfl rfl HSK.out) ?_; go_frame)
                  | (show wpList _ _ _ (⟨some 72, .binOp _ _ _ _ _, _, _, _, _⟩ :: _) _ _; refine wpList_val rfl (op_ineI rfl rfl rfl HTS.out) ?_; go_frame)
                  | (refine fin_mk (by kernel_rfl) ?_)
                  | (show wpList _ _ _ (⟨some 74, .indexAddr _ _ _, _, _, _, _⟩ :: _) _ _; refine wpList_val rfl (op_indexArr arr2i rfl (b := n10) (off := 0) rfl (k := k) rfl hlt) ?_; simp only [Nat.zero_add]; go_frame)
                  | (show wpList _ _ _ (⟨some 75, .load _ _, _, _, _, _⟩ :: _) _ _; refine wpList_val rfl (op_load1S (b := n10) (T := 29) oneInt ((hS.bring (by repeat (first | exact t0 | apply tS)))) rfl rfl HTK.out) ?_; go_frame)
                  | (show wpList _ _ _ (⟨some 76, .binOp _ _ _ _ _, _, _, _, _⟩ :: _) _ _; refine wpList_val rfl (op_eqI' rfl rfl rfl HBZ.out) ?_; go_frame)
                  | (show wpList _ _ _ (⟨some 78, .load _ _, _, _, _, _⟩ :: _) _ _; refine wpList_val rfl (op_load1S (b := nb) (T := 38) oneInts ((hS.bring (by repeat (first | exact t0 | apply tS)))) rfl rfl rfl) ?_; go_frame)
                  | (show wpList _ _ _ (⟨some 79, .call _, _, _, _, _⟩ :: _) _ _; refine wpList_val rfl (op_len slInt rfl rfl (v := ua) (xs := s.peers.map fun z => [I64 z]) rfl (hS.rd HUR.out)) ?_; rw [HBN.out]; go_frame)
                  )
                refine wp_region_text (by kernel_rfl) (by kernel_rfl) (by repeat (first | exact Clean.body | refine Clean.then ?_ | refine Clean.inBlock ?_)) ?_
                replace hS := hS.drew
                go_wp2_with (first
                  | go_big_skip
                  | (show wpList _ _ _ (⟨some 58, .indexAddr _ _ _, _, _, _, _⟩ :: _) _ _; refine wpList_val rfl (op_indexArr arr2i rfl (b := n8) (off := 0) rfl (k := k) rfl hlt) ?_; simp only [Nat.zero_add]; go_frame)
                  | (show wpList _ _ _ (⟨some 59, .load _ _, _, _, _, _⟩ :: _) _ _; refine wpList_val rfl (op_load1S (b := n8) (T := 29) oneInt ((hS.bring (by repeat (first | exact t0 | apply tS)))) rfl rfl HSK.out) ?_; go_frame)
                  | (show wpList _ _ _ (⟨some 61, .binOp _ _ _ _ _, _, _, _, _⟩ :: _) _ _; refine wpList_val rfl (op_ineI rfl rfl rfl HNQ.out) ?_; go_frame)
                  | (show wpList _ _ _ (⟨some 64, .binOp _ _ _ _ _, _, _, _, _⟩ :: _) _ _; refine wpList_val rfl (op_ilss rfl rfl rfl HQL.out) ?_; go_frame)
                  | (show wpList _ _ _ (⟨some 67, .indexAddr _ _ _, _, _, _, _⟩ :: _) _ _; refine wpList_val rfl (op_indexArr arr2i rfl (b := n10) (off := 0) rfl (k := k) rfl hlt) ?_; simp only [Nat.zero_add]; go_frame)
                  | (show wpList _ _ _ (⟨some 68, .load _ _, _, _, _, _⟩ :: _) _ _; refine wpList_val rfl (op_load1S (b := n10) (T := 29) oneInt ((hS.bring (by repeat (first | exact t0 | apply tS)))) rfl rfl HTK.out) ?_; go_frame)
                  | (show wpList _ _ _ (⟨some 70, .indexAddr _ _ _, _, _, _, _⟩ :: _) _ _; refine wpList_val rfl (op_indexArr arr2i rfl (b := n8) (off := 0) rfl (k := k) rfl hlt) ?_; simp only [Nat.zero_add]; go_frame)
                  | (show wpList _ _ _ (⟨some 71, .load _ _, _, _, _, _⟩ :: _) _ _; refine wpList_val rfl (op_load1S (b := n8) (T := 29) oneInt ((hS.bring (by repeat (first | exact t0 | apply tS)))) rfl rfl HSK.out) ?_; go_frame)
                  | (show wpList _ _ _ (⟨some 72, .binOp _ _ _ _ _, _, _, _, _⟩ :: _) _ _; refine wpList_val rfl (op_ineI rfl rfl rfl HTS.out) ?_; go_frame)
                  | (refine fin_mk (by kernel_rfl) ?_)
                  | (show wpList _ _ _ (⟨some 74, .indexAddr _ _ _, _, _, _, _⟩ :: _) _ _; refine wpList_val rfl (op_indexArr arr2i rfl (b := n10) (off := 0) rfl (k := k) rfl hlt) ?_; simp only [Nat.zero_add]; go_frame)
                  | (show wpList _ _ _ (⟨some 75, .load _ _, _, _, _, _⟩ :: _) _ _; refine wpList_val rfl (op_load1S (b := n10) (T := 29) oneInt ((hS.bring (by repeat (first | exact t0 | apply tS)))) rfl rfl HTK.out) ?_; go_frame)
                  | (show wpList _ _ _ (⟨some 76, .binOp _ _ _ _ _, _, _, _, _⟩ :: _) _ _; refine wpList_val rfl (op_eqI' rfl rfl rfl HBZ.out) ?_; go_frame)
                  | (show wpList _ _ _ (⟨some 78, .load _ _, _, _, _, _⟩ :: _) _ _; refine wpList_val rfl (op_load1S (b := nb) (T := 38) oneInts ((hS.bring (by repeat (first | exact t0 | apply tS)))) rfl rfl rfl) ?_; go_frame)
                  | (show wpList _ _ _ (⟨some 79, .call _, _, _, _, _⟩ :: _) _ _; refine wpList_val rfl (op_len slInt rfl rfl (v := ua) (xs := s.peers.map fun z => [I64 z]) rfl (hS.rd HUR.out)) ?_; rw [HBN.out]; go_frame)
                  )
                go_roundw
                case rel => exact ⟨k + 1, by go_num, by omega, hS.sel (by repeat (first | exact Sel.refl | refine Sel.take (by repeat (first | exact t0 | apply tS)) ?_ | apply Sel.drop))⟩
                case measure => simp [intOf]; omega
              · have HQL : Hid (decide (q < 0) = false) := decide_eq_false h2
                have hz := g2 h1 (by omega)
                obtain ⟨f1, f2, f3⟩ := leave_end hz (by omega)
                have HF1 := hide f1
                have HF2E := hide f2
                have HF3 := eqF f3
                obtain ⟨bz, hbz⟩ : ∃ x, (tk == -1) = x := ⟨_, rfl⟩
                have HBZ := hide hbz
                rw [hbz] at f2
                have HF2Z := hide f2
                clear h1 h2 g1 g2 hz f1 f2 f3 HF2E
                go_wp2_with (first
                  | go_big_skip
                  | (show wpList _ _ _ (⟨some 58, .indexAddr _ _ _, _, _, _, _⟩ :: _) _ _; refine wpList_val rfl (op_indexArr arr2i rfl (b := n8) (off := 0) rfl (k := k) rfl hlt) ?_; simp only [Nat.zero_add]; go_frame)
                  | (show wpList _ _ _ (⟨some 59, .load _ _, _, _, _, _⟩ :: _) _ _; refine wpList_val rfl (op_load1S (b := n8) (T := 29) oneInt ((hS.bring (by repeat (first | exact t0 | apply tS)))) rfl rfl HSK.out) ?_; go_frame)
                  | (show wpList _ _ _ (⟨some 61, .binOp _ _ _ _ _, _, _, _, _⟩ :: _) _ _; refine wpList_val rfl (op_ineI rfl rfl rfl HNQ.out) ?_; go_frame)
                  | (show wpList _ _ _ (⟨some 64, .binOp _ _ _ _ _, _, _, _, _⟩ :: _) _ _; refine wpList_val rfl (op_ilss rfl rfl rfl HQL.out) ?_; go_frame)
                  | (show wpList _ _ _ (⟨some 67, .indexAddr _ _ _, _, _, _, _⟩ :: _) _ _; refine wpList_val rfl (op_indexArr arr2i rfl (b := n10) (off := 0) rfl (k := k) rfl hlt) ?_; simp only [Nat.zero_add]; go_frame)
                  | (show wpList _ _ _ (⟨some 68, .load _ _, _, _, _, _⟩ :: _) _ _; refine wpList_val rfl (op_load1S (b := n10) (T := 29) oneInt ((hS.bring (by repeat (first | exact t0 | apply tS)))) rfl rfl HTK.out) ?_; go_frame)
                  | (show wpList _ _ _ (⟨some 70, .indexAddr _ _ _, _, _, _, _⟩ :: _) _ _; refine wpList_val rfl (op_indexArr arr2i rfl (b := n8) (off := 0) rfl (k := k) rfl hlt) ?_; simp only [Nat.zero_add]; go_frame)
                  | (show wpList _ _ _ (⟨some 71, .load _ _, _, _, _, _⟩ :: _) _ _; refine wpList_val rfl (op_load1S (b := n8) (T := 29) oneInt ((hS.bring (by repeat (first | exact t0 | apply tS)))) rfl rfl HSK.out) ?_; go_frame)
                  | (show wpList _ _ _ (⟨some 72, .binOp _ _ _ _ _, _, _, _, _⟩ :: _) _ _; refine wpList_val rfl (op_ineI rfl rfl rfl HTS.out) ?_; go_frame)
                  | (refine fin_mk (by kernel_rfl) ?_)
                  | (show wpList _ _ _ (⟨some 74, .indexAddr _ _ _, _, _, _, _⟩ :: _) _ _; refine wpList_val rfl (op_indexArr arr2i rfl (b := n10) (off := 0) rfl (k := k) rfl hlt) ?_; simp only [Nat.zero_add]; go_frame)
                  | (show wpList _ _ _ (⟨some 75, .load _ _, _, _, _, _⟩ :: _) _ _; refine wpList_val rfl (op_load1S (b := n10) (T := 29) oneInt ((hS.bring (by repeat (first | exact t0 | apply tS)))) rfl rfl HTK.out) ?_; go_frame)
                  | (show wpList _ _ _ (⟨some 76, .binOp _ _ _ _ _, _, _, _, _⟩ :: _) _ _; refine wpList_val rfl (op_eqI' rfl rfl rfl HBZ.out) ?_; go_frame)
                  | (show wpList _ _ _ (⟨some 78, .load _ _, _, _, _, _⟩ :: _) _ _; refine wpList_val rfl (op_load1S (b := nb) (T := 38) oneInts ((hS.bring (by repeat (first | exact t0 | apply tS)))) rfl rfl rfl) ?_; go_frame)
                  | (show wpList _ _ _ (⟨some 79, .call _, _, _, _, _⟩ :: _) _ _; refine wpList_val rfl (op_len slInt rfl rfl (v := ua) (xs := s.peers.map fun z => [I64 z]) rfl (hS.rd HUR.out)) ?_; rw [HBN.out]; go_frame)
                  )
                rw [show decide ((k : Int) < 2) = true from decide_eq_true (by omega)]
                go_loopw [12, 13, 80] (fun fv nv jv wr => ∃ (j n : Nat) (f : Bool), jv = .int .i64 j ∧ nv = .int .i64 n ∧ fv = .bool f ∧ j ≤ s.peers.length ∧ n ≤ j ∧ Hid (fitB tk q o (s.peers.take j) = f) ∧ Hid (othN q o (s.peers.take j) = n) ∧ SepL All W wr [.blk n8 29 [I64 a, I64 b], .blk n10 29 [I64 c, I64 d], .blk nb 38 (aC (ua, s))]) (fun _ _ jv _ => s.peers.length - (intOf jv).toNat)
                case atStart => exact ⟨0, 0, bz, rfl, rfl, rfl, by omega, by omega, (fit_nil _ _ _).trans HBZ.out, rfl, hS.sel (by repeat (first | exact Sel.refl | refine Sel.take (by repeat (first | exact t0 | apply tS)) ?_ | apply Sel.drop))⟩
                case round =>
                  clear hS
                  obtain ⟨j, n, f, rfl, rfl, rfl, hj, hnj, HFT, HNT, hS⟩ := hrel
                  by_cases hjl : j < s.peers.length
                  · have hjm : j < (s.peers.map fun z => [I64 z]).length := by rw [HBN.out]; exact hjl
                    obtain ⟨y, hy⟩ : ∃ y, s.peers[j] = y := ⟨_, rfl⟩
                    have HY := hide hy
                    have htk : s.peers.take (j + 1) = s.peers.take j ++ [y] := by rw [List.take_succ_eq_append_getElem hjl, hy]
                    have hno : okp q o y = false → Hid (fitB tk q o (s.peers.take (j + 1)) = f) ∧ Hid (othN q o (s.peers.take (j + 1)) = n) := fun h => by
                      rw [htk, fit_no h, oth_no h]
                      exact ⟨HFT, HNT⟩
                    have hyes : okp q o y = true → Hid (fitB tk q o (s.peers.take (j + 1)) = (f || (y == tk))) ∧ Hid (othN q o (s.peers.take (j + 1)) = n + 1) := fun h => by
                      rw [htk, fit_yes h, oth_yes h, HFT.out, HNT.out]
                      exact ⟨rfl, rfl⟩
                    unfold okp at hno hyes
                    clear hy htk
                    by_cases p1 : 0 ≤ y
                    · have P1 : Hid (decide (0 ≤ y) = true) := decide_eq_true p1
                      by_cases p2 : y = q
                      · have P2 := neF p2
                        obtain ⟨HF2, HN2⟩ := hno (by simp [p2])
                        clear p1 p2 hno hyes
                        go_wp2_with (first
                          | go_big_skip
                          | (show wpList _ _ _ (⟨some 82, .indexAddr _ _ _, _, _, _, _⟩ :: _) _ _; refine wpList_val rfl (op_indexAddr slInt rfl (v := ua) rfl (k := j) rfl (hS.rd HUR.out) hjm) ?_; go_frame)
                          | (show wpList _ _ _ (⟨some 83, .load _ _, _, _, _, _⟩ :: _) _ _; refine wpList_val rfl (op_loadE1 oneInt rfl (v := ua) rfl (f := I64) (hS.rd HUR.out) hjl) ?_; rw [HY.out]; go_frame)
                          | (show wpList _ _ _ (⟨some 85, .binOp _ _ _ _ _, _, _, _, _⟩ :: _) _ _; refine wpList_val rfl (op_igeq rfl rfl rfl P1.out) ?_; go_frame)
                          | (show wpList _ _ _ (⟨some 89, .binOp _ _ _ _ _, _, _, _, _⟩ :: _) _ _; refine wpList_val rfl (op_ineI rfl rfl rfl P2.out) ?_; go_frame)
                          | (show wpList _ _ _ (⟨some 94, .binOp _ _ _ _ _, _, _, _, _⟩ :: _) _ _; refine wpList_val rfl (op_isubN rfl rfl rfl m HM.out (by omega)) ?_; go_frame)
                          | (show wpList _ _ _ (⟨some 95, .indexAddr _ _ _, _, _, _, _⟩ :: _) _ _; refine wpList_val rfl (op_indexArr arr2i rfl (b := n8) (off := 0) rfl (k := m) rfl hm2) ?_; simp only [Nat.zero_add]; go_frame)
                          | (show wpList _ _ _ (⟨some 96, .load _ _, _, _, _, _⟩ :: _) _ _; refine wpList_val rfl (op_load1S (b := n8) (T := 29) oneInt ((hS.bring (by repeat (first | exact t0 | apply tS)))) rfl rfl HOM.out) ?_; go_frame)
                          | (show wpList _ _ _ (⟨some 97, .binOp _ _ _ _ _, _, _, _, _⟩ :: _) _ _; refine wpList_val rfl (op_ineI rfl rfl rfl P3.out) ?_; go_frame)
                          | (show wpList _ _ _ (⟨some 100, .binOp _ _ _ _ _, _, _, _, _⟩ :: _) _ _; refine wpList_val rfl (op_iaddN rfl rfl rfl (n + 1) (by omega) (by omega)) ?_; go_frame)
                          | (show wpList _ _ _ (⟨some 105, .indexAddr _ _ _, _, _, _, _⟩ :: _) _ _; refine wpList_val rfl (op_indexArr arr2i rfl (b := n10) (off := 0) rfl (k := k) rfl hlt) ?_; simp only [Nat.zero_add]; go_frame)
                          | (show wpList _ _ _ (⟨some 106, .load _ _, _, _, _, _⟩ :: _) _ _; refine wpList_val rfl (op_load1S (b := n10) (T := 29) oneInt ((hS.bring (by repeat (first | exact t0 | apply tS)))) rfl rfl HTK.out) ?_; go_frame)
                          | (show wpList _ _ _ (⟨some 107, .binOp _ _ _ _ _, _, _, _, _⟩ :: _) _ _; refine wpList_val rfl (op_eqI' rfl rfl rfl P4.out) ?_; go_frame)
                          )
                        go_roundw
                        case rel => exact ⟨j + 1, n, f, by go_num, rfl, rfl, by omega, by omega, HF2, HN2, hS.sel (by repeat (first | exact Sel.refl | refine Sel.take (by repeat (first | exact t0 | apply tS)) ?_ | apply Sel.drop))⟩
                        case measure => simp [intOf]; omega
                      · have P2 := neT p2
                        by_cases p3 : y = o
                        · have P3 := neF p3
                          obtain ⟨HF2, HN2⟩ := hno (by simp [p3])
                          clear p1 p2 p3 hno hyes
                          go_wp2_with (first
                            | go_big_skip
                            | (show wpList _ _ _ (⟨some 82, .indexAddr _ _ _, _, _, _, _⟩ :: _) _ _; refine wpList_val rfl (op_indexAddr slInt rfl (v := ua) rfl (k := j) rfl (hS.rd HUR.out) hjm) ?_; go_frame)
                            | (show wpList _ _ _ (⟨some 83, .load _ _, _, _, _, _⟩ :: _) _ _; refine wpList_val rfl (op_loadE1 oneInt rfl (v := ua) rfl (f := I64) (hS.rd HUR.out) hjl) ?_; rw [HY.out]; go_frame)
                            | (show wpList _ _ _ (⟨some 85, .binOp _ _ _ _ _, _, _, _, _⟩ :: _) _ _; refine wpList_val rfl (op_igeq rfl rfl rfl P1.out) ?_; go_frame)
                            | (show wpList _ _ _ (⟨some 89, .binOp _ _ _ _ _, _, _, _, _⟩ :: _) _ _; refine wpList_val rfl (op_ineI rfl rfl rfl P2.out) ?_; go_frame)
                            | (show wpList _ _ _ (⟨some 94, .binOp _ _ _ _ _, _, _, _, _⟩ :: _) _ _; refine wpList_val rfl (op_isubN rfl rfl rfl m HM.out (by omega)) ?_; go_frame)
                            | (show wpList _ _ _ (⟨some 95, .indexAddr _ _ _, _, _, _, _⟩ :: _) _ _; refine wpList_val rfl (op_indexArr arr2i rfl (b := n8) (off := 0) rfl (k := m) rfl hm2) ?_; simp only [Nat.zero_add]; go_frame)
                            | (show wpList _ _ _ (⟨some 96, .load _ _, _, _, _, _⟩ :: _) _ _; refine wpList_val rfl (op_load1S (b := n8) (T := 29) oneInt ((hS.bring (by repeat (first | exact t0 | apply tS)))) rfl rfl HOM.out) ?_; go_frame)
                            | (show wpList _ _ _ (⟨some 97, .binOp _ _ _ _ _, _, _, _, _⟩ :: _) _ _; refine wpList_val rfl (op_ineI rfl rfl rfl P3.out) ?_; go_frame)
                            | (show wpList _ _ _ (⟨some 100, .binOp _ _ _ _ _, _, _, _, _⟩ :: _) _ _; refine wpList_val rfl (op_iaddN rfl rfl rfl (n + 1) (by omega) (by omega)) ?_; go_frame)
                            | (show wpList _ _ _ (⟨some 105, .indexAddr _ _ _, _, _, _, _⟩ :: _) _ _; refine wpList_val rfl (op_indexArr arr2i rfl (b := n10) (off := 0) rfl (k := k) rfl hlt) ?_; simp only [Nat.zero_add]; go_frame)
                            | (show wpList _ _ _ (⟨some 106, .load _ _, _, _, _, _⟩ :: _) _ _; refine wpList_val rfl (op_load1S (b := n10) (T := 29) oneInt ((hS.bring (by repeat (first | exact t0 | apply tS)))) rfl rfl HTK.out) ?_; go_frame)
                            | (show wpList _ _ _ (⟨some 107, .binOp _ _ _ _ _, _, _, _, _⟩ :: _) _ _; refine wpList_val rfl (op_eqI' rfl rfl rfl P4.out) ?_; go_frame)
                            )
                          go_roundw
                          case rel => exact ⟨j + 1, n, f, by go_num, rfl, rfl, by omega, by omega, HF2, HN2, hS.sel (by repeat (first | exact Sel.refl | refine Sel.take (by repeat (first | exact t0 | apply tS)) ?_ | apply Sel.drop))⟩
                          case measure => simp [intOf]; omega
                        · have P3 := neT p3
                          obtain ⟨hf2, HN2⟩ := hyes (by simp [p1, p2, p3])
                          clear p1 p2 p3 hno hyes
                          cases f with
                          | true =>
                            obtain ⟨g, hg⟩ : ∃ g, g = true := ⟨_, rfl⟩
                            have HF2 : Hid (fitB tk q o (s.peers.take (j + 1)) = g) := by
                              rw [hg]
                              exact hf2
                            clear hf2
                            subst hg
                            obtain ⟨g, hg⟩ : ∃ g, g = true := ⟨_, rfl⟩
                            rw [← hg] at HF2
                            go_wp2_with (first
                              | go_big_skip
                              | (show wpList _ _ _ (⟨some 82, .indexAddr _ _ _, _, _, _, _⟩ :: _) _ _; refine wpList_val rfl (op_indexAddr slInt rfl (v := ua) rfl (k := j) rfl (hS.rd HUR.out) hjm) ?_; go_frame)
                              | (show wpList _ _ _ (⟨some 83, .load _ _, _, _, _, _⟩ :: _) _ _; refine wpList_val rfl (op_loadE1 oneInt rfl (v := ua) rfl (f := I64) (hS.rd HUR.out) hjl) ?_; rw [HY.out]; go_frame)
                              | (show wpList _ _ _ (⟨some 85, .binOp _ _ _ _ _, _, _, _, _⟩ :: _) _ _; refine wpList_val rfl (op_igeq rfl rfl rfl P1.out) ?_; go_frame)
                              | (show wpList _ _ _ (⟨some 89, .binOp _ _ _ _ _, _, _, _, _⟩ :: _) _ _; refine wpList_val rfl (op_ineI rfl rfl rfl P2.out) ?_; go_frame)
                              | (show wpList _ _ _ (⟨some 94, .binOp _ _ _ _ _, _, _, _, _⟩ :: _) _ _; refine wpList_val rfl (op_isubN rfl rfl rfl m HM.out (by omega)) ?_; go_frame)
                              | (show wpList _ _ _ (⟨some 95, .indexAddr _ _ _, _, _, _, _⟩ :: _) _ _; refine wpList_val rfl (op_indexArr arr2i rfl (b := n8) (off := 0) rfl (k := m) rfl hm2) ?_; simp only [Nat.zero_add]; go_frame)
                              | (show wpList _ _ _ (⟨some 96, .load _ _, _, _, _, _⟩ :: _) _ _; refine wpList_val rfl (op_load1S (b := n8) (T := 29) oneInt ((hS.bring (by repeat (first | exact t0 | apply tS)))) rfl rfl HOM.out) ?_; go_frame)
                              | (show wpList _ _ _ (⟨some 97, .binOp _ _ _ _ _, _, _, _, _⟩ :: _) _ _; refine wpList_val rfl (op_ineI rfl rfl rfl P3.out) ?_; go_frame)
                              | (show wpList _ _ _ (⟨some 100, .binOp _ _ _ _ _, _, _, _, _⟩ :: _) _ _; refine wpList_val rfl (op_iaddN rfl rfl rfl (n + 1) (by omega) (by omega)) ?_; go_frame)
                              | (show wpList _ _ _ (⟨some 105, .indexAddr _ _ _, _, _, _, _⟩ :: _) _ _; refine wpList_val rfl (op_indexArr arr2i rfl (b := n10) (off := 0) rfl (k := k) rfl hlt) ?_; simp only [Nat.zero_add]; go_frame)
                              | (show wpList _ _ _ (⟨some 106, .load _ _, _, _, _, _⟩ :: _) _ _; refine wpList_val rfl (op_load1S (b := n10) (T := 29) oneInt ((hS.bring (by repeat (first | exact t0 | apply tS)))) rfl rfl HTK.out) ?_; go_frame)
                              | (show wpList _ _ _ (⟨some 107, .binOp _ _ _ _ _, _, _, _, _⟩ :: _) _ _; refine wpList_val rfl (op_eqI' rfl rfl rfl P4.out) ?_; go_frame)
                              )
                            go_roundw
                            case rel => exact ⟨j + 1, n + 1, true, by go_num, by go_num, rfl, by omega, by omega, by rw [← hg]; exact HF2, HN2, hS.sel (by repeat (first | exact Sel.refl | refine Sel.take (by repeat (first | exact t0 | apply tS)) ?_ | apply Sel.drop))⟩
                            case measure => simp [intOf]; omega
                          | false =>
                            obtain ⟨g, hg⟩ : ∃ g, (y == tk) = g := ⟨_, rfl⟩
                            have P4 := hide hg
                            have HF2 : Hid (fitB tk q o (s.peers.take (j + 1)) = g) := by
                              have h1 := hf2.out
                              rw [Bool.false_or, hg] at h1
                              exact h1
                            clear hf2 hg
                            go_wp2_with (first
                              | go_big_skip
                              | (show wpList _ _ _ (⟨some 82, .indexAddr _ _ _, _, _, _, _⟩ :: _) _ _; refine wpList_val rfl (op_indexAddr slInt rfl (v := ua) rfl (k := j) rfl (hS.rd HUR.out) hjm) ?_; go_frame)
                              | (show wpList _ _ _ (⟨some 83, .load _ _, _, _, _, _⟩ :: _) _ _; refine wpList_val rfl (op_loadE1 oneInt rfl (v := ua) rfl (f := I64) (hS.rd HUR.out) hjl) ?_; rw [HY.out]; go_frame)
                              | (show wpList _ _ _ (⟨some 85, .binOp _ _ _ _ _, _, _, _, _⟩ :: _) _ _; refine wpList_val rfl (op_igeq rfl rfl rfl P1.out) ?_; go_frame)
                              | (show wpList _ _ _ (⟨some 89, .binOp _ _ _ _ _, _, _, _, _⟩ :: _) _ _; refine wpList_val rfl (op_ineI rfl rfl rfl P2.out) ?_; go_frame)
                              | (show wpList _ _ _ (⟨some 94, .binOp _ _ _ _ _, _, _, _, _⟩ :: _) _ _; refine wpList_val rfl (op_isubN rfl rfl rfl m HM.out (by omega)) ?_; go_frame)
                              | (show wpList _ _ _ (⟨some 95, .indexAddr _ _ _, _, _, _, _⟩ :: _) _ _; refine wpList_val rfl (op_indexArr arr2i rfl (b := n8) (off := 0) rfl (k := m) rfl hm2) ?_; simp only [Nat.zero_add]; go_frame)
                              | (show wpList _ _ _ (⟨some 96, .load _ _, _, _, _, _⟩ :: _) _ _; refine wpList_val rfl (op_load1S (b := n8) (T := 29) oneInt ((hS.bring (by repeat (first | exact t0 | apply tS)))) rfl rfl HOM.out) ?_; go_frame)
                              | (show wpList _ _ _ (⟨some 97, .binOp _ _ _ _ _, _, _, _, _⟩ :: _) _ _; refine wpList_val rfl (op_ineI rfl rfl rfl P3.out) ?_; go_frame)
                              | (show wpList _ _ _ (⟨some 100, .binOp _ _ _ _ _, _, _, _, _⟩ :: _) _ _; refine wpList_val rfl (op_iaddN rfl rfl rfl (n + 1) (by omega) (by omega)) ?_; go_frame)
                              | (show wpList _ _ _ (⟨some 105, .indexAddr _ _ _, _, _, _, _⟩ :: _) _ _; refine wpList_val rfl (op_indexArr arr2i rfl (b := n10) (off := 0) rfl (k := k) rfl hlt) ?_; simp only [Nat.zero_add]; go_frame)
                              | (show wpList _ _ _ (⟨some 106, .load _ _, _, _, _, _⟩ :: _) _ _; refine wpList_val rfl (op_load1S (b := n10) (T := 29) oneInt ((hS.bring (by repeat (first | exact t0 | apply tS)))) rfl rfl HTK.out) ?_; go_frame)
                              | (show wpList _ _ _ (⟨some 107, .binOp _ _ _ _ _, _, _, _, _⟩ :: _) _ _; refine wpList_val rfl (op_eqI' rfl rfl rfl P4.out) ?_; go_frame)
                              )
                            go_roundw
                            case rel => exact ⟨j + 1, n + 1, g, by go_num, by go_num, rfl, by omega, by omega, HF2, HN2, hS.sel (by repeat (first | exact Sel.refl | refine Sel.take (by repeat (first | exact t0 | apply tS)) ?_ | apply Sel.drop))⟩
                            case measure => simp [intOf]; omega
                    · have P1 : Hid (decide (0 ≤ y) = false) := decide_eq_false p1
                      obtain ⟨HF2, HN2⟩ := hno (by simp [p1])
                      clear p1 hno hyes
                      go_wp2_with (first
                        | go_big_skip
                        | (show wpList _ _ _ (⟨some 82, .indexAddr _ _ _, _, _, _, _⟩ :: _) _ _; refine wpList_val rfl (op_indexAddr slInt rfl (v := ua) rfl (k := j) rfl (hS.rd HUR.out) hjm) ?_; go_frame)
                        | (show wpList _ _ _ (⟨some 83, .load _ _, _, _, _, _⟩ :: _) _ _; refine wpList_val rfl (op_loadE1 oneInt rfl (v := ua) rfl (f := I64) (hS.rd HUR.out) hjl) ?_; rw [HY.out]; go_frame)
                        | (show wpList _ _ _ (⟨some 85, .binOp _ _ _ _ _, _, _, _, _⟩ :: _) _ _; refine wpList_val rfl (op_igeq rfl rfl rfl P1.out) ?_; go_frame)
                        | (show wpList _ _ _ (⟨some 89, .binOp _ _ _ _ _, _, _, _, _⟩ :: _) _ _; refine wpList_val rfl (op_ineI rfl rfl rfl P2.out) ?_; go_frame)
                        | (show wpList _ _ _ (⟨some 94, .binOp _ _ _ _ _, _, _, _, _⟩ :: _) _ _; refine wpList_val rfl (op_isubN rfl rfl rfl m HM.out (by omega)) ?_; go_frame)
                        | (show wpList _ _ _ (⟨some 95, .indexAddr _ _ _, _, _, _, _⟩ :: _) _ _; refine wpList_val rfl (op_indexArr arr2i rfl (b := n8) (off := 0) rfl (k := m) rfl hm2) ?_; simp only [Nat.zero_add]; go_frame)
                        | (show wpList _ _ _ (⟨some 96, .load _ _, _, _, _, _⟩ :: _) _ _; refine wpList_val rfl (op_load1S (b := n8) (T := 29) oneInt ((hS.bring (by repeat (first | exact t0 | apply tS)))) rfl rfl HOM.out) ?_; go_frame)
                        | (show wpList _ _ _ (⟨some 97, .binOp _ _ _ _ _, _, _, _, _⟩ :: _) _ _; refine wpList_val rfl (op_ineI rfl rfl rfl P3.out) ?_; go_frame)
                        | (show wpList _ _ _ (⟨some 100, .binOp _ _ _ _ _, _, _, _, _⟩ :: _) _ _; refine wpList_val rfl (op_iaddN rfl rfl rfl (n + 1) (by omega) (by omega)) ?_; go_frame)
                        | (show wpList _ _ _ (⟨some 105, .indexAddr _ _ _, _, _, _, _⟩ :: _) _ _; refine wpList_val rfl (op_indexArr arr2i rfl (b := n10) (off := 0) rfl (k := k) rfl hlt) ?_; simp only [Nat.zero_add]; go_frame)
                        | (show wpList _ _ _ (⟨some 106, .load _ _, _, _, _, _⟩ :: _) _ _; refine wpList_val rfl (op_load1S (b := n10) (T := 29) oneInt ((hS.bring (by repeat (first | exact t0 | apply tS)))) rfl rfl HTK.out) ?_; go_frame)
                        | (show wpList _ _ _ (⟨some 107, .binOp _ _ _ _ _, _, _, _, _⟩ :: _) _ _; refine wpList_val rfl (op_eqI' rfl rfl rfl P4.out) ?_; go_frame)
                        )
                      go_roundw
                      case rel => exact ⟨j + 1, n, f, by go_num, rfl, rfl, by omega, by omega, HF2, HN2, hS.sel (by repeat (first | exact Sel.refl | refine Sel.take (by repeat (first | exact t0 | apply tS)) ?_ | apply Sel.drop))⟩
                      case measure => simp [intOf]; omega
                  · have hjE : j = s.peers.length := by omega
                    subst hjE
                    have hft := HFT.out
                    have hnt := HNT.out
                    rw [List.take_length] at hft hnt
                    obtain rfl : f = true := hft.symm.trans HF1.out
                    have HN0 : Hid (((n : Int) == 0) = bz) := by
                      have h1 := HF2Z.out
                      rw [hnt] at h1
                      unfold Hid
                      rw [h1, Bool.eq_iff_iff, beq_iff_eq, beq_iff_eq]
                      omega
                    clear hft hnt
                    go_wp2_with (first
                      | go_big_skip
                      | (show wpList _ _ _ (⟨some 114, .indexAddr _ _ _, _, _, _, _⟩ :: _) _ _; refine wpList_val rfl (op_indexArr arr2i rfl (b := n10) (off := 0) rfl (k := k) rfl hlt) ?_; simp only [Nat.zero_add]; go_frame)
                      | (show wpList _ _ _ (⟨some 123, .indexAddr _ _ _, _, _, _, _⟩ :: _) _ _; refine wpList_val rfl (op_indexArr arr2i rfl (b := n10) (off := 0) rfl (k := k) rfl hlt) ?_; simp only [Nat.zero_add]; go_frame)
                      | (show wpList _ _ _ (⟨_, .load 3 _, _, _, _, _⟩ :: _) _ _; refine wpList_val rfl (op_load1S (b := n10) (T := 29) oneInt ((hS.bring (by repeat (first | exact t0 | apply tS)))) rfl rfl HTK.out) ?_; go_frame)
                      | (show wpList _ _ _ (⟨some 116, .binOp _ _ _ _ _, _, _, _, _⟩ :: _) _ _; refine wpList_val rfl (op_eqI' rfl rfl rfl HBZ.out) ?_; go_frame)
                      | (show wpList _ _ _ (⟨some 118, .binOp _ _ _ _ _, _, _, _, _⟩ :: _) _ _; refine wpList_val rfl (op_eqI' rfl rfl rfl HN0.out) ?_; go_frame)
                      | (show wpList _ _ _ (⟨some 119, .binOp _ _ _ _ _, _, _, _, _⟩ :: _) _ _; refine wpList_val rfl (op_neBool rfl rfl rfl) ?_; go_frame)
                      | (show wpList _ _ _ (⟨some 126, .binOp _ _ _ _ _, _, _, _, _⟩ :: _) _ _; refine wpList_val rfl (op_eqI' rfl rfl rfl HF3.out) ?_; go_frame)
                      )
                    go_roundw
                    case rel => exact ⟨k + 1, by go_num, by omega, hS.sel (by repeat (first | exact Sel.refl | refine Sel.take (by repeat (first | exact t0 | apply tS)) ?_ | apply Sel.drop))⟩
                    case measure => simp [intOf]; omega
            · have HNQ := neT h1
              have HTS := neF (g1 (fun h => h1 h.1))
              clear h1 g1 g2
              go_wp2_with (first
                | go_big_skip
                | (show wpList _ _ _ (⟨some 58, .indexAddr _ _ _, _, _, _, _⟩ :: _) _ _; refine wpList_val rfl (op_indexArr arr2i rfl (b := n8) (off := 0) rfl (k := k) rfl hlt) ?_; simp only [Nat.zero_add]; go_frame)
                | (show wpList _ _ _ (⟨some 59, .load _ _, _, _, _, _⟩ :: _) _ _; refine wpList_val rfl (op_load1S (b := n8) (T := 29) oneInt ((hS.bring (by repeat (first | exact t0 | apply tS)))) rfl rfl HSK.out) ?_; go_frame)
                | (show wpList _ _ _ (⟨some 61, .binOp _ _ _ _ _, _, _, _, _⟩ :: _) _ _; refine wpList_val rfl (op_ineI rfl rfl rfl HNQ.out) ?_; go_frame)
                | (show wpList _ _ _ (⟨some 64, .binOp _ _ _ _ _, _, _, _, _⟩ :: _) _ _; refine wpList_val rfl (op_ilss rfl rfl rfl HQL.out) ?_; go_frame)
                | (show wpList _ _ _ (⟨some 67, .indexAddr _ _ _, _, _, _, _⟩ :: _) _ _; refine wpList_val rfl (op_indexArr arr2i rfl (b := n10) (off := 0) rfl (k := k) rfl hlt) ?_; simp only [Nat.zero_add]; go_frame)
                | (show wpList _ _ _ (⟨some 68, .load _ _, _, _, _, _⟩ :: _) _ _; refine wpList_val rfl (op_load1S (b := n10) (T := 29) oneInt ((hS.bring (by repeat (first | exact t0 | apply tS)))) rfl rfl HTK.out) ?_; go_frame)
                | (show wpList _ _ _ (⟨some 70, .indexAddr _ _ _, _, _, _, _⟩ :: _) _ _; refine wpList_val rfl (op_indexArr arr2i rfl (b := n8) (off := 0) rfl (k := k) rfl hlt) ?_; simp only [Nat.zero_add]; go_frame)
                | (show wpList _ _ _ (⟨some 71, .load _ _, _, _, _, _⟩ :: _) _ _; refine wpList_val rfl (op_load1S (b := n8) (T := 29) oneInt ((hS.bring (by repeat (first | exact t0 | apply tS)))) rfl rfl HSK.out) ?_; go_frame)
                | (show wpList _ _ _ (⟨some 72, .binOp _ _ _ _ _, _, _, _, _⟩ :: _) _ _; refine wpList_val rfl (op_ineI rfl rfl rfl HTS.out) ?_; go_frame)
                | (refine fin_mk (by kernel_rfl) ?_)
                | (show wpList _ _ _ (⟨some 74, .indexAddr _ _ _, _, _, _, _⟩ :: _) _ _; refine wpList_val rfl (op_indexArr arr2i rfl (b := n10) (off := 0) rfl (k := k) rfl hlt) ?_; simp only [Nat.zero_add]; go_frame)
                | (show wpList _ _ _ (⟨some 75, .load _ _, _, _, _, _⟩ :: _) _ _; refine wpList_val rfl (op_load1S (b := n10) (T := 29) oneInt ((hS.bring (by repeat (first | exact t0 | apply tS)))) rfl rfl HTK.out) ?_; go_frame)
                | (show wpList _ _ _ (⟨some 76, .binOp _ _ _ _ _, _, _, _, _⟩ :: _) _ _; refine wpList_val rfl (op_eqI' rfl rfl rfl HBZ.out) ?_; go_frame)
                | (show wpList _ _ _ (⟨some 78, .load _ _, _, _, _, _⟩ :: _) _ _; refine wpList_val rfl (op_load1S (b := nb) (T := 38) oneInts ((hS.bring (by repeat (first | exact t0 | apply tS)))) rfl rfl rfl) ?_; go_frame)
                | (show wpList _ _ _ (⟨some 79, .call _, _, _, _, _⟩ :: _) _ _; refine wpList_val rfl (op_len slInt rfl rfl (v := ua) (xs := s.peers.map fun z => [I64 z]) rfl (hS.rd HUR.out)) ?_; rw [HBN.out]; go_frame)
                )
              refine wp_region_text (by kernel_rfl) (by kernel_rfl) (by repeat (first | exact Clean.body | refine Clean.then ?_ | refine Clean.inBlock ?_)) ?_
              replace hS := hS.drew
              go_wp2_with (first
                | go_big_skip
                | (show wpList _ _ _ (⟨some 58, .indexAddr _ _ _, _, _, _, _⟩ :: _) _ _; refine wpList_val rfl (op_indexArr arr2i rfl (b := n8) (off := 0) rfl (k := k) rfl hlt) ?_; simp only [Nat.zero_add]; go_frame)
                | (show wpList _ _ _ (⟨some 59, .load _ _, _, _, _, _⟩ :: _) _ _; refine wpList_val rfl (op_load1S (b := n8) (T := 29) oneInt ((hS.bring (by repeat (first | exact t0 | apply tS)))) rfl rfl HSK.out) ?_; go_frame)
                | (show wpList _ _ _ (⟨some 61, .binOp _ _ _ _ _, _, _, _, _⟩ :: _) _ _; refine wpList_val rfl (op_ineI rfl rfl rfl HNQ.out) ?_; go_frame)
                | (show wpList _ _ _ (⟨some 64, .binOp _ _ _ _ _, _, _, _, _⟩ :: _) _ _; refine wpList_val rfl (op_ilss rfl rfl rfl HQL.out) ?_; go_frame)
                | (show wpList _ _ _ (⟨some 67, .indexAddr _ _ _, _, _, _, _⟩ :: _) _ _; refine wpList_val rfl (op_indexArr arr2i rfl (b := n10) (off := 0) rfl (k := k) rfl hlt) ?_; simp only [Nat.zero_add]; go_frame)
                | (show wpList _ _ _ (⟨some 68, .load _ _, _, _, _, _⟩ :: _) _ _; refine wpList_val rfl (op_load1S (b := n10) (T := 29) oneInt ((hS.bring (by repeat (first | exact t0 | apply tS)))) rfl rfl HTK.out) ?_; go_frame)
                | (show wpList _ _ _ (⟨some 70, .indexAddr _ _ _, _, _, _, _⟩ :: _) _ _; refine wpList_val rfl (op_indexArr arr2i rfl (b := n8) (off := 0) rfl (k := k) rfl hlt) ?_; simp only [Nat.zero_add]; go_frame)
                | (show wpList _ _ _ (⟨some 71, .load _ _, _, _, _, _⟩ :: _) _ _; refine wpList_val rfl (op_load1S (b := n8) (T := 29) oneInt ((hS.bring (by repeat (first | exact t0 | apply tS)))) rfl rfl HSK.out) ?_; go_frame)
                | (show wpList _ _ _ (⟨some 72, .binOp _ _ _ _ _, _, _, _, _⟩ :: _) _ _; refine wpList_val rfl (op_ineI rfl rfl rfl HTS.out) ?_; go_frame)
                | (refine fin_mk (by kernel_rfl) ?_)
                | (show wpList _ _ _ (⟨some 74, .indexAddr _ _ _, _, _, _, _⟩ :: _) _ _; refine wpList_val rfl (op_indexArr arr2i rfl (b := n10) (off := 0) rfl (k := k) rfl hlt) ?_; simp only [Nat.zero_add]; go_frame)
                | (show wpList _ _ _ (⟨some 75, .load _ _, _, _, _, _⟩ :: _) _ _; refine wpList_val rfl (op_load1S (b := n10) (T := 29) oneInt ((hS.bring (by repeat (first | exact t0 | apply tS)))) rfl rfl HTK.out) ?_; go_frame)
                | (show wpList _ _ _ (⟨some 76, .binOp _ _ _ _ _, _, _, _, _⟩ :: _) _ _; refine wpList_val rfl (op_eqI' rfl rfl rfl HBZ.out) ?_; go_frame)
                | (show wpList _ _ _ (⟨some 78, .load _ _, _, _, _, _⟩ :: _) _ _; refine wpList_val rfl (op_load1S (b := nb) (T := 38) oneInts ((hS.bring (by repeat (first | exact t0 | apply tS)))) rfl rfl rfl) ?_; go_frame)
                | (show wpList _ _ _ (⟨some 79, .call _, _, _, _, _⟩ :: _) _ _; refine wpList_val rfl (op_len slInt rfl rfl (v := ua) (xs := s.peers.map fun z => [I64 z]) rfl (hS.rd HUR.out)) ?_; rw [HBN.out]; go_frame)
                )
              go_roundw
              case rel => exact ⟨k + 1, by go_num, by omega, hS.sel (by repeat (first | exact Sel.refl | refine Sel.take (by repeat (first | exact t0 | apply tS)) ?_ | apply Sel.drop))⟩
              case measure => simp [intOf]; omega
          · go_wp2_with fail
            go_ret
            exact ⟨rfl, hS.chg⟩
end Go.Proofs.YtlplgobkidpgkaaDoor
