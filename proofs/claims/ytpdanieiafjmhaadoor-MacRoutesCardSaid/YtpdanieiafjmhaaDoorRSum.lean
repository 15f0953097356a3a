/- The document's sums: pieces joined, padded bytes taken block by block, twice, the check. Conditions: those that stand ahead of each theorem. -/
import Derived.Test.YtpdanieiafjmhaaDoorRBlk
namespace Go.Proofs.YtpdanieiafjmhaaDoor
open Go.RowKit Go.Px Go.Sha
theorem op_isubI {P : Program} {o : Oper} {w : World} {ρ : Operand → Value} {t t' : TypeId} {x y : Operand} (ho : o.op = .binOp .sub t x y t') {a b : Int} (hx : ρ x = .int .i64 a) (hy : ρ y = .int .i64 b) (z : Int) (hz : a - b = z) (h1 : -9223372036854775808 ≤ z) (h2 : z ≤ 9223372036854775807) : (execOp ρ o).run P w = .ok (.value (.int .i64 z)) w := by
  have e : IntKind.i64.wrap (a - b) = z := by rw [hz]; exact IntWalk.i64_in _ (by omega)
  unfold execOp
  simp only [ho, hx, hy, Sem.run_bind, run_eqGuard_int, Result.andThen_ok, binOp, ne_eq, not_true_eq_false, if_false, Op.intArith, Sem.run_pure, e]
theorem op_N64mul8 {P : Program} {o : Oper} {w : World} {ρ : Operand → Value} {t t' : TypeId} {x y : Operand} (ho : o.op = .binOp .mul t x y t') {n : Nat} (hx : ρ x = N64 n) (hy : ρ y = .int .u64 8) : (execOp ρ o).run P w = .ok (.value (W64 (bitsOf n))) w := by
  have h := run_bin64 (P := P) (op := .mul) rfl t (BitVec.ofNat 64 n) 8#64 w
  have e : BitVec.ofNat 64 n * 8#64 = bitsOf n := by
    unfold bitsOf
    apply BitVec.eq_of_toNat_eq
    rw [BitVec.toNat_mul, BitVec.toNat_shiftLeft, Nat.shiftLeft_eq]
    rfl
  unfold execOp
  have hy2 : ρ y = W64 8#64 := hy
  rw [show N64 n = W64 (BitVec.ofNat 64 n) from rfl] at hx
  simp only [ho, hx, hy2, Sem.run_bind, show W64 (BitVec.ofNat 64 n) = .int .u64 ((BitVec.ofNat 64 n).toNat : Int) from rfl, show W64 8#64 = .int .u64 ((8#64 : BitVec 64).toNat : Int) from rfl, run_eqGuard_int, Result.andThen_ok]
  have h' := h
  rw [show W64 (BitVec.ofNat 64 n) = .int .u64 ((BitVec.ofNat 64 n).toNat : Int) from rfl, show W64 8#64 = .int .u64 ((8#64 : BitVec 64).toNat : Int) from rfl] at h'
  rw [h']
  simp only [Result.andThen_ok, Sem.run_pure]
  rw [e]
theorem b1 (x : Byte) : [[B8 x]] = bytes [x] := rfl
theorem be8_take (n : Nat) {m : Nat} (h : m < 8) : (be8 (bitsOf n)).take m ++ [szAt n m] = (be8 (bitsOf n)).take (m + 1) := by
  have e : (be8 (bitsOf n))[m]? = some (szAt n m) := by
    rw [← sz_all, List.getElem?_map, List.getElem?_range h]
    rfl
  rw [List.take_add_one, e]
  rfl
theorem sz_shift (n : Nat) {m q s8 : Nat} (h : q + m = 7) (h8 : 8 * q = s8) : (bitsOf n >>> s8).setWidth 8 = szAt n m := by
  rw [← szAt_eq, show 56 - 8 * m = s8 by omega]
  rfl
section
variable {R : Nat → Prop} {base w : World} {F : List Hp}
set_option maxRecDepth 100000 in
theorem join_s (hS : SepL R base w F) {v : Value} {us : List Value} {ps : List (List Byte)} (hv : Pieces R base v us ps) (hb : ps.flatten.length ≤ 140737488355328) :
    Calls Tryd.prog 27 #[v] w (Ret fun r w' => SepL R base w' (.own 5 1 r (bytes ps.flatten) :: F)) := by
  have hsm := hv.small
  obtain ⟨n, hnn⟩ : ∃ n, us.length = n := ⟨_, rfl⟩
  go_enter Tryd.func27, Tryd.ntmps27
  go_wp2_with (first
    | (show wpList _ _ _ (⟨_, .call ⟨.builtin .len, _, _⟩, _, _, _, _⟩ :: _) _ _; refine wpList_val rfl (op_lenU slPieces rfl rfl rfl (hS.rd hv.rd) hnn) ?_; go_frame)
    )
  go_loopw [8, 3] (fun i u wr => ∃ k : Nat, i = .int .i64 k ∧ k ≤ n ∧ SepL R base wr (.own 5 1 u (bytes (ps.take k).flatten) :: F)) (fun i _ _ => n - (intOf i).toNat)
  case atStart => exact ⟨0, rfl, by omega, hS.nilOwn _ _⟩
  case round =>
    clear hS
    obtain ⟨k, rfl, hk, hS⟩ := hrel
    by_cases hlt : k < n
    · have hku : k < us.length := by omega
      have hkp : k < ps.length := by rw [← hv.len]; omega
      have HST : Hid ((ps.take k).flatten ++ ps[k] = (ps.take (k + 1)).flatten) := (sum_take_one hkp).symm
      have hle := sum_take_le ps (k + 1)
      rw [← HST.out, List.length_append] at hle
      have hp := hv.at_ k hku hkp
      generalize (ps.take k).flatten = A at *
      generalize ps[k] = pk at *
      go_wp2_with (first
        | (show wpList _ _ _ (⟨_, .indexAddr _ _ _, _, _, _, _⟩ :: _) _ _; refine wpList_val rfl (op_indexAddr slPieces rfl (v := v) rfl rfl (hS.rd hv.rd) (by rw [List.length_map]; exact hku)) ?_; go_frame)
        | (show wpList _ _ _ (⟨_, .load _ _, _, _, _, _⟩ :: _) _ _; refine wpList_val rfl (op_loadE1 oneBytes rfl (v := v) (k := k) rfl (f := fun u => u) (hS.rd hv.rd) hku) ?_; go_frame)
        | (show wpList _ _ _ (⟨_, .call ⟨.builtin .append, _, _⟩, _, _, _, _⟩ :: _) _ _; (refine wpS_append slBytes (hS.bring (by repeat (first | exact t0 | apply tS))) rfl rfl rfl rfl (hS.rd hp) (flat_bytes _) (by rw [bytes_len, bytes_len]; omega) (by rw [bytes_len, bytes_len]; simp only [maxLen]; omega) ?_); clear hS; intro v5 w hS; rw [← bytes_app, HST.out] at hS; go_frame)
        )
      go_roundw
      case rel => exact ⟨k + 1, by go_num, by omega, hS⟩
      case measure => simp [intOf]; omega
    · have hk2 : k = n := by omega
      subst hk2
      have e : ps.take us.length = ps := by rw [hv.len, List.take_length]
      rw [← hnn, e] at hS
      go_wp2_with fail
      go_ret
      exact hS
set_option maxRecDepth 100000 in
set_option maxHeartbeats 4000000 in
theorem rsum_s (hS : SepL R base w F) {v : Value} {bs : List Byte} (hv : RdIn R base 1 v (bytes bs)) (hn0 : bs.length ≤ 1099511627776) :
    Calls Tryd.prog 28 #[v] w (Ret fun r w' => r = HV (sum bs) ∧ SepL R base w' F) := by
  obtain ⟨n, hn⟩ : ∃ n, bs.length = n := ⟨_, rfl⟩
  have HN := hide hn
  rw [hn] at hn0
  have HFB : Hid (Flat (bytes bs)) := flat_bytes bs
  obtain ⟨bb, hbb⟩ : ∃ b, bitsOf n = b := ⟨_, rfl⟩
  have HBB := hide hbb
  clear hbb
  go_enter Tryd.func28, Tryd.ntmps28
  go_wp2_with (first
    | (show wpList _ _ _ (⟨some 2, .alloc _, _, _, _, _⟩ :: _) _ _; refine wpS_alloc hS rfl rfl zero32b (zs := (List.replicate 32 (0 : Byte)).map B8) rfl ?_; clear hS; intro n2 w hS; go_frame)
    | (show wpList _ _ _ (⟨some 13, .call _, _, _, _, _⟩ :: _) _ _; refine wpList_val rfl (op_lenB slBytes rfl rfl rfl (hS.rd hv) HN.out) ?_; go_frame)
    | (show wpList _ _ _ (⟨some 14, .convert _ _ _, _, _, _, _⟩ :: _) _ _; refine wpList_val rfl (op_natN64 undInt undU64 rfl rfl) ?_; go_frame)
    | (show wpList _ _ _ (⟨some 15, .binOp _ _ _ _ _, _, _, _, _⟩ :: _) _ _; refine wpList_val rfl (op_N64mul8 rfl rfl rfl) ?_; rw [HBB.out]; go_frame)
    | (show wpList _ _ _ (⟨some 16, .buildSlice _ 0 _, _, _, _, _⟩ :: _) _ _; refine wpS_build0 slBytes hS rfl rfl ?_; clear hS; intro v16 w hS; go_frame)
    | (show wpList _ _ _ (⟨some 18, .call _, _, _, _, _⟩ :: _) _ _; (refine wpS_append slBytes (hS.bring (by repeat (first | exact t0 | apply tS))) rfl rfl rfl rfl (hS.rd hv) HFB.out (by rw [bytes_len, HN.out, List.length_nil]; omega) (by rw [bytes_len, HN.out, List.length_nil]; simp only [maxLen]; omega) ?_); clear hS; intro v18 w hS; rw [List.nil_append] at hS; go_frame)
    | (show wpList _ _ _ (⟨some 19, .buildSlice _ 1 _, _, _, _, _⟩ :: _) _ _; refine wpS_build11 slBytes hS rfl rfl rfl rfl ?_; clear hS; intro v19 w hS; rw [b80] at hS; go_frame)
    | (show wpList _ _ _ (⟨some 20, .call _, _, _, _, _⟩ :: _) _ _; (refine wpS_append slBytes (hS.bring (by repeat (first | exact t0 | apply tS))) rfl rfl rfl rfl ((hS.bring (by repeat (first | exact t0 | apply tS))).getOwn.rd) (flat_bytes _) (by rw [bytes_len, bytes_len, HN.out]; simp only [List.length_cons, List.length_nil]; omega) (by rw [bytes_len, bytes_len, HN.out]; simp only [List.length_cons, List.length_nil, maxLen]; omega) ?_); clear hS; intro v20 w hS; rw [← bytes_app, padTo_zero] at hS; go_frame)
    )
  have hl64 : lack (n + 1) < 64 := by unfold lack; omega
  go_loopw [4] (fun u wr => ∃ j : Nat, j ≤ lack (n + 1) ∧ SepL R base wr (.own 5 1 u (bytes (padTo bs j)) :: .blk n2 34 ((List.replicate 32 (0 : Byte)).map B8) :: F)) (fun u _ => lack (slLen u))
  case atStart => exact ⟨0, by omega, hS.sel (by repeat (first | exact Sel.refl | refine Sel.take (by repeat (first | exact t0 | apply tS)) ?_ | apply Sel.drop))⟩
  case round =>
    clear hS
    obtain ⟨j, hj, hS⟩ := hrel
    obtain ⟨L, hL⟩ : ∃ L, n + 1 + j = L := ⟨_, rfl⟩
    obtain ⟨r, hr⟩ : ∃ r, L % 64 = r := ⟨_, rfl⟩
    have HR := hide hr
    have HL : Hid ((padTo bs j).length = L) := by
      unfold Hid
      rw [padTo_len, hn, hL]
    have HPS := hide (padTo_succ bs j)
    have HSL : Hid (slLen u4 = L) := by
      unfold Hid
      obtain ⟨A, c, e, _⟩ := hS.getOwn.rd.form
      rw [e]
      show (bytes (padTo bs j)).length = _
      rw [bytes_len, HL.out]
    have hlk : lack (n + 1) = (120 - (n + 1) % 64) % 64 := rfl
    by_cases hc56 : r = 56
    · subst hc56
      have hjj : j = lack (n + 1) := by omega
      have HPA : padTo bs j ++ be8 bb = padded bs := by
        rw [hjj, ← hn, ← HBB.out, ← hn]
        exact padTo_all bs
      have HTK : ∀ {m q s8 : Nat}, q + m = 7 → 8 * q = s8 → (padTo bs j ++ (be8 bb).take m) ++ [(bb >>> s8).setWidth 8] = padTo bs j ++ (be8 bb).take (m + 1) := fun {m q s8} h1 h2 => by
        rw [← HBB.out, sz_shift n h1 h2, List.append_assoc, be8_take n (by omega)]
      have hb8 : (be8 bb).length = 8 := be8_length bb
      obtain ⟨q, hq⟩ : ∃ q, (padded bs).length = 64 * q := ⟨(padded bs).length / 64, by have := padded_length bs; omega⟩
      have hsum := sum_blocks bs
      rw [hq, Nat.mul_div_cancel_left q (by omega)] at hsum
      have hM : (padded bs).length = L + 8 := by rw [padded_len2, hn]; omega
      have hP0 := HL.out
      clear hlk hr HPS HSL hjj HBB
      generalize padded bs = PD at *
      generalize padTo bs j = P0 at *
      go_wp2_with (first
        | (show wpList _ _ _ (⟨some 22, .call _, _, _, _, _⟩ :: _) _ _; refine wpList_val rfl (op_lenB slBytes rfl rfl rfl ((hS.bring (by repeat (first | exact t0 | apply tS))).getOwn.rd) HL.out) ?_; go_frame)
        | (show wpList _ _ _ (⟨some 23, .binOp .rem _ _ _ _, _, _, _, _⟩ :: _) _ _; refine wpList_val rfl (op_iremN rfl rfl (b := 64) rfl (by omega)) ?_; rw [HR.out]; go_frame)
        )
      have HS0 : SepL R base wr (.own 5 1 u4 (bytes (P0 ++ (be8 bb).take 0)) :: .blk n2 34 ((List.replicate 32 (0 : Byte)).map B8) :: F) := by
        rw [List.take_zero, List.append_nil]
        exact hS
      clear hS
      go_loopw [5, 4] (fun i u wr => ∃ (m : Nat) (z : Int), i = .int .i64 z ∧ z = 7 - (m : Int) ∧ m ≤ 8 ∧ SepL R base wr (.own 5 1 u (bytes (P0 ++ (be8 bb).take m)) :: .blk n2 34 ((List.replicate 32 (0 : Byte)).map B8) :: F)) (fun i _ _ => (intOf i + 1).toNat)
      case atStart => exact ⟨0, 7, rfl, rfl, by omega, HS0⟩
      case round =>
        clear HS0
        obtain ⟨m, z, rfl, hz, hm, hS⟩ := hrel
        by_cases hlm : m < 8
        · obtain ⟨qq, hqq⟩ : ∃ q : Nat, q + m = 7 := ⟨7 - m, by omega⟩
          have hzq : z = (qq : Int) := by omega
          subst hzq
          obtain ⟨s8, hs8⟩ : ∃ s, 8 * qq = s := ⟨_, rfl⟩
          have HTT := hide (HTK hqq hs8)
          have HGE : Hid (decide ((0 : Int) ≤ (qq : Int)) = true) := by
            unfold Hid
            rw [decide_eq_true_iff]
            omega
          have HTL : Hid ((P0 ++ (be8 bb).take m).length = L + m) := by
            unfold Hid
            rw [List.length_append, hP0, List.length_take, hb8]
            omega
          obtain ⟨z', hz'⟩ : ∃ z : Int, (qq : Int) - 1 = z := ⟨_, rfl⟩
          clear hz HTK
          go_wp2_with (first
            | (show wpList _ _ _ (⟨some 29, .binOp _ _ _ _ _, _, _, _, _⟩ :: _) _ _; refine wpList_val rfl (op_igeq rfl rfl rfl HGE.out) ?_; go_frame)
            | (show wpList _ _ _ (⟨some 35, .binOp _ _ _ _ _, _, _, _, _⟩ :: _) _ _; refine wpList_val rfl (op_imulN rfl rfl rfl s8 (by omega) (by omega)) ?_; go_frame)
            | (show wpList _ _ _ (⟨some 36, .convert _ _ _, _, _, _, _⟩ :: _) _ _; refine wpList_val rfl (op_i64u64 undInt undUint rfl rfl (by omega)) ?_; go_frame)
            | (show wpList _ _ _ (⟨some 37, .binOp _ _ _ _ _, _, _, _, _⟩ :: _) _ _; refine wpList_val rfl (op_shr64 rfl rfl (c := s8) rfl) ?_; go_frame)
            | (show wpList _ _ _ (⟨some 38, .convert _ _ _, _, _, _, _⟩ :: _) _ _; refine wpList_val rfl (op_64to8 undU64 undU8 rfl rfl) ?_; go_frame)
            | (show wpList _ _ _ (⟨some 39, .buildSlice _ _ _, _, _, _, _⟩ :: _) _ _; refine wpS_build11 slBytes hS rfl rfl rfl rfl ?_; clear hS; intro v39 w hS; rw [b1] at hS; go_frame)
            | (show wpList _ _ _ (⟨some 40, .call _, _, _, _, _⟩ :: _) _ _; (refine wpS_append slBytes (hS.bring (by repeat (first | exact t0 | apply tS))) rfl rfl rfl rfl ((hS.bring (by repeat (first | exact t0 | apply tS))).getOwn.rd) (flat_bytes _) (by rw [bytes_len, bytes_len, HTL.out]; simp only [List.length_cons, List.length_nil]; omega) (by rw [bytes_len, bytes_len, HTL.out]; simp only [List.length_cons, List.length_nil, maxLen]; omega) ?_); clear hS; intro v40 w hS; rw [← bytes_app, HTT.out] at hS; go_frame)
            | (show wpList _ _ _ (⟨some 31, .binOp _ _ _ _ _, _, _, _, _⟩ :: _) _ _; refine wpList_val rfl (op_isubI rfl rfl rfl z' (by omega) (by omega) (by omega)) ?_; go_frame)
            )
          go_roundw
          case rel => exact ⟨m + 1, z', rfl, by omega, by omega, hS.sel (by repeat (first | exact Sel.refl | refine Sel.take (by repeat (first | exact t0 | apply tS)) ?_ | apply Sel.drop))⟩
          case measure => simp [intOf]; omega
        · have hm8 : m = 8 := by omega
          subst hm8
          have hz1 : z = -1 := by omega
          subst hz1
          rw [List.take_of_length_le (by omega), HPA] at hS
          have HM1 : Hid (decide ((0 : Int) ≤ -1) = false) := rfl
          clear HPA HTK hz
          go_wp2_with (first
            | (show wpList _ _ _ (⟨some 29, .binOp _ _ _ _ _, _, _, _, _⟩ :: _) _ _; refine wpList_val rfl (op_igeq rfl rfl rfl HM1.out) ?_; go_frame)
            | (go_at_call 24; refine Ret.calls (rfirst_s hS) ?_; clear hS; rintro r w ⟨rfl, hS⟩)
            | (show wpList _ _ _ (⟨_, .alloc 23, _, _, _, _⟩ :: _) _ _; refine wpS_alloc hS rfl rfl zero8w (zs := (List.replicate 8 (0 : Word)).map W32) rfl ?_; clear hS; intro n6 w hS; go_frame)
            | (show wpList _ _ _ (⟨_, .store 23 _ _, _, _, _, _⟩ :: _) _ _; (refine wpS_storeAll agg8w (hS.bring (by repeat (first | exact t0 | apply tS))) rfl rfl rfl (vs := firstSt.list.map W32) rfl rfl (oneW _) rfl ?_); clear hS; intro w hS; go_frame)
            )
          obtain ⟨M, hMM⟩ : ∃ M, PD.length = M := ⟨_, rfl⟩
          have HPL := hide hMM
          have hMq : M = 64 * q := by omega
          have hMs : M ≤ 1099511628776 := by omega
          clear HL hM hP0 hb8 HM1
          go_loopw [7] (fun i wr => ∃ k i0 : Nat, i = .int .i64 i0 ∧ i0 = 64 * k ∧ k ≤ q ∧ SepL R base wr (.blk n6 23 ((blocks firstSt PD k).list.map W32) :: .own 5 1 u4 (bytes PD) :: .blk n2 34 ((List.replicate 32 (0 : Byte)).map B8) :: F)) (fun i _ => M - (intOf i).toNat)
          case atStart => exact ⟨0, 0, rfl, rfl, by omega, hS.sel (by repeat (first | exact Sel.refl | refine Sel.take (by repeat (first | exact t0 | apply tS)) ?_ | apply Sel.drop))⟩
          case round =>
            clear hS
            obtain ⟨k, i0, rfl, hi0, hk, hS⟩ := hrel
            by_cases hlt : i0 < M
            · obtain ⟨ch, hch⟩ : ∃ c, (PD.drop i0).take 64 = c := ⟨_, rfl⟩
              have hcl : ch.length = 64 := by
                rw [← hch, List.length_take, List.length_drop]
                omega
              obtain ⟨e0, he0⟩ : ∃ e, i0 + 64 = e := ⟨_, rfl⟩
              have HCH : Hid ((PD.drop i0).take (e0 - i0) = ch) := by
                unfold Hid
                rw [← hch, ← he0, Nat.add_sub_cancel_left]
              have HBS : Hid (compress (blocks firstSt PD k) ch = blocks firstSt PD (k + 1)) := by
                unfold Hid
                rw [← hch, hi0]
                rfl
              generalize blocks firstSt PD k = st at *
              have HCL := hide hcl
              have HC64 : Hid ((ch.map B8).length = 64) := by
                unfold Hid
                rw [List.length_map, hcl]
              have HZ64 : Hid (((List.replicate 64 (0 : Byte)).map B8).length = 64) := rfl
              clear hch hcl
              go_wp2_with (first
                | (show wpList _ _ _ (⟨some 44, .call _, _, _, _, _⟩ :: _) _ _; refine wpList_val rfl (op_lenB slBytes rfl rfl rfl ((hS.bring (by repeat (first | exact t0 | apply tS))).getOwn.rd) HPL.out) ?_; go_frame)
                | (show wpList _ _ _ (⟨_, .alloc 24, _, _, _, _⟩ :: _) _ _; refine wpS_alloc hS rfl rfl zero64b (zs := (List.replicate 64 (0 : Byte)).map B8) rfl ?_; clear hS; intro n7 w hS; go_frame)
                )
              refine wp_region_text (by kernel_rfl) (by kernel_rfl) (by repeat (first | exact Clean.body | refine Clean.then ?_ | refine Clean.inBlock ?_)) ?_
              replace hS := hS.drew
              go_wp2_with (first
                | (show wpList _ _ _ (⟨some 48, .slice _ _ _ _ _, _, _, _, _⟩ :: _) _ _; refine wpList_val rfl (op_sliceArr arr64b rfl rfl (l := 0) (h := 64) (Or.inl ⟨rfl, rfl⟩) (Or.inl ⟨rfl, rfl⟩) (by omega) (by omega)) ?_; rw [if_neg (by omega)]; go_frame)
                | (show wpList _ _ _ (⟨some 52, .binOp _ _ _ _ _, _, _, _, _⟩ :: _) _ _; refine wpList_val rfl (op_iaddN rfl rfl rfl e0 (by omega) (by omega)) ?_; go_frame)
                | (show wpList _ _ _ (⟨some 53, .slice _ _ _ _ _, _, _, _, _⟩ :: _) _ _; refine wpList_val rfl (op_cut slBytes rfl rfl ((hS.bring (by repeat (first | exact t0 | apply tS))).getOwn.rd) (l := i0) (h := e0) (Or.inr rfl) (Or.inr rfl) (by omega) (by rw [bytes_len, HPL.out]; omega)) ?_; go_frame)
                | (show wpList _ _ _ (⟨some 54, .call _, _, _, _, _⟩ :: _) _ _; (refine wpS_copyArr undBytes sizeU8 (hS.bring (by repeat (first | exact t0 | apply tS))) rfl rfl rfl rfl (cut_rd ((hS.bring (by repeat (first | exact t0 | apply tS))).getOwn.rd) (by omega) (by rw [HPL.out]; omega) HCH.out) (oneB _) (by rw [HZ64.out]; omega) ?_); clear hS; intro w k' hk' hS; rw [copied64 HC64.out HZ64.out hk'] at hS; clear hk'; go_frame)
                )
              refine fin_mk (by kernel_rfl) ?_
              go_wp2_with (first
                | (show wpList _ _ _ (⟨_, .load 23 _, _, _, _, _⟩ :: _) _ _; refine wpList_val rfl (op_load agg8w rfl rfl ((hS.bring (by repeat (first | exact t0 | apply tS))).getBlk.cells) rfl) ?_; go_frame)
                | (show wpList _ _ _ (⟨_, .load 24 _, _, _, _, _⟩ :: _) _ _; refine wpList_val rfl (op_load agg64b rfl rfl ((hS.bring (by repeat (first | exact t0 | apply tS))).getBlk.cells) HC64.out) ?_; go_frame)
                | (go_at_call 19; refine Ret.calls (rblock_s hS st ch HCL.out) ?_; clear hS; rintro r w ⟨rfl, hS⟩; rw [HBS.out])
                | (show wpList _ _ _ (⟨_, .store 23 _ _, _, _, _, _⟩ :: _) _ _; (refine wpS_storeAll agg8w (hS.bring (by repeat (first | exact t0 | apply tS))) rfl rfl rfl (vs := (blocks firstSt PD (k + 1)).list.map W32) rfl rfl (oneW _) rfl ?_); clear hS; intro w hS; go_frame)
                | (show wpList _ _ _ (⟨some 47, .binOp _ _ _ _ _, _, _, _, _⟩ :: _) _ _; refine wpList_val rfl (op_iaddN rfl rfl rfl e0 (by omega) (by omega)) ?_; go_frame)
                )
              go_roundw
              case rel => exact ⟨k + 1, e0, rfl, by omega, by omega, hS.sel (by repeat (first | exact Sel.refl | refine Sel.take (by repeat (first | exact t0 | apply tS)) ?_ | apply Sel.drop))⟩
              case measure => simp [intOf]; omega
            · have hkq : k = q := by omega
              subst hkq
              obtain ⟨st, hst⟩ : ∃ s, blocks firstSt PD k = s := ⟨_, rfl⟩
              rw [hst] at hS hsum
              have HSUM := hide hsum
              clear hst hsum
              go_wp2_with (first
                | (show wpList _ _ _ (⟨some 44, .call _, _, _, _, _⟩ :: _) _ _; refine wpList_val rfl (op_lenB slBytes rfl rfl rfl ((hS.bring (by repeat (first | exact t0 | apply tS))).getOwn.rd) HPL.out) ?_; go_frame)
                | (show wpList _ _ _ (⟨some 9, .alloc _, _, _, _, _⟩ :: _) _ _; refine wpS_alloc hS rfl rfl zero32b (zs := (List.replicate 32 (0 : Byte)).map B8) rfl ?_; clear hS; intro n9 w hS; go_frame)
                | (show wpList _ _ _ (⟨_, .load 23 _, _, _, _, _⟩ :: _) _ _; refine wpList_val rfl (op_load agg8w rfl rfl ((hS.bring (by repeat (first | exact t0 | apply tS))).getBlk.cells) rfl) ?_; go_frame)
                )
              have HS0 : SepL R base w (.blk n9 34 ((fillTo (dgAt st) 32 (4 * 0)).map B8) :: .blk n2 34 ((List.replicate 32 (0 : Byte)).map B8) :: F) := by
                rw [Nat.mul_zero, fillTo_zero]
                exact hS.sel (by repeat (first | exact Sel.refl | refine Sel.take (by repeat (first | exact t0 | apply tS)) ?_ | apply Sel.drop))
              clear hS
              go_loopw [59] (fun i wr => ∃ m : Nat, i = .int .i64 m ∧ m ≤ 8 ∧ SepL R base wr (.blk n9 34 ((fillTo (dgAt st) 32 (4 * m)).map B8) :: .blk n2 34 ((List.replicate 32 (0 : Byte)).map B8) :: F)) (fun i _ => 8 - (intOf i).toNat)
              case atStart => exact ⟨0, rfl, by omega, HS0⟩
              case round =>
                clear HS0
                obtain ⟨m, rfl, hm, hS⟩ := hrel
                by_cases hlm : m < 8
                · have hks : m < st.list.length := by rw [st_list_len]; exact hlm
                  obtain ⟨c0, hc0⟩ : ∃ c, 4 * m = c := ⟨_, rfl⟩
                  obtain ⟨c1, hc1⟩ : ∃ c, c0 + 1 = c := ⟨_, rfl⟩
                  obtain ⟨c2, hc2⟩ : ∃ c, c0 + 2 = c := ⟨_, rfl⟩
                  obtain ⟨c3, hc3⟩ : ∃ c, c0 + 3 = c := ⟨_, rfl⟩
                  have hd0 := dgAt_at st (m := 0) (k := m) (by omega) hks
                  have hd1 := dgAt_at st (m := 1) (k := m) (by omega) hks
                  have hd2 := dgAt_at st (m := 2) (k := m) (by omega) hks
                  have hd3 := dgAt_at st (m := 3) (k := m) (by omega) hks
                  rw [Nat.add_zero, hc0] at hd0
                  rw [hc0, hc1] at hd1
                  rw [hc0, hc2] at hd2
                  rw [hc0, hc3] at hd3
                  have HD0 : Hid ((st.list[m] >>> 24).setWidth 8 = dgAt st c0) := hd0.symm
                  have HD1 : Hid ((st.list[m] >>> 16).setWidth 8 = dgAt st c1) := hd1.symm
                  have HD2 : Hid ((st.list[m] >>> 8).setWidth 8 = dgAt st c2) := hd2.symm
                  have HD3 : Hid ((st.list[m]).setWidth 8 = dgAt st c3) := by
                    unfold Hid
                    rw [hd3]
                    congr 1
                  have HF0 : Hid ((fillTo (dgAt st) 32 c0).set c0 (dgAt st c0) = fillTo (dgAt st) 32 c1) := by
                    unfold Hid
                    rw [fillTo_set, hc1]
                  have HF1 : Hid ((fillTo (dgAt st) 32 c1).set c1 (dgAt st c1) = fillTo (dgAt st) 32 c2) := by
                    unfold Hid
                    rw [fillTo_set, ← hc2, ← hc1]
                  have HF2 : Hid ((fillTo (dgAt st) 32 c2).set c2 (dgAt st c2) = fillTo (dgAt st) 32 c3) := by
                    unfold Hid
                    rw [fillTo_set, ← hc3, ← hc2]
                  have HF3 : Hid ((fillTo (dgAt st) 32 c3).set c3 (dgAt st c3) = fillTo (dgAt st) 32 (4 * (m + 1))) := by
                    unfold Hid
                    rw [fillTo_set, ← hc3, ← hc0]
                    rfl
                  rw [hc0] at hS
                  clear hd0 hd1 hd2 hd3
                  go_wp2_with (first
                    | (show wpList _ _ _ (⟨some 62, .index _ _ _, _, _, _, _⟩ :: _) _ _; refine wpList_val rfl (op_indexV arr8w rfl (f := W32) (us := st.list) rfl (st_list_len _) rfl hks) ?_; go_frame)
                    | (show wpList _ _ _ (⟨_, .binOp .mul _ _ _ _, _, _, _, _⟩ :: _) _ _; refine wpList_val rfl (op_imulN rfl rfl rfl c0 (by omega) (by omega)) ?_; go_frame)
                    | (show wpList _ _ _ (⟨some 67, .binOp _ _ _ _ _, _, _, _, _⟩ :: _) _ _; refine wpList_val rfl (op_iaddN rfl rfl rfl c1 (by omega) (by omega)) ?_; go_frame)
                    | (show wpList _ _ _ (⟨some 70, .binOp _ _ _ _ _, _, _, _, _⟩ :: _) _ _; refine wpList_val rfl (op_iaddN rfl rfl rfl c2 (by omega) (by omega)) ?_; go_frame)
                    | (show wpList _ _ _ (⟨some 73, .binOp _ _ _ _ _, _, _, _, _⟩ :: _) _ _; refine wpList_val rfl (op_iaddN rfl rfl rfl c3 (by omega) (by omega)) ?_; go_frame)
                    | (show wpList _ _ _ (⟨some 75, .binOp _ _ _ _ _, _, _, _, _⟩ :: _) _ _; refine wpList_val rfl (op_shr32 rfl rfl (c := 24) rfl) ?_; go_frame)
                    | (show wpList _ _ _ (⟨some 78, .binOp _ _ _ _ _, _, _, _, _⟩ :: _) _ _; refine wpList_val rfl (op_shr32 rfl rfl (c := 16) rfl) ?_; go_frame)
                    | (show wpList _ _ _ (⟨some 81, .binOp _ _ _ _ _, _, _, _, _⟩ :: _) _ _; refine wpList_val rfl (op_shr32 rfl rfl (c := 8) rfl) ?_; go_frame)
                    | (show wpList _ _ _ (⟨some 76, .convert _ _ _, _, _, _, _⟩ :: _) _ _; refine wpList_val rfl (op_32to8 undU32 undU8 rfl rfl) ?_; rw [HD0.out]; go_frame)
                    | (show wpList _ _ _ (⟨some 79, .convert _ _ _, _, _, _, _⟩ :: _) _ _; refine wpList_val rfl (op_32to8 undU32 undU8 rfl rfl) ?_; rw [HD1.out]; go_frame)
                    | (show wpList _ _ _ (⟨some 82, .convert _ _ _, _, _, _, _⟩ :: _) _ _; refine wpList_val rfl (op_32to8 undU32 undU8 rfl rfl) ?_; rw [HD2.out]; go_frame)
                    | (show wpList _ _ _ (⟨some 84, .convert _ _ _, _, _, _, _⟩ :: _) _ _; refine wpList_val rfl (op_32to8 undU32 undU8 rfl rfl) ?_; rw [HD3.out]; go_frame)
                    | (show wpList _ _ _ (⟨some 85, .indexAddr _ _ _, _, _, _, _⟩ :: _) _ _; refine wpList_val rfl (op_indexArr arr32b rfl rfl (k := c0) rfl (by omega)) ?_; rw [Nat.zero_add]; go_frame)
                    | (show wpList _ _ _ (⟨some 86, .indexAddr _ _ _, _, _, _, _⟩ :: _) _ _; refine wpList_val rfl (op_indexArr arr32b rfl rfl (k := c1) rfl (by omega)) ?_; rw [Nat.zero_add]; go_frame)
                    | (show wpList _ _ _ (⟨some 87, .indexAddr _ _ _, _, _, _, _⟩ :: _) _ _; refine wpList_val rfl (op_indexArr arr32b rfl rfl (k := c2) rfl (by omega)) ?_; rw [Nat.zero_add]; go_frame)
                    | (show wpList _ _ _ (⟨some 88, .indexAddr _ _ _, _, _, _, _⟩ :: _) _ _; refine wpList_val rfl (op_indexArr arr32b rfl rfl (k := c3) rfl (by omega)) ?_; rw [Nat.zero_add]; go_frame)
                    | (show wpList _ _ _ (⟨_, .store _ (.tmp 85) _, _, _, _, _⟩ :: _) _ _; (refine wpS_storeF (f := B8) (us := fillTo (dgAt st) 32 c0) sizeU8 (hS.bring (by repeat (first | exact t0 | apply tS))) rfl rfl rfl (v := dgAt st c0) rfl rfl rfl (by rw [fillTo_length]; omega) ?_); clear hS; intro w hS; rw [HF0.out] at hS; go_frame)
                    | (show wpList _ _ _ (⟨_, .store _ (.tmp 86) _, _, _, _, _⟩ :: _) _ _; (refine wpS_storeF (f := B8) (us := fillTo (dgAt st) 32 c1) sizeU8 (hS.bring (by repeat (first | exact t0 | apply tS))) rfl rfl rfl (v := dgAt st c1) rfl rfl rfl (by rw [fillTo_length]; omega) ?_); clear hS; intro w hS; rw [HF1.out] at hS; go_frame)
                    | (show wpList _ _ _ (⟨_, .store _ (.tmp 87) _, _, _, _, _⟩ :: _) _ _; (refine wpS_storeF (f := B8) (us := fillTo (dgAt st) 32 c2) sizeU8 (hS.bring (by repeat (first | exact t0 | apply tS))) rfl rfl rfl (v := dgAt st c2) rfl rfl rfl (by rw [fillTo_length]; omega) ?_); clear hS; intro w hS; rw [HF2.out] at hS; go_frame)
                    | (show wpList _ _ _ (⟨_, .store _ (.tmp 88) _, _, _, _, _⟩ :: _) _ _; (refine wpS_storeF (f := B8) (us := fillTo (dgAt st) 32 c3) sizeU8 (hS.bring (by repeat (first | exact t0 | apply tS))) rfl rfl rfl (v := dgAt st c3) rfl rfl rfl (by rw [fillTo_length]; omega) ?_); clear hS; intro w hS; rw [HF3.out] at hS; go_frame)
                    )
                  go_roundw
                  case rel => exact ⟨m + 1, by go_num, by omega, hS.sel (by repeat (first | exact Sel.refl | refine Sel.take (by repeat (first | exact t0 | apply tS)) ?_ | apply Sel.drop))⟩
                  case measure => simp [intOf]; omega
                · have hm2 : m = 8 := by omega
                  subst hm2
                  rw [show 4 * 8 = 32 from rfl, fillTo_all, dg_all, ← HSUM.out] at hS
                  have HSL : Hid (((sum bs).map B8).length = 32) := by
                    unfold Hid
                    rw [List.length_map, sum_len]
                  go_wp2_with (first
                    | (show wpList _ _ _ (⟨_, .load 34 _, _, _, _, _⟩ :: _) _ _; refine wpList_val rfl (op_load agg32b rfl rfl ((hS.bring (by repeat (first | exact t0 | apply tS))).getBlk.cells) HSL.out) ?_; go_frame)
                    | (show wpList _ _ _ (⟨_, .store 34 _ _, _, _, _, _⟩ :: _) _ _; (refine wpS_storeAll agg32b (hS.bring (by repeat (first | exact t0 | apply tS))) rfl rfl rfl (vs := (sum bs).map B8) rfl HSL.out (B8_one _) (by rw [List.length_map, List.length_replicate]) ?_); clear hS; intro w hS; go_frame)
                    )
                  exact ret_cell (b := n2) agg32b rfl rfl rfl ((hS.bring (by repeat (first | exact t0 | apply tS))).getBlk) HSL.out ⟨rfl, hS.sel (by repeat (first | exact Sel.refl | refine Sel.take (by repeat (first | exact t0 | apply tS)) ?_ | apply Sel.drop))⟩
    · have HC : Hid (((r : Int) != 56) = true) := by
        unfold Hid
        rw [bne_iff_ne]
        omega
      have hjj : j < lack (n + 1) := by omega
      have hln : lack (slLen u4) = lack (n + 1) - j := by
        rw [HSL.out]
        unfold lack at *
        omega
      have HLN := hide hln
      clear hlk hr hln
      go_wp2_with (first
        | (show wpList _ _ _ (⟨some 22, .call _, _, _, _, _⟩ :: _) _ _; refine wpList_val rfl (op_lenB slBytes rfl rfl rfl ((hS.bring (by repeat (first | exact t0 | apply tS))).getOwn.rd) HL.out) ?_; go_frame)
        | (show wpList _ _ _ (⟨some 23, .binOp .rem _ _ _ _, _, _, _, _⟩ :: _) _ _; refine wpList_val rfl (op_iremN rfl rfl (b := 64) rfl (by omega)) ?_; rw [HR.out]; go_frame)
        | (show wpList _ _ _ (⟨some 24, .binOp _ _ _ _ _, _, _, _, _⟩ :: _) _ _; refine wpList_val rfl (op_ineI rfl rfl rfl HC.out) ?_; go_frame)
        | (show wpList _ _ _ (⟨some 26, .buildSlice _ _ _, _, _, _, _⟩ :: _) _ _; refine wpS_build11 slBytes hS rfl rfl rfl rfl ?_; clear hS; intro v26 w hS; rw [b00] at hS; go_frame)
        | (show wpList _ _ _ (⟨some 27, .call _, _, _, _, _⟩ :: _) _ _; (refine wpS_append slBytes (hS.bring (by repeat (first | exact t0 | apply tS))) rfl rfl rfl rfl ((hS.bring (by repeat (first | exact t0 | apply tS))).getOwn.rd) (flat_bytes _) (by rw [bytes_len, bytes_len, HL.out]; simp only [List.length_cons, List.length_nil]; omega) (by rw [bytes_len, bytes_len, HL.out]; simp only [List.length_cons, List.length_nil, maxLen]; omega) ?_); clear hS; intro v27 w hS; rw [← bytes_app, HPS.out] at hS; go_frame)
        )
      have HS2 : Hid (slLen v27 = L + 1) := by
        unfold Hid
        obtain ⟨A, c, e, _⟩ := hS.getOwn.rd.form
        rw [e]
        show (bytes (padTo bs (j + 1))).length = _
        rw [bytes_len, padTo_len, hn]
        omega
      go_roundw
      case rel => exact ⟨j + 1, by omega, hS.sel (by repeat (first | exact Sel.refl | refine Sel.take (by repeat (first | exact t0 | apply tS)) ?_ | apply Sel.drop))⟩
      case measure =>
        rw [HLN.out, HS2.out]
        unfold lack at *
        omega
/-- bytes in an array of one's own -/
theorem rsum_blk {T b m : Nat} {bs : List Byte} (hS : SepL R base w (.blk b T (bs.map B8) :: F)) (hm : bs.length = m) (hm2 : m ≤ 1000) :
    Calls Tryd.prog 28 #[.slice (some ⟨b, 0, none⟩) m m] w (Ret fun r w' => r = HV (sum bs) ∧ SepL R base w' (.blk b T (bs.map B8) :: F)) := by
  obtain ⟨R', h1, h2, h2', h3, h4⟩ := hS.freezeBlk
  have hc : CIn R' w b (bs.map B8) := ⟨h2.cells, h2'⟩
  have hr := CIn.asRd hc (by rw [List.length_map]; simp [maxLen]; omega)
  rw [List.length_map, hm] at hr
  refine Ret.calls (rsum_s h1 hr (by omega)) ?_
  rintro r w' ⟨h5, h6⟩
  exact ⟨h5, h4 w' _ h6⟩
theorem rsum_own {T : Nat} {v : Value} {bs : List Byte} (hS : SepL R base w (.own T 1 v (bytes bs) :: F)) (hn : bs.length ≤ 1099511627776) :
    Calls Tryd.prog 28 #[v] w (Ret fun r w' => r = HV (sum bs) ∧ SepL R base w' (.own T 1 v (bytes bs) :: F)) := by
  obtain ⟨R', h1, h2, h3, h4⟩ := hS.freezeOwn
  refine Ret.calls (rsum_s h1 h2 hn) ?_
  rintro r w' ⟨h5, h6⟩
  exact ⟨h5, h4 w' _ h6⟩
set_option maxRecDepth 100000 in
set_option maxHeartbeats 4000000 in
theorem rtwice_s (hS : SepL R base w F) {v : Value} {bs : List Byte} (hv : RdIn R base 1 v (bytes bs)) (hn : bs.length ≤ 1099511627776) :
    Calls Tryd.prog 30 #[v] w (Ret fun r w' => r = HV (twice bs) ∧ SepL R base w' F) := by
  have HSM : ∀ {w : World} {F : List Hp}, SepL R base w F → Calls Tryd.prog 28 #[v] w (Ret fun r w' => r = HV (sum bs) ∧ SepL R base w' F) := fun h => rsum_s h hv hn
  obtain ⟨m, hm⟩ : ∃ m, sum bs = m := ⟨_, rfl⟩
  have hml : m.length = 32 := by rw [← hm, sum_len]
  have HML := hide (show (m.map B8).length = 32 by rw [List.length_map, hml])
  have HML2 := hide hml
  have HTL := hide (show ((sum m).map B8).length = 32 by rw [List.length_map, sum_len])
  rw [twice_eq]
  rw [hm] at HSM ⊢
  clear hm hv hml
  go_enter Tryd.func30, Tryd.ntmps30
  go_wp2_with (first
    | (show wpList _ _ _ (⟨_, .alloc 34, _, _, _, _⟩ :: _) _ _; refine wpS_alloc hS rfl rfl zero32b (zs := (List.replicate 32 (0 : Byte)).map B8) rfl ?_; clear hS; intro nb w hS; go_frame)
    | (go_at_call 28; (with_reducible refine Ret.calls (HSM hS) ?_); clear hS; rintro r w ⟨rfl, hS⟩)
    | (show wpList _ _ _ (⟨_, .store 34 _ (.tmp 5), _, _, _, _⟩ :: _) _ _; (refine wpS_storeAll agg32b (hS.bring (by repeat (first | exact t0 | apply tS))) rfl rfl rfl (vs := m.map B8) rfl HML.out (B8_one _) (by rw [List.length_map, List.length_replicate]) ?_); clear hS; intro w hS; go_frame)
    | (show wpList _ _ _ (⟨_, .slice _ _ none none _, _, _, _, _⟩ :: _) _ _; refine wpList_val rfl (op_sliceArr arr32b rfl rfl (l := 0) (h := 32) (Or.inl ⟨rfl, rfl⟩) (Or.inl ⟨rfl, rfl⟩) (by omega) (by omega)) ?_; rw [if_neg (by omega)]; go_frame)
    | (go_at_call 28; refine Ret.calls (rsum_blk hS HML2.out (by omega)) ?_; clear hS; rintro r w ⟨rfl, hS⟩)
    | (show wpList _ _ _ (⟨_, .store 34 _ (.tmp 7), _, _, _, _⟩ :: _) _ _; (refine wpS_storeAll agg32b (hS.bring (by repeat (first | exact t0 | apply tS))) rfl rfl rfl (vs := (sum m).map B8) rfl HTL.out (B8_one _) (by rw [List.length_map, List.length_replicate]) ?_); clear hS; intro w hS; go_frame)
    )
  exact ret_cell agg32b rfl rfl rfl ((hS.bring (by repeat (first | exact t0 | apply tS))).getBlk) HTL.out ⟨rfl, (hS.sel (by repeat (first | exact Sel.refl | refine Sel.take (by repeat (first | exact t0 | apply tS)) ?_ | apply Sel.drop)) : SepL R base _ F)⟩
theorem rtwice_own {T : Nat} {v : Value} {bs : List Byte} (hS : SepL R base w (.own T 1 v (bytes bs) :: F)) (hn : bs.length ≤ 1099511627776) :
    Calls Tryd.prog 30 #[v] w (Ret fun r w' => r = HV (twice bs) ∧ SepL R base w' (.own T 1 v (bytes bs) :: F)) := by
  obtain ⟨R', h1, h2, h3, h4⟩ := hS.freezeOwn
  refine Ret.calls (rtwice_s h1 h2 hn) ?_
  rintro r w' ⟨h5, h6⟩
  exact ⟨h5, h4 w' _ h6⟩
theorem or_add8 (x y : Word) (c : Nat) (hx : x.toNat < 2 ^ c) : x ||| y <<< c = x + y <<< c := by
  rw [BitVec.add_eq_or_of_and_eq_zero]
  apply BitVec.eq_of_getLsbD_eq
  intro i hi
  rw [BitVec.getLsbD_and, BitVec.getLsbD_shiftLeft]
  by_cases h : i < c
  · simp [h]
  · have : x.getLsbD i = false := by
      unfold BitVec.getLsbD
      apply Nat.testBit_lt_two_pow
      exact Nat.lt_of_lt_of_le hx (Nat.pow_le_pow_right (by omega) (by omega))
    simp [this]
theorem mul_shl (y : Word) (c : Nat) (hc : c < 32) : y * BitVec.ofNat 32 (2 ^ c) = y <<< c := by
  apply BitVec.eq_of_toNat_eq
  rw [BitVec.toNat_mul, BitVec.toNat_shiftLeft, Nat.shiftLeft_eq, BitVec.toNat_ofNat, Nat.mod_eq_of_lt (a := 2 ^ c) (Nat.pow_lt_pow_right (by omega) hc)]
theorem le4_add (l : List Byte) : (l.getD 0 0).setWidth 32 + (l.getD 1 0).setWidth 32 * 256#32 + (l.getD 2 0).setWidth 32 * 65536#32 + (l.getD 3 0).setWidth 32 * 16777216#32 = le4 l := by
  have h0 := (l.getD 0 0).isLt
  have h1 := (l.getD 1 0).isLt
  have h2 := (l.getD 2 0).isLt
  unfold le4
  generalize l.getD 0 0 = a at *
  generalize l.getD 1 0 = b at *
  generalize l.getD 2 0 = c at *
  generalize l.getD 3 0 = d at *
  rw [show (256#32 : Word) = BitVec.ofNat 32 (2 ^ 8) from rfl, show (65536#32 : Word) = BitVec.ofNat 32 (2 ^ 16) from rfl, show (16777216#32 : Word) = BitVec.ofNat 32 (2 ^ 24) from rfl, mul_shl _ 8 (by omega), mul_shl _ 16 (by omega), mul_shl _ 24 (by omega)]
  have ea : (a.setWidth 32).toNat = a.toNat := by rw [BitVec.toNat_setWidth]; omega
  have eb : ((b.setWidth 32) <<< 8).toNat = b.toNat * 256 := by rw [BitVec.toNat_shiftLeft, BitVec.toNat_setWidth, Nat.shiftLeft_eq]; omega
  have ec : ((c.setWidth 32) <<< 16).toNat = c.toNat * 65536 := by rw [BitVec.toNat_shiftLeft, BitVec.toNat_setWidth, Nat.shiftLeft_eq]; omega
  rw [or_add8 _ _ 8 (by omega), or_add8 _ _ 16 (by rw [BitVec.toNat_add]; omega), or_add8 _ _ 24 (by rw [BitVec.toNat_add, BitVec.toNat_add]; omega)]
set_option maxRecDepth 100000 in
set_option maxHeartbeats 4000000 in
theorem rcheck_s (hS : SepL R base w F) {u : Value} {bs : List Byte} (hu : RdIn R base 1 u (bytes bs)) (hn : bs.length ≤ 1099511627776) :
    Calls Tryd.prog 32 #[u] w (Ret fun r w' => r = W32 (le4 (twice bs)) ∧ SepL R base w' F) := by
  have hl := twice_len bs
  have HTL := hide (show ((twice bs).map B8).length = 32 by rw [List.length_map, hl])
  have HTW : ∀ {w : World} {F : List Hp}, SepL R base w F → Calls Tryd.prog 30 #[u] w (Ret fun r w' => r = HV (twice bs) ∧ SepL R base w' F) := fun h => rtwice_s h hu hn
  generalize twice bs = tw at *
  have HL0 := hide hl
  have HLA := hide (le4_add tw)
  go_enter Tryd.func32, Tryd.ntmps32
  go_wp2_with (first
    | (show wpList _ _ _ (⟨_, .alloc 34, _, _, _, _⟩ :: _) _ _; refine wpS_alloc hS rfl rfl zero32b (zs := (List.replicate 32 (0 : Byte)).map B8) rfl ?_; clear hS; intro nb w hS; go_frame)
    | (go_at_call 30; refine Ret.calls (HTW hS) ?_; clear hS; rintro r w ⟨rfl, hS⟩)
    | (show wpList _ _ _ (⟨_, .store 34 _ _, _, _, _, _⟩ :: _) _ _; (refine wpS_storeAll agg32b (hS.bring (by repeat (first | exact t0 | apply tS))) rfl rfl rfl (vs := tw.map B8) rfl HTL.out (B8_one _) (by rw [List.length_map, List.length_replicate]) ?_); clear hS; intro w hS; go_frame)
    | (show wpList _ _ _ (⟨_, .indexAddr 34 _ _, _, _, _, _⟩ :: _) _ _; (first | (refine wpList_val rfl (op_indexArrZ arr32b rfl rfl rfl 0 rfl (by omega)) ?_) | (refine wpList_val rfl (op_indexArrZ arr32b rfl rfl rfl 1 rfl (by omega)) ?_) | (refine wpList_val rfl (op_indexArrZ arr32b rfl rfl rfl 2 rfl (by omega)) ?_) | (refine wpList_val rfl (op_indexArrZ arr32b rfl rfl rfl 3 rfl (by omega)) ?_)); rw [Nat.zero_add]; go_frame)
    | (show wpList _ _ _ (⟨_, .load 5 _, _, _, _, _⟩ :: _) _ _; refine wpList_val rfl (op_loadB oneU8 ((hS.bring (by repeat (first | exact t0 | apply tS)))) rfl rfl (by rw [HL0.out]; omega)) ?_; go_frame)
    | (show wpList _ _ _ (⟨_, .convert 5 22 _, _, _, _, _⟩ :: _) _ _; refine wpList_val rfl (op_8to32 undU8 undU32 rfl rfl) ?_; go_frame)
    | (show wpList _ _ _ (⟨some 12, .binOp _ _ _ _ _, _, _, _, _⟩ :: _) _ _; refine wpList_val rfl (op_bin32 (op := .mul) (b := 256#32) rfl rfl rfl rfl) ?_; go_frame)
    | (show wpList _ _ _ (⟨some 17, .binOp _ _ _ _ _, _, _, _, _⟩ :: _) _ _; refine wpList_val rfl (op_bin32 (op := .mul) (b := 65536#32) rfl rfl rfl rfl) ?_; go_frame)
    | (show wpList _ _ _ (⟨some 22, .binOp _ _ _ _ _, _, _, _, _⟩ :: _) _ _; refine wpList_val rfl (op_bin32 (op := .mul) (b := 16777216#32) rfl rfl rfl rfl) ?_; go_frame)
    | (show wpList _ _ _ (⟨some 23, .binOp _ _ _ _ _, _, _, _, _⟩ :: _) _ _; refine wpList_val rfl (op_bin32 rfl rfl rfl rfl) ?_; rw [HLA.out]; go_frame)
    | (show wpList _ _ _ (⟨_, .binOp .add 22 _ _ _, _, _, _, _⟩ :: _) _ _; refine wpList_val rfl (op_bin32 rfl rfl rfl rfl) ?_; go_frame)
    )
  go_ret
  exact ⟨rfl, hS.sel (by repeat (first | exact Sel.refl | refine Sel.take (by repeat (first | exact t0 | apply tS)) ?_ | apply Sel.drop))⟩
theorem rcheck_own {T : Nat} {v : Value} {bs : List Byte} (hS : SepL R base w (.own T 1 v (bytes bs) :: F)) (hn : bs.length ≤ 1099511627776) :
    Calls Tryd.prog 32 #[v] w (Ret fun r w' => r = W32 (le4 (twice bs)) ∧ SepL R base w' (.own T 1 v (bytes bs) :: F)) := by
  obtain ⟨R', h1, h2, h3, h4⟩ := hS.freezeOwn
  refine Ret.calls (rcheck_s h1 h2 hn) ?_
  rintro r w' ⟨h5, h6⟩
  exact ⟨h5, h4 w' _ h6⟩
theorem check_own {T : Nat} {v : Value} {bs : List Byte} (hS : SepL R base w (.own T 1 v (bytes bs) :: F)) (hK : CIn R base 0 (kTab.map W32)) (hF : CIn R base 1 (first.map W32)) (hn : bs.length < 4611686018427386000) :
    Calls Tryd.prog 31 #[v] w (Ret fun r w' => r = W32 (le4 (twice bs)) ∧ SepL R base w' (.own T 1 v (bytes bs) :: F)) := by
  obtain ⟨R', h1, h2, h3, h4⟩ := hS.freezeOwn
  refine Ret.calls (check_s h1 (kTab_mv hK h3) (first_mv hF h3) h2 hn) ?_
  rintro r w' ⟨h5, h6⟩
  exact ⟨h5, h4 w' _ h6⟩
end
end Go.Proofs.YtpdanieiafjmhaaDoor
