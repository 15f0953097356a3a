/- Bytes are the same as they are, and aren't with a bit turned, one fewer, or one more: the law returns true. Conditions: those that stand ahead of each theorem. -/
import Derived.Test.YtpdanieiafjmhaaDoorMAlive
import Derived.Test.YtpdanieiafjmhaaDoorKeep
import Derived.Test.YtpdanieiafjmhaaDoorCell
namespace Go.Proofs.YtpdanieiafjmhaaDoor
open Go.RowKit Go.Px Go.Sha
theorem bytes_setB (l : List Byte) (k : Nat) (x : Byte) : (bytes l).set k [B8 x] = bytes (l.set k x) := by simp [bytes, List.map_set]
section
variable {P : Program} {o : Oper} {w : World} {ρ : Operand → Value} {t t' : TypeId} {x y : Operand}
theorem op_neB {a b : Byte} (ho : o.op = .binOp .neq t x y t') (hx : ρ x = B8 a) (hy : ρ y = B8 b) {r : Bool} (hr : (a != b) = r) : (execOp ρ o).run P w = .ok (.value (.bool r)) w := by
  unfold B8 at hx hy
  have e : ((a.toNat : Int) != (b.toNat : Int)) = r := by
    rw [← hr, Bool.eq_iff_iff, bne_iff_ne, bne_iff_ne, ne_eq, ne_eq, ← BitVec.toNat_inj]
    omega
  unfold execOp
  simp only [ho, hx, hy, Sem.run_bind, run_eqGuard_int, Result.andThen_ok, binOp, ne_eq, not_true_eq_false, if_false, Op.intCmp, Sem.run_pure, e]
theorem op_ieqI {a b : Int} {k : IntKind} (ho : o.op = .binOp .eql t x y t') (hx : ρ x = .int k a) (hy : ρ y = .int k b) {r : Bool} (hr : (a == b) = r) : (execOp ρ o).run P w = .ok (.value (.bool r)) w := by
  unfold execOp
  simp only [ho, hx, hy, Sem.run_bind, run_eqGuard_int, Result.andThen_ok, binOp, ne_eq, not_true_eq_false, if_false, Op.intCmp, Sem.run_pure, hr]
theorem op_neBool {a : Bool} (ho : o.op = .binOp .neq 4 x y t') (hx : ρ x = .bool a) (hy : ρ y = .bool a) : (execOp ρ o).run Tryd.prog w = .ok (.value (.bool false)) w := by
  have h : (binOp .neq 4 (.bool a) (.bool a)).run Tryd.prog w = .ok (.bool false) w := by cases a <;> kernel_rfl
  have h2 : (eqGuard .neq 4 x y (.bool a) (.bool a)).run Tryd.prog w = .ok () w := by cases a <;> rfl
  unfold execOp
  simp only [ho, hx, hy, Sem.run_bind, h, h2, Result.andThen_ok, Sem.run_pure]
theorem op_quo16N (ho : o.op = .binOp .quo t x y t') {a b : Nat} (hx : ρ x = .int .u16 a) (hy : ρ y = .int .u16 b) (hb : 0 < b) (ha : a < 65536) : (execOp ρ o).run P w = .ok (.value (.int .u16 (a / b : Nat))) w := by
  have h0 : ¬ ((b : Int) = 0) := by omega
  have e : IntKind.u16.wrap (Int.tdiv (a : Int) b) = ((a / b : Nat) : Int) := by
    have h : Int.tdiv (a : Int) b = ((a / b : Nat) : Int) := rfl
    have hl := Nat.div_le_self a b
    rw [h]
    generalize a / b = q at hl
    simp [IntKind.wrap, IntKind.bits, IntKind.signed]
    omega
  unfold execOp
  simp only [ho, hx, hy, Sem.run_bind, run_eqGuard_int, Result.andThen_ok, binOp, ne_eq, not_true_eq_false, if_false, Op.intDiv, Sem.run_pure, if_neg h0, e]
theorem op_rem16N (ho : o.op = .binOp .rem t x y t') {a b : Nat} (hx : ρ x = .int .u16 a) (hy : ρ y = .int .u16 b) (hb : 0 < b) : (execOp ρ o).run P w = .ok (.value (.int .u16 (a % b : Nat))) w := by
  have h0 : ¬ ((b : Int) = 0) := by omega
  unfold execOp
  simp only [ho, hx, hy, Sem.run_bind, run_eqGuard_int, Result.andThen_ok, binOp, ne_eq, not_true_eq_false, if_false, Op.intDiv, Sem.run_pure, if_neg h0]
  rfl
theorem op_16toInt {s d : TypeId} {sd : TypeDesc} (hs : P.underlying s = some sd) (hd : P.underlying d = some (.int .i64)) (ho : o.op = .convert s d x) {a : Nat} (hx : ρ x = .int .u16 a) (ha : a < 65536) : (execOp ρ o).run P w = .ok (.value (.int .i64 a)) w := by
  rw [op_convert hs hd ho hx, show IntKind.i64.wrap (a : Int) = a from IntWalk.i64_in _ (by omega)]
theorem op_shl8 (ho : o.op = .binOp .shl t x y t') {a : BitVec 8} (hx : ρ x = B8 a) {yk : IntKind} {c : Nat} (hy : ρ y = .int yk c) : (execOp ρ o).run P w = .ok (.value (B8 (a <<< c))) w := by
  unfold execOp
  have h := int_shl a.toNat c 8
  simp only [ho, hx, hy, Sem.run_bind, run_eqGuard_int, Result.andThen_ok, binOp, B8, Op.shift, show ¬ ((c : Int) < 0) by omega, if_false, Sem.run_pure, Px.wrap8, IntKind.bits, BitVec.toNat_shiftLeft]
  rw [show (256 : Int) = ((2 ^ 8 : Nat) : Int) from rfl, h]
end
theorem U16 : Tryd.prog.underlying 53 = some (.int .u16) := by kernel_rfl
theorem bit_ne {c : Byte} {j : Nat} (hj : j < 8) : c ^^^ (1#8 <<< j) ≠ c := by
  intro h
  have h2 : 1#8 <<< j = 0#8 := by
    have h3 : c ^^^ (c ^^^ (1#8 <<< j)) = c ^^^ c := by rw [h]
    rwa [← BitVec.xor_assoc, BitVec.xor_self, BitVec.zero_xor] at h3
  have : ∀ j : Fin 8, 1#8 <<< j.1 ≠ 0#8 := by decide
  exact this ⟨j, hj⟩ h2
section
variable {R : Nat → Prop} {base w : World} {F : List Hp}
theorem same_own {T : Nat} {u v : Value} {xs bs : List Byte} (hS : SepL R base w (.own T 1 v (bytes bs) :: F)) (hu : RdIn R base 1 u (bytes xs)) (hsm : xs.length ≤ 9223372036854775807) {b : Bool} (hb : decide (xs = bs) = b) :
    Calls Tryd.prog 37 #[u, v] w (Ret fun r w' => r = .bool b ∧ SepL R base w' (.own T 1 v (bytes bs) :: F)) := by
  obtain ⟨R1, h1, h2, h3, h4⟩ := hS.freezeOwn
  refine Ret.calls (same_s h1 (h3 _ _ _ hu) h2 hsm hb) ?_
  rintro r w' ⟨h6, h7⟩
  exact ⟨h6, h4 w' _ h7⟩
theorem same_or {T : Nat} {u v z : Value} {xs bs : List Byte} {cs : List (List Value)} (hS : SepL R base w (hOR T 1 v cs z (bytes bs) :: F)) (hu : RdIn R base 1 u (bytes xs)) (hsm : xs.length ≤ 9223372036854775807) {b : Bool} (hb : decide (xs = bs) = b) :
    Calls Tryd.prog 37 #[u, z] w (Ret fun r w' => r = .bool b ∧ SepL R base w' (.own T 1 v cs :: F)) := by
  obtain ⟨R1, h1, h2, h3, h4⟩ := hS.freezeOr
  refine Ret.calls (same_s h1 (h3 _ _ _ hu) h2 hsm hb) ?_
  rintro r w' ⟨h6, h7⟩
  exact ⟨h6, (h4 w' _ h7).orOwn⟩
set_option maxRecDepth 100000 in
set_option maxHeartbeats 4000000 in
theorem rsame_s (hS : SepL R base w F) {u v : Value} {xs bs : List Byte} (hu : RdIn R base 1 u (bytes xs)) (hv : RdIn R base 1 v (bytes bs)) (hsm : xs.length ≤ 9223372036854775807) {b : Bool} (hb : decide (xs = bs) = b) :
    Calls Tryd.prog 38 #[u, v] w (Ret fun r w' => r = .bool b ∧ SepL R base w' F) := by
  obtain ⟨n, hn⟩ : ∃ n, xs.length = n := ⟨_, rfl⟩
  obtain ⟨m, hm⟩ : ∃ m, bs.length = m := ⟨_, rfl⟩
  have HN := hide hn
  have HM := hide hm
  by_cases hnm : n = m
  · subst hnm
    have HE : Hid (((n : Int) != n) = false) := by
      unfold Hid
      simp
    have HB := hide hb
    clear hb
    go_enter Tryd.func38, Tryd.ntmps38
    go_wp2_with (first
      | (show wpList _ _ _ (⟨some 7, .call _, _, _, _, _⟩ :: _) _ _; refine wpList_val rfl (op_lenB slBytes rfl rfl rfl (hS.rd hu) HN.out) ?_; go_frame)
      | (show wpList _ _ _ (⟨some 9, .call _, _, _, _, _⟩ :: _) _ _; refine wpList_val rfl (op_lenB slBytes rfl rfl rfl (hS.rd hv) HM.out) ?_; go_frame)
      | (show wpList _ _ _ (⟨some 10, .binOp _ _ _ _ _, _, _, _, _⟩ :: _) _ _; refine wpList_val rfl (op_ineI rfl rfl rfl HE.out) ?_; go_frame)
      | (show wpList _ _ _ (⟨some 12, .call _, _, _, _, _⟩ :: _) _ _; refine wpList_val rfl (op_lenB slBytes rfl rfl rfl (hS.rd hu) HN.out) ?_; go_frame)
      )
    go_loopw [13] (fun i wr => ∃ k : Nat, i = .int .i64 k ∧ k ≤ n ∧ xs.take k = bs.take k ∧ SepL R base wr F) (fun i _ => n - (intOf i).toNat)
    case atStart => exact ⟨0, rfl, by omega, rfl, hS⟩
    case round =>
      clear hS
      obtain ⟨k, rfl, hk, htk, hS⟩ := hrel
      by_cases hlt : k < n
      · have hka : k < xs.length := by omega
        have hkb : k < bs.length := by omega
        obtain ⟨c, hc⟩ : ∃ c, xs[k] = c := ⟨_, rfl⟩
        obtain ⟨d, hd⟩ : ∃ c, bs[k] = c := ⟨_, rfl⟩
        have HC : Hid (xs[k] = c) := hc
        have HD : Hid (bs[k] = d) := hd
        by_cases hcd : c = d
        · have HCD : Hid ((c != d) = false) := by
            unfold Hid
            simp [hcd]
          have hts : xs.take (k + 1) = bs.take (k + 1) := by
            rw [List.take_succ_eq_append_getElem hka, List.take_succ_eq_append_getElem hkb, htk, hc, hd, hcd]
          clear hc hd hcd htk
          go_wp2_with fail
          refine wp_region_text (by kernel_rfl) (by kernel_rfl) (by repeat (first | exact Clean.body | refine Clean.then ?_ | refine Clean.inBlock ?_)) ?_
          replace hS := hS.drew
          go_wp2_with (first
            | (show wpList _ _ _ (⟨some 18, .indexAddr _ _ _, _, _, _, _⟩ :: _) _ _; refine wpList_val rfl (op_indexAddr slBytes rfl (v := u) rfl rfl (hS.rd hu) (by rw [bytes_len]; exact hka)) ?_; go_frame)
            | (show wpList _ _ _ (⟨some 19, .load _ _, _, _, _, _⟩ :: _) _ _; refine wpList_val rfl (op_loadBE oneU8 rfl (v := u) (k := k) rfl (hS.rd hu) hka) ?_; rw [HC.out]; go_frame)
            | (show wpList _ _ _ (⟨some 22, .indexAddr _ _ _, _, _, _, _⟩ :: _) _ _; refine wpList_val rfl (op_indexAddr slBytes rfl (v := v) rfl rfl (hS.rd hv) (by rw [bytes_len]; exact hkb)) ?_; go_frame)
            | (show wpList _ _ _ (⟨some 23, .load _ _, _, _, _, _⟩ :: _) _ _; refine wpList_val rfl (op_loadBE oneU8 rfl (v := v) (k := k) rfl (hS.rd hv) hkb) ?_; rw [HD.out]; go_frame)
            | (show wpList _ _ _ (⟨some 24, .binOp _ _ _ _ _, _, _, _, _⟩ :: _) _ _; refine wpList_val rfl (op_neB rfl rfl rfl HCD.out) ?_; go_frame)
            )
          refine fin_mk (by kernel_rfl) ?_
          go_wp2_with fail
          go_roundw
          case rel => exact ⟨k + 1, by go_num, by omega, hts, hS⟩
          case measure => simp [intOf]; omega
        · have HCD : Hid ((c != d) = true) := by
            unfold Hid
            simp [hcd]
          have hbf : b = false := by
            rw [← HB.out, decide_eq_false_iff_not]
            intro h
            subst h
            exact hcd (hc.symm.trans hd)
          subst hbf
          clear hc hd hcd htk HB
          go_wp2_with fail
          refine wp_region_text (by kernel_rfl) (by kernel_rfl) (by repeat (first | exact Clean.body | refine Clean.then ?_ | refine Clean.inBlock ?_)) ?_
          replace hS := hS.drew
          go_wp2_with (first
            | (show wpList _ _ _ (⟨some 18, .indexAddr _ _ _, _, _, _, _⟩ :: _) _ _; refine wpList_val rfl (op_indexAddr slBytes rfl (v := u) rfl rfl (hS.rd hu) (by rw [bytes_len]; exact hka)) ?_; go_frame)
            | (show wpList _ _ _ (⟨some 19, .load _ _, _, _, _, _⟩ :: _) _ _; refine wpList_val rfl (op_loadBE oneU8 rfl (v := u) (k := k) rfl (hS.rd hu) hka) ?_; rw [HC.out]; go_frame)
            | (show wpList _ _ _ (⟨some 22, .indexAddr _ _ _, _, _, _, _⟩ :: _) _ _; refine wpList_val rfl (op_indexAddr slBytes rfl (v := v) rfl rfl (hS.rd hv) (by rw [bytes_len]; exact hkb)) ?_; go_frame)
            | (show wpList _ _ _ (⟨some 23, .load _ _, _, _, _, _⟩ :: _) _ _; refine wpList_val rfl (op_loadBE oneU8 rfl (v := v) (k := k) rfl (hS.rd hv) hkb) ?_; rw [HD.out]; go_frame)
            | (show wpList _ _ _ (⟨some 24, .binOp _ _ _ _ _, _, _, _, _⟩ :: _) _ _; refine wpList_val rfl (op_neB rfl rfl rfl HCD.out) ?_; go_frame)
            )
          refine fin_mk (by kernel_rfl) ?_
          go_wp2_with fail
          go_ret
          exact ⟨rfl, hS⟩
      · have hk2 : k = n := by omega
        have hbt : b = true := by
          rw [← HB.out, decide_eq_true_iff]
          rwa [List.take_of_length_le (by omega), List.take_of_length_le (by omega)] at htk
        subst hk2
        subst hbt
        clear htk
        go_wp2_with fail
        go_ret
        exact ⟨rfl, hS⟩
  · have HE : Hid (((n : Int) != m) = true) := by
      unfold Hid
      rw [bne_iff_ne]
      omega
    have hbf : b = false := by
      rw [← hb, decide_eq_false_iff_not]
      rintro rfl
      omega
    subst hbf
    clear hnm hb
    go_enter Tryd.func38, Tryd.ntmps38
    go_wp2_with (first
      | (show wpList _ _ _ (⟨some 7, .call _, _, _, _, _⟩ :: _) _ _; refine wpList_val rfl (op_lenB slBytes rfl rfl rfl (hS.rd hu) HN.out) ?_; go_frame)
      | (show wpList _ _ _ (⟨some 9, .call _, _, _, _, _⟩ :: _) _ _; refine wpList_val rfl (op_lenB slBytes rfl rfl rfl (hS.rd hv) HM.out) ?_; go_frame)
      | (show wpList _ _ _ (⟨some 10, .binOp _ _ _ _ _, _, _, _, _⟩ :: _) _ _; refine wpList_val rfl (op_ineI rfl rfl rfl HE.out) ?_; go_frame)
      )
    go_ret
    exact ⟨rfl, hS⟩
end
set_option maxRecDepth 100000 in
set_option maxHeartbeats 4000000 in
theorem macSame_w {W : World} (hK : CIn All W 0 (kTab.map W32)) (hF : CIn All W 1 (first.map W32)) {va vb : Value} {xs bs : List Byte} (ha : RdIn All W 1 va (bytes xs)) (hb : RdIn All W 1 vb (bytes bs)) (z : Nat) (hz : z < 65536) :
    Calls Tryd.prog 13 #[va, vb, .int .u16 z] W (Ret fun r w' => r = .bool true ∧ Chg No W w') := by
  have hS := SepL.start W
  obtain ⟨n, hn⟩ : ∃ n, xs.length = n := ⟨_, rfl⟩
  have HNA := hide hn
  obtain ⟨m, hm⟩ : ∃ m, bs.length = m := ⟨_, rfl⟩
  have HNB := hide hm
  obtain ⟨da, hda⟩ : ∃ d, decide ((10000 : Int) < (n : Int)) = d := ⟨_, rfl⟩
  obtain ⟨db, hdb⟩ : ∃ d, decide ((10000 : Int) < (m : Int)) = d := ⟨_, rfl⟩
  have HDA := hide hda
  have HDB := hide hdb
  rcases da with _ | _
  rotate_left
  · clear hda hdb hm hn
    go_enter Tryd.func13, Tryd.ntmps13
    go_wp2_with (first
      | (go_at_call 33; refine Ret.calls (malive_s hS hK hF) ?_; clear hS; rintro r w ⟨rfl, hS⟩)
      | (show wpList _ _ _ (⟨some 11, .call _, _, _, _, _⟩ :: _) _ _; refine wpList_val rfl (op_lenB slBytes rfl rfl rfl (hS.rd ha) HNA.out) ?_; go_frame)
      | (show wpList _ _ _ (⟨some 12, .binOp _ _ _ _ _, _, _, _, _⟩ :: _) _ _; refine wpList_val rfl (op_igtr rfl rfl rfl HDA.out) ?_; go_frame)
      | (show wpList _ _ _ (⟨some 15, .call _, _, _, _, _⟩ :: _) _ _; refine wpList_val rfl (op_lenB slBytes rfl rfl rfl (hS.rd hb) HNB.out) ?_; go_frame)
      | (show wpList _ _ _ (⟨some 16, .binOp _ _ _ _ _, _, _, _, _⟩ :: _) _ _; refine wpList_val rfl (op_igtr rfl rfl rfl HDB.out) ?_; go_frame)
      )
    go_ret
    exact ⟨rfl, hS.chg⟩
  rcases db with _ | _
  rotate_left
  · clear hda hdb hm hn
    go_enter Tryd.func13, Tryd.ntmps13
    go_wp2_with (first
      | (go_at_call 33; refine Ret.calls (malive_s hS hK hF) ?_; clear hS; rintro r w ⟨rfl, hS⟩)
      | (show wpList _ _ _ (⟨some 11, .call _, _, _, _, _⟩ :: _) _ _; refine wpList_val rfl (op_lenB slBytes rfl rfl rfl (hS.rd ha) HNA.out) ?_; go_frame)
      | (show wpList _ _ _ (⟨some 12, .binOp _ _ _ _ _, _, _, _, _⟩ :: _) _ _; refine wpList_val rfl (op_igtr rfl rfl rfl HDA.out) ?_; go_frame)
      | (show wpList _ _ _ (⟨some 15, .call _, _, _, _, _⟩ :: _) _ _; refine wpList_val rfl (op_lenB slBytes rfl rfl rfl (hS.rd hb) HNB.out) ?_; go_frame)
      | (show wpList _ _ _ (⟨some 16, .binOp _ _ _ _ _, _, _, _, _⟩ :: _) _ _; refine wpList_val rfl (op_igtr rfl rfl rfl HDB.out) ?_; go_frame)
      )
    go_ret
    exact ⟨rfl, hS.chg⟩
  have hn2 : n ≤ 10000 := by
    have := of_decide_eq_false hda
    omega
  clear hda hdb
  have hsm : xs.length ≤ 9223372036854775807 := by omega
  have HFA : Hid (Flat (bytes xs)) := flat_bytes xs
  have HS1 : ∀ {T : Nat} {v : Value} {w : World} {F : List Hp}, SepL All W w (.own T 1 v (bytes xs) :: F) → Calls Tryd.prog 37 #[va, v] w (Ret fun r w' => r = .bool true ∧ SepL All W w' (.own T 1 v (bytes xs) :: F)) := fun h => same_own h ha hsm (by simp)
  have HS2 : ∀ {T : Nat} {v u : Value} {cs : List (List Value)} {w : World} {F : List Hp}, SepL All W w (hOR T 1 v cs u (bytes (xs ++ [0#8])) :: F) → Calls Tryd.prog 37 #[va, u] w (Ret fun r w' => r = .bool false ∧ SepL All W w' (.own T 1 v cs :: F)) := fun h => same_or h ha hsm (by
    rw [decide_eq_false_iff_not]
    intro e
    have := congrArg List.length e
    rw [List.length_append] at this
    simp at this)
  obtain ⟨b, hbd⟩ : ∃ b, decide (xs = bs) = b := ⟨_, rfl⟩
  have HS3 : ∀ {w : World} {F : List Hp}, SepL All W w F → Calls Tryd.prog 37 #[va, vb] w (Ret fun r w' => r = .bool b ∧ SepL All W w' F) := fun h => same_s h ha hb hsm hbd
  have HR3 : ∀ {w : World} {F : List Hp}, SepL All W w F → Calls Tryd.prog 38 #[va, vb] w (Ret fun r w' => r = .bool b ∧ SepL All W w' F) := fun h => rsame_s h ha hb hsm hbd
  have M1 : True := trivial
  have M2 : True := trivial
  have M3 : True := trivial
  by_cases h0 : n = 0
  · have HD0 : Hid (((n : Int) == 0) = true) := by
      unfold Hid
      simp [h0]
    clear hbd hm hn h0 hsm
    go_enter Tryd.func13, Tryd.ntmps13
    go_wp2_with (first
      | (go_at_call 33; refine Ret.calls (malive_s hS hK hF) ?_; clear hS; rintro r w ⟨rfl, hS⟩)
      | (show wpList _ _ _ (⟨some 11, .call _, _, _, _, _⟩ :: _) _ _; refine wpList_val rfl (op_lenB slBytes rfl rfl rfl (hS.rd ha) HNA.out) ?_; go_frame)
      | (show wpList _ _ _ (⟨some 12, .binOp _ _ _ _ _, _, _, _, _⟩ :: _) _ _; refine wpList_val rfl (op_igtr rfl rfl rfl HDA.out) ?_; go_frame)
      | (show wpList _ _ _ (⟨some 15, .call _, _, _, _, _⟩ :: _) _ _; refine wpList_val rfl (op_lenB slBytes rfl rfl rfl (hS.rd hb) HNB.out) ?_; go_frame)
      | (show wpList _ _ _ (⟨some 16, .binOp _ _ _ _ _, _, _, _, _⟩ :: _) _ _; refine wpList_val rfl (op_igtr rfl rfl rfl HDB.out) ?_; go_frame)
      | (show wpList _ _ _ (⟨some 18, .buildSlice _ 0 _, _, _, _, _⟩ :: _) _ _; refine wpS_build0 slBytes hS rfl rfl ?_; clear hS; intro v18 w hS; go_frame)
      | (show wpList _ _ _ (⟨some 20, .call _, _, _, _, _⟩ :: _) _ _; (refine wpS_append slBytes (hS.bring (by repeat (first | exact t0 | apply tS))) rfl rfl rfl rfl (hS.rd ha) HFA.out (by rw [bytes_len, HNA.out, List.length_nil]; omega) (by rw [bytes_len, HNA.out, List.length_nil]; simp only [maxLen]; omega) ?_); clear hS; intro v20 w hS; rw [List.nil_append] at hS; go_frame)
      | (replace M1 := M1; go_at_call 37; (refine Ret.calls (HS1 (hS.bring (by repeat (first | exact t0 | apply tS)))) ?_); clear hS; rintro r w ⟨rfl, hS⟩; clear M1)
      | (show wpList _ _ _ (⟨some 28, .buildSlice _ 1 _, _, _, _, _⟩ :: _) _ _; refine wpS_build11 slBytes hS rfl rfl rfl rfl ?_; clear hS; intro v28 w hS; rw [b00] at hS; go_frame)
      | (show wpList _ _ _ (⟨some 29, .call _, _, _, _, _⟩ :: _) _ _; (refine wpS_append2 slBytes (hS.bring (by repeat (first | exact t0 | apply tS))) rfl rfl rfl rfl ((hS.bring (by repeat (first | exact t0 | apply tS))).getOwn.rd) (flat_bytes _) (by rw [bytes_len, bytes_len, HNA.out]; simp only [List.length_cons, List.length_nil]; omega) (by rw [bytes_len, bytes_len, HNA.out]; simp only [List.length_cons, List.length_nil, maxLen]; omega) ?_); clear hS; intro v29 w hS; rw [← bytes_app] at hS; go_frame)
      | (replace M2 := M2; go_at_call 37; (refine Ret.calls (HS2 (hS.bring (by repeat (first | exact t0 | apply tS)))) ?_); clear hS; rintro r w ⟨rfl, hS⟩; clear M2)
      | (replace M3 := M3; go_at_call 37; refine Ret.calls (HS3 hS) ?_; clear hS; rintro r w ⟨rfl, hS⟩; clear M3)
      | (go_at_call 38; refine Ret.calls (HR3 hS) ?_; clear hS; rintro r w ⟨rfl, hS⟩)
      | (show wpList _ _ _ (⟨some 39, .binOp _ _ _ _ _, _, _, _, _⟩ :: _) _ _; refine wpList_val rfl (op_neBool rfl rfl rfl) ?_; go_frame)
      | (show wpList _ _ _ (⟨some 42, .call _, _, _, _, _⟩ :: _) _ _; refine wpList_val rfl (op_lenB slBytes rfl rfl rfl (hS.rd ha) HNA.out) ?_; go_frame)
      | (show wpList _ _ _ (⟨some 43, .binOp _ _ _ _ _, _, _, _, _⟩ :: _) _ _; refine wpList_val rfl (op_ieqI rfl rfl rfl HD0.out) ?_; go_frame)
      )
    go_ret
    exact ⟨rfl, hS.chg⟩
  · have HD0 : Hid (((n : Int) == 0) = false) := by
      unfold Hid
      simp [h0]
    have hnp : 0 < n := by omega
    obtain ⟨q, hq⟩ : ∃ q, z / 8 = q := ⟨_, rfl⟩
    obtain ⟨k, hk⟩ : ∃ k, q % n = k := ⟨_, rfl⟩
    obtain ⟨j, hj⟩ : ∃ j, z % 8 = j := ⟨_, rfl⟩
    have hkn : k < xs.length := by
      rw [hn, ← hk]
      exact Nat.mod_lt _ hnp
    have hj8 : j < 8 := by omega
    have hq16 : q < 65536 := by omega
    obtain ⟨c, hc⟩ : ∃ c, xs[k] = c := ⟨_, rfl⟩
    obtain ⟨ys, hys⟩ : ∃ ys, xs.set k (c ^^^ (1#8 <<< j)) = ys := ⟨_, rfl⟩
    have hne : xs ≠ ys := by
      intro e
      have e2 : ys[k]? = some (c ^^^ (1#8 <<< j)) := by
        rw [← hys, List.getElem?_set_self hkn]
      rw [← e, List.getElem?_eq_getElem hkn, hc] at e2
      injection e2 with e3
      exact bit_ne hj8 e3.symm
    have HS4 : ∀ {T : Nat} {v : Value} {w : World} {F : List Hp}, SepL All W w (.own T 1 v (bytes ys) :: F) → Calls Tryd.prog 37 #[va, v] w (Ret fun r w' => r = .bool false ∧ SepL All W w' (.own T 1 v (bytes ys) :: F)) := fun h => same_own h ha hsm (by
      rw [decide_eq_false_iff_not]
      exact hne)
    have hcut := RdIn.dropV (k := 1) ha (by omega)
    have HS5 : ∀ {w : World} {F : List Hp}, SepL All W w F → Calls Tryd.prog 37 #[cutV 1 va 1 (bytes xs).length, va] w (Ret fun r w' => r = .bool false ∧ SepL All W w' F) := fun h => same_s h hcut ha (by rw [List.length_drop]; omega) (by
      rw [decide_eq_false_iff_not]
      intro e
      have := congrArg List.length e
      rw [List.length_drop] at this
      omega)
    have HQ := hide hq
    have HKK := hide hk
    have HJ := hide hj
    have HC : Hid (xs[k] = c) := hc
    have HYS := hide hys
    have hkn2 : k < n := by omega
    have M4 : True := trivial
    clear hbd hm hn h0 hsm hq hk hj hc hys hne hj8
    go_enter Tryd.func13, Tryd.ntmps13
    go_wp2_with (first
      | (go_at_call 33; refine Ret.calls (malive_s hS hK hF) ?_; clear hS; rintro r w ⟨rfl, hS⟩)
      | (show wpList _ _ _ (⟨some 11, .call _, _, _, _, _⟩ :: _) _ _; refine wpList_val rfl (op_lenB slBytes rfl rfl rfl (hS.rd ha) HNA.out) ?_; go_frame)
      | (show wpList _ _ _ (⟨some 12, .binOp _ _ _ _ _, _, _, _, _⟩ :: _) _ _; refine wpList_val rfl (op_igtr rfl rfl rfl HDA.out) ?_; go_frame)
      | (show wpList _ _ _ (⟨some 15, .call _, _, _, _, _⟩ :: _) _ _; refine wpList_val rfl (op_lenB slBytes rfl rfl rfl (hS.rd hb) HNB.out) ?_; go_frame)
      | (show wpList _ _ _ (⟨some 16, .binOp _ _ _ _ _, _, _, _, _⟩ :: _) _ _; refine wpList_val rfl (op_igtr rfl rfl rfl HDB.out) ?_; go_frame)
      | (show wpList _ _ _ (⟨some 18, .buildSlice _ 0 _, _, _, _, _⟩ :: _) _ _; refine wpS_build0 slBytes hS rfl rfl ?_; clear hS; intro v18 w hS; go_frame)
      | (show wpList _ _ _ (⟨some 20, .call _, _, _, _, _⟩ :: _) _ _; (refine wpS_append slBytes (hS.bring (by repeat (first | exact t0 | apply tS))) rfl rfl rfl rfl (hS.rd ha) HFA.out (by rw [bytes_len, HNA.out, List.length_nil]; omega) (by rw [bytes_len, HNA.out, List.length_nil]; simp only [maxLen]; omega) ?_); clear hS; intro v20 w hS; rw [List.nil_append] at hS; go_frame)
      | (replace M1 := M1; go_at_call 37; (refine Ret.calls (HS1 (hS.bring (by repeat (first | exact t0 | apply tS)))) ?_); clear hS; rintro r w ⟨rfl, hS⟩; clear M1)
      | (show wpList _ _ _ (⟨some 28, .buildSlice _ 1 _, _, _, _, _⟩ :: _) _ _; refine wpS_build11 slBytes hS rfl rfl rfl rfl ?_; clear hS; intro v28 w hS; rw [b00] at hS; go_frame)
      | (show wpList _ _ _ (⟨some 29, .call _, _, _, _, _⟩ :: _) _ _; (refine wpS_append2 slBytes (hS.bring (by repeat (first | exact t0 | apply tS))) rfl rfl rfl rfl ((hS.bring (by repeat (first | exact t0 | apply tS))).getOwn.rd) (flat_bytes _) (by rw [bytes_len, bytes_len, HNA.out]; simp only [List.length_cons, List.length_nil]; omega) (by rw [bytes_len, bytes_len, HNA.out]; simp only [List.length_cons, List.length_nil, maxLen]; omega) ?_); clear hS; intro v29 w hS; rw [← bytes_app] at hS; go_frame)
      | (replace M2 := M2; go_at_call 37; (refine Ret.calls (HS2 (hS.bring (by repeat (first | exact t0 | apply tS)))) ?_); clear hS; rintro r w ⟨rfl, hS⟩; clear M2)
      | (replace M3 := M3; go_at_call 37; refine Ret.calls (HS3 hS) ?_; clear hS; rintro r w ⟨rfl, hS⟩; clear M3)
      | (go_at_call 38; refine Ret.calls (HR3 hS) ?_; clear hS; rintro r w ⟨rfl, hS⟩)
      | (show wpList _ _ _ (⟨some 39, .binOp _ _ _ _ _, _, _, _, _⟩ :: _) _ _; refine wpList_val rfl (op_neBool rfl rfl rfl) ?_; go_frame)
      | (show wpList _ _ _ (⟨some 42, .call _, _, _, _, _⟩ :: _) _ _; refine wpList_val rfl (op_lenB slBytes rfl rfl rfl (hS.rd ha) HNA.out) ?_; go_frame)
      | (show wpList _ _ _ (⟨some 43, .binOp _ _ _ _ _, _, _, _, _⟩ :: _) _ _; refine wpList_val rfl (op_ieqI rfl rfl rfl HD0.out) ?_; go_frame)
      | (show wpList _ _ _ (⟨some 46, .binOp _ _ _ _ _, _, _, _, _⟩ :: _) _ _; refine wpList_val rfl (op_quo16N rfl rfl (b := 8) rfl (by omega) hz) ?_; rw [HQ.out]; go_frame)
      | (show wpList _ _ _ (⟨some 47, .convert _ _ _, _, _, _, _⟩ :: _) _ _; refine wpList_val rfl (op_16toInt U16 undInt rfl rfl hq16) ?_; go_frame)
      | (show wpList _ _ _ (⟨some 49, .call _, _, _, _, _⟩ :: _) _ _; refine wpList_val rfl (op_lenB slBytes rfl rfl rfl (hS.rd ha) HNA.out) ?_; go_frame)
      | (show wpList _ _ _ (⟨some 50, .binOp _ _ _ _ _, _, _, _, _⟩ :: _) _ _; refine wpList_val rfl (op_iremN rfl rfl rfl hnp) ?_; rw [HKK.out]; go_frame)
      | (show wpList _ _ _ (⟨some 51, .indexAddr _ _ _, _, _, _, _⟩ :: _) _ _; refine wpList_val rfl (op_indexAddr slBytes rfl (v := v20) rfl (k := k) rfl ((hS.bring (by repeat (first | exact t0 | apply tS))).getOwn.rd) (by rw [bytes_len]; exact hkn)) ?_; go_frame)
      | (show wpList _ _ _ (⟨some 57, .indexAddr _ _ _, _, _, _, _⟩ :: _) _ _; refine wpList_val rfl (op_indexAddr slBytes rfl (v := v20) rfl (k := k) rfl ((hS.bring (by repeat (first | exact t0 | apply tS))).getOwn.rd) (by rw [bytes_len]; exact hkn)) ?_; go_frame)
      | (show wpList _ _ _ (⟨some 52, .load _ _, _, _, _, _⟩ :: _) _ _; refine wpList_val rfl (op_loadBE oneU8 rfl (v := v20) (k := k) rfl ((hS.bring (by repeat (first | exact t0 | apply tS))).getOwn.rd) hkn) ?_; rw [HC.out]; go_frame)
      | (show wpList _ _ _ (⟨some 54, .binOp _ _ _ _ _, _, _, _, _⟩ :: _) _ _; refine wpList_val rfl (op_rem16N rfl rfl (b := 8) rfl (by omega)) ?_; rw [HJ.out]; go_frame)
      | (show wpList _ _ _ (⟨some 55, .binOp _ _ _ _ _, _, _, _, _⟩ :: _) _ _; refine wpList_val rfl (op_shl8 rfl (a := 1#8) rfl (c := j) rfl) ?_; go_frame)
      | (show wpList _ _ _ (⟨some 56, .binOp _ _ _ _ _, _, _, _, _⟩ :: _) _ _; refine wpList_val rfl (op_bin8 (op := .xor) (b := 1#8 <<< j) rfl rfl rfl rfl) ?_; go_frame)
      | (show wpList _ _ _ (⟨_, .store _ (.tmp 57) _, _, _, _, _⟩ :: _) _ _; (refine wpS_storeE1 sizeU8 (v := v20) (k := k) (hS.bring (by repeat (first | exact t0 | apply tS))) rfl rfl rfl (u := B8 (c ^^^ (1#8 <<< j))) rfl rfl rfl (by rw [bytes_len]; exact hkn) ?_); clear hS; intro w hS; rw [bytes_setB, HYS.out] at hS; go_frame)
      | (replace M4 := M4; go_at_call 37; (refine Ret.calls (HS4 (hS.bring (by repeat (first | exact t0 | apply tS)))) ?_); clear hS; rintro r w ⟨rfl, hS⟩; clear M4)
      | (show wpList _ _ _ (⟨some 64, .slice _ _ _ _ _, _, _, _, _⟩ :: _) _ _; refine wpList_val rfl (op_cut slBytes rfl rfl (hS.rd ha) (l := 1) (h := _) (Or.inr rfl) (Or.inl ⟨rfl, rfl⟩) (by rw [bytes_len]; omega) (Nat.le_refl _)) ?_; go_frame)
      | (go_at_call 37; refine Ret.calls (HS5 hS) ?_; clear hS; rintro r w ⟨rfl, hS⟩)
      )
    go_ret
    exact ⟨rfl, hS.chg⟩
end Go.Proofs.YtpdanieiafjmhaaDoor
