/- Lists of numbers in place: swapped, turned round, inserted, merged where one run is short. Conditions: those that stand ahead of each theorem. -/
import Derived.Test.YtieobcaegegboaaDoorGSo
import Derived.Test.YtieobcaegegboaaDoorGShaA
import Derived.Test.YtieobcaegegboaaDoorRetC
import Derived.Test.YtieobcaegegboaaDoorCell
import Derived.Test.YtieobcaegegboaaDoorKeys
import Derived.Test.YtieobcaegegboaaDoorU
import Derived.Test.YtieobcaegegboaaDoorDel
import Derived.Test.YtieobcaegegboaaDoorAny9
import Derived.ProofKit
import Derived.Test.YtieobcaegegboaaDoorGCalcB
namespace Go.Proofs.YtieobcaegegboaaDoor
open Go Go.RowKit Go.Px Go.Sha
theorem oneInt : One Tryd.prog 3 := One.of Tryd.underlying3 rfl (by kernel_rfl)
theorem oneBool : One Tryd.prog 4 := One.of Tryd.underlying4 rfl (by kernel_rfl)
theorem iInt : (Tryd.prog.info? 3).map (fun i => (i.zero, i.size, i.bytes)) = some (some (Value.int .i64 0), 1, 8) := by kernel_rfl
theorem slInt : SlTy Tryd.prog 46 3 1 8 where
  ty := by kernel_rfl
  info := by
    obtain ⟨i, h1, h2, h3, h4⟩ := info_parts iInt
    exact ⟨i, _, h1, h2, h3, by simp [Value.cells], h4, by simp [Value.cells]; rfl⟩
  pos := by omega
theorem eqT {z : Int} {j : Int} (h : z = j) : Hid ((z == j) = true) := by unfold Hid; simp [h]
theorem eqF {z : Int} {j : Int} (h : z ≠ j) : Hid ((z == j) = false) := by unfold Hid; simp [h]
theorem neT {z : Int} {j : Int} (h : z ≠ j) : Hid ((z != j) = true) := by unfold Hid; simp [h]
theorem neF {z : Int} {j : Int} (h : z = j) : Hid ((z != j) = false) := by unfold Hid; simp [h]
/-- numbers' cells -/
def ints (l : List Int) : List (List Value) := l.map fun z => [I64 z]
theorem ints_len (l : List Int) : (ints l).length = l.length := by simp [ints]
theorem ints_set (M : List Int) (i : Nat) (y : Int) : (ints M).set i [I64 y] = ints (M.set i y) := by
  unfold ints
  rw [List.map_set]
end Go.Proofs.YtieobcaegegboaaDoor
namespace Go.Proofs.YtieobcaegegboaaDoor
open Go Go.RowKit Go.Px Go.Sha
section
variable {R : Nat → Prop} {base w : World} {F : List Hp}
set_option maxRecDepth 100000 in
set_option maxHeartbeats 4000000 in
theorem swapR_s {v fn : Value} {M : List Int} {a b n : Nat} (hS : SepL R base w (.own 3 1 v (ints M) :: F)) (hab : a + n ≤ b) (hb : b + n ≤ M.length) (hl : M.length ≤ 1000000) :
    Calls Tryd.prog 71 #[v, I64 a, I64 b, I64 n, fn] w (Ret fun _ w' => ∃ N : List Int, N.Perm M ∧ (∀ i, lf N i = swapF (lf M) a b n i) ∧ SepL R base w' (.own 3 1 v (ints N) :: F)) := by
  go_enter Tryd.func71, Tryd.ntmps71
  go_wp2_with fail
  go_loopw [10] (fun iv wr => ∃ (k : Nat) (N : List Int), iv = .int .i64 k ∧ k ≤ n ∧ Hid (N.Perm M) ∧ Hid (∀ i, lf N i = swapF (lf M) a b k i) ∧ SepL R base wr (.own 3 1 v (ints N) :: F)) (fun iv _ => n - (intOf iv).toNat)
  case atStart => exact ⟨0, M, rfl, by omega, List.Perm.refl _, fun i => by rw [swapF_zero], hS⟩
  case round =>
    clear hS
    obtain ⟨k, N, rfl, hk, HP, HF, hS⟩ := hrel
    have hNl : N.length = M.length := HP.out.length_eq
    by_cases hlt : k < n
    · obtain ⟨i, hi⟩ : ∃ i, a + k = i := ⟨_, rfl⟩
      obtain ⟨j, hj⟩ : ∃ j, b + k = j := ⟨_, rfl⟩
      have HI : Hid ((a : Int) + (k : Int) = (i : Nat)) := by unfold Hid; omega
      have HJ : Hid ((b : Int) + (k : Int) = (j : Nat)) := by unfold Hid; omega
      have hiN : i < N.length := by omega
      have hjN : j < N.length := by omega
      have hiL : i < (ints N).length := by rw [ints_len]; exact hiN
      have hjL : j < (ints N).length := by rw [ints_len]; exact hjN
      have hi6 : i ≤ 1000000 := by omega
      have hj6 : j ≤ 1000000 := by omega
      obtain ⟨x, hx⟩ : ∃ x, N[i] = x := ⟨_, rfl⟩
      obtain ⟨y, hy⟩ : ∃ y, N[j] = y := ⟨_, rfl⟩
      have HX := hide hx
      have HY := hide hy
      have hsw : (N.set i y).set j x = swp N i j := by
        unfold swp
        rw [lf_get hiN, lf_get hjN, hx, hy]
      have HSW := hide hsw
      have HP2 : Hid ((swp N i j).Perm M) := (swp_perm hiN hjN).trans HP.out
      have HF2 : Hid (∀ q, lf (swp N i j) q = swapF (lf M) a b (k + 1) q) := by
        have h := swapF_next hNl HF.out (by omega) (by omega)
        rw [hi, hj] at h
        exact h
      have hjL2 : j < (ints (N.set i y)).length := by rw [ints_len, List.length_set]; exact hjN
      clear hi hj hx hy hsw
      go_wp2_with fail
      refine wp_region_text (by kernel_rfl) (by kernel_rfl) (by repeat (first | exact Clean.body | refine Clean.then ?_ | refine Clean.inBlock ?_)) ?_
      replace hS := hS.drew
      go_wp2_with (first
        | (show wpList _ _ _ (⟨some 19, .binOp _ _ _ _ _, _, _, _, _⟩ :: _) _ _; refine wpList_val rfl (op_iaddN rfl rfl rfl i HI.out (by omega)) ?_; go_frame)
        | (show wpList _ _ _ (⟨some 23, .binOp _ _ _ _ _, _, _, _, _⟩ :: _) _ _; refine wpList_val rfl (op_iaddN rfl rfl rfl j HJ.out (by omega)) ?_; go_frame)
        | (show wpList _ _ _ (⟨some 27, .binOp _ _ _ _ _, _, _, _, _⟩ :: _) _ _; refine wpList_val rfl (op_iaddN rfl rfl rfl j HJ.out (by omega)) ?_; go_frame)
        | (show wpList _ _ _ (⟨some 33, .binOp _ _ _ _ _, _, _, _, _⟩ :: _) _ _; refine wpList_val rfl (op_iaddN rfl rfl rfl i HI.out (by omega)) ?_; go_frame)
        | (show wpList _ _ _ (⟨some 28, .indexAddr _ _ _, _, _, _, _⟩ :: _) _ _; refine wpList_val rfl (op_indexAddr slInt rfl (v := v) rfl (k := j) rfl (by exact hS.getOwn.rd) hjL) ?_; go_frame)
        | (show wpList _ _ _ (⟨some 29, .load _ _, _, _, _, _⟩ :: _) _ _; refine wpList_val rfl (op_loadE1 oneInt rfl (v := v) rfl (f := I64) (by exact hS.getOwn.rd) hjN) ?_; rw [HY.out]; go_frame)
        | (show wpList _ _ _ (⟨some 34, .indexAddr _ _ _, _, _, _, _⟩ :: _) _ _; refine wpList_val rfl (op_indexAddr slInt rfl (v := v) rfl (k := i) rfl (by exact hS.getOwn.rd) hiL) ?_; go_frame)
        | (show wpList _ _ _ (⟨some 35, .load _ _, _, _, _, _⟩ :: _) _ _; refine wpList_val rfl (op_loadE1 oneInt rfl (v := v) rfl (f := I64) (by exact hS.getOwn.rd) hiN) ?_; rw [HX.out]; go_frame)
        | (show wpList _ _ _ (⟨some 36, .indexAddr _ _ _, _, _, _, _⟩ :: _) _ _; refine wpList_val rfl (op_indexAddr slInt rfl (v := v) rfl (k := i) rfl (by exact hS.getOwn.rd) hiL) ?_; go_frame)
        | (show wpList _ _ _ (⟨_, .store 3 (.tmp 36) _, _, _, _, _⟩ :: _) _ _; refine wpS_storeE1 (by kernel_rfl) hS rfl rfl (k := i) rfl (u := I64 y) rfl rfl rfl hiL ?_; clear hS; intro w hS; rw [ints_set] at hS; go_frame)
        | (show wpList _ _ _ (⟨some 37, .indexAddr _ _ _, _, _, _, _⟩ :: _) _ _; refine wpList_val rfl (op_indexAddr slInt rfl (v := v) rfl (k := j) rfl (by exact hS.getOwn.rd) hjL2) ?_; go_frame)
        | (show wpList _ _ _ (⟨_, .store 3 (.tmp 37) _, _, _, _, _⟩ :: _) _ _; refine wpS_storeE1 (by kernel_rfl) hS rfl rfl (k := j) rfl (u := I64 x) rfl rfl rfl hjL2 ?_; clear hS; intro w hS; rw [ints_set, HSW.out] at hS; go_frame)
        | (refine fin_mk (by kernel_rfl) ?_)
        )
      go_roundw
      case rel => exact ⟨k + 1, swp N i j, by go_num, by omega, HP2, HF2, hS⟩
      case measure => simp [intOf]; omega
    · have hk2 : k = n := by omega
      subst hk2
      go_wp2_with fail
      refine bodyPost_end (results_none rfl _ _ _) rfl ?_
      exact ⟨N, HP.out, HF.out, hS⟩
end
end Go.Proofs.YtieobcaegegboaaDoor
namespace Go.Proofs.YtieobcaegegboaaDoor
open Go Go.RowKit Go.Px Go.Sha
section
variable {R : Nat → Prop} {base w : World} {F : List Hp}
set_option maxRecDepth 100000 in
set_option maxHeartbeats 1000000 in
theorem rotate_s {v fn : Value} {M : List Int} {a m b : Nat} (hS : SepL R base w (.own 3 1 v (ints M) :: F)) (ham : a < m) (hmb : m < b) (hb : b ≤ M.length) (hl : M.length ≤ 1000000) :
    Calls Tryd.prog 68 #[v, I64 a, I64 m, I64 b, fn] w (Ret fun _ w' => ∃ N : List Int, N.Perm M ∧ (∀ i, lf N i = rotF (lf M) a m b i) ∧ SepL R base w' (.own 3 1 v (ints N) :: F)) := by
  obtain ⟨i0, hi0⟩ : ∃ i, m - a = i := ⟨_, rfl⟩
  obtain ⟨j0, hj0⟩ : ∃ j, b - m = j := ⟨_, rfl⟩
  have HI0 : Hid ((m : Int) - (a : Int) = (i0 : Nat)) := by unfold Hid; omega
  have HJ0 : Hid ((b : Int) - (m : Int) = (j0 : Nat)) := by unfold Hid; omega
  have e0 : rotF (lf M) (m - i0) m (m + j0) = rotF (lf M) a m b := by
    rw [show m - i0 = a by omega, show m + j0 = b by omega]
  have HE0 := hide e0
  have hi1 : 1 ≤ i0 := by omega
  have hi2 : i0 ≤ m := by omega
  have hj1 : 1 ≤ j0 := by omega
  have hj2 : m + j0 ≤ M.length := by omega
  clear e0
  go_enter Tryd.func68, Tryd.ntmps68
  go_wp2_with (first
    | (show wpList _ _ _ (⟨some 14, .binOp _ _ _ _ _, _, _, _, _⟩ :: _) _ _; refine wpList_val rfl (op_isubN rfl rfl rfl i0 HI0.out (by omega)) ?_; go_frame)
    | (show wpList _ _ _ (⟨some 17, .binOp _ _ _ _ _, _, _, _, _⟩ :: _) _ _; refine wpList_val rfl (op_isubN rfl rfl rfl j0 HJ0.out (by omega)) ?_; go_frame)
    )
  go_loopw [10, 11] (fun iv jv wr => ∃ (i j : Nat) (N : List Int), iv = .int .i64 i ∧ jv = .int .i64 j ∧ 1 ≤ i ∧ i ≤ m ∧ 1 ≤ j ∧ m + j ≤ M.length ∧ Hid (N.Perm M) ∧ Hid (rotF (lf N) (m - i) m (m + j) = rotF (lf M) a m b) ∧ SepL R base wr (.own 3 1 v (ints N) :: F)) (fun iv jv _ => (intOf iv).toNat + (intOf jv).toNat)
  case atStart => exact ⟨i0, j0, M, rfl, rfl, hi1, hi2, hj1, hj2, List.Perm.refl _, HE0, hS⟩
  case round =>
    clear hS
    obtain ⟨i, j, N, rfl, rfl, hi, him, hj, hjm, HP, HR, hS⟩ := hrel
    have hNl : N.length = M.length := HP.out.length_eq
    obtain ⟨p, hp⟩ : ∃ p, m - i = p := ⟨_, rfl⟩
    have HPI : Hid ((m : Int) - (i : Int) = (p : Nat)) := by unfold Hid; omega
    by_cases he : i = j
    · subst he
      have HNE := neF (Eq.refl (i : Int))
      have hend : ∀ k, swapF (lf N) p m i k = rotF (lf M) a m b k := fun k => by
        rw [← HR.out, ← hp]
        exact congrFun (rot_end him) k
      have HEND := hide hend
      clear hend
      go_wp2_with (first
        | (show wpList _ _ _ (⟨some 20, .binOp _ _ _ _ _, _, _, _, _⟩ :: _) _ _; refine wpList_val rfl (op_ineI rfl rfl rfl HNE.out) ?_; go_frame)
        | (show wpList _ _ _ (⟨some 53, .binOp _ _ _ _ _, _, _, _, _⟩ :: _) _ _; refine wpList_val rfl (op_isubN rfl rfl rfl p HPI.out (by omega)) ?_; go_frame)
        | (go_at_call 71; refine Ret.calls (swapR_s (M := N) (a := p) (b := m) (n := i) hS (by omega) (by omega) (by omega)) ?_; clear hS; rintro r1 w ⟨N2, hp2, hf2, hS⟩)
        )
      refine bodyPost_end (results_none rfl _ _ _) rfl ?_
      exact ⟨N2, hp2.trans HP.out, fun k => (hf2 k).trans (HEND.out k), hS⟩
    · have HNE := neT (show (i : Int) ≠ (j : Int) by omega)
      by_cases hgt : j < i
      · have HG : Hid (decide ((j : Int) < (i : Int)) = true) := decide_eq_true (by omega)
        obtain ⟨i2, hi2'⟩ : ∃ x, i - j = x := ⟨_, rfl⟩
        have HI2 : Hid ((i : Int) - (j : Int) = (i2 : Nat)) := by unfold Hid; omega
        have hrot : ∀ f : Nat → Int, f = swapF (lf N) p m j → rotF f (m - i2) m (m + j) = rotF (lf M) a m b := fun f h => by
          rw [h, ← HR.out, ← hp, ← hi2']
          exact rot_left him hgt
        have HROT := hide hrot
        clear hrot
        go_wp2_with (first
          | (show wpList _ _ _ (⟨some 20, .binOp _ _ _ _ _, _, _, _, _⟩ :: _) _ _; refine wpList_val rfl (op_ineI rfl rfl rfl HNE.out) ?_; go_frame)
          | (show wpList _ _ _ (⟨some 23, .binOp _ _ _ _ _, _, _, _, _⟩ :: _) _ _; refine wpList_val rfl (op_igtr rfl rfl rfl HG.out) ?_; go_frame)
          | (show wpList _ _ _ (⟨some 27, .binOp _ _ _ _ _, _, _, _, _⟩ :: _) _ _; refine wpList_val rfl (op_isubN rfl rfl rfl p HPI.out (by omega)) ?_; go_frame)
          | (go_at_call 71; refine Ret.calls (swapR_s (M := N) (a := p) (b := m) (n := j) hS (by omega) (by omega) (by omega)) ?_; clear hS; rintro r1 w ⟨N2, hp2, hf2, hS⟩)
          | (show wpList _ _ _ (⟨some 34, .binOp _ _ _ _ _, _, _, _, _⟩ :: _) _ _; refine wpList_val rfl (op_isubN rfl rfl rfl i2 HI2.out (by omega)) ?_; go_frame)
          )
        go_roundw
        case rel => exact ⟨i2, j, N2, rfl, rfl, by omega, by omega, hj, by omega, hp2.trans HP.out, HROT.out _ (funext hf2), hS⟩
        case measure => simp [intOf]; omega
      · have HG : Hid (decide ((j : Int) < (i : Int)) = false) := decide_eq_false (by omega)
        obtain ⟨j2, hj2'⟩ : ∃ x, j - i = x := ⟨_, rfl⟩
        have HJ2 : Hid ((j : Int) - (i : Int) = (j2 : Nat)) := by unfold Hid; omega
        obtain ⟨s, hs⟩ : ∃ x, m + j = x := ⟨_, rfl⟩
        have HSM : Hid ((m : Int) + (j : Int) = (s : Nat)) := by unfold Hid; omega
        obtain ⟨q, hq⟩ : ∃ x, s - i = x := ⟨_, rfl⟩
        have HQ : Hid ((s : Int) - (i : Int) = (q : Nat)) := by unfold Hid; omega
        have hrot : ∀ f : Nat → Int, f = swapF (lf N) p q i → rotF f (m - i) m (m + j2) = rotF (lf M) a m b := fun f h => by
          rw [h, ← HR.out, ← hj2', ← hq, ← hs, ← hp]
          exact rot_right him (by omega)
        have HROT := hide hrot
        clear hrot
        go_wp2_with (first
          | (show wpList _ _ _ (⟨some 20, .binOp _ _ _ _ _, _, _, _, _⟩ :: _) _ _; refine wpList_val rfl (op_ineI rfl rfl rfl HNE.out) ?_; go_frame)
          | (show wpList _ _ _ (⟨some 23, .binOp _ _ _ _ _, _, _, _, _⟩ :: _) _ _; refine wpList_val rfl (op_igtr rfl rfl rfl HG.out) ?_; go_frame)
          | (show wpList _ _ _ (⟨some 38, .binOp _ _ _ _ _, _, _, _, _⟩ :: _) _ _; refine wpList_val rfl (op_isubN rfl rfl rfl p HPI.out (by omega)) ?_; go_frame)
          | (show wpList _ _ _ (⟨some 41, .binOp _ _ _ _ _, _, _, _, _⟩ :: _) _ _; refine wpList_val rfl (op_iaddN rfl rfl rfl s HSM.out (by omega)) ?_; go_frame)
          | (show wpList _ _ _ (⟨some 43, .binOp _ _ _ _ _, _, _, _, _⟩ :: _) _ _; refine wpList_val rfl (op_isubN rfl rfl rfl q HQ.out (by omega)) ?_; go_frame)
          | (go_at_call 71; refine Ret.calls (swapR_s (M := N) (a := p) (b := q) (n := i) hS (by omega) (by omega) (by omega)) ?_; clear hS; rintro r1 w ⟨N2, hp2, hf2, hS⟩)
          | (show wpList _ _ _ (⟨some 49, .binOp _ _ _ _ _, _, _, _, _⟩ :: _) _ _; refine wpList_val rfl (op_isubN rfl rfl rfl j2 HJ2.out (by omega)) ?_; go_frame)
          )
        go_roundw
        case rel => exact ⟨i, j2, N2, rfl, rfl, hi, him, by omega, by omega, hp2.trans HP.out, HROT.out _ (funext hf2), hS⟩
        case measure => simp [intOf]; omega
end
end Go.Proofs.YtieobcaegegboaaDoor
namespace Go.Proofs.YtieobcaegegboaaDoor
open Go Go.RowKit Go.Px Go.Sha Go.Calc
def In64 (z : Int) : Prop := -9223372036854775808 ≤ z ∧ z ≤ 9223372036854775807
def WOk (a : Wt) : Prop := a.fee < 18446744073709551616 ∧ In64 a.size
def wtC (a : Wt) : List Value := [U a.fee, I64 a.size]
theorem aggWt : Agg Tryd.prog 53 2 := Agg.of Tryd.underlying53 rfl (by kernel_rfl)
theorem iWt : (Tryd.prog.info? 53).map (fun i => (i.zero, i.size, i.bytes)) = some (some (.agg #[Value.int .u64 0, .int .i64 0]), 2, 16) := by kernel_rfl
theorem slWt : SlTy Tryd.prog 44 53 2 16 where
  ty := by kernel_rfl
  info := by
    obtain ⟨i, h1, h2, h3, h4⟩ := info_parts iWt
    exact ⟨i, _, h1, h2, h3, by simp [Value.cells], h4, by simp [Value.cells, Value.oneCell']⟩
  pos := by omega
theorem oneWts : One Tryd.prog 44 := One.of Tryd.underlying44 rfl (by kernel_rfl)
theorem op_maxI {P : Program} {o : Oper} {w : World} {ρ : Operand → Value} {x y : Operand} {ts : Array TypeId} (ho : o.op = .call { callee := .builtin .max, args := #[x, y], argTypes := ts }) {k : IntKind} {a b : Int} (hx : ρ x = .int k a) (hy : ρ y = .int k b) (z : Int) (hz : max a b = z) : (execOp ρ o).run P w = .ok (.value (.int k z)) w := by
  have e : (if a < b then b else a) = z := by
    rw [← hz]
    split <;> omega
  unfold execOp
  simp [ho, hx, hy, resolve, invoke, builtin, run_max_int2]
  exact e
theorem cmpN_neg {p q : Nat} : cmpN p q < 0 ↔ p < q := by
  unfold cmpN
  split
  · rename_i h; exact ⟨fun _ => h, fun _ => by omega⟩
  · rename_i h
    split
    · exact ⟨fun h1 => by omega, fun h1 => absurd h1 h⟩
    · exact ⟨fun h1 => by omega, fun h1 => absurd h1 h⟩
theorem sz_lt {a : Wt} (h : In64 a.size) : sz a ≤ 9223372036854775807 := by
  have := h.2
  unfold sz
  omega
section
variable {R : Nat → Prop} {base w : World} {F : List Hp}
set_option maxRecDepth 100000 in
theorem size_s {a : Wt} (hS : SepL R base w F) (ha : In64 a.size) :
    Calls Tryd.prog 56 #[.agg #[U a.fee, I64 a.size]] w (Ret fun r w' => r = U (sz a) ∧ SepL R base w' F) := by
  have HSZ := hide (sz_lt ha)
  have HM : Hid (max a.size 1 = ((sz a : Nat) : Int)) := by
    unfold Hid sz
    omega
  obtain ⟨n, hn⟩ : ∃ n, sz a = n := ⟨_, rfl⟩
  rw [hn] at HM HSZ ⊢
  clear hn
  go_enter Tryd.func56, Tryd.ntmps56
  go_wp2_with (first
    | (show wpList _ _ _ (⟨some 1, .box _ _, _, _, _, _⟩ :: _) _ _; refine wpS_boxA (cs := [U a.fee, I64 a.size]) hS rfl rfl rfl ?_; clear hS; intro nb w hS; go_frame)
    | (show wpList _ _ _ (⟨some 4, .load _ _, _, _, _, _⟩ :: _) _ _; refine wpList_val rfl (op_load1S (b := nb) (T := 53) oneInt ((hS.bring (by repeat (first | exact t0 | apply tS)))) rfl rfl rfl) ?_; go_frame)
    | (show wpList _ _ _ (⟨some 5, .call _, _, _, _, _⟩ :: _) _ _; refine wpList_val rfl (op_maxI rfl rfl rfl _ HM.out) ?_; go_frame)
    | (show wpList _ _ _ (⟨some 6, .convert _ _ _, _, _, _, _⟩ :: _) _ _; refine wpList_val rfl (op_i64u64 undInt undU64 rfl rfl HSZ.out) ?_; go_frame)
    )
  go_ret
  exact ⟨rfl, hS.tail⟩
set_option maxRecDepth 100000 in
set_option maxHeartbeats 1000000 in
theorem compare_s {a b : Wt} (hS : SepL R base w F) (ha : WOk a) (hb : WOk b) :
    Calls Tryd.prog 39 #[.agg #[U a.fee, I64 a.size], .agg #[U b.fee, I64 b.size]] w (Ret fun r w' => r = .int .i64 (cmpN (a.fee * sz b) (b.fee * sz a)) ∧ SepL R base w' F) := by
  have HZA : Hid (sz a < 18446744073709551616) := by have := sz_lt ha.2; unfold Hid; omega
  have HZB : Hid (sz b < 18446744073709551616) := by have := sz_lt hb.2; unfold Hid; omega
  go_enter Tryd.func39, Tryd.ntmps39
  go_wp2_with (first
    | (show wpList _ _ _ (⟨some 2, .box _ _, _, _, _, _⟩ :: _) _ _; refine wpS_boxA (cs := [U a.fee, I64 a.size]) hS rfl rfl rfl ?_; clear hS; intro n2 w hS; go_frame)
    | (show wpList _ _ _ (⟨some 3, .box _ _, _, _, _, _⟩ :: _) _ _; refine wpS_boxA (cs := [U b.fee, I64 b.size]) hS rfl rfl rfl ?_; clear hS; intro n3 w hS; go_frame)
    )
  refine wp_region_ord (by kernel_rfl) [2, 3, 5, 9] [[0, 1, 2, 4, 5, 6, 3, 7, 8, 9]] (by kernel_rfl) (by kernel_rfl) (fun w' => Blk w' n2 53 [U a.fee, I64 a.size] ∧ Blk w' n3 53 [U b.fee, I64 b.size]) (Up.and Up.blk Up.blk) ⟨((hS.bring (by repeat (first | exact t0 | apply tS))).getBlk), ((hS.bring (by repeat (first | exact t0 | apply tS))).getBlk)⟩ (by repeat (first | exact Clean.body | refine Clean.then ?_ | refine Clean.inBlock ?_ | refine SegQ.clean ?_ | refine FinC.clean ?_)) ?_
  replace hS := hS.drew
  refine ord_seg (by repeat (first | exact Clean.body | refine Clean.then ?_ | refine Clean.inBlock ?_ | refine SegQ.clean ?_ | refine FinC.clean ?_)) (n := 3) (rest := [[7, 8, 9]]) [0, 1, 2, 4, 5, 6, 3] [⟨_, _, _, _, _, _⟩, ⟨_, _, _, _, _, _⟩, ⟨_, _, _, _, _, _⟩, ⟨_, _, _, _, _, _⟩, ⟨_, _, _, _, _, _⟩, ⟨_, _, _, _, _, _⟩, ⟨_, _, _, _, _, _⟩] rfl (by kernel_rfl) (by simp) _ _ ?_
  go_wp2_with (first
    | (show wpList _ _ _ (⟨some 6, .load _ _, _, _, _, _⟩ :: _) _ _; refine wpList_val rfl (op_load1S (b := n2) (T := 53) oneU ((hS.bring (by repeat (first | exact t0 | apply tS)))) rfl rfl rfl) ?_; go_frame)
    | (show wpList _ _ _ (⟨some 10, .load _ _, _, _, _, _⟩ :: _) _ _; refine wpList_val rfl (op_load1S (b := n3) (T := 53) oneU ((hS.bring (by repeat (first | exact t0 | apply tS)))) rfl rfl rfl) ?_; go_frame)
    | (show wpList _ _ _ (⟨some 7, .load _ _, _, _, _, _⟩ :: _) _ _; refine wpList_val rfl (op_load aggWt rfl rfl (SepL.getBlk (b := n3) (T := 53) ((hS.bring (by repeat (first | exact t0 | apply tS))))).cells rfl) ?_; go_frame)
    | (show wpList _ _ _ (⟨some 11, .load _ _, _, _, _, _⟩ :: _) _ _; refine wpList_val rfl (op_load aggWt rfl rfl (SepL.getBlk (b := n2) (T := 53) ((hS.bring (by repeat (first | exact t0 | apply tS))))).cells rfl) ?_; go_frame)
    | (go_at_call 56; refine Ret.calls (size_s (a := b) hS hb.2) ?_; clear hS; rintro r1 w ⟨rfl, hS⟩)
    )
  refine segQ_mk (⟨((hS.bring (by repeat (first | exact t0 | apply tS))).getBlk), ((hS.bring (by repeat (first | exact t0 | apply tS))).getBlk)⟩ : Blk _ n2 53 [U a.fee, I64 a.size] ∧ Blk _ n3 53 [U b.fee, I64 b.size]) ?_
  refine ord_seg (by repeat (first | exact Clean.body | refine Clean.then ?_ | refine Clean.inBlock ?_ | refine SegQ.clean ?_ | refine FinC.clean ?_)) (n := 2) (rest := [[8, 9]]) [7] [⟨_, _, _, _, _, _⟩] rfl (by kernel_rfl) (by simp) _ _ ?_
  go_wp2_with (first
    | (go_at_call 56; refine Ret.calls (size_s (a := a) hS ha.2) ?_; clear hS; rintro r1 w ⟨rfl, hS⟩)
    )
  refine segQ_mk (⟨((hS.bring (by repeat (first | exact t0 | apply tS))).getBlk), ((hS.bring (by repeat (first | exact t0 | apply tS))).getBlk)⟩ : Blk _ n2 53 [U a.fee, I64 a.size] ∧ Blk _ n3 53 [U b.fee, I64 b.size]) ?_
  refine ord_seg (by repeat (first | exact Clean.body | refine Clean.then ?_ | refine Clean.inBlock ?_ | refine SegQ.clean ?_ | refine FinC.clean ?_)) (n := 1) (rest := [[9]]) [8] [⟨_, _, _, _, _, _⟩] rfl (by kernel_rfl) (by simp) _ _ ?_
  go_wp2_with (first
    | (go_at_call 55; refine Ret.calls (cmp_any a.fee (sz b) b.fee (sz a) ha.1 HZB.out hb.1 HZA.out _) ?_; rintro r1 w' ⟨rfl, rfl⟩)
    )
  refine segQ_mk (⟨((hS.bring (by repeat (first | exact t0 | apply tS))).getBlk), ((hS.bring (by repeat (first | exact t0 | apply tS))).getBlk)⟩ : Blk _ n2 53 [U a.fee, I64 a.size] ∧ Blk _ n3 53 [U b.fee, I64 b.size]) ?_
  refine ord_seg (by repeat (first | exact Clean.body | refine Clean.then ?_ | refine Clean.inBlock ?_ | refine SegQ.clean ?_ | refine FinC.clean ?_)) (n := 0) (rest := [[]]) [9] [⟨_, _, _, _, _, _⟩] rfl (by kernel_rfl) (by simp) _ _ ?_
  go_wp2_with (first
    | (go_at_call 55; refine Ret.calls (cmp_any a.fee (sz b) b.fee (sz a) ha.1 HZB.out hb.1 HZA.out _) ?_; rintro r1 w' ⟨rfl, rfl⟩)
    )
  refine segQ_mk (⟨((hS.bring (by repeat (first | exact t0 | apply tS))).getBlk), ((hS.bring (by repeat (first | exact t0 | apply tS))).getBlk)⟩ : Blk _ n2 53 [U a.fee, I64 a.size] ∧ Blk _ n3 53 [U b.fee, I64 b.size]) ?_
  refine finC_mk (by kernel_rfl) (by
    intro t ht
    simp only [List.mem_cons, List.not_mem_nil, or_false] at ht
    rcases ht with rfl | rfl | rfl | rfl <;> first | exact stab_blk (b := n2) (fun w h => h.1) _ none | exact stab_blk (b := n3) (fun w h => h.2) _ none) ?_
  go_wp2_with fail
  go_ret
  exact ⟨rfl, hS.sel (by repeat (first | exact Sel.refl | refine Sel.take (by repeat (first | exact t0 | apply tS)) ?_ | apply Sel.drop))⟩
set_option maxRecDepth 100000 in
theorem less_s {a b : Wt} (hS : SepL R base w F) (ha : WOk a) (hb : WOk b) {r : Bool} (hr : Hid (decide (lessW a b) = r)) :
    Calls Tryd.prog 24 #[.agg #[U a.fee, I64 a.size], .agg #[U b.fee, I64 b.size]] w (Ret fun y w' => y = .bool r ∧ SepL R base w' F) := by
  have HL : Hid (decide (cmpN (a.fee * sz b) (b.fee * sz a) < 0) = r) := by
    rw [← hr.out]
    exact decide_eq_decide.2 cmpN_neg
  have HC : ∀ {w : World} {F : List Hp}, SepL R base w F → Calls Tryd.prog 39 #[.agg #[U a.fee, I64 a.size], .agg #[U b.fee, I64 b.size]] w (Ret fun r w' => r = .int .i64 (cmpN (a.fee * sz b) (b.fee * sz a)) ∧ SepL R base w' F) := fun hS => compare_s hS ha hb
  generalize cmpN (a.fee * sz b) (b.fee * sz a) = z at *
  go_enter Tryd.func24, Tryd.ntmps24
  go_wp2_with (first
    | (show wpList _ _ _ (⟨some 2, .box _ _, _, _, _, _⟩ :: _) _ _; refine wpS_boxA (cs := [U a.fee, I64 a.size]) hS rfl rfl rfl ?_; clear hS; intro n2 w hS; go_frame)
    | (show wpList _ _ _ (⟨some 3, .box _ _, _, _, _, _⟩ :: _) _ _; refine wpS_boxA (cs := [U b.fee, I64 b.size]) hS rfl rfl rfl ?_; clear hS; intro n3 w hS; go_frame)
    | (show wpList _ _ _ (⟨some 5, .load _ _, _, _, _, _⟩ :: _) _ _; refine wpList_val rfl (op_load aggWt rfl rfl (SepL.getBlk (b := n2) (T := 53) ((hS.bring (by repeat (first | exact t0 | apply tS))))).cells rfl) ?_; go_frame)
    | (show wpList _ _ _ (⟨some 6, .load _ _, _, _, _, _⟩ :: _) _ _; refine wpList_val rfl (op_load aggWt rfl rfl (SepL.getBlk (b := n3) (T := 53) ((hS.bring (by repeat (first | exact t0 | apply tS))))).cells rfl) ?_; go_frame)
    | (go_at_call 39; refine Ret.calls (HC hS) ?_; clear hS; rintro r1 w ⟨rfl, hS⟩)
    | (show wpList _ _ _ (⟨some 8, .binOp _ _ _ _ _, _, _, _, _⟩ :: _) _ _; refine wpList_val rfl (op_ilss rfl rfl rfl HL.out) ?_; go_frame)
    )
  go_ret
  exact ⟨rfl, hS.sel (by repeat (first | exact Sel.refl | refine Sel.take (by repeat (first | exact t0 | apply tS)) ?_ | apply Sel.drop))⟩
/-- what the order asks of two places -/
def fnC (c : Nat) : Value := .func (.func 38) #[] #[.pointer (some ⟨c, 0, none⟩)]
structure LIn (R : Nat → Prop) (base : World) (lv : Value) (l : List Wt) : Prop where
  rd : RdIn R base 2 lv (l.map wtC)
  ok : ∀ a ∈ l, WOk a
theorem wAt_get {l : List Wt} {x : Int} {k : Nat} (hx : x = k) (hk : k < l.length) : wAt l x = l[k] := by
  subst hx
  unfold wAt
  rw [Int.toNat_natCast, List.getElem?_eq_getElem hk]
  rfl
set_option maxRecDepth 100000 in
set_option maxHeartbeats 1000000 in
theorem cmp_c {c : Nat} {lv : Value} {l : List Wt} {x y : Int} (hS : SepL R base w (.blk c 44 [lv] :: F)) (hl : LIn R base lv l) (hx : 0 ≤ x ∧ x < l.length) (hy : 0 ≤ y ∧ y < l.length) :
    Calls Tryd.prog 38 #[I64 x, I64 y, .pointer (some ⟨c, 0, none⟩)] w (Ret fun r w' => (∃ z : Int, r = .int .i64 z ∧ (z < 0 ↔ lessW (wAt l y) (wAt l x))) ∧ SepL R base w' (.blk c 44 [lv] :: F)) := by
  obtain ⟨i, hi⟩ : ∃ i : Nat, x = i := ⟨x.toNat, by omega⟩
  obtain ⟨j, hj⟩ : ∃ j : Nat, y = j := ⟨y.toNat, by omega⟩
  have hil : i < l.length := by omega
  have hjl : j < l.length := by omega
  have hil2 : i < (l.map wtC).length := by rw [List.length_map]; exact hil
  have hjl2 : j < (l.map wtC).length := by rw [List.length_map]; exact hjl
  have ea := wAt_get hi hil
  have eb := wAt_get hj hjl
  have hoa := hl.ok _ (List.getElem_mem hil)
  have hob := hl.ok _ (List.getElem_mem hjl)
  obtain ⟨a, ha⟩ : ∃ a, l[i] = a := ⟨_, rfl⟩
  obtain ⟨b, hb⟩ : ∃ b, l[j] = b := ⟨_, rfl⟩
  rw [ha] at ea hoa
  rw [hb] at eb hob
  have HX : Hid ((l.map wtC)[i] = [U a.fee, I64 a.size]) := by
    unfold Hid
    rw [List.getElem_map, ha]
    rfl
  have HY : Hid ((l.map wtC)[j] = [U b.fee, I64 b.size]) := by
    unfold Hid
    rw [List.getElem_map, hb]
    rfl
  have HRL := hide hl.rd
  rw [ea, eb]
  have HC : ∀ {w : World} {F : List Hp}, SepL R base w F → Calls Tryd.prog 39 #[.agg #[U b.fee, I64 b.size], .agg #[U a.fee, I64 a.size]] w (Ret fun r w' => r = .int .i64 (cmpN (b.fee * sz a) (a.fee * sz b)) ∧ SepL R base w' F) := fun hS => compare_s hS hob hoa
  have HZ : Hid (cmpN (b.fee * sz a) (a.fee * sz b) < 0 ↔ lessW b a) := cmpN_neg
  generalize cmpN (b.fee * sz a) (a.fee * sz b) = z at *
  have hv1 := (hS.rd hl.rd).cells1
  have hv2 := (hS.rd hl.rd).one1
  subst hi
  subst hj
  clear ea eb ha hb hx hy hl hoa hob
  go_enter Tryd.func38, Tryd.ntmps38
  go_wp2_with fail
  refine wp_region_text (by kernel_rfl) (by kernel_rfl) (by repeat (first | exact Clean.body | refine Clean.then ?_ | refine Clean.inBlock ?_)) ?_
  replace hS := hS.drew
  go_wp2_with (first
    | (show wpList _ _ _ (⟨_, .load 44 _, _, _, _, _⟩ :: _) _ _; refine wpList_val rfl (op_load1S (b := c) (T := 44) oneWts ((hS.bring (by repeat (first | exact t0 | apply tS)))) rfl rfl rfl) ?_; go_frame)
    | (show wpList _ _ _ (⟨some 8, .indexAddr _ _ _, _, _, _, _⟩ :: _) _ _; refine wpList_val rfl (op_indexAddr slWt rfl (v := lv) (xs := l.map wtC) rfl (k := j) rfl (by exact hS.rd HRL.out) hjl2) ?_; go_frame)
    | (show wpList _ _ _ (⟨some 9, .load _ _, _, _, _, _⟩ :: _) _ _; refine wpList_val rfl (op_loadE aggWt rfl (v := lv) (xs := l.map wtC) (k := j) rfl (by exact hS.rd HRL.out) hjl2) ?_; rw [HY.out]; go_frame)
    | (show wpList _ _ _ (⟨some 12, .indexAddr _ _ _, _, _, _, _⟩ :: _) _ _; refine wpList_val rfl (op_indexAddr slWt rfl (v := lv) (xs := l.map wtC) rfl (k := i) rfl (by exact hS.rd HRL.out) hil2) ?_; go_frame)
    | (show wpList _ _ _ (⟨some 13, .load _ _, _, _, _, _⟩ :: _) _ _; refine wpList_val rfl (op_loadE aggWt rfl (v := lv) (xs := l.map wtC) (k := i) rfl (by exact hS.rd HRL.out) hil2) ?_; rw [HX.out]; go_frame)
    | (go_at_call 39; refine Ret.calls (HC hS) ?_; clear hS; rintro r1 w ⟨rfl, hS⟩)
    | (refine fin_mk (by kernel_rfl) ?_)
    )
  go_ret
  exact ⟨⟨z, rfl, HZ.out⟩, hS⟩
end
end Go.Proofs.YtieobcaegegboaaDoor
namespace Go.Proofs.YtieobcaegegboaaDoor
open Go Go.RowKit Go.Px Go.Sha Go.Calc
/-- the numbers are places of the weights -/
def Pl (l : List Wt) (M : List Int) : Prop := ∀ x ∈ M, 0 ≤ x ∧ x < l.length
theorem Pl.perm {l : List Wt} {M N : List Int} (h : Pl l M) (hp : N.Perm M) : Pl l N := fun x hx => h x (hp.mem_iff.1 hx)
theorem Pl.at {l : List Wt} {M : List Int} (h : Pl l M) {i : Nat} (hi : i < M.length) : 0 ≤ M[i] ∧ M[i] < l.length := h _ (List.getElem_mem hi)
section
variable {R : Nat → Prop} {base w : World} {F : List Hp}
set_option maxRecDepth 100000 in
set_option maxHeartbeats 4000000 in
theorem insertion_s {v lv : Value} {c : Nat} {l : List Wt} {M : List Int} {a b : Nat} (hS : SepL R base w (.own 3 1 v (ints M) :: .blk c 44 [lv] :: F)) (hl : LIn R base lv l) (hm : Pl l M) (hab : a ≤ b) (hb : b ≤ M.length) (hlen : M.length ≤ 1000000) (hs : ∀ p q, a ≤ p → p < q → q < b → lf M p < lf M q) :
    Calls Tryd.prog 61 #[v, I64 a, I64 b, fnC c] w (Ret fun _ w' => ∃ N : List Int, N.Perm M ∧ (∀ i, i < a ∨ b ≤ i → lf N i = lf M i) ∧ Srt (ltP l) (lf N) a b ∧ SepL R base w' (.own 3 1 v (ints N) :: .blk c 44 [lv] :: F)) := by
  obtain ⟨a1, ha1⟩ : ∃ x, a + 1 = x := ⟨_, rfl⟩
  have HA1 : Hid ((a : Int) + 1 = (a1 : Nat)) := by unfold Hid; omega
  have H0 : Hid (Srt (ltP l) (lf M) a a1 ∧ ∀ p q, a ≤ p → p < q → a1 ≤ q → q < b → lf M p < lf M q) := ⟨fun p q _ h2 h3 => by omega, fun p q h1 h2 _ h4 => hs p q h1 h2 h4⟩
  have ha1' : a1 ≤ b ∨ a1 = a + 1 := .inr ha1.symm
  have haa : a < a1 := by omega
  clear hs
  go_enter Tryd.func61, Tryd.ntmps61
  unfold fnC
  go_wp2_with (first
    | (show wpList _ _ _ (⟨some 11, .binOp _ _ _ _ _, _, _, _, _⟩ :: _) _ _; refine wpList_val rfl (op_iaddN rfl rfl rfl a1 HA1.out (by omega)) ?_; go_frame)
    )
  go_loopw [8] (fun iv wr => ∃ (i : Nat) (N : List Int), iv = .int .i64 i ∧ a < i ∧ (i ≤ b ∨ i = a + 1) ∧ Hid (N.Perm M) ∧ Hid (∀ k, k < a ∨ b ≤ k → lf N k = lf M k) ∧ Hid (Srt (ltP l) (lf N) a i ∧ ∀ p q, a ≤ p → p < q → i ≤ q → q < b → lf N p < lf N q) ∧ SepL R base wr (.own 3 1 v (ints N) :: .blk c 44 [lv] :: F)) (fun iv _ => b + 1 - (intOf iv).toNat)
  case atStart => exact ⟨a1, M, rfl, haa, ha1', List.Perm.refl _, fun _ _ => rfl, H0, hS⟩
  case round =>
    clear hS H0
    obtain ⟨i, N, rfl, hai, hib, HP, HO, HI, hS⟩ := hrel
    by_cases hlt : i < b
    · have HINS : Hid (Ins (ltP l) (lf N) a i i b) := Ins.start HI.out.1 HI.out.2 hlt
      clear HI
      go_wp2_with fail
      go_loopw [9] (fun jv wr => ∃ (j : Nat) (N : List Int), jv = .int .i64 j ∧ a ≤ j ∧ j ≤ i ∧ Hid (N.Perm M) ∧ Hid (∀ k, k < a ∨ b ≤ k → lf N k = lf M k) ∧ Hid (Ins (ltP l) (lf N) a j i b) ∧ SepL R base wr (.own 3 1 v (ints N) :: .blk c 44 [lv] :: F)) (fun jv _ => (intOf jv).toNat)
      case atStart => exact ⟨i, N, rfl, by omega, by omega, HP, HO, HINS, hS⟩
      case round =>
        clear hS HINS HP HO
        obtain ⟨j, N, rfl, haj, hji, HP, HO, HINS, hS⟩ := hrel
        have hNl : N.length = M.length := HP.out.length_eq
        by_cases hgt : a < j
        · have HGT : Hid (decide ((a : Int) < (j : Int)) = true) := decide_eq_true (by omega)
          obtain ⟨q, hq⟩ : ∃ q, j - 1 = q := ⟨_, rfl⟩
          have HQ : Hid ((j : Int) - 1 = (q : Nat)) := by unfold Hid; omega
          have hjN : j < N.length := by omega
          have hqN : q < N.length := by omega
          have hjL : j < (ints N).length := by rw [ints_len]; exact hjN
          have hqL : q < (ints N).length := by rw [ints_len]; exact hqN
          have hpx := (hm.perm HP.out).at hjN
          have hpy := (hm.perm HP.out).at hqN
          obtain ⟨x, hx⟩ : ∃ x, N[j] = x := ⟨_, rfl⟩
          obtain ⟨y, hy⟩ : ∃ y, N[q] = y := ⟨_, rfl⟩
          have HX := hide hx
          have HY := hide hy
          have hbig : y < x := by
            have h := HINS.out.big q (by omega) (by omega) (by omega)
            rw [lf_get hqN, lf_get hjN, hx, hy] at h
            exact h
          rw [hx] at hpx
          rw [hy] at hpy
          have hlt2 : ltP l x y ↔ lessW (wAt l y) (wAt l x) := ⟨fun h => h.elim id fun h => absurd h.2 (by omega), .inl⟩
          have ex : lf N j = x := by rw [lf_get hjN, hx]
          have ey : lf N q = y := by rw [lf_get hqN, hy]
          by_cases hless : lessW (wAt l y) (wAt l x)
          · have HLS : Hid (∀ z : Int, (z < 0 ↔ lessW (wAt l y) (wAt l x)) → decide (z < 0) = true) := fun z h => decide_eq_true (h.2 hless)
            have HI2 : Hid (Ins (ltP l) (lf (swp N j q)) a q i b) := by
              have h := HINS.out.step (g := lf (swp N j q)) hgt hji (by rw [hq, ex, ey]; exact hlt2.2 hless) (fun k => by rw [hq, lf_swp hjN hqN])
              rw [hq] at h
              exact h
            have HP2 : Hid ((swp N j q).Perm M) := (swp_perm hjN hqN).trans HP.out
            have HO2 : Hid (∀ k, k < a ∨ b ≤ k → lf (swp N j q) k = lf M k) := fun k hk => by
              rw [lf_swp hjN hqN, if_neg (by omega), if_neg (by omega)]
              exact HO.out k hk
            have hsw : (N.set j y).set q x = swp N j q := by
              unfold swp
              rw [lf_get hjN, lf_get hqN, hx, hy]
            have HSW := hide hsw
            have hqL2 : q < (ints (N.set j y)).length := by rw [ints_len, List.length_set]; exact hqN
            clear hx hy hsw hlt2 ex ey
            go_wp2_with fail
            refine wp_region_text (by kernel_rfl) (by kernel_rfl) (by repeat (first | exact Clean.body | refine Clean.then ?_ | refine Clean.inBlock ?_)) ?_
            replace hS := hS.drew
            go_wp2_with (first
              | (show wpList _ _ _ (⟨some 20, .binOp _ _ _ _ _, _, _, _, _⟩ :: _) _ _; refine wpList_val rfl (op_igtr rfl rfl rfl HGT.out) ?_; go_frame)
              | (show wpList _ _ _ (⟨some 29, .binOp _ _ _ _ _, _, _, _, _⟩ :: _) _ _; refine wpList_val rfl (op_isubN rfl rfl rfl q HQ.out (by omega)) ?_; go_frame)
              | (show wpList _ _ _ (⟨some 25, .indexAddr _ _ _, _, _, _, _⟩ :: _) _ _; refine wpList_val rfl (op_indexAddr slInt rfl (v := v) rfl (k := j) rfl (by exact hS.getOwn.rd) hjL) ?_; go_frame)
              | (show wpList _ _ _ (⟨some 26, .load _ _, _, _, _, _⟩ :: _) _ _; refine wpList_val rfl (op_loadE1 oneInt rfl (v := v) rfl (f := I64) (by exact hS.getOwn.rd) hjN) ?_; rw [HX.out]; go_frame)
              | (show wpList _ _ _ (⟨some 30, .indexAddr _ _ _, _, _, _, _⟩ :: _) _ _; refine wpList_val rfl (op_indexAddr slInt rfl (v := v) rfl (k := q) rfl (by exact hS.getOwn.rd) hqL) ?_; go_frame)
              | (show wpList _ _ _ (⟨some 31, .load _ _, _, _, _, _⟩ :: _) _ _; refine wpList_val rfl (op_loadE1 oneInt rfl (v := v) rfl (f := I64) (by exact hS.getOwn.rd) hqN) ?_; rw [HY.out]; go_frame)
              | (go_at_call 38; refine Ret.calls (cmp_c (c := c) (lv := lv) (l := l) (F := .own 3 1 v (ints N) :: F) (hS.sel (by repeat (first | exact Sel.refl | refine Sel.take (by repeat (first | exact t0 | apply tS)) ?_ | apply Sel.drop))) hl hpx hpy) ?_; clear hS; rintro r1 w ⟨⟨z, rfl, hz⟩, hS⟩; replace hS : SepL R base w (.own 3 1 v (ints N) :: .blk c 44 [lv] :: F) := hS.sel (by repeat (first | exact Sel.refl | refine Sel.take (by repeat (first | exact t0 | apply tS)) ?_ | apply Sel.drop)); have HZ := hide (HLS.out z hz); clear hz)
              | (show wpList _ _ _ (⟨some 33, .binOp _ _ _ _ _, _, _, _, _⟩ :: _) _ _; refine wpList_val rfl (op_ilss rfl rfl rfl HZ.out) ?_; go_frame)
              | (refine fin_mk (by kernel_rfl) ?_)
              )
            refine wp_region_text (by kernel_rfl) (by kernel_rfl) (by repeat (first | exact Clean.body | refine Clean.then ?_ | refine Clean.inBlock ?_)) ?_
            replace hS := hS.drew
            go_wp2_with (first
              | (show wpList _ _ _ (⟨some 41, .binOp _ _ _ _ _, _, _, _, _⟩ :: _) _ _; refine wpList_val rfl (op_isubN rfl rfl rfl q HQ.out (by omega)) ?_; go_frame)
              | (show wpList _ _ _ (⟨some 44, .binOp _ _ _ _ _, _, _, _, _⟩ :: _) _ _; refine wpList_val rfl (op_isubN rfl rfl rfl q HQ.out (by omega)) ?_; go_frame)
              | (show wpList _ _ _ (⟨some 45, .indexAddr _ _ _, _, _, _, _⟩ :: _) _ _; refine wpList_val rfl (op_indexAddr slInt rfl (v := v) rfl (k := q) rfl (by exact hS.getOwn.rd) hqL) ?_; go_frame)
              | (show wpList _ _ _ (⟨some 46, .load _ _, _, _, _, _⟩ :: _) _ _; refine wpList_val rfl (op_loadE1 oneInt rfl (v := v) rfl (f := I64) (by exact hS.getOwn.rd) hqN) ?_; rw [HY.out]; go_frame)
              | (show wpList _ _ _ (⟨some 49, .indexAddr _ _ _, _, _, _, _⟩ :: _) _ _; refine wpList_val rfl (op_indexAddr slInt rfl (v := v) rfl (k := j) rfl (by exact hS.getOwn.rd) hjL) ?_; go_frame)
              | (show wpList _ _ _ (⟨some 50, .load _ _, _, _, _, _⟩ :: _) _ _; refine wpList_val rfl (op_loadE1 oneInt rfl (v := v) rfl (f := I64) (by exact hS.getOwn.rd) hjN) ?_; rw [HX.out]; go_frame)
              | (show wpList _ _ _ (⟨some 51, .indexAddr _ _ _, _, _, _, _⟩ :: _) _ _; refine wpList_val rfl (op_indexAddr slInt rfl (v := v) rfl (k := j) rfl (by exact hS.getOwn.rd) hjL) ?_; go_frame)
              | (show wpList _ _ _ (⟨_, .store 3 (.tmp 51) _, _, _, _, _⟩ :: _) _ _; refine wpS_storeE1 (by kernel_rfl) hS rfl rfl (k := j) rfl (u := I64 y) rfl rfl rfl hjL ?_; clear hS; intro w hS; rw [ints_set] at hS; go_frame)
              | (show wpList _ _ _ (⟨some 52, .indexAddr _ _ _, _, _, _, _⟩ :: _) _ _; refine wpList_val rfl (op_indexAddr slInt rfl (v := v) rfl (k := q) rfl (by exact hS.getOwn.rd) hqL2) ?_; go_frame)
              | (show wpList _ _ _ (⟨_, .store 3 (.tmp 52) _, _, _, _, _⟩ :: _) _ _; refine wpS_storeE1 (by kernel_rfl) hS rfl rfl (k := q) rfl (u := I64 x) rfl rfl rfl hqL2 ?_; clear hS; intro w hS; rw [ints_set, HSW.out] at hS; go_frame)
              | (show wpList _ _ _ (⟨some 36, .binOp _ _ _ _ _, _, _, _, _⟩ :: _) _ _; refine wpList_val rfl (op_isubN rfl rfl rfl q HQ.out (by omega)) ?_; go_frame)
              | (refine fin_mk (by kernel_rfl) ?_)
              )
            go_roundw
            case rel => exact ⟨q, swp N j q, rfl, by omega, by omega, HP2, HO2, HI2, hS⟩
            case measure => simp [intOf]; omega
          · have HLS : Hid (∀ z : Int, (z < 0 ↔ lessW (wAt l y) (wAt l x)) → decide (z < 0) = false) := fun z h => decide_eq_false fun c => hless (h.1 c)
            have HD := hide (HINS.out.done (ltP_ok l) haj hji (.inr (by rw [hq, ex, ey]; exact fun h => hless (hlt2.1 h))))
            clear hx hy hlt2 ex ey
            go_wp2_with fail
            refine wp_region_text (by kernel_rfl) (by kernel_rfl) (by repeat (first | exact Clean.body | refine Clean.then ?_ | refine Clean.inBlock ?_)) ?_
            replace hS := hS.drew
            go_wp2_with (first
              | (show wpList _ _ _ (⟨some 20, .binOp _ _ _ _ _, _, _, _, _⟩ :: _) _ _; refine wpList_val rfl (op_igtr rfl rfl rfl HGT.out) ?_; go_frame)
              | (show wpList _ _ _ (⟨some 29, .binOp _ _ _ _ _, _, _, _, _⟩ :: _) _ _; refine wpList_val rfl (op_isubN rfl rfl rfl q HQ.out (by omega)) ?_; go_frame)
              | (show wpList _ _ _ (⟨some 25, .indexAddr _ _ _, _, _, _, _⟩ :: _) _ _; refine wpList_val rfl (op_indexAddr slInt rfl (v := v) rfl (k := j) rfl (by exact hS.getOwn.rd) hjL) ?_; go_frame)
              | (show wpList _ _ _ (⟨some 26, .load _ _, _, _, _, _⟩ :: _) _ _; refine wpList_val rfl (op_loadE1 oneInt rfl (v := v) rfl (f := I64) (by exact hS.getOwn.rd) hjN) ?_; rw [HX.out]; go_frame)
              | (show wpList _ _ _ (⟨some 30, .indexAddr _ _ _, _, _, _, _⟩ :: _) _ _; refine wpList_val rfl (op_indexAddr slInt rfl (v := v) rfl (k := q) rfl (by exact hS.getOwn.rd) hqL) ?_; go_frame)
              | (show wpList _ _ _ (⟨some 31, .load _ _, _, _, _, _⟩ :: _) _ _; refine wpList_val rfl (op_loadE1 oneInt rfl (v := v) rfl (f := I64) (by exact hS.getOwn.rd) hqN) ?_; rw [HY.out]; go_frame)
              | (go_at_call 38; refine Ret.calls (cmp_c (c := c) (lv := lv) (l := l) (F := .own 3 1 v (ints N) :: F) (hS.sel (by repeat (first | exact Sel.refl | refine Sel.take (by repeat (first | exact t0 | apply tS)) ?_ | apply Sel.drop))) hl hpx hpy) ?_; clear hS; rintro r1 w ⟨⟨z, rfl, hz⟩, hS⟩; replace hS : SepL R base w (.own 3 1 v (ints N) :: .blk c 44 [lv] :: F) := hS.sel (by repeat (first | exact Sel.refl | refine Sel.take (by repeat (first | exact t0 | apply tS)) ?_ | apply Sel.drop)); have HZ := hide (HLS.out z hz); clear hz)
              | (show wpList _ _ _ (⟨some 33, .binOp _ _ _ _ _, _, _, _, _⟩ :: _) _ _; refine wpList_val rfl (op_ilss rfl rfl rfl HZ.out) ?_; go_frame)
              | (refine fin_mk (by kernel_rfl) ?_)
              )
            go_roundw
            case rel => exact ⟨i + 1, N, by go_num, by omega, .inl hlt, HP, HO, HD, hS⟩
            case measure => simp [intOf]; omega
        · have HGT : Hid (decide ((a : Int) < (j : Int)) = false) := decide_eq_false (by omega)
          have HD := hide (HINS.out.done (ltP_ok l) haj hji (.inl (by omega)))
          go_wp2_with fail
          refine wp_region_text (by kernel_rfl) (by kernel_rfl) (by repeat (first | exact Clean.body | refine Clean.then ?_ | refine Clean.inBlock ?_)) ?_
          replace hS := hS.drew
          go_wp2_with (first
            | (show wpList _ _ _ (⟨some 20, .binOp _ _ _ _ _, _, _, _, _⟩ :: _) _ _; refine wpList_val rfl (op_igtr rfl rfl rfl HGT.out) ?_; go_frame)
            | (refine fin_mk (by kernel_rfl) ?_)
            )
          go_roundw
          case rel => exact ⟨i + 1, N, by go_num, by omega, .inl hlt, HP, HO, HD, hS⟩
          case measure => simp [intOf]; omega
    · have HD : Hid (Srt (ltP l) (lf N) a b) := fun p q h1 h2 h3 => HI.out.1 p q h1 h2 (by omega)
      go_wp2_with fail
      refine bodyPost_end (results_none rfl _ _ _) rfl ?_
      exact ⟨N, HP.out, HO.out, HD.out, hS⟩
end
end Go.Proofs.YtieobcaegegboaaDoor
namespace Go.Proofs.YtieobcaegegboaaDoor
open Go Go.RowKit Go.Px Go.Sha Go.Calc
theorem op_Uint {P : Program} {o : Oper} {w : World} {ρ : Operand → Value} {s d : TypeId} {sd : TypeDesc} (hs : P.underlying s = some sd) (hd : P.underlying d = some (.int .i64)) {x : Operand} (ho : o.op = .convert s d x) {n : Nat} (hx : ρ x = .int .u64 n) (h : n ≤ 9223372036854775807) : (execOp ρ o).run P w = .ok (.value (.int .i64 n)) w := by
  rw [op_convert hs hd ho hx]
  have e : IntKind.i64.wrap n = n := IntWalk.i64_in _ (by omega)
  rw [e]
theorem rotL_start (f : Nat → Int) (a : Nat) : rotF f a (a + 1) (a + 1) = f := by
  funext k
  unfold rotF
  rw [if_neg (by omega)]
  split
  · rw [Nat.sub_self, Nat.sub_zero]
  · rfl
theorem rotL_next {f : Nat → Int} {N : List Int} {a k : Nat} (h : ∀ i, lf N i = rotF f a (a + 1) (k + 1) i) (hak : a ≤ k) (hk : k + 1 < N.length) : ∀ i, lf (swp N k (k + 1)) i = rotF f a (a + 1) (k + 2) i := by
  intro i
  rw [lf_swp (by omega) hk]
  by_cases h1 : i = k + 1
  · rw [if_pos h1, h]
    unfold rotF
    rw [if_neg (by omega), if_pos (by omega), if_neg (by omega), if_pos (by omega)]
    congr 1
    omega
  · rw [if_neg h1]
    by_cases h2 : i = k
    · rw [if_pos h2, h]
      unfold rotF
      rw [if_neg (by omega), if_neg (by omega), if_pos (by omega)]
      congr 1
      omega
    · rw [if_neg h2, h]
      unfold rotF
      by_cases h3 : a ≤ i ∧ i < k
      · rw [if_pos (by omega), if_pos (by omega)]
      · rw [if_neg (by omega), if_neg (by omega), if_neg (by omega), if_neg (by omega)]
theorem rotR_start (f : Nat → Int) (m : Nat) : rotF f m m (m + 1) = f := by
  funext k
  unfold rotF
  split
  · rw [Nat.sub_self, Nat.add_zero]
  · rw [if_neg (by omega)]
theorem rotR_next {f : Nat → Int} {N : List Int} {m k q : Nat} (h : ∀ i, lf N i = rotF f k m (m + 1) i) (hq : q + 1 = k) (hk : k ≤ m) (hm : m < N.length) : ∀ i, lf (swp N k q) i = rotF f q m (m + 1) i := by
  intro i
  rw [lf_swp (by omega) (by omega)]
  by_cases h1 : i = q
  · rw [if_pos h1, h]
    unfold rotF
    rw [if_pos (by omega), if_pos (by omega)]
    congr 1
    omega
  · rw [if_neg h1]
    by_cases h2 : i = k
    · rw [if_pos h2, h]
      unfold rotF
      rw [if_neg (by omega), if_neg (by omega), if_neg (by omega), if_pos (by omega)]
      congr 1
      omega
    · rw [if_neg h2, h]
      unfold rotF
      by_cases h3 : k < i ∧ i < m + 1
      · rw [if_neg (by omega), if_pos (by omega), if_neg (by omega), if_pos (by omega)]
      · rw [if_neg (by omega), if_neg (by omega), if_neg (by omega), if_neg (by omega)]
theorem rotF_out {f : Nat → Int} {a m b : Nat} (ham : a ≤ m) (hmb : m ≤ b) {i : Nat} (h : i < a ∨ b ≤ i) : rotF f a m b i = f i := by
  unfold rotF
  rw [if_neg (by omega), if_neg (by omega)]
theorem ltP_lt {l : List Wt} {x y : Int} (h : y < x) : ltP l x y ↔ lessW (wAt l y) (wAt l x) := ⟨fun g => g.elim id fun g => absurd g.2 (by omega), .inl⟩
theorem ltP_no {l : List Wt} {x y : Int} (h : y < x) (hn : ¬ lessW (wAt l y) (wAt l x)) : ltP l y x := (ltP_ok l).no (by omega) fun g => hn ((ltP_lt h).1 g)
section
variable {R : Nat → Prop} {base w : World} {F : List Hp}
theorem cmpO {v lv : Value} {c : Nat} {l : List Wt} {N : List Int} {x y : Int} (hS : SepL R base w (.own 3 1 v (ints N) :: .blk c 44 [lv] :: F)) (hl : LIn R base lv l) (hx : 0 ≤ x ∧ x < l.length) (hy : 0 ≤ y ∧ y < l.length) {r : Bool} (hr : Hid (decide (lessW (wAt l y) (wAt l x)) = r)) :
    Calls Tryd.prog 38 #[I64 x, I64 y, .pointer (some ⟨c, 0, none⟩)] w (Ret fun r1 w' => (∃ z : Int, r1 = .int .i64 z ∧ Hid (decide (z < 0) = r)) ∧ SepL R base w' (.own 3 1 v (ints N) :: .blk c 44 [lv] :: F)) := by
  refine Calls.mono (cmp_c (F := .own 3 1 v (ints N) :: F) (hS.sel (by repeat (first | exact Sel.refl | refine Sel.take (by repeat (first | exact t0 | apply tS)) ?_ | apply Sel.drop))) hl hx hy) ?_
  intro e w' h
  cases e with
  | returned r1 =>
    obtain ⟨⟨z, h1, h2⟩, h3⟩ := h
    exact ⟨⟨z, h1, (decide_eq_decide.2 h2).trans hr.out⟩, h3.sel (by repeat (first | exact Sel.refl | refine Sel.take (by repeat (first | exact t0 | apply tS)) ?_ | apply Sel.drop))⟩
  | _ => exact h

set_option maxRecDepth 100000 in
set_option maxHeartbeats 4000000 in
theorem symOne_s {v lv : Value} {c : Nat} {l : List Wt} {M : List Int} {a b : Nat} (hS : SepL R base w (.own 3 1 v (ints M) :: .blk c 44 [lv] :: F)) (hl : LIn R base lv l) (hm : Pl l M) (hab : a + 1 ≤ b) (hb : b ≤ M.length) (hlen : M.length ≤ 1000000) (hr : Runs (ltP l) (lf M) a (a + 1) b) :
    Calls Tryd.prog 62 #[v, I64 a, I64 ((a + 1 : Nat) : Int), I64 b, fnC c] w (Ret fun _ w' => ∃ N : List Int, N.Perm M ∧ (∀ i, i < a ∨ b ≤ i → lf N i = lf M i) ∧ Srt (ltP l) (lf N) a b ∧ SepL R base w' (.own 3 1 v (ints N) :: .blk c 44 [lv] :: F)) := by
  obtain ⟨m, hm1⟩ : ∃ m, a + 1 = m := ⟨_, rfl⟩
  rw [hm1]
  obtain ⟨d, hd⟩ : ∃ d, m - a = d := ⟨_, rfl⟩
  have HM1 : Hid (((d : Int) == 1) = true) := eqT (by omega)
  have HSB : Hid ((m : Int) - (a : Int) = (d : Nat)) := by unfold Hid; omega
  have hd1 : d ≤ 1 := by omega
  clear hd
  have haN : a < M.length := by omega
  have haL : a < (ints M).length := by rw [ints_len]; exact haN
  have hpa := hm.at haN
  obtain ⟨y, hy⟩ : ∃ y, M[a] = y := ⟨_, rfl⟩
  have HY := hide hy
  rw [hy] at hpa
  have HFA : Hid (lf M a = y) := by unfold Hid; rw [lf_get haN, hy]
  have HRUN := hide hr
  clear hy hr
  go_enter Tryd.func62, Tryd.ntmps62
  unfold fnC
  go_wp2_with (first
    | (show wpList _ _ _ (⟨some 27, .binOp _ _ _ _ _, _, _, _, _⟩ :: _) _ _; refine wpList_val rfl (op_isubN rfl rfl rfl d HSB.out (by omega)) ?_; go_frame)
    | (show wpList _ _ _ (⟨some 28, .binOp _ _ _ _ _, _, _, _, _⟩ :: _) _ _; refine wpList_val rfl (op_eqI' rfl rfl rfl HM1.out) ?_; go_frame)
    )
  go_loopw [10, 11, 12] (fun iv jv _ wr => ∃ (i j : Nat), iv = .int .i64 i ∧ jv = .int .i64 j ∧ m ≤ i ∧ i ≤ j ∧ j ≤ b ∧ Hid (i = m ∨ ltP l (lf M (i - 1)) y) ∧ Hid (j = b ∨ ltP l y (lf M j)) ∧ SepL R base wr (.own 3 1 v (ints M) :: .blk c 44 [lv] :: F)) (fun iv jv _ _ => (intOf jv).toNat - (intOf iv).toNat)
  case atStart => exact ⟨m, b, rfl, rfl, by omega, by omega, by omega, .inl rfl, .inl rfl, hS⟩
  case round =>
    clear hS
    obtain ⟨i, j, rfl, rfl, hi, hij, hj, H1, H2, hS⟩ := hrel
    by_cases hlt : i < j
    · obtain ⟨s, hs⟩ : ∃ s, i + j = s := ⟨_, rfl⟩
      obtain ⟨h, hh⟩ : ∃ h, s / 2 = h := ⟨_, rfl⟩
      have HSUM : Hid ((i : Int) + (j : Int) = (s : Nat)) := by unfold Hid; omega
      have HH : Hid (s / 2 ^ 1 = h) := by unfold Hid; omega
      have hhN : h < M.length := by omega
      have hhL : h < (ints M).length := by rw [ints_len]; exact hhN
      have hih : i ≤ h := by omega
      have hhj : h < j := by omega
      have hs6 : s ≤ 2000000 := by omega
      have hpx := hm.at hhN
      obtain ⟨x, hx⟩ : ∃ x, M[h] = x := ⟨_, rfl⟩
      have HX := hide hx
      rw [hx] at hpx
      have HFH : Hid (lf M h = x) := by unfold Hid; rw [lf_get hhN, hx]
      have hyx : y < x := by
        have g := HRUN.out.x a h (by omega) (by omega) (by omega) (by omega)
        rwa [HFA.out, HFH.out] at g
      clear hx hs hh
      by_cases hless : lessW (wAt l y) (wAt l x)
      · have HR : Hid (decide (lessW (wAt l y) (wAt l x)) = true) := decide_eq_true hless
        have HN1 : Hid (h + 1 = m ∨ ltP l (lf M (h + 1 - 1)) y) := .inr (by rw [Nat.add_sub_cancel, HFH.out]; exact (ltP_lt hyx).2 hless)
        clear hless
        go_wp2_with (first
              | (show wpList _ _ _ (⟨some 36, .binOp _ _ _ _ _, _, _, _, _⟩ :: _) _ _; refine wpList_val rfl (op_iaddN rfl rfl rfl s HSUM.out (by omega)) ?_; go_frame)
              | (show wpList _ _ _ (⟨some 37, .convert _ _ _, _, _, _, _⟩ :: _) _ _; refine wpList_val rfl (op_i64u64 undInt undUint rfl rfl (by omega)) ?_; go_frame)
              | (show wpList _ _ _ (⟨some 38, .binOp _ _ _ _ _, _, _, _, _⟩ :: _) _ _; refine wpList_val rfl (opU_shrN (a := s) rfl rfl (c := 1) rfl (by omega) h HH.out) ?_; go_frame)
              | (show wpList _ _ _ (⟨some 39, .convert _ _ _, _, _, _, _⟩ :: _) _ _; refine wpList_val rfl (op_Uint undUint undInt rfl rfl (by omega)) ?_; go_frame)
              )
        refine wp_region_text (by kernel_rfl) (by kernel_rfl) (by repeat (first | exact Clean.body | refine Clean.then ?_ | refine Clean.inBlock ?_)) ?_
        replace hS := hS.drew
        go_wp2_with (first
              | (show wpList _ _ _ (⟨some 43, .indexAddr _ _ _, _, _, _, _⟩ :: _) _ _; refine wpList_val rfl (op_indexAddr slInt rfl (v := v) rfl (k := h) rfl (by exact hS.getOwn.rd) hhL) ?_; go_frame)
              | (show wpList _ _ _ (⟨some 44, .load _ _, _, _, _, _⟩ :: _) _ _; refine wpList_val rfl (op_loadE1 oneInt rfl (v := v) rfl (f := I64) (by exact hS.getOwn.rd) hhN) ?_; rw [HX.out]; go_frame)
              | (show wpList _ _ _ (⟨some 47, .indexAddr _ _ _, _, _, _, _⟩ :: _) _ _; refine wpList_val rfl (op_indexAddr slInt rfl (v := v) rfl (k := a) rfl (by exact hS.getOwn.rd) haL) ?_; go_frame)
              | (show wpList _ _ _ (⟨some 48, .load _ _, _, _, _, _⟩ :: _) _ _; refine wpList_val rfl (op_loadE1 oneInt rfl (v := v) rfl (f := I64) (by exact hS.getOwn.rd) haN) ?_; rw [HY.out]; go_frame)
              | (go_at_call 38; refine Ret.calls (cmpO hS hl hpx hpa HR) ?_; clear hS; rintro r1 w ⟨⟨z, rfl, HZ⟩, hS⟩)
              | (show wpList _ _ _ (⟨some 50, .binOp _ _ _ _ _, _, _, _, _⟩ :: _) _ _; refine wpList_val rfl (op_ilss rfl rfl rfl HZ.out) ?_; go_frame)
              | (refine fin_mk (by kernel_rfl) ?_)
              )
        go_roundw
        case rel => exact ⟨h + 1, j, by go_num, rfl, by omega, by omega, hj, HN1, H2, hS⟩
        case measure => simp [intOf]; omega
      · have HR : Hid (decide (lessW (wAt l y) (wAt l x)) = false) := decide_eq_false hless
        have HN2 : Hid (h = b ∨ ltP l y (lf M h)) := .inr (by rw [HFH.out]; exact ltP_no hyx hless)
        clear hless
        go_wp2_with (first
              | (show wpList _ _ _ (⟨some 36, .binOp _ _ _ _ _, _, _, _, _⟩ :: _) _ _; refine wpList_val rfl (op_iaddN rfl rfl rfl s HSUM.out (by omega)) ?_; go_frame)
              | (show wpList _ _ _ (⟨some 37, .convert _ _ _, _, _, _, _⟩ :: _) _ _; refine wpList_val rfl (op_i64u64 undInt undUint rfl rfl (by omega)) ?_; go_frame)
              | (show wpList _ _ _ (⟨some 38, .binOp _ _ _ _ _, _, _, _, _⟩ :: _) _ _; refine wpList_val rfl (opU_shrN (a := s) rfl rfl (c := 1) rfl (by omega) h HH.out) ?_; go_frame)
              | (show wpList _ _ _ (⟨some 39, .convert _ _ _, _, _, _, _⟩ :: _) _ _; refine wpList_val rfl (op_Uint undUint undInt rfl rfl (by omega)) ?_; go_frame)
              )
        refine wp_region_text (by kernel_rfl) (by kernel_rfl) (by repeat (first | exact Clean.body | refine Clean.then ?_ | refine Clean.inBlock ?_)) ?_
        replace hS := hS.drew
        go_wp2_with (first
              | (show wpList _ _ _ (⟨some 43, .indexAddr _ _ _, _, _, _, _⟩ :: _) _ _; refine wpList_val rfl (op_indexAddr slInt rfl (v := v) rfl (k := h) rfl (by exact hS.getOwn.rd) hhL) ?_; go_frame)
              | (show wpList _ _ _ (⟨some 44, .load _ _, _, _, _, _⟩ :: _) _ _; refine wpList_val rfl (op_loadE1 oneInt rfl (v := v) rfl (f := I64) (by exact hS.getOwn.rd) hhN) ?_; rw [HX.out]; go_frame)
              | (show wpList _ _ _ (⟨some 47, .indexAddr _ _ _, _, _, _, _⟩ :: _) _ _; refine wpList_val rfl (op_indexAddr slInt rfl (v := v) rfl (k := a) rfl (by exact hS.getOwn.rd) haL) ?_; go_frame)
              | (show wpList _ _ _ (⟨some 48, .load _ _, _, _, _, _⟩ :: _) _ _; refine wpList_val rfl (op_loadE1 oneInt rfl (v := v) rfl (f := I64) (by exact hS.getOwn.rd) haN) ?_; rw [HY.out]; go_frame)
              | (go_at_call 38; refine Ret.calls (cmpO hS hl hpx hpa HR) ?_; clear hS; rintro r1 w ⟨⟨z, rfl, HZ⟩, hS⟩)
              | (show wpList _ _ _ (⟨some 50, .binOp _ _ _ _ _, _, _, _, _⟩ :: _) _ _; refine wpList_val rfl (op_ilss rfl rfl rfl HZ.out) ?_; go_frame)
              | (refine fin_mk (by kernel_rfl) ?_)
              )
        go_roundw
        case rel => exact ⟨i, h, rfl, rfl, hi, hih, by omega, H1, HN2, hS⟩
        case measure => simp [intOf]; omega
    · have hij2 : i = j := by omega
      subst hij2
      have HSRT : Hid (Srt (ltP l) (rotF (lf M) a (a + 1) i) a b) := (HRUN.out).one_left (ltP_ok l) (by omega) hj (by rw [HFA.out, hm1]; exact H1.out) (by rw [HFA.out]; exact H2.out)
      obtain ⟨i1, hi1⟩ : ∃ i1, i - 1 = i1 := ⟨_, rfl⟩
      have HI1 : Hid ((i : Int) - 1 = (i1 : Nat)) := by unfold Hid; omega
      have hii : i = i1 + 1 := by omega
      have hai : a ≤ i1 := by omega
      have H0 : Hid (∀ p, lf M p = rotF (lf M) a (a + 1) (a + 1) p) := fun p => by rw [rotL_start]
      clear H1 H2 hi1
      go_wp2_with fail
      go_loopw [13] (fun kv wr => ∃ (k : Nat) (N : List Int), kv = .int .i64 k ∧ a ≤ k ∧ k ≤ i1 ∧ Hid (N.Perm M) ∧ Hid (∀ p, lf N p = rotF (lf M) a (a + 1) (k + 1) p) ∧ SepL R base wr (.own 3 1 v (ints N) :: .blk c 44 [lv] :: F)) (fun kv _ => i1 - (intOf kv).toNat)
      case atStart => exact ⟨a, M, rfl, by omega, by omega, List.Perm.refl _, H0, hS⟩
      case round =>
        clear hS H0
        obtain ⟨k, N, rfl, hak, hki, HP, HF, hS⟩ := hrel
        by_cases hlt2 : k < i1
        · obtain ⟨q, hq⟩ : ∃ q, k + 1 = q := ⟨_, rfl⟩
          have HQ : Hid ((k : Int) + 1 = (q : Nat)) := by unfold Hid; omega
          have hNl : N.length = M.length := HP.out.length_eq
          have hkN : k < N.length := by omega
          have hqN : q < N.length := by omega
          have hkL : k < (ints N).length := by rw [ints_len]; exact hkN
          have hqL : q < (ints N).length := by rw [ints_len]; exact hqN
          obtain ⟨x, hx⟩ : ∃ x, N[k] = x := ⟨_, rfl⟩
          obtain ⟨y, hy⟩ : ∃ y, N[q] = y := ⟨_, rfl⟩
          have HX := hide hx
          have HY := hide hy
          have hsw : (N.set k y).set q x = swp N k q := by
            unfold swp
            rw [lf_get hkN, lf_get hqN, hx, hy]
          have HSW := hide hsw
          have hqL2 : q < (ints (N.set k y)).length := by rw [ints_len, List.length_set]; exact hqN
          have HP2 : Hid ((swp N k q).Perm M) := (swp_perm hkN hqN).trans HP.out
          have HF2 : Hid (∀ p, lf (swp N k q) p = rotF (lf M) a (a + 1) (q + 1) p) := by
            have g := rotL_next HF.out hak (by omega)
            rw [hq, show k + 2 = q + 1 by omega] at g
            exact g
          have hq6 : q ≤ 1000000 := by omega
          have haq : a ≤ q := by omega
          have hqi : q ≤ i1 := by omega
          have hkq : k < q := by omega
          clear hq hx hy hsw
          go_wp2_with (first
            | (show wpList _ _ _ (⟨some 57, .binOp _ _ _ _ _, _, _, _, _⟩ :: _) _ _; refine wpList_val rfl (op_isubN rfl rfl rfl i1 HI1.out (by omega)) ?_; go_frame)
            )
          refine wp_region_text (by kernel_rfl) (by kernel_rfl) (by repeat (first | exact Clean.body | refine Clean.then ?_ | refine Clean.inBlock ?_)) ?_
          replace hS := hS.drew
          go_wp2_with (first
            | (show wpList _ _ _ (⟨some 65, .binOp _ _ _ _ _, _, _, _, _⟩ :: _) _ _; refine wpList_val rfl (op_iaddN rfl rfl rfl q HQ.out (by omega)) ?_; go_frame)
            | (show wpList _ _ _ (⟨some 69, .indexAddr _ _ _, _, _, _, _⟩ :: _) _ _; refine wpList_val rfl (op_indexAddr slInt rfl (v := v) rfl (k := q) rfl (by exact hS.getOwn.rd) hqL) ?_; go_frame)
            | (show wpList _ _ _ (⟨some 70, .load _ _, _, _, _, _⟩ :: _) _ _; refine wpList_val rfl (op_loadE1 oneInt rfl (v := v) rfl (f := I64) (by exact hS.getOwn.rd) hqN) ?_; rw [HY.out]; go_frame)
            | (show wpList _ _ _ (⟨some 73, .indexAddr _ _ _, _, _, _, _⟩ :: _) _ _; refine wpList_val rfl (op_indexAddr slInt rfl (v := v) rfl (k := k) rfl (by exact hS.getOwn.rd) hkL) ?_; go_frame)
            | (show wpList _ _ _ (⟨some 74, .load _ _, _, _, _, _⟩ :: _) _ _; refine wpList_val rfl (op_loadE1 oneInt rfl (v := v) rfl (f := I64) (by exact hS.getOwn.rd) hkN) ?_; rw [HX.out]; go_frame)
            | (show wpList _ _ _ (⟨some 75, .indexAddr _ _ _, _, _, _, _⟩ :: _) _ _; refine wpList_val rfl (op_indexAddr slInt rfl (v := v) rfl (k := k) rfl (by exact hS.getOwn.rd) hkL) ?_; go_frame)
            | (show wpList _ _ _ (⟨_, .store 3 (.tmp 75) _, _, _, _, _⟩ :: _) _ _; refine wpS_storeE1 (by kernel_rfl) hS rfl rfl (k := k) rfl (u := I64 y) rfl rfl rfl hkL ?_; clear hS; intro w hS; rw [ints_set] at hS; go_frame)
            | (show wpList _ _ _ (⟨some 76, .indexAddr _ _ _, _, _, _, _⟩ :: _) _ _; refine wpList_val rfl (op_indexAddr slInt rfl (v := v) rfl (k := q) rfl (by exact hS.getOwn.rd) hqL2) ?_; go_frame)
            | (show wpList _ _ _ (⟨_, .store 3 (.tmp 76) _, _, _, _, _⟩ :: _) _ _; refine wpS_storeE1 (by kernel_rfl) hS rfl rfl (k := q) rfl (u := I64 x) rfl rfl rfl hqL2 ?_; clear hS; intro w hS; rw [ints_set, HSW.out] at hS; go_frame)
            | (show wpList _ _ _ (⟨some 68, .binOp _ _ _ _ _, _, _, _, _⟩ :: _) _ _; refine wpList_val rfl (op_iaddN rfl rfl rfl q HQ.out (by omega)) ?_; go_frame)
            | (refine fin_mk (by kernel_rfl) ?_)
            )
          go_roundw
          case rel => exact ⟨q, swp N k q, by rw [← HQ.out], haq, hqi, HP2, HF2, hS⟩
          case measure => simp [intOf]; omega
        · have hk2 : k = i1 := by omega
          have HD : Hid (lf N = rotF (lf M) a (a + 1) i) := by
            unfold Hid
            rw [hii, ← hk2]
            exact funext HF.out
          go_wp2_with (first
            | (show wpList _ _ _ (⟨some 57, .binOp _ _ _ _ _, _, _, _, _⟩ :: _) _ _; refine wpList_val rfl (op_isubN rfl rfl rfl i1 HI1.out (by omega)) ?_; go_frame)
            )
          refine bodyPost_end (results_none rfl _ _ _) rfl ?_
          refine ⟨N, HP.out, fun p hp => ?_, ?_, hS⟩
          · rw [HD.out]
            exact rotF_out (by omega) (by omega) (by omega)
          · rw [HD.out]
            exact HSRT.out
end
end Go.Proofs.YtieobcaegegboaaDoor
namespace Go.Proofs.YtieobcaegegboaaDoor
open Go Go.RowKit Go.Px Go.Sha Go.Calc
section
variable {R : Nat → Prop} {base w : World} {F : List Hp}
set_option maxRecDepth 100000 in
set_option maxHeartbeats 4000000 in
theorem symTwo_s {v lv : Value} {c : Nat} {l : List Wt} {M : List Int} {a m : Nat} (hS : SepL R base w (.own 3 1 v (ints M) :: .blk c 44 [lv] :: F)) (hl : LIn R base lv l) (hm : Pl l M) (hne : m ≠ a + 1) (ham : a ≤ m) (hb : m < M.length) (hlen : M.length ≤ 1000000) (hr : Runs (ltP l) (lf M) a m (m + 1)) :
    Calls Tryd.prog 62 #[v, I64 a, I64 m, I64 ((m + 1 : Nat) : Int), fnC c] w (Ret fun _ w' => ∃ N : List Int, N.Perm M ∧ (∀ i, i < a ∨ m + 1 ≤ i → lf N i = lf M i) ∧ Srt (ltP l) (lf N) a (m + 1) ∧ SepL R base w' (.own 3 1 v (ints N) :: .blk c 44 [lv] :: F)) := by
  obtain ⟨b, hb1⟩ : ∃ b, m + 1 = b := ⟨_, rfl⟩
  rw [hb1]
  obtain ⟨d, hd⟩ : ∃ d, m - a = d := ⟨_, rfl⟩
  have HD1 : Hid (((d : Int) == 1) = false) := eqF (by omega)
  have HSD : Hid ((m : Int) - (a : Int) = (d : Nat)) := by unfold Hid; omega
  obtain ⟨e, he⟩ : ∃ e, b - m = e := ⟨_, rfl⟩
  have HE1 : Hid (((e : Int) == 1) = true) := eqT (by omega)
  have HSE : Hid ((b : Int) - (m : Int) = (e : Nat)) := by unfold Hid; omega
  have hd6 : d ≤ 1000000 := by omega
  have he6 : e ≤ 1000000 := by omega
  clear hd he
  have hmL : m < (ints M).length := by rw [ints_len]; exact hb
  have hpm := hm.at hb
  obtain ⟨x, hx⟩ : ∃ x, M[m] = x := ⟨_, rfl⟩
  have HX := hide hx
  rw [hx] at hpm
  have HFM : Hid (lf M m = x) := by unfold Hid; rw [lf_get hb, hx]
  have HRUN := hide hr
  clear hx hr hne
  go_enter Tryd.func62, Tryd.ntmps62
  unfold fnC
  go_wp2_with (first
    | (show wpList _ _ _ (⟨some 27, .binOp _ _ _ _ _, _, _, _, _⟩ :: _) _ _; refine wpList_val rfl (op_isubN rfl rfl rfl d HSD.out (by omega)) ?_; go_frame)
    | (show wpList _ _ _ (⟨some 28, .binOp _ _ _ _ _, _, _, _, _⟩ :: _) _ _; refine wpList_val rfl (op_eqI' rfl rfl rfl HD1.out) ?_; go_frame)
    | (show wpList _ _ _ (⟨some 79, .binOp _ _ _ _ _, _, _, _, _⟩ :: _) _ _; refine wpList_val rfl (op_isubN rfl rfl rfl e HSE.out (by omega)) ?_; go_frame)
    | (show wpList _ _ _ (⟨some 80, .binOp _ _ _ _ _, _, _, _, _⟩ :: _) _ _; refine wpList_val rfl (op_eqI' rfl rfl rfl HE1.out) ?_; go_frame)
    )
  go_loopw [14, 15, 16] (fun iv jv _ wr => ∃ (i j : Nat), iv = .int .i64 i ∧ jv = .int .i64 j ∧ a ≤ i ∧ i ≤ j ∧ j ≤ m ∧ Hid (i = a ∨ ltP l (lf M (i - 1)) x) ∧ Hid (j = m ∨ ltP l x (lf M j)) ∧ SepL R base wr (.own 3 1 v (ints M) :: .blk c 44 [lv] :: F)) (fun iv jv _ _ => (intOf jv).toNat - (intOf iv).toNat)
  case atStart => exact ⟨a, m, rfl, rfl, by omega, by omega, by omega, .inl rfl, .inl rfl, hS⟩
  case round =>
    clear hS
    obtain ⟨i, j, rfl, rfl, hi, hij, hj, H1, H2, hS⟩ := hrel
    by_cases hlt : i < j
    · obtain ⟨s, hs⟩ : ∃ s, i + j = s := ⟨_, rfl⟩
      obtain ⟨h, hh⟩ : ∃ h, s / 2 = h := ⟨_, rfl⟩
      have HSUM : Hid ((i : Int) + (j : Int) = (s : Nat)) := by unfold Hid; omega
      have HH : Hid (s / 2 ^ 1 = h) := by unfold Hid; omega
      have hhN : h < M.length := by omega
      have hhL : h < (ints M).length := by rw [ints_len]; exact hhN
      have hih : i ≤ h := by omega
      have hhj : h < j := by omega
      have hs6 : s ≤ 2000000 := by omega
      have hph := hm.at hhN
      obtain ⟨y, hy⟩ : ∃ y, M[h] = y := ⟨_, rfl⟩
      have HY := hide hy
      rw [hy] at hph
      have HFH : Hid (lf M h = y) := by unfold Hid; rw [lf_get hhN, hy]
      have hyx : y < x := by
        have g := HRUN.out.x h m (by omega) (by omega) (by omega) (by omega)
        rwa [HFM.out, HFH.out] at g
      clear hy hs hh
      by_cases hless : lessW (wAt l y) (wAt l x)
      · have HR : Hid (decide (lessW (wAt l y) (wAt l x)) = true) := decide_eq_true hless
        have HN2 : Hid (h = m ∨ ltP l x (lf M h)) := .inr (by rw [HFH.out]; exact (ltP_lt hyx).2 hless)
        clear hless
        go_wp2_with (first
              | (show wpList _ _ _ (⟨some 88, .binOp _ _ _ _ _, _, _, _, _⟩ :: _) _ _; refine wpList_val rfl (op_iaddN rfl rfl rfl s HSUM.out (by omega)) ?_; go_frame)
              | (show wpList _ _ _ (⟨some 89, .convert _ _ _, _, _, _, _⟩ :: _) _ _; refine wpList_val rfl (op_i64u64 undInt undUint rfl rfl (by omega)) ?_; go_frame)
              | (show wpList _ _ _ (⟨some 90, .binOp _ _ _ _ _, _, _, _, _⟩ :: _) _ _; refine wpList_val rfl (opU_shrN (a := s) rfl rfl (c := 1) rfl (by omega) h HH.out) ?_; go_frame)
              | (show wpList _ _ _ (⟨some 91, .convert _ _ _, _, _, _, _⟩ :: _) _ _; refine wpList_val rfl (op_Uint undUint undInt rfl rfl (by omega)) ?_; go_frame)
              )
        refine wp_region_text (by kernel_rfl) (by kernel_rfl) (by repeat (first | exact Clean.body | refine Clean.then ?_ | refine Clean.inBlock ?_)) ?_
        replace hS := hS.drew
        go_wp2_with (first
              | (show wpList _ _ _ (⟨some 95, .indexAddr _ _ _, _, _, _, _⟩ :: _) _ _; refine wpList_val rfl (op_indexAddr slInt rfl (v := v) rfl (k := m) rfl (by exact hS.getOwn.rd) hmL) ?_; go_frame)
              | (show wpList _ _ _ (⟨some 96, .load _ _, _, _, _, _⟩ :: _) _ _; refine wpList_val rfl (op_loadE1 oneInt rfl (v := v) rfl (f := I64) (by exact hS.getOwn.rd) hb) ?_; rw [HX.out]; go_frame)
              | (show wpList _ _ _ (⟨some 99, .indexAddr _ _ _, _, _, _, _⟩ :: _) _ _; refine wpList_val rfl (op_indexAddr slInt rfl (v := v) rfl (k := h) rfl (by exact hS.getOwn.rd) hhL) ?_; go_frame)
              | (show wpList _ _ _ (⟨some 100, .load _ _, _, _, _, _⟩ :: _) _ _; refine wpList_val rfl (op_loadE1 oneInt rfl (v := v) rfl (f := I64) (by exact hS.getOwn.rd) hhN) ?_; rw [HY.out]; go_frame)
              | (go_at_call 38; refine Ret.calls (cmpO hS hl hpm hph HR) ?_; clear hS; rintro r1 w ⟨⟨z, rfl, HZ⟩, hS⟩)
              | (show wpList _ _ _ (⟨some 102, .binOp _ _ _ _ _, _, _, _, _⟩ :: _) _ _; refine wpList_val rfl (op_ilss rfl rfl rfl HZ.out) ?_; go_frame)
              | (refine fin_mk (by kernel_rfl) ?_)
              )
        go_roundw
        case rel => exact ⟨i, h, rfl, rfl, hi, hih, by omega, H1, HN2, hS⟩
        case measure => simp [intOf]; omega
      · have HR : Hid (decide (lessW (wAt l y) (wAt l x)) = false) := decide_eq_false hless
        have HN1 : Hid (h + 1 = a ∨ ltP l (lf M (h + 1 - 1)) x) := .inr (by rw [Nat.add_sub_cancel, HFH.out]; exact ltP_no hyx hless)
        clear hless
        go_wp2_with (first
              | (show wpList _ _ _ (⟨some 88, .binOp _ _ _ _ _, _, _, _, _⟩ :: _) _ _; refine wpList_val rfl (op_iaddN rfl rfl rfl s HSUM.out (by omega)) ?_; go_frame)
              | (show wpList _ _ _ (⟨some 89, .convert _ _ _, _, _, _, _⟩ :: _) _ _; refine wpList_val rfl (op_i64u64 undInt undUint rfl rfl (by omega)) ?_; go_frame)
              | (show wpList _ _ _ (⟨some 90, .binOp _ _ _ _ _, _, _, _, _⟩ :: _) _ _; refine wpList_val rfl (opU_shrN (a := s) rfl rfl (c := 1) rfl (by omega) h HH.out) ?_; go_frame)
              | (show wpList _ _ _ (⟨some 91, .convert _ _ _, _, _, _, _⟩ :: _) _ _; refine wpList_val rfl (op_Uint undUint undInt rfl rfl (by omega)) ?_; go_frame)
              )
        refine wp_region_text (by kernel_rfl) (by kernel_rfl) (by repeat (first | exact Clean.body | refine Clean.then ?_ | refine Clean.inBlock ?_)) ?_
        replace hS := hS.drew
        go_wp2_with (first
              | (show wpList _ _ _ (⟨some 95, .indexAddr _ _ _, _, _, _, _⟩ :: _) _ _; refine wpList_val rfl (op_indexAddr slInt rfl (v := v) rfl (k := m) rfl (by exact hS.getOwn.rd) hmL) ?_; go_frame)
              | (show wpList _ _ _ (⟨some 96, .load _ _, _, _, _, _⟩ :: _) _ _; refine wpList_val rfl (op_loadE1 oneInt rfl (v := v) rfl (f := I64) (by exact hS.getOwn.rd) hb) ?_; rw [HX.out]; go_frame)
              | (show wpList _ _ _ (⟨some 99, .indexAddr _ _ _, _, _, _, _⟩ :: _) _ _; refine wpList_val rfl (op_indexAddr slInt rfl (v := v) rfl (k := h) rfl (by exact hS.getOwn.rd) hhL) ?_; go_frame)
              | (show wpList _ _ _ (⟨some 100, .load _ _, _, _, _, _⟩ :: _) _ _; refine wpList_val rfl (op_loadE1 oneInt rfl (v := v) rfl (f := I64) (by exact hS.getOwn.rd) hhN) ?_; rw [HY.out]; go_frame)
              | (go_at_call 38; refine Ret.calls (cmpO hS hl hpm hph HR) ?_; clear hS; rintro r1 w ⟨⟨z, rfl, HZ⟩, hS⟩)
              | (show wpList _ _ _ (⟨some 102, .binOp _ _ _ _ _, _, _, _, _⟩ :: _) _ _; refine wpList_val rfl (op_ilss rfl rfl rfl HZ.out) ?_; go_frame)
              | (refine fin_mk (by kernel_rfl) ?_)
              )
        go_roundw
        case rel => exact ⟨h + 1, j, by go_num, rfl, by omega, by omega, hj, HN1, H2, hS⟩
        case measure => simp [intOf]; omega
    · have hij2 : i = j := by omega
      subst hij2
      have HSRT : Hid (Srt (ltP l) (rotF (lf M) i m (m + 1)) a (m + 1)) := HRUN.out.one_right (ltP_ok l) hi hj (by rw [HFM.out]; exact H1.out) (by rw [HFM.out]; exact H2.out)
      have H0 : Hid (∀ p, lf M p = rotF (lf M) m m (m + 1) p) := fun p => by rw [rotR_start]
      clear H1 H2
      go_wp2_with fail
      go_loopw [17] (fun kv wr => ∃ (k : Nat) (N : List Int), kv = .int .i64 k ∧ i ≤ k ∧ k ≤ m ∧ Hid (N.Perm M) ∧ Hid (∀ p, lf N p = rotF (lf M) k m (m + 1) p) ∧ SepL R base wr (.own 3 1 v (ints N) :: .blk c 44 [lv] :: F)) (fun kv _ => (intOf kv).toNat)
      case atStart => exact ⟨m, M, rfl, by omega, by omega, List.Perm.refl _, H0, hS⟩
      case round =>
        clear hS H0
        obtain ⟨k, N, rfl, hik, hkm, HP, HF, hS⟩ := hrel
        by_cases hlt2 : i < k
        · obtain ⟨q, hq⟩ : ∃ q, k - 1 = q := ⟨_, rfl⟩
          have HQ : Hid ((k : Int) - 1 = (q : Nat)) := by unfold Hid; omega
          have HG : Hid (decide ((i : Int) < (k : Int)) = true) := decide_eq_true (by omega)
          have hNl : N.length = M.length := HP.out.length_eq
          have hkN : k < N.length := by omega
          have hqN : q < N.length := by omega
          have hkL : k < (ints N).length := by rw [ints_len]; exact hkN
          have hqL : q < (ints N).length := by rw [ints_len]; exact hqN
          obtain ⟨x, hx⟩ : ∃ x, N[k] = x := ⟨_, rfl⟩
          obtain ⟨y, hy⟩ : ∃ y, N[q] = y := ⟨_, rfl⟩
          have HX := hide hx
          have HY := hide hy
          have hsw : (N.set k y).set q x = swp N k q := by
            unfold swp
            rw [lf_get hkN, lf_get hqN, hx, hy]
          have HSW := hide hsw
          have hqL2 : q < (ints (N.set k y)).length := by rw [ints_len, List.length_set]; exact hqN
          have HP2 : Hid ((swp N k q).Perm M) := (swp_perm hkN hqN).trans HP.out
          have HF2 : Hid (∀ p, lf (swp N k q) p = rotF (lf M) q m (m + 1) p) := rotR_next HF.out (by omega) hkm (by omega)
          have hq6 : q ≤ 1000000 := by omega
          have hiq : i ≤ q := by omega
          have hqm : q ≤ m := by omega
          have hkq : q < k := by omega
          clear hq hx hy hsw
          go_wp2_with (first
            | (show wpList _ _ _ (⟨some 110, .binOp _ _ _ _ _, _, _, _, _⟩ :: _) _ _; refine wpList_val rfl (op_igtr rfl rfl rfl HG.out) ?_; go_frame)
            )
          refine wp_region_text (by kernel_rfl) (by kernel_rfl) (by repeat (first | exact Clean.body | refine Clean.then ?_ | refine Clean.inBlock ?_)) ?_
          replace hS := hS.drew
          go_wp2_with (first
            | (show wpList _ _ _ (⟨some 117, .binOp _ _ _ _ _, _, _, _, _⟩ :: _) _ _; refine wpList_val rfl (op_isubN rfl rfl rfl q HQ.out (by omega)) ?_; go_frame)
            | (show wpList _ _ _ (⟨some 121, .indexAddr _ _ _, _, _, _, _⟩ :: _) _ _; refine wpList_val rfl (op_indexAddr slInt rfl (v := v) rfl (k := q) rfl (by exact hS.getOwn.rd) hqL) ?_; go_frame)
            | (show wpList _ _ _ (⟨some 122, .load _ _, _, _, _, _⟩ :: _) _ _; refine wpList_val rfl (op_loadE1 oneInt rfl (v := v) rfl (f := I64) (by exact hS.getOwn.rd) hqN) ?_; rw [HY.out]; go_frame)
            | (show wpList _ _ _ (⟨some 125, .indexAddr _ _ _, _, _, _, _⟩ :: _) _ _; refine wpList_val rfl (op_indexAddr slInt rfl (v := v) rfl (k := k) rfl (by exact hS.getOwn.rd) hkL) ?_; go_frame)
            | (show wpList _ _ _ (⟨some 126, .load _ _, _, _, _, _⟩ :: _) _ _; refine wpList_val rfl (op_loadE1 oneInt rfl (v := v) rfl (f := I64) (by exact hS.getOwn.rd) hkN) ?_; rw [HX.out]; go_frame)
            | (show wpList _ _ _ (⟨some 127, .indexAddr _ _ _, _, _, _, _⟩ :: _) _ _; refine wpList_val rfl (op_indexAddr slInt rfl (v := v) rfl (k := k) rfl (by exact hS.getOwn.rd) hkL) ?_; go_frame)
            | (show wpList _ _ _ (⟨_, .store 3 (.tmp 127) _, _, _, _, _⟩ :: _) _ _; refine wpS_storeE1 (by kernel_rfl) hS rfl rfl (k := k) rfl (u := I64 y) rfl rfl rfl hkL ?_; clear hS; intro w hS; rw [ints_set] at hS; go_frame)
            | (show wpList _ _ _ (⟨some 128, .indexAddr _ _ _, _, _, _, _⟩ :: _) _ _; refine wpList_val rfl (op_indexAddr slInt rfl (v := v) rfl (k := q) rfl (by exact hS.getOwn.rd) hqL2) ?_; go_frame)
            | (show wpList _ _ _ (⟨_, .store 3 (.tmp 128) _, _, _, _, _⟩ :: _) _ _; refine wpS_storeE1 (by kernel_rfl) hS rfl rfl (k := q) rfl (u := I64 x) rfl rfl rfl hqL2 ?_; clear hS; intro w hS; rw [ints_set, HSW.out] at hS; go_frame)
            | (show wpList _ _ _ (⟨some 120, .binOp _ _ _ _ _, _, _, _, _⟩ :: _) _ _; refine wpList_val rfl (op_isubN rfl rfl rfl q HQ.out (by omega)) ?_; go_frame)
            | (show wpList _ _ _ (⟨some 112, .binOp _ _ _ _ _, _, _, _, _⟩ :: _) _ _; refine wpList_val rfl (op_isubN rfl rfl rfl q HQ.out (by omega)) ?_; go_frame)
            | (refine fin_mk (by kernel_rfl) ?_)
            )
          go_roundw
          case rel => exact ⟨q, swp N k q, rfl, hiq, hqm, HP2, HF2, hS⟩
          case measure => simp [intOf]; omega
        · have hk2 : k = i := by omega
          have HG : Hid (decide ((i : Int) < (k : Int)) = false) := decide_eq_false (by omega)
          have HD : Hid (lf N = rotF (lf M) i m (m + 1)) := by
            unfold Hid
            rw [← hk2]
            exact funext HF.out
          go_wp2_with (first
            | (show wpList _ _ _ (⟨some 110, .binOp _ _ _ _ _, _, _, _, _⟩ :: _) _ _; refine wpList_val rfl (op_igtr rfl rfl rfl HG.out) ?_; go_frame)
            )
          refine bodyPost_end (results_none rfl _ _ _) rfl ?_
          refine ⟨N, HP.out, fun p hp => ?_, ?_, hS⟩
          · rw [HD.out]
            exact rotF_out (by omega) (by omega) (by omega)
          · rw [HD.out, ← hb1]
            exact HSRT.out
end
end Go.Proofs.YtieobcaegegboaaDoor
