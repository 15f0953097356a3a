/- The document's router. Conditions: those that stand ahead of each theorem. -/
import Derived.Test.YtlplgobkidpgkaaDoorGRtB
import Derived.Test.YtlplgobkidpgkaaDoorGRtC
import Derived.Test.YtlplgobkidpgkaaDoorGMacR
namespace Go.Proofs.YtlplgobkidpgkaaDoor
open Go Go.RowKit Go.Px Go.Sha
set_option maxRecDepth 100000 in
set_option maxHeartbeats 1000000 in
theorem hasI (v : Value) (l : List Int) (x : Int) (w : World) (hv : Rd 1 w v (l.map fun z => [I64 z])) {b : Bool} (hb : Hid (decide (x ∈ l) = b)) :
    Calls Tryd.prog 51 #[v, I64 x] w (Ret fun r w' => r = .bool b ∧ w' = w) := by
  have HL : Hid ((l.map fun z => [I64 z]).length = l.length) := by simp [Hid]
  have hmax : l.length ≤ maxLen := by
    have := hv.len
    rwa [HL.out] at this
  unfold maxLen at hmax
  go_enter Tryd.func51, Tryd.ntmps51
  go_wp2_with (first
    | (show wpList _ _ _ (⟨_, .call ⟨.builtin .len, _, _⟩, _, _, _, _⟩ :: _) _ _; refine wpList_val rfl (op_len slInt rfl rfl (v := v) rfl (by exact hv)) ?_; rw [HL.out]; go_frame)
    | (show wpList _ _ _ (⟨_, .indexAddr 34 _ _, _, _, _, _⟩ :: _) _ _; refine wpList_val rfl (op_indexAddr slInt rfl (v := v) rfl (k := k) rfl (by exact hv) hlt') ?_; go_frame)
    | (show wpList _ _ _ (⟨_, .load 3 _, _, _, _, _⟩ :: _) _ _; refine wpList_val rfl (op_loadE1 oneInt rfl (v := v) rfl (f := I64) (by exact hv) hlt) ?_; rw [HX.out]; go_frame)
    | (show wpList _ _ _ (⟨some 15, .binOp _ _ _ _ _, _, _, _, _⟩ :: _) _ _; refine wpList_val rfl (op_eqI' rfl rfl rfl HE.out) ?_; go_frame)
    )
  go_loop [9] (fun i => ∃ k : Nat, i = .int .i64 k ∧ k ≤ l.length ∧ x ∉ l.take k) (fun i => l.length - (intOf i).toNat)
  case atStart => exact ⟨0, rfl, by omega, by simp⟩
  case round =>
    obtain ⟨k, rfl, hk, hno⟩ := hrel
    by_cases hlt : k < l.length
    · have hlt' : k < (l.map fun z => [I64 z]).length := by simpa using hlt
      obtain ⟨y, hy⟩ : ∃ y, l[k] = y := ⟨_, rfl⟩
      have HX := hide hy
      have hn : l.take (k + 1) = l.take k ++ [y] := by rw [List.take_succ_eq_append_getElem hlt, hy]
      have hin : y ∈ l := by rw [← hy]; exact List.getElem_mem hlt
      clear hy
      by_cases he : x = y
      · have HE := eqT he
        have HR : Hid (b = true) := by
          unfold Hid
          rw [← hb.out, decide_eq_true_eq, he]
          exact hin
        clear hn hin he hno
        go_wp2_with (first
          | (show wpList _ _ _ (⟨_, .call ⟨.builtin .len, _, _⟩, _, _, _, _⟩ :: _) _ _; refine wpList_val rfl (op_len slInt rfl rfl (v := v) rfl (by exact hv)) ?_; rw [HL.out]; go_frame)
          | (show wpList _ _ _ (⟨_, .indexAddr 34 _ _, _, _, _, _⟩ :: _) _ _; refine wpList_val rfl (op_indexAddr slInt rfl (v := v) rfl (k := k) rfl (by exact hv) hlt') ?_; go_frame)
          | (show wpList _ _ _ (⟨_, .load 3 _, _, _, _, _⟩ :: _) _ _; refine wpList_val rfl (op_loadE1 oneInt rfl (v := v) rfl (f := I64) (by exact hv) hlt) ?_; rw [HX.out]; go_frame)
          | (show wpList _ _ _ (⟨some 15, .binOp _ _ _ _ _, _, _, _, _⟩ :: _) _ _; refine wpList_val rfl (op_eqI' rfl rfl rfl HE.out) ?_; go_frame)
          )
        go_ret
        exact ⟨by rw [HR.out]; rfl, rfl⟩
      · have HE := eqF he
        have hno' : x ∉ l.take (k + 1) := by
          rw [hn]
          simp [hno, he]
        clear hn hin he hno
        go_wp2_with (first
          | (show wpList _ _ _ (⟨_, .call ⟨.builtin .len, _, _⟩, _, _, _, _⟩ :: _) _ _; refine wpList_val rfl (op_len slInt rfl rfl (v := v) rfl (by exact hv)) ?_; rw [HL.out]; go_frame)
          | (show wpList _ _ _ (⟨_, .indexAddr 34 _ _, _, _, _, _⟩ :: _) _ _; refine wpList_val rfl (op_indexAddr slInt rfl (v := v) rfl (k := k) rfl (by exact hv) hlt') ?_; go_frame)
          | (show wpList _ _ _ (⟨_, .load 3 _, _, _, _, _⟩ :: _) _ _; refine wpList_val rfl (op_loadE1 oneInt rfl (v := v) rfl (f := I64) (by exact hv) hlt) ?_; rw [HX.out]; go_frame)
          | (show wpList _ _ _ (⟨some 15, .binOp _ _ _ _ _, _, _, _, _⟩ :: _) _ _; refine wpList_val rfl (op_eqI' rfl rfl rfl HE.out) ?_; go_frame)
          )
        go_round
        case rel => exact ⟨k + 1, by go_num, by omega, hno'⟩
        case measure => simp [intOf]; omega
    · have hk2 : k = l.length := by omega
      subst hk2
      rw [List.take_length] at hno
      have HR : Hid (b = false) := by
        unfold Hid
        rw [← hb.out]
        exact decide_eq_false hno
      clear hno
      go_wp2_with fail
      go_ret
      exact ⟨by rw [HR.out]; rfl, rfl⟩
set_option maxRecDepth 100000 in
theorem source_s (s : Int) (w : World) {b : Bool} (hb : isSrc s = b) : Calls Tryd.prog 45 #[I64 s] w (Ret fun r w' => r = .bool b ∧ w' = w) := by
  unfold isSrc at hb
  by_cases h1 : 0 ≤ s
  · have H1 : Hid (decide (0 ≤ s) = true) := decide_eq_true h1
    rw [decide_eq_true h1, Bool.true_and] at hb
    have H2 := hide hb
    clear h1 hb
    go_enter Tryd.func45, Tryd.ntmps45
    go_wp2_with (first
      | go_big_skip
      | (show wpList _ _ _ (⟨some 4, .binOp _ _ _ _ _, _, _, _, _⟩ :: _) _ _; refine wpList_val rfl (op_igeq rfl rfl rfl H1.out) ?_; go_frame)
      | (show wpList _ _ _ (⟨some 7, .binOp _ _ _ _ _, _, _, _, _⟩ :: _) _ _; refine wpList_val rfl (op_ileq rfl rfl rfl H2.out) ?_; go_frame)
      )
    go_ret
    exact ⟨rfl, rfl⟩
  · have H1 : Hid (decide (0 ≤ s) = false) := decide_eq_false h1
    rw [decide_eq_false h1, Bool.false_and] at hb
    subst hb
    clear h1
    go_enter Tryd.func45, Tryd.ntmps45
    go_wp2_with (first
      | go_big_skip
      | (show wpList _ _ _ (⟨some 4, .binOp _ _ _ _ _, _, _, _, _⟩ :: _) _ _; refine wpList_val rfl (op_igeq rfl rfl rfl H1.out) ?_; go_frame)
      )
    go_ret
    exact ⟨rfl, rfl⟩
set_option maxRecDepth 100000 in
set_option maxHeartbeats 1000000 in
theorem pick_rs (v : Value) (l : List Int) {d : Nat} (w : World) (hv : Rd 1 w v (l.map fun z => [I64 z])) (hd : d < 65536) :
    Calls Tryd.prog 43 #[v, .int .u16 d] w (Ret fun y w' => y = I64 (pickI l d) ∧ w' = w) := by
  have HL : Hid ((l.map fun z => [I64 z]).length = l.length) := by simp [Hid]
  by_cases hm : l.length = 0
  · have HZ : Hid ((((l.length : Nat) : Int) == 0) = true) := eqT (by omega)
    have HR : Hid (pickI l d = -1) := by
      unfold Hid pickI
      rw [if_pos (List.length_eq_zero_iff.1 hm)]
    clear hm
    go_enter Tryd.func43, Tryd.ntmps43
    go_wp2_with (first
      | (show wpList _ _ _ (⟨some 6, .call _, _, _, _, _⟩ :: _) _ _; refine wpList_val rfl (op_len slInt rfl rfl (v := v) rfl (by exact hv)) ?_; rw [HL.out]; go_frame)
      | (show wpList _ _ _ (⟨some 7, .binOp _ _ _ _ _, _, _, _, _⟩ :: _) _ _; refine wpList_val rfl (op_eqI' rfl rfl rfl HZ.out) ?_; go_frame)
      )
    go_ret
    exact ⟨by rw [HR.out]; rfl, rfl⟩
  · have HZ : Hid ((((l.length : Nat) : Int) == 0) = false) := eqF (by omega)
    have hlt2 : d % l.length < l.length := Nat.mod_lt _ (by omega)
    have hP := pickI_at hlt2
    obtain ⟨j, hj⟩ : ∃ j, d % l.length = j := ⟨_, rfl⟩
    have HJ := hide hj
    have hjm : j < l.length := by rw [← hj]; exact hlt2
    have hjm' : j < (l.map fun z => [I64 z]).length := by simpa using hjm
    obtain ⟨y, hy⟩ : ∃ y, l[j] = y := ⟨_, rfl⟩
    have HX := hide hy
    have HR : Hid (pickI l d = y) := by
      unfold Hid
      rw [hP]
      simp only [hj, hy]
    have hm0 : 0 < l.length := by omega
    clear hm hlt2 hP hj hy
    go_enter Tryd.func43, Tryd.ntmps43
    go_wp2_with (first
      | (show wpList _ _ _ (⟨_, .call ⟨.builtin .len, _, _⟩, _, _, _, _⟩ :: _) _ _; refine wpList_val rfl (op_len slInt rfl rfl (v := v) rfl (by exact hv)) ?_; rw [HL.out]; go_frame)
      | (show wpList _ _ _ (⟨some 7, .binOp _ _ _ _ _, _, _, _, _⟩ :: _) _ _; refine wpList_val rfl (op_eqI' rfl rfl rfl HZ.out) ?_; go_frame)
      | (show wpList _ _ _ (⟨some 10, .convert _ _ _, _, _, _, _⟩ :: _) _ _; refine wpList_val rfl (op_16toInt undU16 undInt rfl (n := d) rfl hd) ?_; go_frame)
      | (show wpList _ _ _ (⟨some 13, .binOp _ _ _ _ _, _, _, _, _⟩ :: _) _ _; refine wpList_val rfl (op_iremN rfl (a := d) (b := l.length) rfl rfl hm0) ?_; rw [HJ.out]; go_frame)
      | (show wpList _ _ _ (⟨some 14, .indexAddr _ _ _, _, _, _, _⟩ :: _) _ _; refine wpList_val rfl (op_indexAddr slInt rfl (v := v) rfl (k := j) rfl (by exact hv) hjm') ?_; go_frame)
      | (show wpList _ _ _ (⟨some 15, .load _ _, _, _, _, _⟩ :: _) _ _; refine wpList_val rfl (op_loadE1 oneInt rfl (v := v) rfl (f := I64) (by exact hv) hjm) ?_; rw [HX.out]; go_frame)
      )
    go_ret
    exact ⟨by rw [HR.out]; rfl, rfl⟩
section
variable {R : Nat → Prop} {base w : World} {F : List Hp}
set_option maxRecDepth 100000 in
set_option maxHeartbeats 2000000 in
theorem counted_s {v vb : Value} {peers but : List Int} (hS : SepL R base w F) (hv : RdIn R base 1 v (peers.map fun z => [I64 z])) (hb : RdIn R base 1 vb (but.map fun z => [I64 z])) (hlen : peers.length ≤ 1000000) :
    Calls Tryd.prog 44 #[v, vb] w (Ret fun y w' => SepL R base w' (.own 3 1 y ((cntP peers but).map fun z => [I64 z]) :: F)) := by
  have HL : Hid ((peers.map fun z => [I64 z]).length = peers.length) := by simp [Hid]
  replace hS := hS.nilOwn 3 1
  go_enter Tryd.func44, Tryd.ntmps44
  go_wp2_with (first
    | (show wpList _ _ _ (⟨some 9, .call _, _, _, _, _⟩ :: _) _ _; refine wpList_val rfl (op_len slInt rfl rfl (v := v) rfl (by exact hS.rd hv)) ?_; rw [HL.out]; go_frame)
    )
  go_loopw [5, 10] (fun lv i wr => ∃ (k : Nat) (m : List Int), i = .int .i64 k ∧ k ≤ peers.length ∧ Hid (cnt but [] (peers.take k) = m) ∧ SepL R base wr (.own 3 1 lv (m.map fun z => [I64 z]) :: F)) (fun _ i _ => peers.length - (intOf i).toNat)
  case atStart => exact ⟨0, [], rfl, by omega, rfl, hS⟩
  case round =>
    clear hS
    obtain ⟨k, m, rfl, hk, HM, hS⟩ := hrel
    have hml : m.length ≤ k := by
      have h1 := cnt_le (but := but) (peers.take k) []
      rw [HM.out, List.length_nil, List.length_take] at h1
      omega
    by_cases hlt : k < peers.length
    · have hlt' : k < (peers.map fun z => [I64 z]).length := by simpa using hlt
      obtain ⟨y, hy⟩ : ∃ y, peers[k] = y := ⟨_, rfl⟩
      have HX := hide hy
      have hsn : cnt but [] (peers.take (k + 1)) = if 0 ≤ y ∧ y ∉ m ∧ y ∉ but then m ++ [y] else m := by
        rw [List.take_succ_eq_append_getElem hlt, hy, cnt_snoc, HM.out]
      clear hy
      by_cases h1 : 0 ≤ y
      · have HG : Hid (decide (0 ≤ y) = true) := decide_eq_true h1
        by_cases h3 : y ∈ m
        · have HC : Hid (decide (y ∈ m) = true) := decide_eq_true h3
          have HS : Hid (cnt but [] (peers.take (k + 1)) = m) := by
            unfold Hid
            rw [hsn, if_neg (by rintro ⟨_, h, _⟩; exact h h3)]
          clear hsn h1 h3
          go_wp2_with (first
            | go_big_skip
            | (show wpList _ _ _ (⟨some 12, .indexAddr _ _ _, _, _, _, _⟩ :: _) _ _; refine wpList_val rfl (op_indexAddr slInt rfl (v := v) rfl (k := k) rfl (by exact hS.rd hv) hlt') ?_; go_frame)
            | (show wpList _ _ _ (⟨some 13, .load _ _, _, _, _, _⟩ :: _) _ _; refine wpList_val rfl (op_loadE1 oneInt rfl (v := v) rfl (f := I64) (by exact hS.rd hv) hlt) ?_; rw [HX.out]; go_frame)
            | (show wpList _ _ _ (⟨some 15, .binOp _ _ _ _ _, _, _, _, _⟩ :: _) _ _; refine wpList_val rfl (op_igeq rfl rfl rfl HG.out) ?_; go_frame)
            | (go_at_call 51; (first | (with_reducible refine Ret.calls (hasI u5 m y _ ((hS.bring (by repeat (first | exact t0 | apply tS))).getOwn.rd) HC) ?_) | (with_reducible refine Ret.calls (hasI vb but y _ (hS.rd hb) HN) ?_)); rintro r w' ⟨rfl, rfl⟩)
            )
          go_roundw
          case rel => exact ⟨k + 1, m, by go_num, by omega, HS, hS⟩
          case measure => simp [intOf]; omega
        · have HC : Hid (decide (y ∈ m) = false) := decide_eq_false h3
          by_cases h2 : y ∈ but
          · have HN : Hid (decide (y ∈ but) = true) := decide_eq_true h2
            have HS : Hid (cnt but [] (peers.take (k + 1)) = m) := by
              unfold Hid
              rw [hsn, if_neg (by rintro ⟨_, _, h⟩; exact h h2)]
            clear hsn h1 h2 h3
            go_wp2_with (first
              | go_big_skip
              | (show wpList _ _ _ (⟨some 12, .indexAddr _ _ _, _, _, _, _⟩ :: _) _ _; refine wpList_val rfl (op_indexAddr slInt rfl (v := v) rfl (k := k) rfl (by exact hS.rd hv) hlt') ?_; go_frame)
              | (show wpList _ _ _ (⟨some 13, .load _ _, _, _, _, _⟩ :: _) _ _; refine wpList_val rfl (op_loadE1 oneInt rfl (v := v) rfl (f := I64) (by exact hS.rd hv) hlt) ?_; rw [HX.out]; go_frame)
              | (show wpList _ _ _ (⟨some 15, .binOp _ _ _ _ _, _, _, _, _⟩ :: _) _ _; refine wpList_val rfl (op_igeq rfl rfl rfl HG.out) ?_; go_frame)
              | (go_at_call 51; (first | (with_reducible refine Ret.calls (hasI u5 m y _ ((hS.bring (by repeat (first | exact t0 | apply tS))).getOwn.rd) HC) ?_) | (with_reducible refine Ret.calls (hasI vb but y _ (hS.rd hb) HN) ?_)); rintro r w' ⟨rfl, rfl⟩)
              )
            go_roundw
            case rel => exact ⟨k + 1, m, by go_num, by omega, HS, hS⟩
            case measure => simp [intOf]; omega
          · have HN : Hid (decide (y ∈ but) = false) := decide_eq_false h2
            have HS : Hid (cnt but [] (peers.take (k + 1)) = m ++ [y]) := by
              unfold Hid
              rw [hsn, if_pos ⟨h1, h3, h2⟩]
            have HA1 : Hid (((m.map fun z => [I64 z]).length + [[I64 y]].length) * 8 ≤ 140737488355328) := by
              unfold Hid
              rw [List.length_map]
              simp only [List.length_cons, List.length_nil]
              omega
            have HA2 : Hid ((m.map fun z => [I64 z]).length + [[I64 y]].length ≤ maxLen) := by
              unfold Hid maxLen
              rw [List.length_map]
              simp only [List.length_cons, List.length_nil]
              omega
            have HAP : Hid ((m.map fun z => [I64 z]) ++ [[I64 y]] = (m ++ [y]).map fun z => [I64 z]) := by
              unfold Hid
              rw [List.map_append]
              rfl
            clear hsn h1 h2 h3
            go_wp2_with (first
              | go_big_skip
              | (show wpList _ _ _ (⟨some 12, .indexAddr _ _ _, _, _, _, _⟩ :: _) _ _; refine wpList_val rfl (op_indexAddr slInt rfl (v := v) rfl (k := k) rfl (by exact hS.rd hv) hlt') ?_; go_frame)
              | (show wpList _ _ _ (⟨some 13, .load _ _, _, _, _, _⟩ :: _) _ _; refine wpList_val rfl (op_loadE1 oneInt rfl (v := v) rfl (f := I64) (by exact hS.rd hv) hlt) ?_; rw [HX.out]; go_frame)
              | (show wpList _ _ _ (⟨some 15, .binOp _ _ _ _ _, _, _, _, _⟩ :: _) _ _; refine wpList_val rfl (op_igeq rfl rfl rfl HG.out) ?_; go_frame)
              | (go_at_call 51; (first | (with_reducible refine Ret.calls (hasI u5 m y _ ((hS.bring (by repeat (first | exact t0 | apply tS))).getOwn.rd) HC) ?_) | (with_reducible refine Ret.calls (hasI vb but y _ (hS.rd hb) HN) ?_)); rintro r w' ⟨rfl, rfl⟩)
              | (show wpList _ _ _ (⟨some 30, .buildSlice _ _ _, _, _, _, _⟩ :: _) _ _; refine wpS_build11 slInt hS rfl rfl (u := I64 y) rfl rfl ?_; clear hS; intro v31 w hS; go_frame)
              | (show wpList _ _ _ (⟨some 31, .call _, _, _, _, _⟩ :: _) _ _; (refine wpS_append slInt (hS.bring (by repeat (first | exact t0 | apply tS))) rfl rfl (sv := u5) (xs := m.map fun z => [I64 z]) (xv := v31) rfl rfl (ys := [[I64 y]]) ((hS.bring (by repeat (first | exact t0 | apply tS))).getOwn.rd) (flat_ints [y]) HA1.out HA2.out ?_); clear hS; intro v32 w hS; rw [HAP.out] at hS; go_frame)
              )
            go_roundw
            case rel => exact ⟨k + 1, m ++ [y], by go_num, by omega, HS, hS.sel (by repeat (first | exact Sel.refl | refine Sel.take (by repeat (first | exact t0 | apply tS)) ?_ | apply Sel.drop))⟩
            case measure => simp [intOf]; omega
      · have HG : Hid (decide (0 ≤ y) = false) := decide_eq_false h1
        have HS : Hid (cnt but [] (peers.take (k + 1)) = m) := by
          unfold Hid
          rw [hsn, if_neg (by rintro ⟨h, _⟩; exact h1 h)]
        clear hsn h1
        go_wp2_with (first
          | go_big_skip
          | (show wpList _ _ _ (⟨some 12, .indexAddr _ _ _, _, _, _, _⟩ :: _) _ _; refine wpList_val rfl (op_indexAddr slInt rfl (v := v) rfl (k := k) rfl (by exact hS.rd hv) hlt') ?_; go_frame)
          | (show wpList _ _ _ (⟨some 13, .load _ _, _, _, _, _⟩ :: _) _ _; refine wpList_val rfl (op_loadE1 oneInt rfl (v := v) rfl (f := I64) (by exact hS.rd hv) hlt) ?_; rw [HX.out]; go_frame)
          | (show wpList _ _ _ (⟨some 15, .binOp _ _ _ _ _, _, _, _, _⟩ :: _) _ _; refine wpList_val rfl (op_igeq rfl rfl rfl HG.out) ?_; go_frame)
          | (go_at_call 51; (first | (with_reducible refine Ret.calls (hasI u5 m y _ ((hS.bring (by repeat (first | exact t0 | apply tS))).getOwn.rd) HC) ?_) | (with_reducible refine Ret.calls (hasI vb but y _ (hS.rd hb) HN) ?_)); rintro r w' ⟨rfl, rfl⟩)
          )
        go_roundw
        case rel => exact ⟨k + 1, m, by go_num, by omega, HS, hS⟩
        case measure => simp [intOf]; omega
    · have hk2 : k = peers.length := by omega
      subst hk2
      rw [List.take_length] at HM
      have HC : Hid (cntP peers but = m) := HM.out
      clear HM
      go_wp2_with fail
      go_ret
      rw [HC.out]
      exact hS
theorem counted_o {v vb : Value} {peers but : List Int} (hS : SepL R base w (.own 3 1 vb (but.map fun z => [I64 z]) :: F)) (hv : RdIn R base 1 v (peers.map fun z => [I64 z])) (hlen : peers.length ≤ 1000000) :
    Calls Tryd.prog 44 #[v, vb] w (Ret fun y w' => SepL R base w' (.own 3 1 y ((cntP peers but).map fun z => [I64 z]) :: F)) := by
  obtain ⟨R1, h1, h2, h3, h4⟩ := hS.freezeOwn
  refine Ret.calls (counted_s h1 (h3 _ _ _ hv) h2 hlen) ?_
  rintro r w' h6
  exact (h4 w' _ h6).tail
end
end Go.Proofs.YtlplgobkidpgkaaDoor
namespace Go.Proofs.YtlplgobkidpgkaaDoor
open Go Go.RowKit Go.Px Go.Sha
theorem arr65i : ArrTy Tryd.prog 49 3 65 := ArrTy.of (d := .int .i64) (by kernel_rfl) (by kernel_rfl) rfl (by kernel_rfl)
theorem arr65b : ArrTy Tryd.prog 50 4 65 := ArrTy.of (d := .bool) (by kernel_rfl) (by kernel_rfl) rfl (by kernel_rfl)
theorem rrC_len {sa : List Byte} (hsa : sa.length = 32) {MM : Nat} {r : Rt} (h : ROk MM r) : (rrC sa r).length = 167 := by
  unfold rrC
  rw [List.length_append, headC_len hsa, List.length_append, List.length_map, List.length_map, h.ml, h.tl]
theorem rr_ms {sa : List Byte} (hsa : sa.length = 32) {r : Rt} {k m : Nat} (hm : r.ms[k]? = some m) : (rrC sa r)[37 + k]? = some (I64 m) := by
  unfold rrC
  rw [List.getElem?_append_right (by rw [headC_len hsa]; omega), headC_len hsa, Nat.add_sub_cancel_left]
  have h1 := (List.getElem?_eq_some_iff.1 hm).1
  rw [List.getElem?_append_left (by rw [List.length_map]; exact h1), List.getElem?_map, hm]
  rfl
theorem rr_ts {sa : List Byte} (hsa : sa.length = 32) {r : Rt} {k : Nat} {t : Bool} (hl : r.ms.length = 65) (ht : r.ts[k]? = some t) : (rrC sa r)[102 + k]? = some (.bool t) := by
  unfold rrC
  rw [List.getElem?_append_right (by rw [headC_len hsa]; omega), headC_len hsa, List.getElem?_append_right (by rw [List.length_map]; omega), List.length_map, hl, show 102 + k - 37 - 65 = k by omega, List.getElem?_map, ht]
  rfl
theorem rr_setm {sa : List Byte} (hsa : sa.length = 32) (r : Rt) {k : Nat} (hk : k < r.ms.length) (m : Nat) : (rrC sa r).set (37 + k) (I64 m) = rrC sa { r with ms := r.ms.set k m } := by
  unfold rrC
  rw [List.set_append_right _ _ (by rw [headC_len hsa]; omega), headC_len hsa, Nat.add_sub_cancel_left, List.set_append_left _ _ (by rw [List.length_map]; exact hk)]
  show headC sa r ++ ((r.ms.map fun (m : Nat) => I64 m).set k (I64 m) ++ r.ts.map Value.bool) = headC sa r ++ ((r.ms.set k m).map (fun (m : Nat) => I64 m) ++ r.ts.map Value.bool)
  rw [List.map_set]
theorem rr_sett {sa : List Byte} (hsa : sa.length = 32) (r : Rt) (hl : r.ms.length = 65) (k : Nat) (t : Bool) : (rrC sa r).set (102 + k) (.bool t) = rrC sa { r with ts := r.ts.set k t } := by
  unfold rrC
  rw [List.set_append_right _ _ (by rw [headC_len hsa]; omega), headC_len hsa, List.set_append_right _ _ (by rw [List.length_map]; omega), List.length_map, hl, show 102 + k - 37 - 65 = k by omega]
  show headC sa r ++ (r.ms.map (fun (m : Nat) => I64 m) ++ (r.ts.map Value.bool).set k (.bool t)) = headC sa r ++ (r.ms.map (fun (m : Nat) => I64 m) ++ (r.ts.set k t).map Value.bool)
  rw [List.map_set]
section
variable {R : Nat → Prop} {base w : World} {F : List Hp}
set_option maxRecDepth 100000 in
set_option maxHeartbeats 1000000 in
theorem missed_s {p : Nat} {sa : List Byte} {r : Rt} {s : Int} (hS : SepL R base w (.blk p 52 (rrC sa r) :: F)) (hsa : sa.length = 32) (hok : ROk 3 r) :
    Calls Tryd.prog 29 #[.pointer (some ⟨p, 0, none⟩), I64 s] w (Ret fun y w' => y = I64 (missN r s) ∧ SepL R base w' (.blk p 52 (rrC sa r) :: F)) := by
  cases hs : isSrc s with
  | false =>
    have HE : Hid (missN r s = 0) := by
      unfold Hid missN
      rw [hs]
      rfl
    go_enter Tryd.func29, Tryd.ntmps29
    go_wp2_with (first
      | (go_at_call 45; refine Ret.calls (source_s s w hs) ?_; rintro r1 w' ⟨rfl, rfl⟩)
      )
    go_ret
    exact ⟨by rw [HE.out]; rfl, hS⟩
  | true =>
    obtain ⟨hk, he⟩ := src_lt hs
    obtain ⟨k, hk0⟩ : ∃ k, s.toNat = k := ⟨_, rfl⟩
    rw [hk0] at hk he
    subst he
    have hm := List.getElem?_eq_getElem (show k < r.ms.length by rw [hok.ml]; exact hk)
    have ht := List.getElem?_eq_getElem (show k < r.ts.length by rw [hok.tl]; exact hk)
    obtain ⟨m, hm1⟩ : ∃ m, r.ms[k]'(by rw [hok.ml]; exact hk) = m := ⟨_, rfl⟩
    obtain ⟨t, ht1⟩ : ∃ t, r.ts[k]'(by rw [hok.tl]; exact hk) = t := ⟨_, rfl⟩
    have hmm : m < 3 := hok.mm m (by rw [← hm1]; exact List.getElem_mem _)
    rw [hm1] at hm
    rw [ht1] at ht
    have HLN := hide (rrC_len hsa hok)
    have hmn : missN r k = m := by
      rw [missN_of hs, hk0, hm]
      rfl
    have htb : turnB r k = t := by
      rw [turnB_of hs, hk0, ht]
      rfl
    have HM := hide (rr_ms hsa hm)
    have HE : Hid (missN r k = m) := hmn
    clear hm ht hm1 ht1 hmn htb hk0
    go_enter Tryd.func29, Tryd.ntmps29
    go_wp2_with (first
      | (go_at_call 45; refine Ret.calls (source_s (k : Int) w hs) ?_; rintro r1 w' ⟨rfl, rfl⟩)
      | (show wpList _ _ _ (⟨some 12, .indexAddr _ _ _, _, _, _, _⟩ :: _) _ _; refine wpList_val rfl (op_indexArr arr65i rfl (b := p) (off := 37) rfl (k := k) rfl hk) ?_; go_frame)
      | (show wpList _ _ _ (⟨some 13, .load _ _, _, _, _, _⟩ :: _) _ _; refine wpList_val rfl (op_load1S (b := p) (T := 52) oneInt ((hS.bring (by repeat (first | exact t0 | apply tS)))) rfl rfl HM.out) ?_; go_frame)
      )
    go_ret
    exact ⟨by rw [HE.out]; rfl, hS⟩
set_option maxRecDepth 100000 in
set_option maxHeartbeats 1000000 in
theorem rhit_s {p : Nat} {sa : List Byte} {r : Rt} {s : Int} (hS : SepL R base w (.blk p 52 (rrC sa r) :: F)) (hsa : sa.length = 32) (hok : ROk 3 r) :
    Calls Tryd.prog 24 #[.pointer (some ⟨p, 0, none⟩), I64 s] w (Ret fun _ w' => SepL R base w' (.blk p 52 (rrC sa (hitR r s)) :: F)) := by
  cases hs : isSrc s with
  | false =>
    have HE : Hid (hitR r s = r) := by
      unfold Hid hitR
      rw [hs]
      rfl
    go_enter Tryd.func24, Tryd.ntmps24
    go_wp2_with (first
      | (go_at_call 45; refine Ret.calls (source_s s w hs) ?_; rintro r1 w' ⟨rfl, rfl⟩)
      )
    refine bodyPost_end (results_none rfl _ _ _) rfl ?_
    rw [HE.out]
    exact hS
  | true =>
    obtain ⟨hk, he⟩ := src_lt hs
    obtain ⟨k, hk0⟩ : ∃ k, s.toNat = k := ⟨_, rfl⟩
    rw [hk0] at hk he
    subst he
    have hm := List.getElem?_eq_getElem (show k < r.ms.length by rw [hok.ml]; exact hk)
    have ht := List.getElem?_eq_getElem (show k < r.ts.length by rw [hok.tl]; exact hk)
    obtain ⟨m, hm1⟩ : ∃ m, r.ms[k]'(by rw [hok.ml]; exact hk) = m := ⟨_, rfl⟩
    obtain ⟨t, ht1⟩ : ∃ t, r.ts[k]'(by rw [hok.tl]; exact hk) = t := ⟨_, rfl⟩
    have hmm : m < 3 := hok.mm m (by rw [← hm1]; exact List.getElem_mem _)
    rw [hm1] at hm
    rw [ht1] at ht
    have HLN := hide (rrC_len hsa hok)
    have hmn : missN r k = m := by
      rw [missN_of hs, hk0, hm]
      rfl
    have htb : turnB r k = t := by
      rw [turnB_of hs, hk0, ht]
      rfl
    have HST := hide (rr_setm hsa r (k := k) (by rw [hok.ml]; exact hk) 0)
    have HE : Hid (hitR r k = { r with ms := r.ms.set k 0 }) := by
      unfold Hid hitR
      rw [hs, hk0]
      rfl
    clear hm ht hm1 ht1 hmn htb hk0
    go_enter Tryd.func24, Tryd.ntmps24
    go_wp2_with (first
      | (go_at_call 45; refine Ret.calls (source_s (k : Int) w hs) ?_; rintro r1 w' ⟨rfl, rfl⟩)
      | (show wpList _ _ _ (⟨some 10, .indexAddr _ _ _, _, _, _, _⟩ :: _) _ _; refine wpList_val rfl (op_indexArr arr65i rfl (b := p) (off := 37) rfl (k := k) rfl hk) ?_; go_frame)
      | (show wpList _ _ _ (⟨_, .store 3 _ _, _, _, _, _⟩ :: _) _ _; refine wpS_store1 (b := p) (i := 37 + k) (T := 52) (by kernel_rfl) hS rfl rfl rfl (v := I64 0) rfl rfl rfl (by rw [HLN.out]; omega) ?_; clear hS; intro w hS; go_frame)
      )
    refine bodyPost_end (results_none rfl _ _ _) rfl ?_
    rw [HE.out, ← HST.out]
    exact hS
set_option maxRecDepth 100000 in
set_option maxHeartbeats 2000000 in
theorem rmiss_s {p : Nat} {sa : List Byte} {r : Rt} {s : Int} (hS : SepL R base w (.blk p 52 (rrC sa r) :: F)) (hsa : sa.length = 32) (hok : ROk 3 r) :
    Calls Tryd.prog 23 #[.pointer (some ⟨p, 0, none⟩), I64 s] w (Ret fun y w' => y = .bool (missB 3 r s) ∧ SepL R base w' (.blk p 52 (rrC sa (missR 3 r s)) :: F)) := by
  cases hs : isSrc s with
  | false =>
    have HE : Hid (missR 3 r s = r) := by
      unfold Hid missR
      rw [hs]
      rfl
    have HB : Hid (missB 3 r s = false) := by
      unfold Hid missB
      rw [hs]
      rfl
    go_enter Tryd.func23, Tryd.ntmps23
    go_wp2_with (first
      | (go_at_call 45; refine Ret.calls (source_s s w hs) ?_; rintro r1 w' ⟨rfl, rfl⟩)
      )
    go_ret
    exact ⟨by rw [HB.out]; rfl, by rw [HE.out]; exact hS⟩
  | true =>
    obtain ⟨hk, he⟩ := src_lt hs
    obtain ⟨k, hk0⟩ : ∃ k, s.toNat = k := ⟨_, rfl⟩
    rw [hk0] at hk he
    subst he
    have hm := List.getElem?_eq_getElem (show k < r.ms.length by rw [hok.ml]; exact hk)
    have ht := List.getElem?_eq_getElem (show k < r.ts.length by rw [hok.tl]; exact hk)
    obtain ⟨m, hm1⟩ : ∃ m, r.ms[k]'(by rw [hok.ml]; exact hk) = m := ⟨_, rfl⟩
    obtain ⟨t, ht1⟩ : ∃ t, r.ts[k]'(by rw [hok.tl]; exact hk) = t := ⟨_, rfl⟩
    have hmm : m < 3 := hok.mm m (by rw [← hm1]; exact List.getElem_mem _)
    rw [hm1] at hm
    rw [ht1] at ht
    have HLN := hide (rrC_len hsa hok)
    have hmn : missN r k = m := by
      rw [missN_of hs, hk0, hm]
      rfl
    have htb : turnB r k = t := by
      rw [turnB_of hs, hk0, ht]
      rfl
    have HM := hide (rr_ms hsa hm)
    have hkl : k < r.ms.length := by rw [hok.ml]; exact hk
    have hST := rr_setm hsa r hkl (m + 1)
    have HST := hide hST
    have hm2 : (r.ms.set k (m + 1))[k]? = some (m + 1) := List.getElem?_set_self hkl
    have HM2 := hide (rr_ms (r := { r with ms := r.ms.set k (m + 1) }) hsa hm2)
    by_cases hlt : m + 1 < 3
    · have HLT : Hid (decide (((m + 1 : Nat) : Int) < 3) = true) := decide_eq_true (by omega)
      have HE : Hid (missR 3 r k = { r with ms := r.ms.set k (m + 1) }) := by
        unfold Hid missR
        rw [hs, if_pos rfl, hmn, if_pos hlt, hk0]
      have HB : Hid (missB 3 r k = false) := by
        unfold Hid missB
        rw [hmn, decide_eq_true hlt]
        simp
      clear hm ht hm1 ht1 hk0 hST hm2 hmn htb hlt
      go_enter Tryd.func23, Tryd.ntmps23
      go_wp2_with (first
        | (go_at_call 45; refine Ret.calls (source_s (k : Int) w hs) ?_; rintro r1 w' ⟨rfl, rfl⟩)
        )
      refine wp_region_text (by kernel_rfl) (by kernel_rfl) (by repeat (first | exact Clean.body | refine Clean.then ?_ | refine Clean.inBlock ?_)) ?_
      replace hS := hS.drew
      go_wp2_with (first
        | (show wpList _ _ _ (⟨some 12, .indexAddr _ _ _, _, _, _, _⟩ :: _) _ _; refine wpList_val rfl (op_indexArr arr65i rfl (b := p) (off := 37) rfl (k := k) rfl hk) ?_; go_frame)
        | (show wpList _ _ _ (⟨some 13, .load _ _, _, _, _, _⟩ :: _) _ _; refine wpList_val rfl (op_load1S (b := p) (T := 52) oneInt ((hS.bring (by repeat (first | exact t0 | apply tS)))) rfl rfl HM.out) ?_; go_frame)
        | (show wpList _ _ _ (⟨some 14, .binOp _ _ _ _ _, _, _, _, _⟩ :: _) _ _; refine wpList_val rfl (op_iaddN rfl rfl rfl (m + 1) (by omega) (by omega)) ?_; go_frame)
        | (show wpList _ _ _ (⟨some 17, .indexAddr _ _ _, _, _, _, _⟩ :: _) _ _; refine wpList_val rfl (op_indexArr arr65i rfl (b := p) (off := 37) rfl (k := k) rfl hk) ?_; go_frame)
        | (show wpList _ _ _ (⟨_, .store 3 (.tmp 17) _, _, _, _, _⟩ :: _) _ _; refine wpS_store1 (b := p) (i := 37 + k) (T := 52) (by kernel_rfl) hS rfl rfl rfl (v := I64 (m + 1 : Nat)) rfl rfl rfl (by rw [HLN.out]; omega) ?_; clear hS; intro w hS; rw [HST.out] at hS; go_frame)
        | (refine fin_mk (by kernel_rfl) ?_)
        | (show wpList _ _ _ (⟨some 22, .indexAddr _ _ _, _, _, _, _⟩ :: _) _ _; refine wpList_val rfl (op_indexArr arr65i rfl (b := p) (off := 37) rfl (k := k) rfl hk) ?_; go_frame)
        | (show wpList _ _ _ (⟨some 23, .load _ _, _, _, _, _⟩ :: _) _ _; refine wpList_val rfl (op_load1S (b := p) (T := 52) oneInt ((hS.bring (by repeat (first | exact t0 | apply tS)))) rfl rfl HM2.out) ?_; go_frame)
        | (show wpList _ _ _ (⟨some 24, .binOp _ _ _ _ _, _, _, _, _⟩ :: _) _ _; refine wpList_val rfl (op_ilss rfl rfl rfl HLT.out) ?_; go_frame)
        | (show wpList _ _ _ (⟨some 29, .indexAddr _ _ _, _, _, _, _⟩ :: _) _ _; refine wpList_val rfl (op_indexArr arr65i rfl (b := p) (off := 37) rfl (k := k) rfl hk) ?_; go_frame)
        | (show wpList _ _ _ (⟨_, .store 3 (.tmp 29) _, _, _, _, _⟩ :: _) _ _; refine wpS_store1 (b := p) (i := 37 + k) (T := 52) (by kernel_rfl) hS rfl rfl rfl (v := I64 0) rfl rfl rfl (by rw [HLN2.out]; omega) ?_; clear hS; intro w hS; rw [HST2.out] at hS; go_frame)
        )
      go_ret
      exact ⟨by rw [HB.out]; rfl, by rw [HE.out]; exact hS⟩
    · have HLT : Hid (decide (((m + 1 : Nat) : Int) < 3) = false) := decide_eq_false (by omega)
      have hE : missR 3 r k = { r with ms := r.ms.set k 0, ts := r.ts.set k (!t) } := by
        unfold missR
        rw [hs, if_pos rfl, hmn, if_neg hlt, hk0, htb]
      have HE := hide hE
      have HB : Hid (missB 3 r k = true) := by
        unfold Hid missB
        rw [hmn, decide_eq_false hlt, hs]
        rfl
      have hl2 : (r.ms.set k (m + 1)).length = 65 := by rw [List.length_set]; exact hok.ml
      have hS2 := rr_setm hsa { r with ms := r.ms.set k (m + 1) } (k := k) (by show k < (r.ms.set k (m + 1)).length; omega) 0
      have HST2 : Hid ((rrC sa { r with ms := r.ms.set k (m + 1) }).set (37 + k) (I64 0) = rrC sa { r with ms := r.ms.set k 0 }) := by
        refine hS2.trans ?_
        show rrC sa { r with ms := (r.ms.set k (m + 1)).set k 0 } = _
        rw [List.set_set]
      have hl3 : (r.ms.set k 0).length = 65 := by rw [List.length_set]; exact hok.ml
      have HT := hide (rr_ts (r := { r with ms := r.ms.set k 0 }) hsa hl3 ht)
      have HST3 := hide (rr_sett hsa { r with ms := r.ms.set k 0 } hl3 k (!t))
      have HLN2 : Hid ((rrC sa { r with ms := r.ms.set k (m + 1) }).length = 167) := by
        unfold Hid
        rw [← hST, List.length_set]
        exact HLN.out
      have HLN3 : Hid ((rrC sa { r with ms := r.ms.set k 0 }).length = 167) := by
        unfold Hid
        rw [← HST2.out, List.length_set]
        exact HLN2.out
      clear hm ht hm1 ht1 hk0 hST hm2 hmn htb hlt hE hS2 hl2 hl3
      go_enter Tryd.func23, Tryd.ntmps23
      go_wp2_with (first
        | (go_at_call 45; refine Ret.calls (source_s (k : Int) w hs) ?_; rintro r1 w' ⟨rfl, rfl⟩)
        )
      refine wp_region_text (by kernel_rfl) (by kernel_rfl) (by repeat (first | exact Clean.body | refine Clean.then ?_ | refine Clean.inBlock ?_)) ?_
      replace hS := hS.drew
      go_wp2_with (first
        | (show wpList _ _ _ (⟨some 12, .indexAddr _ _ _, _, _, _, _⟩ :: _) _ _; refine wpList_val rfl (op_indexArr arr65i rfl (b := p) (off := 37) rfl (k := k) rfl hk) ?_; go_frame)
        | (show wpList _ _ _ (⟨some 13, .load _ _, _, _, _, _⟩ :: _) _ _; refine wpList_val rfl (op_load1S (b := p) (T := 52) oneInt ((hS.bring (by repeat (first | exact t0 | apply tS)))) rfl rfl HM.out) ?_; go_frame)
        | (show wpList _ _ _ (⟨some 14, .binOp _ _ _ _ _, _, _, _, _⟩ :: _) _ _; refine wpList_val rfl (op_iaddN rfl rfl rfl (m + 1) (by omega) (by omega)) ?_; go_frame)
        | (show wpList _ _ _ (⟨some 17, .indexAddr _ _ _, _, _, _, _⟩ :: _) _ _; refine wpList_val rfl (op_indexArr arr65i rfl (b := p) (off := 37) rfl (k := k) rfl hk) ?_; go_frame)
        | (show wpList _ _ _ (⟨_, .store 3 (.tmp 17) _, _, _, _, _⟩ :: _) _ _; refine wpS_store1 (b := p) (i := 37 + k) (T := 52) (by kernel_rfl) hS rfl rfl rfl (v := I64 (m + 1 : Nat)) rfl rfl rfl (by rw [HLN.out]; omega) ?_; clear hS; intro w hS; rw [HST.out] at hS; go_frame)
        | (refine fin_mk (by kernel_rfl) ?_)
        | (show wpList _ _ _ (⟨some 22, .indexAddr _ _ _, _, _, _, _⟩ :: _) _ _; refine wpList_val rfl (op_indexArr arr65i rfl (b := p) (off := 37) rfl (k := k) rfl hk) ?_; go_frame)
        | (show wpList _ _ _ (⟨some 23, .load _ _, _, _, _, _⟩ :: _) _ _; refine wpList_val rfl (op_load1S (b := p) (T := 52) oneInt ((hS.bring (by repeat (first | exact t0 | apply tS)))) rfl rfl HM2.out) ?_; go_frame)
        | (show wpList _ _ _ (⟨some 24, .binOp _ _ _ _ _, _, _, _, _⟩ :: _) _ _; refine wpList_val rfl (op_ilss rfl rfl rfl HLT.out) ?_; go_frame)
        | (show wpList _ _ _ (⟨some 29, .indexAddr _ _ _, _, _, _, _⟩ :: _) _ _; refine wpList_val rfl (op_indexArr arr65i rfl (b := p) (off := 37) rfl (k := k) rfl hk) ?_; go_frame)
        | (show wpList _ _ _ (⟨_, .store 3 (.tmp 29) _, _, _, _, _⟩ :: _) _ _; refine wpS_store1 (b := p) (i := 37 + k) (T := 52) (by kernel_rfl) hS rfl rfl rfl (v := I64 0) rfl rfl rfl (by rw [HLN2.out]; omega) ?_; clear hS; intro w hS; rw [HST2.out] at hS; go_frame)
        )
      refine wp_region_text (by kernel_rfl) (by kernel_rfl) (by repeat (first | exact Clean.body | refine Clean.then ?_ | refine Clean.inBlock ?_)) ?_
      replace hS := hS.drew
      go_wp2_with (first
        | (show wpList _ _ _ (⟨some 36, .indexAddr _ _ _, _, _, _, _⟩ :: _) _ _; refine wpList_val rfl (op_indexArr arr65b rfl (b := p) (off := 102) rfl (k := k) rfl hk) ?_; go_frame)
        | (show wpList _ _ _ (⟨some 37, .load _ _, _, _, _, _⟩ :: _) _ _; refine wpList_val rfl (op_load1S (b := p) (T := 52) oneBool ((hS.bring (by repeat (first | exact t0 | apply tS)))) rfl rfl HT.out) ?_; go_frame)
        | (show wpList _ _ _ (⟨some 41, .indexAddr _ _ _, _, _, _, _⟩ :: _) _ _; refine wpList_val rfl (op_indexArr arr65b rfl (b := p) (off := 102) rfl (k := k) rfl hk) ?_; go_frame)
        | (show wpList _ _ _ (⟨_, .store 4 (.tmp 41) _, _, _, _, _⟩ :: _) _ _; refine wpS_store1 (b := p) (i := 102 + k) (T := 52) (by kernel_rfl) hS rfl rfl rfl (v := .bool (!t)) rfl rfl rfl (by rw [HLN3.out]; omega) ?_; clear hS; intro w hS; rw [HST3.out] at hS; go_frame)
        | (refine fin_mk (by kernel_rfl) ?_)
        )
      go_ret
      exact ⟨by rw [HB.out]; rfl, by rw [HE.out]; exact hS⟩
end
end Go.Proofs.YtlplgobkidpgkaaDoor
namespace Go.Proofs.YtlplgobkidpgkaaDoor
open Go Go.RowKit Go.Px Go.Sha
theorem cells2 (a b : Int) : [I64 a, I64 b].map (fun v => v.cells.toList) = [a, b].map fun z => [I64 z] := rfl
section
variable {R : Nat → Prop} {base w : World} {F : List Hp}
set_option maxRecDepth 100000 in
set_option maxHeartbeats 1000000 in
theorem rjoined_s {p : Nat} {sa : List Byte} {r : Rt} {q : Int} (hS : SepL R base w (.blk p 52 (rrC sa r) :: F)) (hsa : sa.length = 32) :
    Calls Tryd.prog 21 #[.pointer (some ⟨p, 0, none⟩), I64 q] w (Ret fun _ w' => SepL R base w' (.blk p 52 (rrC sa (joinR r q)) :: F)) := by
  have HLN := hide (rr_lt hsa r)
  have G0 : Hid ((rrC sa r)[35]? = some (I64 r.s0)) := head_at hsa r _ (k := 3) (by omega)
  have G1 : Hid ((rrC sa r)[36]? = some (I64 r.s1)) := head_at hsa r _ (k := 4) (by omega)
  by_cases h1 : q < 0
  · have H1 : Hid (decide (q < 0) = true) := decide_eq_true h1
    have HE : Hid (joinR r q = r) := if_pos (.inl h1)
    clear h1
    go_enter Tryd.func21, Tryd.ntmps21
    go_wp2_with (first
      | go_big_skip
      | (show wpList _ _ _ (⟨some 5, .binOp _ _ _ _ _, _, _, _, _⟩ :: _) _ _; refine wpList_val rfl (op_ilss rfl rfl rfl H1.out) ?_; go_frame)
      | (show wpList _ _ _ (⟨some 10, .indexAddr _ _ _, _, _, _, _⟩ :: _) _ _; refine wpList_val rfl (op_indexArrZ arr2i rfl (b := p) (off := 35) rfl rfl 0 rfl (by omega)) ?_; go_frame)
      | (show wpList _ _ _ (⟨some 11, .load _ _, _, _, _, _⟩ :: _) _ _; refine wpList_val rfl (op_load1S (b := p) (T := 52) oneInt ((hS.bring (by repeat (first | exact t0 | apply tS)))) rfl rfl G0.out) ?_; go_frame)
      | (show wpList _ _ _ (⟨some 13, .binOp _ _ _ _ _, _, _, _, _⟩ :: _) _ _; refine wpList_val rfl (op_eqI' rfl rfl rfl E0.out) ?_; go_frame)
      | (show wpList _ _ _ (⟨some 19, .indexAddr _ _ _, _, _, _, _⟩ :: _) _ _; refine wpList_val rfl (op_indexArrZ arr2i rfl (b := p) (off := 35) rfl rfl 1 rfl (by omega)) ?_; go_frame)
      | (show wpList _ _ _ (⟨some 20, .load _ _, _, _, _, _⟩ :: _) _ _; refine wpList_val rfl (op_load1S (b := p) (T := 52) oneInt ((hS.bring (by repeat (first | exact t0 | apply tS)))) rfl rfl G1.out) ?_; go_frame)
      | (show wpList _ _ _ (⟨some 22, .binOp _ _ _ _ _, _, _, _, _⟩ :: _) _ _; refine wpList_val rfl (op_eqI' rfl rfl rfl E1.out) ?_; go_frame)
      | (show wpList _ _ _ (⟨some 27, .indexAddr _ _ _, _, _, _, _⟩ :: _) _ _; refine wpList_val rfl (op_indexArrZ arr2i rfl (b := p) (off := 35) rfl rfl 0 rfl (by omega)) ?_; go_frame)
      | (show wpList _ _ _ (⟨some 28, .load _ _, _, _, _, _⟩ :: _) _ _; refine wpList_val rfl (op_load1S (b := p) (T := 52) oneInt ((hS.bring (by repeat (first | exact t0 | apply tS)))) rfl rfl G0.out) ?_; go_frame)
      | (show wpList _ _ _ (⟨some 29, .binOp _ _ _ _ _, _, _, _, _⟩ :: _) _ _; refine wpList_val rfl (op_eqI' rfl rfl rfl N0.out) ?_; go_frame)
      | (show wpList _ _ _ (⟨some 34, .indexAddr _ _ _, _, _, _, _⟩ :: _) _ _; refine wpList_val rfl (op_indexArrZ arr2i rfl (b := p) (off := 35) rfl rfl 0 rfl (by omega)) ?_; go_frame)
      | (show wpList _ _ _ (⟨some 38, .indexAddr _ _ _, _, _, _, _⟩ :: _) _ _; refine wpList_val rfl (op_indexArrZ arr2i rfl (b := p) (off := 35) rfl rfl 1 rfl (by omega)) ?_; go_frame)
      | (show wpList _ _ _ (⟨some 39, .load _ _, _, _, _, _⟩ :: _) _ _; refine wpList_val rfl (op_load1S (b := p) (T := 52) oneInt ((hS.bring (by repeat (first | exact t0 | apply tS)))) rfl rfl G1.out) ?_; go_frame)
      | (show wpList _ _ _ (⟨some 40, .binOp _ _ _ _ _, _, _, _, _⟩ :: _) _ _; refine wpList_val rfl (op_eqI' rfl rfl rfl N1.out) ?_; go_frame)
      | (show wpList _ _ _ (⟨some 45, .indexAddr _ _ _, _, _, _, _⟩ :: _) _ _; refine wpList_val rfl (op_indexArrZ arr2i rfl (b := p) (off := 35) rfl rfl 1 rfl (by omega)) ?_; go_frame)
      )
    refine bodyPost_end (results_none rfl _ _ _) rfl ?_
    rw [HE.out]
    exact hS.sel (by repeat (first | exact Sel.refl | refine Sel.take (by repeat (first | exact t0 | apply tS)) ?_ | apply Sel.drop))
  have H1 : Hid (decide (q < 0) = false) := decide_eq_false h1
  by_cases h2 : r.s0 = q
  · have E0 := eqT h2
    have HE : Hid (joinR r q = r) := if_pos (.inr (.inl h2))
    clear h1 h2
    go_enter Tryd.func21, Tryd.ntmps21
    go_wp2_with (first
      | go_big_skip
      | (show wpList _ _ _ (⟨some 5, .binOp _ _ _ _ _, _, _, _, _⟩ :: _) _ _; refine wpList_val rfl (op_ilss rfl rfl rfl H1.out) ?_; go_frame)
      | (show wpList _ _ _ (⟨some 10, .indexAddr _ _ _, _, _, _, _⟩ :: _) _ _; refine wpList_val rfl (op_indexArrZ arr2i rfl (b := p) (off := 35) rfl rfl 0 rfl (by omega)) ?_; go_frame)
      | (show wpList _ _ _ (⟨some 11, .load _ _, _, _, _, _⟩ :: _) _ _; refine wpList_val rfl (op_load1S (b := p) (T := 52) oneInt ((hS.bring (by repeat (first | exact t0 | apply tS)))) rfl rfl G0.out) ?_; go_frame)
      | (show wpList _ _ _ (⟨some 13, .binOp _ _ _ _ _, _, _, _, _⟩ :: _) _ _; refine wpList_val rfl (op_eqI' rfl rfl rfl E0.out) ?_; go_frame)
      | (show wpList _ _ _ (⟨some 19, .indexAddr _ _ _, _, _, _, _⟩ :: _) _ _; refine wpList_val rfl (op_indexArrZ arr2i rfl (b := p) (off := 35) rfl rfl 1 rfl (by omega)) ?_; go_frame)
      | (show wpList _ _ _ (⟨some 20, .load _ _, _, _, _, _⟩ :: _) _ _; refine wpList_val rfl (op_load1S (b := p) (T := 52) oneInt ((hS.bring (by repeat (first | exact t0 | apply tS)))) rfl rfl G1.out) ?_; go_frame)
      | (show wpList _ _ _ (⟨some 22, .binOp _ _ _ _ _, _, _, _, _⟩ :: _) _ _; refine wpList_val rfl (op_eqI' rfl rfl rfl E1.out) ?_; go_frame)
      | (show wpList _ _ _ (⟨some 27, .indexAddr _ _ _, _, _, _, _⟩ :: _) _ _; refine wpList_val rfl (op_indexArrZ arr2i rfl (b := p) (off := 35) rfl rfl 0 rfl (by omega)) ?_; go_frame)
      | (show wpList _ _ _ (⟨some 28, .load _ _, _, _, _, _⟩ :: _) _ _; refine wpList_val rfl (op_load1S (b := p) (T := 52) oneInt ((hS.bring (by repeat (first | exact t0 | apply tS)))) rfl rfl G0.out) ?_; go_frame)
      | (show wpList _ _ _ (⟨some 29, .binOp _ _ _ _ _, _, _, _, _⟩ :: _) _ _; refine wpList_val rfl (op_eqI' rfl rfl rfl N0.out) ?_; go_frame)
      | (show wpList _ _ _ (⟨some 34, .indexAddr _ _ _, _, _, _, _⟩ :: _) _ _; refine wpList_val rfl (op_indexArrZ arr2i rfl (b := p) (off := 35) rfl rfl 0 rfl (by omega)) ?_; go_frame)
      | (show wpList _ _ _ (⟨some 38, .indexAddr _ _ _, _, _, _, _⟩ :: _) _ _; refine wpList_val rfl (op_indexArrZ arr2i rfl (b := p) (off := 35) rfl rfl 1 rfl (by omega)) ?_; go_frame)
      | (show wpList _ _ _ (⟨some 39, .load _ _, _, _, _, _⟩ :: _) _ _; refine wpList_val rfl (op_load1S (b := p) (T := 52) oneInt ((hS.bring (by repeat (first | exact t0 | apply tS)))) rfl rfl G1.out) ?_; go_frame)
      | (show wpList _ _ _ (⟨some 40, .binOp _ _ _ _ _, _, _, _, _⟩ :: _) _ _; refine wpList_val rfl (op_eqI' rfl rfl rfl N1.out) ?_; go_frame)
      | (show wpList _ _ _ (⟨some 45, .indexAddr _ _ _, _, _, _, _⟩ :: _) _ _; refine wpList_val rfl (op_indexArrZ arr2i rfl (b := p) (off := 35) rfl rfl 1 rfl (by omega)) ?_; go_frame)
      )
    refine bodyPost_end (results_none rfl _ _ _) rfl ?_
    rw [HE.out]
    exact hS.sel (by repeat (first | exact Sel.refl | refine Sel.take (by repeat (first | exact t0 | apply tS)) ?_ | apply Sel.drop))
  have E0 := eqF h2
  by_cases h3 : r.s1 = q
  · have E1 := eqT h3
    have HE : Hid (joinR r q = r) := if_pos (.inr (.inr h3))
    clear h1 h2 h3
    go_enter Tryd.func21, Tryd.ntmps21
    go_wp2_with (first
      | go_big_skip
      | (show wpList _ _ _ (⟨some 5, .binOp _ _ _ _ _, _, _, _, _⟩ :: _) _ _; refine wpList_val rfl (op_ilss rfl rfl rfl H1.out) ?_; go_frame)
      | (show wpList _ _ _ (⟨some 10, .indexAddr _ _ _, _, _, _, _⟩ :: _) _ _; refine wpList_val rfl (op_indexArrZ arr2i rfl (b := p) (off := 35) rfl rfl 0 rfl (by omega)) ?_; go_frame)
      | (show wpList _ _ _ (⟨some 11, .load _ _, _, _, _, _⟩ :: _) _ _; refine wpList_val rfl (op_load1S (b := p) (T := 52) oneInt ((hS.bring (by repeat (first | exact t0 | apply tS)))) rfl rfl G0.out) ?_; go_frame)
      | (show wpList _ _ _ (⟨some 13, .binOp _ _ _ _ _, _, _, _, _⟩ :: _) _ _; refine wpList_val rfl (op_eqI' rfl rfl rfl E0.out) ?_; go_frame)
      | (show wpList _ _ _ (⟨some 19, .indexAddr _ _ _, _, _, _, _⟩ :: _) _ _; refine wpList_val rfl (op_indexArrZ arr2i rfl (b := p) (off := 35) rfl rfl 1 rfl (by omega)) ?_; go_frame)
      | (show wpList _ _ _ (⟨some 20, .load _ _, _, _, _, _⟩ :: _) _ _; refine wpList_val rfl (op_load1S (b := p) (T := 52) oneInt ((hS.bring (by repeat (first | exact t0 | apply tS)))) rfl rfl G1.out) ?_; go_frame)
      | (show wpList _ _ _ (⟨some 22, .binOp _ _ _ _ _, _, _, _, _⟩ :: _) _ _; refine wpList_val rfl (op_eqI' rfl rfl rfl E1.out) ?_; go_frame)
      | (show wpList _ _ _ (⟨some 27, .indexAddr _ _ _, _, _, _, _⟩ :: _) _ _; refine wpList_val rfl (op_indexArrZ arr2i rfl (b := p) (off := 35) rfl rfl 0 rfl (by omega)) ?_; go_frame)
      | (show wpList _ _ _ (⟨some 28, .load _ _, _, _, _, _⟩ :: _) _ _; refine wpList_val rfl (op_load1S (b := p) (T := 52) oneInt ((hS.bring (by repeat (first | exact t0 | apply tS)))) rfl rfl G0.out) ?_; go_frame)
      | (show wpList _ _ _ (⟨some 29, .binOp _ _ _ _ _, _, _, _, _⟩ :: _) _ _; refine wpList_val rfl (op_eqI' rfl rfl rfl N0.out) ?_; go_frame)
      | (show wpList _ _ _ (⟨some 34, .indexAddr _ _ _, _, _, _, _⟩ :: _) _ _; refine wpList_val rfl (op_indexArrZ arr2i rfl (b := p) (off := 35) rfl rfl 0 rfl (by omega)) ?_; go_frame)
      | (show wpList _ _ _ (⟨some 38, .indexAddr _ _ _, _, _, _, _⟩ :: _) _ _; refine wpList_val rfl (op_indexArrZ arr2i rfl (b := p) (off := 35) rfl rfl 1 rfl (by omega)) ?_; go_frame)
      | (show wpList _ _ _ (⟨some 39, .load _ _, _, _, _, _⟩ :: _) _ _; refine wpList_val rfl (op_load1S (b := p) (T := 52) oneInt ((hS.bring (by repeat (first | exact t0 | apply tS)))) rfl rfl G1.out) ?_; go_frame)
      | (show wpList _ _ _ (⟨some 40, .binOp _ _ _ _ _, _, _, _, _⟩ :: _) _ _; refine wpList_val rfl (op_eqI' rfl rfl rfl N1.out) ?_; go_frame)
      | (show wpList _ _ _ (⟨some 45, .indexAddr _ _ _, _, _, _, _⟩ :: _) _ _; refine wpList_val rfl (op_indexArrZ arr2i rfl (b := p) (off := 35) rfl rfl 1 rfl (by omega)) ?_; go_frame)
      )
    refine bodyPost_end (results_none rfl _ _ _) rfl ?_
    rw [HE.out]
    exact hS.sel (by repeat (first | exact Sel.refl | refine Sel.take (by repeat (first | exact t0 | apply tS)) ?_ | apply Sel.drop))
  have E1 := eqF h3
  have h12 : ¬ (q < 0 ∨ r.s0 = q ∨ r.s1 = q) := by
    rintro (h | h | h)
    · exact h1 h
    · exact h2 h
    · exact h3 h
  by_cases h4 : r.s0 = -1
  · have N0 := eqT h4
    have HST := hide (rr_0 hsa r q)
    have HE : Hid (joinR r q = { r with s0 := q }) := by
      unfold Hid joinR
      rw [if_neg h12, if_pos h4]
    clear h1 h2 h3 h12 h4
    go_enter Tryd.func21, Tryd.ntmps21
    go_wp2_with (first
      | go_big_skip
      | (show wpList _ _ _ (⟨some 5, .binOp _ _ _ _ _, _, _, _, _⟩ :: _) _ _; refine wpList_val rfl (op_ilss rfl rfl rfl H1.out) ?_; go_frame)
      | (show wpList _ _ _ (⟨some 10, .indexAddr _ _ _, _, _, _, _⟩ :: _) _ _; refine wpList_val rfl (op_indexArrZ arr2i rfl (b := p) (off := 35) rfl rfl 0 rfl (by omega)) ?_; go_frame)
      | (show wpList _ _ _ (⟨some 11, .load _ _, _, _, _, _⟩ :: _) _ _; refine wpList_val rfl (op_load1S (b := p) (T := 52) oneInt ((hS.bring (by repeat (first | exact t0 | apply tS)))) rfl rfl G0.out) ?_; go_frame)
      | (show wpList _ _ _ (⟨some 13, .binOp _ _ _ _ _, _, _, _, _⟩ :: _) _ _; refine wpList_val rfl (op_eqI' rfl rfl rfl E0.out) ?_; go_frame)
      | (show wpList _ _ _ (⟨some 19, .indexAddr _ _ _, _, _, _, _⟩ :: _) _ _; refine wpList_val rfl (op_indexArrZ arr2i rfl (b := p) (off := 35) rfl rfl 1 rfl (by omega)) ?_; go_frame)
      | (show wpList _ _ _ (⟨some 20, .load _ _, _, _, _, _⟩ :: _) _ _; refine wpList_val rfl (op_load1S (b := p) (T := 52) oneInt ((hS.bring (by repeat (first | exact t0 | apply tS)))) rfl rfl G1.out) ?_; go_frame)
      | (show wpList _ _ _ (⟨some 22, .binOp _ _ _ _ _, _, _, _, _⟩ :: _) _ _; refine wpList_val rfl (op_eqI' rfl rfl rfl E1.out) ?_; go_frame)
      | (show wpList _ _ _ (⟨some 27, .indexAddr _ _ _, _, _, _, _⟩ :: _) _ _; refine wpList_val rfl (op_indexArrZ arr2i rfl (b := p) (off := 35) rfl rfl 0 rfl (by omega)) ?_; go_frame)
      | (show wpList _ _ _ (⟨some 28, .load _ _, _, _, _, _⟩ :: _) _ _; refine wpList_val rfl (op_load1S (b := p) (T := 52) oneInt ((hS.bring (by repeat (first | exact t0 | apply tS)))) rfl rfl G0.out) ?_; go_frame)
      | (show wpList _ _ _ (⟨some 29, .binOp _ _ _ _ _, _, _, _, _⟩ :: _) _ _; refine wpList_val rfl (op_eqI' rfl rfl rfl N0.out) ?_; go_frame)
      | (show wpList _ _ _ (⟨some 34, .indexAddr _ _ _, _, _, _, _⟩ :: _) _ _; refine wpList_val rfl (op_indexArrZ arr2i rfl (b := p) (off := 35) rfl rfl 0 rfl (by omega)) ?_; go_frame)
      | (show wpList _ _ _ (⟨some 38, .indexAddr _ _ _, _, _, _, _⟩ :: _) _ _; refine wpList_val rfl (op_indexArrZ arr2i rfl (b := p) (off := 35) rfl rfl 1 rfl (by omega)) ?_; go_frame)
      | (show wpList _ _ _ (⟨some 39, .load _ _, _, _, _, _⟩ :: _) _ _; refine wpList_val rfl (op_load1S (b := p) (T := 52) oneInt ((hS.bring (by repeat (first | exact t0 | apply tS)))) rfl rfl G1.out) ?_; go_frame)
      | (show wpList _ _ _ (⟨some 40, .binOp _ _ _ _ _, _, _, _, _⟩ :: _) _ _; refine wpList_val rfl (op_eqI' rfl rfl rfl N1.out) ?_; go_frame)
      | (show wpList _ _ _ (⟨some 45, .indexAddr _ _ _, _, _, _, _⟩ :: _) _ _; refine wpList_val rfl (op_indexArrZ arr2i rfl (b := p) (off := 35) rfl rfl 1 rfl (by omega)) ?_; go_frame)
      | (show wpList _ _ _ (⟨_, .store 3 _ _, _, _, _, _⟩ :: _) _ _; (refine wpS_store1 (b := p) (i := 35) (T := 52) (by kernel_rfl) (hS.bring (by repeat (first | exact t0 | apply tS))) rfl rfl rfl (v := I64 q) rfl rfl rfl (by have := HLN.out; omega) ?_); clear hS; intro w hS; rw [HST.out] at hS; go_frame)
      )
    refine bodyPost_end (results_none rfl _ _ _) rfl ?_
    rw [HE.out]
    exact hS.sel (by repeat (first | exact Sel.refl | refine Sel.take (by repeat (first | exact t0 | apply tS)) ?_ | apply Sel.drop))
  have N0 := eqF h4
  by_cases h5 : r.s1 = -1
  · have N1 := eqT h5
    have HST := hide (rr_1 hsa r q)
    have HE : Hid (joinR r q = { r with s1 := q }) := by
      unfold Hid joinR
      rw [if_neg h12, if_neg h4, if_pos h5]
    clear h1 h2 h3 h12 h4 h5
    go_enter Tryd.func21, Tryd.ntmps21
    go_wp2_with (first
      | go_big_skip
      | (show wpList _ _ _ (⟨some 5, .binOp _ _ _ _ _, _, _, _, _⟩ :: _) _ _; refine wpList_val rfl (op_ilss rfl rfl rfl H1.out) ?_; go_frame)
      | (show wpList _ _ _ (⟨some 10, .indexAddr _ _ _, _, _, _, _⟩ :: _) _ _; refine wpList_val rfl (op_indexArrZ arr2i rfl (b := p) (off := 35) rfl rfl 0 rfl (by omega)) ?_; go_frame)
      | (show wpList _ _ _ (⟨some 11, .load _ _, _, _, _, _⟩ :: _) _ _; refine wpList_val rfl (op_load1S (b := p) (T := 52) oneInt ((hS.bring (by repeat (first | exact t0 | apply tS)))) rfl rfl G0.out) ?_; go_frame)
      | (show wpList _ _ _ (⟨some 13, .binOp _ _ _ _ _, _, _, _, _⟩ :: _) _ _; refine wpList_val rfl (op_eqI' rfl rfl rfl E0.out) ?_; go_frame)
      | (show wpList _ _ _ (⟨some 19, .indexAddr _ _ _, _, _, _, _⟩ :: _) _ _; refine wpList_val rfl (op_indexArrZ arr2i rfl (b := p) (off := 35) rfl rfl 1 rfl (by omega)) ?_; go_frame)
      | (show wpList _ _ _ (⟨some 20, .load _ _, _, _, _, _⟩ :: _) _ _; refine wpList_val rfl (op_load1S (b := p) (T := 52) oneInt ((hS.bring (by repeat (first | exact t0 | apply tS)))) rfl rfl G1.out) ?_; go_frame)
      | (show wpList _ _ _ (⟨some 22, .binOp _ _ _ _ _, _, _, _, _⟩ :: _) _ _; refine wpList_val rfl (op_eqI' rfl rfl rfl E1.out) ?_; go_frame)
      | (show wpList _ _ _ (⟨some 27, .indexAddr _ _ _, _, _, _, _⟩ :: _) _ _; refine wpList_val rfl (op_indexArrZ arr2i rfl (b := p) (off := 35) rfl rfl 0 rfl (by omega)) ?_; go_frame)
      | (show wpList _ _ _ (⟨some 28, .load _ _, _, _, _, _⟩ :: _) _ _; refine wpList_val rfl (op_load1S (b := p) (T := 52) oneInt ((hS.bring (by repeat (first | exact t0 | apply tS)))) rfl rfl G0.out) ?_; go_frame)
      | (show wpList _ _ _ (⟨some 29, .binOp _ _ _ _ _, _, _, _, _⟩ :: _) _ _; refine wpList_val rfl (op_eqI' rfl rfl rfl N0.out) ?_; go_frame)
      | (show wpList _ _ _ (⟨some 34, .indexAddr _ _ _, _, _, _, _⟩ :: _) _ _; refine wpList_val rfl (op_indexArrZ arr2i rfl (b := p) (off := 35) rfl rfl 0 rfl (by omega)) ?_; go_frame)
      | (show wpList _ _ _ (⟨some 38, .indexAddr _ _ _, _, _, _, _⟩ :: _) _ _; refine wpList_val rfl (op_indexArrZ arr2i rfl (b := p) (off := 35) rfl rfl 1 rfl (by omega)) ?_; go_frame)
      | (show wpList _ _ _ (⟨some 39, .load _ _, _, _, _, _⟩ :: _) _ _; refine wpList_val rfl (op_load1S (b := p) (T := 52) oneInt ((hS.bring (by repeat (first | exact t0 | apply tS)))) rfl rfl G1.out) ?_; go_frame)
      | (show wpList _ _ _ (⟨some 40, .binOp _ _ _ _ _, _, _, _, _⟩ :: _) _ _; refine wpList_val rfl (op_eqI' rfl rfl rfl N1.out) ?_; go_frame)
      | (show wpList _ _ _ (⟨some 45, .indexAddr _ _ _, _, _, _, _⟩ :: _) _ _; refine wpList_val rfl (op_indexArrZ arr2i rfl (b := p) (off := 35) rfl rfl 1 rfl (by omega)) ?_; go_frame)
      | (show wpList _ _ _ (⟨_, .store 3 _ _, _, _, _, _⟩ :: _) _ _; (refine wpS_store1 (b := p) (i := 36) (T := 52) (by kernel_rfl) (hS.bring (by repeat (first | exact t0 | apply tS))) rfl rfl rfl (v := I64 q) rfl rfl rfl (by have := HLN.out; omega) ?_); clear hS; intro w hS; rw [HST.out] at hS; go_frame)
      )
    refine bodyPost_end (results_none rfl _ _ _) rfl ?_
    rw [HE.out]
    exact hS.sel (by repeat (first | exact Sel.refl | refine Sel.take (by repeat (first | exact t0 | apply tS)) ?_ | apply Sel.drop))
  have N1 := eqF h5
  have HE : Hid (joinR r q = r) := by
    unfold Hid joinR
    rw [if_neg h12, if_neg h4, if_neg h5]
  clear h1 h2 h3 h12 h4 h5
  go_enter Tryd.func21, Tryd.ntmps21
  go_wp2_with (first
    | go_big_skip
    | (show wpList _ _ _ (⟨some 5, .binOp _ _ _ _ _, _, _, _, _⟩ :: _) _ _; refine wpList_val rfl (op_ilss rfl rfl rfl H1.out) ?_; go_frame)
    | (show wpList _ _ _ (⟨some 10, .indexAddr _ _ _, _, _, _, _⟩ :: _) _ _; refine wpList_val rfl (op_indexArrZ arr2i rfl (b := p) (off := 35) rfl rfl 0 rfl (by omega)) ?_; go_frame)
    | (show wpList _ _ _ (⟨some 11, .load _ _, _, _, _, _⟩ :: _) _ _; refine wpList_val rfl (op_load1S (b := p) (T := 52) oneInt ((hS.bring (by repeat (first | exact t0 | apply tS)))) rfl rfl G0.out) ?_; go_frame)
    | (show wpList _ _ _ (⟨some 13, .binOp _ _ _ _ _, _, _, _, _⟩ :: _) _ _; refine wpList_val rfl (op_eqI' rfl rfl rfl E0.out) ?_; go_frame)
    | (show wpList _ _ _ (⟨some 19, .indexAddr _ _ _, _, _, _, _⟩ :: _) _ _; refine wpList_val rfl (op_indexArrZ arr2i rfl (b := p) (off := 35) rfl rfl 1 rfl (by omega)) ?_; go_frame)
    | (show wpList _ _ _ (⟨some 20, .load _ _, _, _, _, _⟩ :: _) _ _; refine wpList_val rfl (op_load1S (b := p) (T := 52) oneInt ((hS.bring (by repeat (first | exact t0 | apply tS)))) rfl rfl G1.out) ?_; go_frame)
    | (show wpList _ _ _ (⟨some 22, .binOp _ _ _ _ _, _, _, _, _⟩ :: _) _ _; refine wpList_val rfl (op_eqI' rfl rfl rfl E1.out) ?_; go_frame)
    | (show wpList _ _ _ (⟨some 27, .indexAddr _ _ _, _, _, _, _⟩ :: _) _ _; refine wpList_val rfl (op_indexArrZ arr2i rfl (b := p) (off := 35) rfl rfl 0 rfl (by omega)) ?_; go_frame)
    | (show wpList _ _ _ (⟨some 28, .load _ _, _, _, _, _⟩ :: _) _ _; refine wpList_val rfl (op_load1S (b := p) (T := 52) oneInt ((hS.bring (by repeat (first | exact t0 | apply tS)))) rfl rfl G0.out) ?_; go_frame)
    | (show wpList _ _ _ (⟨some 29, .binOp _ _ _ _ _, _, _, _, _⟩ :: _) _ _; refine wpList_val rfl (op_eqI' rfl rfl rfl N0.out) ?_; go_frame)
    | (show wpList _ _ _ (⟨some 34, .indexAddr _ _ _, _, _, _, _⟩ :: _) _ _; refine wpList_val rfl (op_indexArrZ arr2i rfl (b := p) (off := 35) rfl rfl 0 rfl (by omega)) ?_; go_frame)
    | (show wpList _ _ _ (⟨some 38, .indexAddr _ _ _, _, _, _, _⟩ :: _) _ _; refine wpList_val rfl (op_indexArrZ arr2i rfl (b := p) (off := 35) rfl rfl 1 rfl (by omega)) ?_; go_frame)
    | (show wpList _ _ _ (⟨some 39, .load _ _, _, _, _, _⟩ :: _) _ _; refine wpList_val rfl (op_load1S (b := p) (T := 52) oneInt ((hS.bring (by repeat (first | exact t0 | apply tS)))) rfl rfl G1.out) ?_; go_frame)
    | (show wpList _ _ _ (⟨some 40, .binOp _ _ _ _ _, _, _, _, _⟩ :: _) _ _; refine wpList_val rfl (op_eqI' rfl rfl rfl N1.out) ?_; go_frame)
    | (show wpList _ _ _ (⟨some 45, .indexAddr _ _ _, _, _, _, _⟩ :: _) _ _; refine wpList_val rfl (op_indexArrZ arr2i rfl (b := p) (off := 35) rfl rfl 1 rfl (by omega)) ?_; go_frame)
    )
  refine bodyPost_end (results_none rfl _ _ _) rfl ?_
  rw [HE.out]
  exact hS.sel (by repeat (first | exact Sel.refl | refine Sel.take (by repeat (first | exact t0 | apply tS)) ?_ | apply Sel.drop))
set_option maxRecDepth 100000 in
set_option maxHeartbeats 2000000 in
theorem rleft_s {p : Nat} {sa : List Byte} {r : Rt} {q : Int} {v : Value} {peers : List Int} (hS : SepL R base w (.blk p 52 (rrC sa r) :: F)) (hsa : sa.length = 32) (hv : RdIn R base 1 v (peers.map fun z => [I64 z])) (hlen : peers.length ≤ 1000000) {d : Nat} (hd : d < 65536) :
    Calls Tryd.prog 22 #[.pointer (some ⟨p, 0, none⟩), I64 q, v, .int .u16 d] w (Ret fun _ w' => SepL R base w' (.blk p 52 (rrC sa (leftR r q peers d)) :: F)) := by
  have HLN := hide (rr_lt hsa r)
  have G0 : Hid ((rrC sa r)[35]? = some (I64 r.s0)) := head_at hsa r _ (k := 3) (by omega)
  have G1 : Hid ((rrC sa r)[36]? = some (I64 r.s1)) := head_at hsa r _ (k := 4) (by omega)
  by_cases h1 : q < 0
  · have H1 : Hid (decide (q < 0) = true) := decide_eq_true h1
    have HE : Hid (leftR r q peers d = r) := if_pos h1
    clear h1
    go_enter Tryd.func22, Tryd.ntmps22
    go_wp2_with (first
      | (show wpList _ _ _ (⟨some 9, .binOp _ _ _ _ _, _, _, _, _⟩ :: _) _ _; refine wpList_val rfl (op_ilss rfl rfl rfl H1.out) ?_; go_frame)
      | (show wpList _ _ _ (⟨some 13, .indexAddr _ _ _, _, _, _, _⟩ :: _) _ _; refine wpList_val rfl (op_indexArrZ arr2i rfl (b := p) (off := 35) rfl rfl 0 rfl (by omega)) ?_; go_frame)
      | (show wpList _ _ _ (⟨some 14, .load _ _, _, _, _, _⟩ :: _) _ _; refine wpList_val rfl (op_load1S (b := p) (T := 52) oneInt ((hS.bring (by repeat (first | exact t0 | apply tS)))) rfl rfl G0.out) ?_; go_frame)
      | (show wpList _ _ _ (⟨some 16, .binOp _ _ _ _ _, _, _, _, _⟩ :: _) _ _; refine wpList_val rfl (op_eqI' rfl rfl rfl E0.out) ?_; go_frame)
      | (show wpList _ _ _ (⟨some 35, .indexAddr _ _ _, _, _, _, _⟩ :: _) _ _; refine wpList_val rfl (op_indexArrZ arr2i rfl (b := p) (off := 35) rfl rfl 1 rfl (by omega)) ?_; go_frame)
      | (show wpList _ _ _ (⟨some 36, .load _ _, _, _, _, _⟩ :: _) _ _; refine wpList_val rfl (op_load1S (b := p) (T := 52) oneInt ((hS.bring (by repeat (first | exact t0 | apply tS)))) rfl rfl G1.out) ?_; go_frame)
      | (show wpList _ _ _ (⟨some 38, .binOp _ _ _ _ _, _, _, _, _⟩ :: _) _ _; refine wpList_val rfl (op_eqI' rfl rfl rfl E1.out) ?_; go_frame)
      )
    refine bodyPost_end (results_none rfl _ _ _) rfl ?_
    rw [HE.out]
    exact hS.sel (by repeat (first | exact Sel.refl | refine Sel.take (by repeat (first | exact t0 | apply tS)) ?_ | apply Sel.drop))
  have H1 : Hid (decide (q < 0) = false) := decide_eq_false h1
  by_cases h2 : r.s0 = q
  · have E0 := eqT h2
    obtain ⟨z, hz⟩ : ∃ z, pickI (cntP peers [q, r.s1]) d = z := ⟨_, rfl⟩
    have HPK := hide hz
    have HCL := hide (cells2 q r.s1)
    have HST := hide (rr_0 hsa r z)
    have HE : Hid (leftR r q peers d = { r with s0 := z }) := by
      unfold Hid leftR
      rw [if_neg h1, if_pos h2, hz]
    clear h1 h2 hz
    go_enter Tryd.func22, Tryd.ntmps22
    go_wp2_with (first
      | (show wpList _ _ _ (⟨some 9, .binOp _ _ _ _ _, _, _, _, _⟩ :: _) _ _; refine wpList_val rfl (op_ilss rfl rfl rfl H1.out) ?_; go_frame)
      | (show wpList _ _ _ (⟨some 13, .indexAddr _ _ _, _, _, _, _⟩ :: _) _ _; refine wpList_val rfl (op_indexArrZ arr2i rfl (b := p) (off := 35) rfl rfl 0 rfl (by omega)) ?_; go_frame)
      | (show wpList _ _ _ (⟨some 14, .load _ _, _, _, _, _⟩ :: _) _ _; refine wpList_val rfl (op_load1S (b := p) (T := 52) oneInt ((hS.bring (by repeat (first | exact t0 | apply tS)))) rfl rfl G0.out) ?_; go_frame)
      | (show wpList _ _ _ (⟨some 16, .binOp _ _ _ _ _, _, _, _, _⟩ :: _) _ _; refine wpList_val rfl (op_eqI' rfl rfl rfl E0.out) ?_; go_frame)
      | (show wpList _ _ _ (⟨some 35, .indexAddr _ _ _, _, _, _, _⟩ :: _) _ _; refine wpList_val rfl (op_indexArrZ arr2i rfl (b := p) (off := 35) rfl rfl 1 rfl (by omega)) ?_; go_frame)
      | (show wpList _ _ _ (⟨some 36, .load _ _, _, _, _, _⟩ :: _) _ _; refine wpList_val rfl (op_load1S (b := p) (T := 52) oneInt ((hS.bring (by repeat (first | exact t0 | apply tS)))) rfl rfl G1.out) ?_; go_frame)
      | (show wpList _ _ _ (⟨some 38, .binOp _ _ _ _ _, _, _, _, _⟩ :: _) _ _; refine wpList_val rfl (op_eqI' rfl rfl rfl E1.out) ?_; go_frame)
      )
    refine wp_region_text (by kernel_rfl) (by kernel_rfl) (by repeat (first | exact Clean.body | refine Clean.then ?_ | refine Clean.inBlock ?_)) ?_
    replace hS := hS.drew
    go_wp2_with (first
      | (show wpList _ _ _ (⟨some 23, .indexAddr _ _ _, _, _, _, _⟩ :: _) _ _; refine wpList_val rfl (op_indexArrZ arr2i rfl (b := p) (off := 35) rfl rfl 1 rfl (by omega)) ?_; go_frame)
      | (show wpList _ _ _ (⟨some 24, .load _ _, _, _, _, _⟩ :: _) _ _; refine wpList_val rfl (op_load1S (b := p) (T := 52) oneInt ((hS.bring (by repeat (first | exact t0 | apply tS)))) rfl rfl G1.out) ?_; go_frame)
      | (show wpList _ _ _ (⟨some 25, .buildSlice _ _ _, _, _, _, _⟩ :: _) _ _; refine wpS_buildL slInt hS rfl rfl [I64 q, I64 r.s1] rfl rfl (by omega) (by omega) (by simp [Value.cells]) ?_; clear hS; intro vb w hS; rw [HCL.out] at hS; go_frame)
      | (go_at_call 44; (refine Ret.calls (counted_o (v := v) (peers := peers) (but := [q, r.s1]) (hS.bring (by repeat (first | exact t0 | apply tS))) hv hlen) ?_); clear hS; rintro vc w hS)
      | (go_at_call 43; refine Ret.calls (pick_rs vc (cntP peers [q, r.s1]) _ ((hS.bring (by repeat (first | exact t0 | apply tS))).getOwn.rd) hd) ?_; rintro r1 w' ⟨rfl, rfl⟩; rw [HPK.out])
      | (show wpList _ _ _ (⟨some 31, .indexAddr _ _ _, _, _, _, _⟩ :: _) _ _; refine wpList_val rfl (op_indexArrZ arr2i rfl (b := p) (off := 35) rfl rfl 0 rfl (by omega)) ?_; go_frame)
      | (show wpList _ _ _ (⟨_, .store 3 _ _, _, _, _, _⟩ :: _) _ _; (refine wpS_store1 (b := p) (i := 35) (T := 52) (by kernel_rfl) (hS.bring (by repeat (first | exact t0 | apply tS))) rfl rfl rfl (v := I64 z) rfl rfl rfl (by have := HLN.out; omega) ?_); clear hS; intro w hS; rw [HST.out] at hS; go_frame)
      | (refine fin_mk (by kernel_rfl) ?_)
      )
    refine bodyPost_end (results_none rfl _ _ _) rfl ?_
    rw [HE.out]
    exact hS.sel (by repeat (first | exact Sel.refl | refine Sel.take (by repeat (first | exact t0 | apply tS)) ?_ | apply Sel.drop))
  have E0 := eqF h2
  by_cases h3 : r.s1 = q
  · have E1 := eqT h3
    obtain ⟨z, hz⟩ : ∃ z, pickI (cntP peers [q, r.s0]) d = z := ⟨_, rfl⟩
    have HPK := hide hz
    have HCL := hide (cells2 q r.s0)
    have HST := hide (rr_1 hsa r z)
    have HE : Hid (leftR r q peers d = { r with s1 := z }) := by
      unfold Hid leftR
      rw [if_neg h1, if_neg h2, if_pos h3, hz]
    clear h1 h2 h3 hz
    go_enter Tryd.func22, Tryd.ntmps22
    go_wp2_with (first
      | (show wpList _ _ _ (⟨some 9, .binOp _ _ _ _ _, _, _, _, _⟩ :: _) _ _; refine wpList_val rfl (op_ilss rfl rfl rfl H1.out) ?_; go_frame)
      | (show wpList _ _ _ (⟨some 13, .indexAddr _ _ _, _, _, _, _⟩ :: _) _ _; refine wpList_val rfl (op_indexArrZ arr2i rfl (b := p) (off := 35) rfl rfl 0 rfl (by omega)) ?_; go_frame)
      | (show wpList _ _ _ (⟨some 14, .load _ _, _, _, _, _⟩ :: _) _ _; refine wpList_val rfl (op_load1S (b := p) (T := 52) oneInt ((hS.bring (by repeat (first | exact t0 | apply tS)))) rfl rfl G0.out) ?_; go_frame)
      | (show wpList _ _ _ (⟨some 16, .binOp _ _ _ _ _, _, _, _, _⟩ :: _) _ _; refine wpList_val rfl (op_eqI' rfl rfl rfl E0.out) ?_; go_frame)
      | (show wpList _ _ _ (⟨some 35, .indexAddr _ _ _, _, _, _, _⟩ :: _) _ _; refine wpList_val rfl (op_indexArrZ arr2i rfl (b := p) (off := 35) rfl rfl 1 rfl (by omega)) ?_; go_frame)
      | (show wpList _ _ _ (⟨some 36, .load _ _, _, _, _, _⟩ :: _) _ _; refine wpList_val rfl (op_load1S (b := p) (T := 52) oneInt ((hS.bring (by repeat (first | exact t0 | apply tS)))) rfl rfl G1.out) ?_; go_frame)
      | (show wpList _ _ _ (⟨some 38, .binOp _ _ _ _ _, _, _, _, _⟩ :: _) _ _; refine wpList_val rfl (op_eqI' rfl rfl rfl E1.out) ?_; go_frame)
      )
    refine wp_region_text (by kernel_rfl) (by kernel_rfl) (by repeat (first | exact Clean.body | refine Clean.then ?_ | refine Clean.inBlock ?_)) ?_
    replace hS := hS.drew
    go_wp2_with (first
      | (show wpList _ _ _ (⟨some 45, .indexAddr _ _ _, _, _, _, _⟩ :: _) _ _; refine wpList_val rfl (op_indexArrZ arr2i rfl (b := p) (off := 35) rfl rfl 0 rfl (by omega)) ?_; go_frame)
      | (show wpList _ _ _ (⟨some 46, .load _ _, _, _, _, _⟩ :: _) _ _; refine wpList_val rfl (op_load1S (b := p) (T := 52) oneInt ((hS.bring (by repeat (first | exact t0 | apply tS)))) rfl rfl G0.out) ?_; go_frame)
      | (show wpList _ _ _ (⟨some 47, .buildSlice _ _ _, _, _, _, _⟩ :: _) _ _; refine wpS_buildL slInt hS rfl rfl [I64 q, I64 r.s0] rfl rfl (by omega) (by omega) (by simp [Value.cells]) ?_; clear hS; intro vb w hS; rw [HCL.out] at hS; go_frame)
      | (go_at_call 44; (refine Ret.calls (counted_o (v := v) (peers := peers) (but := [q, r.s0]) (hS.bring (by repeat (first | exact t0 | apply tS))) hv hlen) ?_); clear hS; rintro vc w hS)
      | (go_at_call 43; refine Ret.calls (pick_rs vc (cntP peers [q, r.s0]) _ ((hS.bring (by repeat (first | exact t0 | apply tS))).getOwn.rd) hd) ?_; rintro r1 w' ⟨rfl, rfl⟩; rw [HPK.out])
      | (show wpList _ _ _ (⟨some 53, .indexAddr _ _ _, _, _, _, _⟩ :: _) _ _; refine wpList_val rfl (op_indexArrZ arr2i rfl (b := p) (off := 35) rfl rfl 1 rfl (by omega)) ?_; go_frame)
      | (show wpList _ _ _ (⟨_, .store 3 _ _, _, _, _, _⟩ :: _) _ _; (refine wpS_store1 (b := p) (i := 36) (T := 52) (by kernel_rfl) (hS.bring (by repeat (first | exact t0 | apply tS))) rfl rfl rfl (v := I64 z) rfl rfl rfl (by have := HLN.out; omega) ?_); clear hS; intro w hS; rw [HST.out] at hS; go_frame)
      | (refine fin_mk (by kernel_rfl) ?_)
      )
    refine bodyPost_end (results_none rfl _ _ _) rfl ?_
    rw [HE.out]
    exact hS.sel (by repeat (first | exact Sel.refl | refine Sel.take (by repeat (first | exact t0 | apply tS)) ?_ | apply Sel.drop))
  have E1 := eqF h3
  have HE : Hid (leftR r q peers d = r) := by
    unfold Hid leftR
    rw [if_neg h1, if_neg h2, if_neg h3]
  clear h1 h2 h3
  go_enter Tryd.func22, Tryd.ntmps22
  go_wp2_with (first
    | (show wpList _ _ _ (⟨some 9, .binOp _ _ _ _ _, _, _, _, _⟩ :: _) _ _; refine wpList_val rfl (op_ilss rfl rfl rfl H1.out) ?_; go_frame)
    | (show wpList _ _ _ (⟨some 13, .indexAddr _ _ _, _, _, _, _⟩ :: _) _ _; refine wpList_val rfl (op_indexArrZ arr2i rfl (b := p) (off := 35) rfl rfl 0 rfl (by omega)) ?_; go_frame)
    | (show wpList _ _ _ (⟨some 14, .load _ _, _, _, _, _⟩ :: _) _ _; refine wpList_val rfl (op_load1S (b := p) (T := 52) oneInt ((hS.bring (by repeat (first | exact t0 | apply tS)))) rfl rfl G0.out) ?_; go_frame)
    | (show wpList _ _ _ (⟨some 16, .binOp _ _ _ _ _, _, _, _, _⟩ :: _) _ _; refine wpList_val rfl (op_eqI' rfl rfl rfl E0.out) ?_; go_frame)
    | (show wpList _ _ _ (⟨some 35, .indexAddr _ _ _, _, _, _, _⟩ :: _) _ _; refine wpList_val rfl (op_indexArrZ arr2i rfl (b := p) (off := 35) rfl rfl 1 rfl (by omega)) ?_; go_frame)
    | (show wpList _ _ _ (⟨some 36, .load _ _, _, _, _, _⟩ :: _) _ _; refine wpList_val rfl (op_load1S (b := p) (T := 52) oneInt ((hS.bring (by repeat (first | exact t0 | apply tS)))) rfl rfl G1.out) ?_; go_frame)
    | (show wpList _ _ _ (⟨some 38, .binOp _ _ _ _ _, _, _, _, _⟩ :: _) _ _; refine wpList_val rfl (op_eqI' rfl rfl rfl E1.out) ?_; go_frame)
    )
  refine bodyPost_end (results_none rfl _ _ _) rfl ?_
  rw [HE.out]
  exact hS.sel (by repeat (first | exact Sel.refl | refine Sel.take (by repeat (first | exact t0 | apply tS)) ?_ | apply Sel.drop))
end
end Go.Proofs.YtlplgobkidpgkaaDoor
namespace Go.Proofs.YtlplgobkidpgkaaDoor
open Go Go.RowKit Go.Px Go.Sha
theorem rat2_get {sa : List Byte} (hsa : sa.length = 32) (r : Rt) {m : Nat} (hm : m < 2) : (rrC sa r)[35 + m]? = some (I64 (at2 r m)) := by
  unfold at2
  by_cases h0 : m = 0
  · subst h0
    rw [if_pos rfl]
    exact head_at hsa r _ (k := 3) (by omega)
  · have h1 : m = 1 := by omega
    subst h1
    rw [if_neg (by omega)]
    exact head_at hsa r _ (k := 4) (by omega)
theorem at2_lo {r : Rt} (hok : ROk 3 r) (n : Nat) : -1 ≤ at2 r n := by
  unfold at2
  split
  · exact hok.lo0
  · exact hok.lo1
theorem rway_at {q : Nat} (hq : q < 2) {r : Rt} {s : Int} {t : Bool} (hs : isSrc s = true) (ht : turnB r s = t) {i0 i1 : Nat} (h0 : (if t then 1 - q else q) = i0) (h1 : 1 - i0 = i1) : wayR q r s = way2 (at2 r i0) (at2 r i1) s := by
  unfold wayR
  rw [if_pos hs, ht]
  have hk2 : q = 0 ∨ q = 1 := by omega
  unfold at2
  rcases hk2 with rfl | rfl <;> cases t <;> simp at h0 <;> subst h0 <;> simp at h1 <;> subst h1 <;> simp
section
variable {R : Nat → Prop} {base w : World} {F : List Hp}
set_option maxRecDepth 100000 in
set_option maxHeartbeats 4000000 in
theorem rway_s {p : Nat} {sa : List Byte} {r : Rt} {s : Int} (hS : SepL R base w (.blk p 52 (rrC sa r) :: F)) (hsa : sa.length = 32) (hok : ROk 3 r) :
    Calls Tryd.prog 30 #[.pointer (some ⟨p, 0, none⟩), I64 s] w (Ret fun y w' => y = I64 (wayS sa r s) ∧ SepL R base w' (.blk p 52 (rrC sa r) :: F)) := by
  cases hs : isSrc s with
  | false =>
    have HE : Hid (wayS sa r s = -1) := by
      unfold Hid wayS wayR
      rw [hs]
      rfl
    go_enter Tryd.func30, Tryd.ntmps30
    go_wp2_with (first
      | (go_at_call 45; refine Ret.calls (source_s s w hs) ?_; rintro r1 w' ⟨rfl, rfl⟩)
      )
    go_ret
    exact ⟨by rw [HE.out]; rfl, hS⟩
  | true =>
    obtain ⟨hk, he⟩ := src_lt hs
    obtain ⟨k, hk0⟩ : ∃ k, s.toNat = k := ⟨_, rfl⟩
    rw [hk0] at hk he
    subst he
    have ht := List.getElem?_eq_getElem (show k < r.ts.length by rw [hok.tl]; exact hk)
    obtain ⟨t, ht1⟩ : ∃ t, r.ts[k]'(by rw [hok.tl]; exact hk) = t := ⟨_, rfl⟩
    rw [ht1] at ht
    have htb : turnB r k = t := by
      rw [turnB_of hs, hk0, ht]
      rfl
    have HT := hide (rr_ts hsa hok.ml ht)
    have HEP : Hid ((rrC sa r)[32]? = some (W64 (BitVec.ofNat 64 r.epoch))) := by
      unfold Hid
      rw [← U_of hok.ep]
      exact head_at hsa r _ (k := 0) (by omega)
    have HSA : Hid (((rrC sa r).drop 0).take 32 = sa.map B8) := head_salt hsa r _
    have HSL : Hid ((sa.map B8).length = 32) := by simp [Hid, hsa]
    obtain ⟨q, hq⟩ : ∃ q, routeN sa (BitVec.ofNat 64 r.epoch) k 2 = q := ⟨_, rfl⟩
    have hq2 : q < 2 := by
      rw [← hq]
      exact routeN_lt sa _ k (by omega)
    have hqk : kOf sa r k = q := by
      unfold kOf
      rw [hk0, hq]
    have HR : ∀ {w : World} {F : List Hp}, SepL R base w F → Calls Tryd.prog 46 #[.agg (sa.map B8).toArray, W64 (BitVec.ofNat 64 r.epoch), .int .i64 (k : Nat), .int .i64 2] w (Ret fun y w' => y = .tuple #[.int .i64 (q : Nat), .int .i64 0] ∧ SepL R base w' F) := fun hS => by
      have h1 := rroute_s hS hsa (BitVec.ofNat 64 r.epoch) k 2 (by omega) (by omega) (by omega)
      rw [hq] at h1
      exact h1
    obtain ⟨i0, h0⟩ : ∃ i, (if t then 1 - q else q) = i := ⟨_, rfl⟩
    obtain ⟨i1, h1⟩ : ∃ i, 1 - i0 = i := ⟨_, rfl⟩
    have hi0 : i0 < 2 := by
      rw [← h0]
      split <;> omega
    have hi1 : i1 < 2 := by omega
    have HI : Hid ((1 : Int) - (i0 : Nat) = (i1 : Nat)) := by
      unfold Hid
      omega
    have hW : wayS sa r k = way2 (at2 r i0) (at2 r i1) k := by
      unfold wayS
      rw [hqk]
      exact rway_at hq2 hs htb h0 h1
    obtain ⟨x, hx⟩ : ∃ x, at2 r i0 = x := ⟨_, rfl⟩
    obtain ⟨y, hy⟩ : ∃ y, at2 r i1 = y := ⟨_, rfl⟩
    have hxl := at2_lo hok i0
    have hyl := at2_lo hok i1
    have hX := rat2_get hsa r hi0
    have hY := rat2_get hsa r hi1
    rw [hx] at hW hxl hX
    rw [hy] at hW hyl hY
    unfold way2 at hW
    have HX := hide hX
    have HY := hide hY
    clear ht ht1 htb hk0 hq hqk hx hy hX hY h1
    cases t with
    | false =>
      obtain rfl : i0 = q := h0.symm
      by_cases x0 : 0 ≤ x
      · have GX : Hid (decide (0 ≤ x) = true) := decide_eq_true x0
        by_cases x1 : x = (k : Int)
        · have NX := neF x1
          have hbad : ¬ (x ≠ -1 ∧ x ≠ (k : Int)) := fun h => h.2 x1
          have hW2 : wayS sa r k = if y ≠ -1 ∧ y ≠ (k : Int) then y else -1 := hW.trans (if_neg hbad)
          by_cases y0 : 0 ≤ y
          · have GY : Hid (decide (0 ≤ y) = true) := decide_eq_true y0
            by_cases y1 : y = (k : Int)
            · have NY := neF y1
              have HE : Hid (wayS sa r k = -1) := hW2.trans (if_neg (fun h => h.2 y1))
              clear x0 y0 y1 hW hW2 hbad
              go_enter Tryd.func30, Tryd.ntmps30
              go_wp2_with (first
                | (go_at_call 45; refine Ret.calls (source_s (k : Int) w hs) ?_; rintro r1 w' ⟨rfl, rfl⟩)
                )
              refine wp_region_text (by kernel_rfl) (by kernel_rfl) (by repeat (first | exact Clean.body | refine Clean.then ?_ | refine Clean.inBlock ?_)) ?_
              replace hS := hS.drew
              go_wp2_with (first
                | (show wpList _ _ _ (⟨some 16, .load _ _, _, _, _, _⟩ :: _) _ _; refine wpList_val rfl (op_load agg32b rfl rfl ((SepL.getBlk (b := p) (T := 52) ((hS.bring (by repeat (first | exact t0 | apply tS))))).cells.subN 0 32 HSA.out) HSL.out) ?_; go_frame)
                | (show wpList _ _ _ (⟨some 20, .load _ _, _, _, _, _⟩ :: _) _ _; refine wpList_val rfl (op_load1S (b := p) (T := 52) oneU64 ((hS.bring (by repeat (first | exact t0 | apply tS)))) rfl rfl HEP.out) ?_; go_frame)
                | (go_at_call 46; refine Ret.calls (HR hS) ?_; clear hS; rintro r1 w ⟨rfl, hS⟩)
                | (refine fin_mk (by kernel_rfl) ?_)
                | go_big_skip
                | (show wpList _ _ _ (⟨some 29, .indexAddr _ _ _, _, _, _, _⟩ :: _) _ _; refine wpList_val rfl (op_indexArr arr65b rfl (b := p) (off := 102) rfl (k := k) rfl hk) ?_; go_frame)
                | (show wpList _ _ _ (⟨some 30, .load _ _, _, _, _, _⟩ :: _) _ _; refine wpList_val rfl (op_load1S (b := p) (T := 52) oneBool ((hS.bring (by repeat (first | exact t0 | apply tS)))) rfl rfl HT.out) ?_; go_frame)
                | (show wpList _ _ _ (⟨some 32, .binOp _ _ _ _ _, _, _, _, _⟩ :: _) _ _; refine wpList_val rfl (op_isubN rfl rfl rfl i0 HTI.out (by omega)) ?_; go_frame)
                | (show wpList _ _ _ (⟨some 37, .indexAddr _ _ _, _, _, _, _⟩ :: _) _ _; refine wpList_val rfl (op_indexArr arr2i rfl (b := p) (off := 35) rfl (k := i0) rfl hi0) ?_; go_frame)
                | (show wpList _ _ _ (⟨some 38, .load _ _, _, _, _, _⟩ :: _) _ _; refine wpList_val rfl (op_load1S (b := p) (T := 52) oneInt ((hS.bring (by repeat (first | exact t0 | apply tS)))) rfl rfl HX.out) ?_; go_frame)
                | (show wpList _ _ _ (⟨some 40, .binOp _ _ _ _ _, _, _, _, _⟩ :: _) _ _; refine wpList_val rfl (op_igeq rfl rfl rfl GX.out) ?_; go_frame)
                | (show wpList _ _ _ (⟨some 44, .binOp _ _ _ _ _, _, _, _, _⟩ :: _) _ _; refine wpList_val rfl (op_ineI rfl rfl rfl NX.out) ?_; go_frame)
                | (show wpList _ _ _ (⟨some 49, .binOp _ _ _ _ _, _, _, _, _⟩ :: _) _ _; refine wpList_val rfl (op_isubN rfl rfl rfl i1 HI.out (by omega)) ?_; go_frame)
                | (show wpList _ _ _ (⟨some 52, .indexAddr _ _ _, _, _, _, _⟩ :: _) _ _; refine wpList_val rfl (op_indexArr arr2i rfl (b := p) (off := 35) rfl (k := i1) rfl hi1) ?_; go_frame)
                | (show wpList _ _ _ (⟨some 53, .load _ _, _, _, _, _⟩ :: _) _ _; refine wpList_val rfl (op_load1S (b := p) (T := 52) oneInt ((hS.bring (by repeat (first | exact t0 | apply tS)))) rfl rfl HY.out) ?_; go_frame)
                | (show wpList _ _ _ (⟨some 55, .binOp _ _ _ _ _, _, _, _, _⟩ :: _) _ _; refine wpList_val rfl (op_igeq rfl rfl rfl GY.out) ?_; go_frame)
                | (show wpList _ _ _ (⟨some 59, .binOp _ _ _ _ _, _, _, _, _⟩ :: _) _ _; refine wpList_val rfl (op_ineI rfl rfl rfl NY.out) ?_; go_frame)
                )
              go_ret
              exact ⟨by rw [HE.out]; rfl, hS⟩
            · have NY := neT y1
              have HE : Hid (wayS sa r k = y) := hW2.trans (if_pos ⟨by omega, y1⟩)
              clear x0 y0 y1 hW hW2 hbad
              go_enter Tryd.func30, Tryd.ntmps30
              go_wp2_with (first
                | (go_at_call 45; refine Ret.calls (source_s (k : Int) w hs) ?_; rintro r1 w' ⟨rfl, rfl⟩)
                )
              refine wp_region_text (by kernel_rfl) (by kernel_rfl) (by repeat (first | exact Clean.body | refine Clean.then ?_ | refine Clean.inBlock ?_)) ?_
              replace hS := hS.drew
              go_wp2_with (first
                | (show wpList _ _ _ (⟨some 16, .load _ _, _, _, _, _⟩ :: _) _ _; refine wpList_val rfl (op_load agg32b rfl rfl ((SepL.getBlk (b := p) (T := 52) ((hS.bring (by repeat (first | exact t0 | apply tS))))).cells.subN 0 32 HSA.out) HSL.out) ?_; go_frame)
                | (show wpList _ _ _ (⟨some 20, .load _ _, _, _, _, _⟩ :: _) _ _; refine wpList_val rfl (op_load1S (b := p) (T := 52) oneU64 ((hS.bring (by repeat (first | exact t0 | apply tS)))) rfl rfl HEP.out) ?_; go_frame)
                | (go_at_call 46; refine Ret.calls (HR hS) ?_; clear hS; rintro r1 w ⟨rfl, hS⟩)
                | (refine fin_mk (by kernel_rfl) ?_)
                | go_big_skip
                | (show wpList _ _ _ (⟨some 29, .indexAddr _ _ _, _, _, _, _⟩ :: _) _ _; refine wpList_val rfl (op_indexArr arr65b rfl (b := p) (off := 102) rfl (k := k) rfl hk) ?_; go_frame)
                | (show wpList _ _ _ (⟨some 30, .load _ _, _, _, _, _⟩ :: _) _ _; refine wpList_val rfl (op_load1S (b := p) (T := 52) oneBool ((hS.bring (by repeat (first | exact t0 | apply tS)))) rfl rfl HT.out) ?_; go_frame)
                | (show wpList _ _ _ (⟨some 32, .binOp _ _ _ _ _, _, _, _, _⟩ :: _) _ _; refine wpList_val rfl (op_isubN rfl rfl rfl i0 HTI.out (by omega)) ?_; go_frame)
                | (show wpList _ _ _ (⟨some 37, .indexAddr _ _ _, _, _, _, _⟩ :: _) _ _; refine wpList_val rfl (op_indexArr arr2i rfl (b := p) (off := 35) rfl (k := i0) rfl hi0) ?_; go_frame)
                | (show wpList _ _ _ (⟨some 38, .load _ _, _, _, _, _⟩ :: _) _ _; refine wpList_val rfl (op_load1S (b := p) (T := 52) oneInt ((hS.bring (by repeat (first | exact t0 | apply tS)))) rfl rfl HX.out) ?_; go_frame)
                | (show wpList _ _ _ (⟨some 40, .binOp _ _ _ _ _, _, _, _, _⟩ :: _) _ _; refine wpList_val rfl (op_igeq rfl rfl rfl GX.out) ?_; go_frame)
                | (show wpList _ _ _ (⟨some 44, .binOp _ _ _ _ _, _, _, _, _⟩ :: _) _ _; refine wpList_val rfl (op_ineI rfl rfl rfl NX.out) ?_; go_frame)
                | (show wpList _ _ _ (⟨some 49, .binOp _ _ _ _ _, _, _, _, _⟩ :: _) _ _; refine wpList_val rfl (op_isubN rfl rfl rfl i1 HI.out (by omega)) ?_; go_frame)
                | (show wpList _ _ _ (⟨some 52, .indexAddr _ _ _, _, _, _, _⟩ :: _) _ _; refine wpList_val rfl (op_indexArr arr2i rfl (b := p) (off := 35) rfl (k := i1) rfl hi1) ?_; go_frame)
                | (show wpList _ _ _ (⟨some 53, .load _ _, _, _, _, _⟩ :: _) _ _; refine wpList_val rfl (op_load1S (b := p) (T := 52) oneInt ((hS.bring (by repeat (first | exact t0 | apply tS)))) rfl rfl HY.out) ?_; go_frame)
                | (show wpList _ _ _ (⟨some 55, .binOp _ _ _ _ _, _, _, _, _⟩ :: _) _ _; refine wpList_val rfl (op_igeq rfl rfl rfl GY.out) ?_; go_frame)
                | (show wpList _ _ _ (⟨some 59, .binOp _ _ _ _ _, _, _, _, _⟩ :: _) _ _; refine wpList_val rfl (op_ineI rfl rfl rfl NY.out) ?_; go_frame)
                )
              go_ret
              exact ⟨by rw [HE.out]; rfl, hS⟩
          · have GY : Hid (decide (0 ≤ y) = false) := decide_eq_false y0
            have HE : Hid (wayS sa r k = -1) := hW2.trans (if_neg (fun h => h.1 (by omega)))
            clear x0 y0 hW hW2 hbad
            go_enter Tryd.func30, Tryd.ntmps30
            go_wp2_with (first
              | (go_at_call 45; refine Ret.calls (source_s (k : Int) w hs) ?_; rintro r1 w' ⟨rfl, rfl⟩)
              )
            refine wp_region_text (by kernel_rfl) (by kernel_rfl) (by repeat (first | exact Clean.body | refine Clean.then ?_ | refine Clean.inBlock ?_)) ?_
            replace hS := hS.drew
            go_wp2_with (first
              | (show wpList _ _ _ (⟨some 16, .load _ _, _, _, _, _⟩ :: _) _ _; refine wpList_val rfl (op_load agg32b rfl rfl ((SepL.getBlk (b := p) (T := 52) ((hS.bring (by repeat (first | exact t0 | apply tS))))).cells.subN 0 32 HSA.out) HSL.out) ?_; go_frame)
              | (show wpList _ _ _ (⟨some 20, .load _ _, _, _, _, _⟩ :: _) _ _; refine wpList_val rfl (op_load1S (b := p) (T := 52) oneU64 ((hS.bring (by repeat (first | exact t0 | apply tS)))) rfl rfl HEP.out) ?_; go_frame)
              | (go_at_call 46; refine Ret.calls (HR hS) ?_; clear hS; rintro r1 w ⟨rfl, hS⟩)
              | (refine fin_mk (by kernel_rfl) ?_)
              | go_big_skip
              | (show wpList _ _ _ (⟨some 29, .indexAddr _ _ _, _, _, _, _⟩ :: _) _ _; refine wpList_val rfl (op_indexArr arr65b rfl (b := p) (off := 102) rfl (k := k) rfl hk) ?_; go_frame)
              | (show wpList _ _ _ (⟨some 30, .load _ _, _, _, _, _⟩ :: _) _ _; refine wpList_val rfl (op_load1S (b := p) (T := 52) oneBool ((hS.bring (by repeat (first | exact t0 | apply tS)))) rfl rfl HT.out) ?_; go_frame)
              | (show wpList _ _ _ (⟨some 32, .binOp _ _ _ _ _, _, _, _, _⟩ :: _) _ _; refine wpList_val rfl (op_isubN rfl rfl rfl i0 HTI.out (by omega)) ?_; go_frame)
              | (show wpList _ _ _ (⟨some 37, .indexAddr _ _ _, _, _, _, _⟩ :: _) _ _; refine wpList_val rfl (op_indexArr arr2i rfl (b := p) (off := 35) rfl (k := i0) rfl hi0) ?_; go_frame)
              | (show wpList _ _ _ (⟨some 38, .load _ _, _, _, _, _⟩ :: _) _ _; refine wpList_val rfl (op_load1S (b := p) (T := 52) oneInt ((hS.bring (by repeat (first | exact t0 | apply tS)))) rfl rfl HX.out) ?_; go_frame)
              | (show wpList _ _ _ (⟨some 40, .binOp _ _ _ _ _, _, _, _, _⟩ :: _) _ _; refine wpList_val rfl (op_igeq rfl rfl rfl GX.out) ?_; go_frame)
              | (show wpList _ _ _ (⟨some 44, .binOp _ _ _ _ _, _, _, _, _⟩ :: _) _ _; refine wpList_val rfl (op_ineI rfl rfl rfl NX.out) ?_; go_frame)
              | (show wpList _ _ _ (⟨some 49, .binOp _ _ _ _ _, _, _, _, _⟩ :: _) _ _; refine wpList_val rfl (op_isubN rfl rfl rfl i1 HI.out (by omega)) ?_; go_frame)
              | (show wpList _ _ _ (⟨some 52, .indexAddr _ _ _, _, _, _, _⟩ :: _) _ _; refine wpList_val rfl (op_indexArr arr2i rfl (b := p) (off := 35) rfl (k := i1) rfl hi1) ?_; go_frame)
              | (show wpList _ _ _ (⟨some 53, .load _ _, _, _, _, _⟩ :: _) _ _; refine wpList_val rfl (op_load1S (b := p) (T := 52) oneInt ((hS.bring (by repeat (first | exact t0 | apply tS)))) rfl rfl HY.out) ?_; go_frame)
              | (show wpList _ _ _ (⟨some 55, .binOp _ _ _ _ _, _, _, _, _⟩ :: _) _ _; refine wpList_val rfl (op_igeq rfl rfl rfl GY.out) ?_; go_frame)
              | (show wpList _ _ _ (⟨some 59, .binOp _ _ _ _ _, _, _, _, _⟩ :: _) _ _; refine wpList_val rfl (op_ineI rfl rfl rfl NY.out) ?_; go_frame)
              )
            go_ret
            exact ⟨by rw [HE.out]; rfl, hS⟩
        · have NX := neT x1
          have HE : Hid (wayS sa r k = x) := hW.trans (if_pos ⟨by omega, x1⟩)
          clear x0 x1 hW
          go_enter Tryd.func30, Tryd.ntmps30
          go_wp2_with (first
            | (go_at_call 45; refine Ret.calls (source_s (k : Int) w hs) ?_; rintro r1 w' ⟨rfl, rfl⟩)
            )
          refine wp_region_text (by kernel_rfl) (by kernel_rfl) (by repeat (first | exact Clean.body | refine Clean.then ?_ | refine Clean.inBlock ?_)) ?_
          replace hS := hS.drew
          go_wp2_with (first
            | (show wpList _ _ _ (⟨some 16, .load _ _, _, _, _, _⟩ :: _) _ _; refine wpList_val rfl (op_load agg32b rfl rfl ((SepL.getBlk (b := p) (T := 52) ((hS.bring (by repeat (first | exact t0 | apply tS))))).cells.subN 0 32 HSA.out) HSL.out) ?_; go_frame)
            | (show wpList _ _ _ (⟨some 20, .load _ _, _, _, _, _⟩ :: _) _ _; refine wpList_val rfl (op_load1S (b := p) (T := 52) oneU64 ((hS.bring (by repeat (first | exact t0 | apply tS)))) rfl rfl HEP.out) ?_; go_frame)
            | (go_at_call 46; refine Ret.calls (HR hS) ?_; clear hS; rintro r1 w ⟨rfl, hS⟩)
            | (refine fin_mk (by kernel_rfl) ?_)
            | go_big_skip
            | (show wpList _ _ _ (⟨some 29, .indexAddr _ _ _, _, _, _, _⟩ :: _) _ _; refine wpList_val rfl (op_indexArr arr65b rfl (b := p) (off := 102) rfl (k := k) rfl hk) ?_; go_frame)
            | (show wpList _ _ _ (⟨some 30, .load _ _, _, _, _, _⟩ :: _) _ _; refine wpList_val rfl (op_load1S (b := p) (T := 52) oneBool ((hS.bring (by repeat (first | exact t0 | apply tS)))) rfl rfl HT.out) ?_; go_frame)
            | (show wpList _ _ _ (⟨some 32, .binOp _ _ _ _ _, _, _, _, _⟩ :: _) _ _; refine wpList_val rfl (op_isubN rfl rfl rfl i0 HTI.out (by omega)) ?_; go_frame)
            | (show wpList _ _ _ (⟨some 37, .indexAddr _ _ _, _, _, _, _⟩ :: _) _ _; refine wpList_val rfl (op_indexArr arr2i rfl (b := p) (off := 35) rfl (k := i0) rfl hi0) ?_; go_frame)
            | (show wpList _ _ _ (⟨some 38, .load _ _, _, _, _, _⟩ :: _) _ _; refine wpList_val rfl (op_load1S (b := p) (T := 52) oneInt ((hS.bring (by repeat (first | exact t0 | apply tS)))) rfl rfl HX.out) ?_; go_frame)
            | (show wpList _ _ _ (⟨some 40, .binOp _ _ _ _ _, _, _, _, _⟩ :: _) _ _; refine wpList_val rfl (op_igeq rfl rfl rfl GX.out) ?_; go_frame)
            | (show wpList _ _ _ (⟨some 44, .binOp _ _ _ _ _, _, _, _, _⟩ :: _) _ _; refine wpList_val rfl (op_ineI rfl rfl rfl NX.out) ?_; go_frame)
            | (show wpList _ _ _ (⟨some 49, .binOp _ _ _ _ _, _, _, _, _⟩ :: _) _ _; refine wpList_val rfl (op_isubN rfl rfl rfl i1 HI.out (by omega)) ?_; go_frame)
            | (show wpList _ _ _ (⟨some 52, .indexAddr _ _ _, _, _, _, _⟩ :: _) _ _; refine wpList_val rfl (op_indexArr arr2i rfl (b := p) (off := 35) rfl (k := i1) rfl hi1) ?_; go_frame)
            | (show wpList _ _ _ (⟨some 53, .load _ _, _, _, _, _⟩ :: _) _ _; refine wpList_val rfl (op_load1S (b := p) (T := 52) oneInt ((hS.bring (by repeat (first | exact t0 | apply tS)))) rfl rfl HY.out) ?_; go_frame)
            | (show wpList _ _ _ (⟨some 55, .binOp _ _ _ _ _, _, _, _, _⟩ :: _) _ _; refine wpList_val rfl (op_igeq rfl rfl rfl GY.out) ?_; go_frame)
            | (show wpList _ _ _ (⟨some 59, .binOp _ _ _ _ _, _, _, _, _⟩ :: _) _ _; refine wpList_val rfl (op_ineI rfl rfl rfl NY.out) ?_; go_frame)
            )
          go_ret
          exact ⟨by rw [HE.out]; rfl, hS⟩
      · have GX : Hid (decide (0 ≤ x) = false) := decide_eq_false x0
        have hbad : ¬ (x ≠ -1 ∧ x ≠ (k : Int)) := fun h => h.1 (by omega)
        have hW2 : wayS sa r k = if y ≠ -1 ∧ y ≠ (k : Int) then y else -1 := hW.trans (if_neg hbad)
        by_cases y0 : 0 ≤ y
        · have GY : Hid (decide (0 ≤ y) = true) := decide_eq_true y0
          by_cases y1 : y = (k : Int)
          · have NY := neF y1
            have HE : Hid (wayS sa r k = -1) := hW2.trans (if_neg (fun h => h.2 y1))
            clear x0 y0 y1 hW hW2 hbad
            go_enter Tryd.func30, Tryd.ntmps30
            go_wp2_with (first
              | (go_at_call 45; refine Ret.calls (source_s (k : Int) w hs) ?_; rintro r1 w' ⟨rfl, rfl⟩)
              )
            refine wp_region_text (by kernel_rfl) (by kernel_rfl) (by repeat (first | exact Clean.body | refine Clean.then ?_ | refine Clean.inBlock ?_)) ?_
            replace hS := hS.drew
            go_wp2_with (first
              | (show wpList _ _ _ (⟨some 16, .load _ _, _, _, _, _⟩ :: _) _ _; refine wpList_val rfl (op_load agg32b rfl rfl ((SepL.getBlk (b := p) (T := 52) ((hS.bring (by repeat (first | exact t0 | apply tS))))).cells.subN 0 32 HSA.out) HSL.out) ?_; go_frame)
              | (show wpList _ _ _ (⟨some 20, .load _ _, _, _, _, _⟩ :: _) _ _; refine wpList_val rfl (op_load1S (b := p) (T := 52) oneU64 ((hS.bring (by repeat (first | exact t0 | apply tS)))) rfl rfl HEP.out) ?_; go_frame)
              | (go_at_call 46; refine Ret.calls (HR hS) ?_; clear hS; rintro r1 w ⟨rfl, hS⟩)
              | (refine fin_mk (by kernel_rfl) ?_)
              | go_big_skip
              | (show wpList _ _ _ (⟨some 29, .indexAddr _ _ _, _, _, _, _⟩ :: _) _ _; refine wpList_val rfl (op_indexArr arr65b rfl (b := p) (off := 102) rfl (k := k) rfl hk) ?_; go_frame)
              | (show wpList _ _ _ (⟨some 30, .load _ _, _, _, _, _⟩ :: _) _ _; refine wpList_val rfl (op_load1S (b := p) (T := 52) oneBool ((hS.bring (by repeat (first | exact t0 | apply tS)))) rfl rfl HT.out) ?_; go_frame)
              | (show wpList _ _ _ (⟨some 32, .binOp _ _ _ _ _, _, _, _, _⟩ :: _) _ _; refine wpList_val rfl (op_isubN rfl rfl rfl i0 HTI.out (by omega)) ?_; go_frame)
              | (show wpList _ _ _ (⟨some 37, .indexAddr _ _ _, _, _, _, _⟩ :: _) _ _; refine wpList_val rfl (op_indexArr arr2i rfl (b := p) (off := 35) rfl (k := i0) rfl hi0) ?_; go_frame)
              | (show wpList _ _ _ (⟨some 38, .load _ _, _, _, _, _⟩ :: _) _ _; refine wpList_val rfl (op_load1S (b := p) (T := 52) oneInt ((hS.bring (by repeat (first | exact t0 | apply tS)))) rfl rfl HX.out) ?_; go_frame)
              | (show wpList _ _ _ (⟨some 40, .binOp _ _ _ _ _, _, _, _, _⟩ :: _) _ _; refine wpList_val rfl (op_igeq rfl rfl rfl GX.out) ?_; go_frame)
              | (show wpList _ _ _ (⟨some 44, .binOp _ _ _ _ _, _, _, _, _⟩ :: _) _ _; refine wpList_val rfl (op_ineI rfl rfl rfl NX.out) ?_; go_frame)
              | (show wpList _ _ _ (⟨some 49, .binOp _ _ _ _ _, _, _, _, _⟩ :: _) _ _; refine wpList_val rfl (op_isubN rfl rfl rfl i1 HI.out (by omega)) ?_; go_frame)
              | (show wpList _ _ _ (⟨some 52, .indexAddr _ _ _, _, _, _, _⟩ :: _) _ _; refine wpList_val rfl (op_indexArr arr2i rfl (b := p) (off := 35) rfl (k := i1) rfl hi1) ?_; go_frame)
              | (show wpList _ _ _ (⟨some 53, .load _ _, _, _, _, _⟩ :: _) _ _; refine wpList_val rfl (op_load1S (b := p) (T := 52) oneInt ((hS.bring (by repeat (first | exact t0 | apply tS)))) rfl rfl HY.out) ?_; go_frame)
              | (show wpList _ _ _ (⟨some 55, .binOp _ _ _ _ _, _, _, _, _⟩ :: _) _ _; refine wpList_val rfl (op_igeq rfl rfl rfl GY.out) ?_; go_frame)
              | (show wpList _ _ _ (⟨some 59, .binOp _ _ _ _ _, _, _, _, _⟩ :: _) _ _; refine wpList_val rfl (op_ineI rfl rfl rfl NY.out) ?_; go_frame)
              )
            go_ret
            exact ⟨by rw [HE.out]; rfl, hS⟩
          · have NY := neT y1
            have HE : Hid (wayS sa r k = y) := hW2.trans (if_pos ⟨by omega, y1⟩)
            clear x0 y0 y1 hW hW2 hbad
            go_enter Tryd.func30, Tryd.ntmps30
            go_wp2_with (first
              | (go_at_call 45; refine Ret.calls (source_s (k : Int) w hs) ?_; rintro r1 w' ⟨rfl, rfl⟩)
              )
            refine wp_region_text (by kernel_rfl) (by kernel_rfl) (by repeat (first | exact Clean.body | refine Clean.then ?_ | refine Clean.inBlock ?_)) ?_
            replace hS := hS.drew
            go_wp2_with (first
              | (show wpList _ _ _ (⟨some 16, .load _ _, _, _, _, _⟩ :: _) _ _; refine wpList_val rfl (op_load agg32b rfl rfl ((SepL.getBlk (b := p) (T := 52) ((hS.bring (by repeat (first | exact t0 | apply tS))))).cells.subN 0 32 HSA.out) HSL.out) ?_; go_frame)
              | (show wpList _ _ _ (⟨some 20, .load _ _, _, _, _, _⟩ :: _) _ _; refine wpList_val rfl (op_load1S (b := p) (T := 52) oneU64 ((hS.bring (by repeat (first | exact t0 | apply tS)))) rfl rfl HEP.out) ?_; go_frame)
              | (go_at_call 46; refine Ret.calls (HR hS) ?_; clear hS; rintro r1 w ⟨rfl, hS⟩)
              | (refine fin_mk (by kernel_rfl) ?_)
              | go_big_skip
              | (show wpList _ _ _ (⟨some 29, .indexAddr _ _ _, _, _, _, _⟩ :: _) _ _; refine wpList_val rfl (op_indexArr arr65b rfl (b := p) (off := 102) rfl (k := k) rfl hk) ?_; go_frame)
              | (show wpList _ _ _ (⟨some 30, .load _ _, _, _, _, _⟩ :: _) _ _; refine wpList_val rfl (op_load1S (b := p) (T := 52) oneBool ((hS.bring (by repeat (first | exact t0 | apply tS)))) rfl rfl HT.out) ?_; go_frame)
              | (show wpList _ _ _ (⟨some 32, .binOp _ _ _ _ _, _, _, _, _⟩ :: _) _ _; refine wpList_val rfl (op_isubN rfl rfl rfl i0 HTI.out (by omega)) ?_; go_frame)
              | (show wpList _ _ _ (⟨some 37, .indexAddr _ _ _, _, _, _, _⟩ :: _) _ _; refine wpList_val rfl (op_indexArr arr2i rfl (b := p) (off := 35) rfl (k := i0) rfl hi0) ?_; go_frame)
              | (show wpList _ _ _ (⟨some 38, .load _ _, _, _, _, _⟩ :: _) _ _; refine wpList_val rfl (op_load1S (b := p) (T := 52) oneInt ((hS.bring (by repeat (first | exact t0 | apply tS)))) rfl rfl HX.out) ?_; go_frame)
              | (show wpList _ _ _ (⟨some 40, .binOp _ _ _ _ _, _, _, _, _⟩ :: _) _ _; refine wpList_val rfl (op_igeq rfl rfl rfl GX.out) ?_; go_frame)
              | (show wpList _ _ _ (⟨some 44, .binOp _ _ _ _ _, _, _, _, _⟩ :: _) _ _; refine wpList_val rfl (op_ineI rfl rfl rfl NX.out) ?_; go_frame)
              | (show wpList _ _ _ (⟨some 49, .binOp _ _ _ _ _, _, _, _, _⟩ :: _) _ _; refine wpList_val rfl (op_isubN rfl rfl rfl i1 HI.out (by omega)) ?_; go_frame)
              | (show wpList _ _ _ (⟨some 52, .indexAddr _ _ _, _, _, _, _⟩ :: _) _ _; refine wpList_val rfl (op_indexArr arr2i rfl (b := p) (off := 35) rfl (k := i1) rfl hi1) ?_; go_frame)
              | (show wpList _ _ _ (⟨some 53, .load _ _, _, _, _, _⟩ :: _) _ _; refine wpList_val rfl (op_load1S (b := p) (T := 52) oneInt ((hS.bring (by repeat (first | exact t0 | apply tS)))) rfl rfl HY.out) ?_; go_frame)
              | (show wpList _ _ _ (⟨some 55, .binOp _ _ _ _ _, _, _, _, _⟩ :: _) _ _; refine wpList_val rfl (op_igeq rfl rfl rfl GY.out) ?_; go_frame)
              | (show wpList _ _ _ (⟨some 59, .binOp _ _ _ _ _, _, _, _, _⟩ :: _) _ _; refine wpList_val rfl (op_ineI rfl rfl rfl NY.out) ?_; go_frame)
              )
            go_ret
            exact ⟨by rw [HE.out]; rfl, hS⟩
        · have GY : Hid (decide (0 ≤ y) = false) := decide_eq_false y0
          have HE : Hid (wayS sa r k = -1) := hW2.trans (if_neg (fun h => h.1 (by omega)))
          clear x0 y0 hW hW2 hbad
          go_enter Tryd.func30, Tryd.ntmps30
          go_wp2_with (first
            | (go_at_call 45; refine Ret.calls (source_s (k : Int) w hs) ?_; rintro r1 w' ⟨rfl, rfl⟩)
            )
          refine wp_region_text (by kernel_rfl) (by kernel_rfl) (by repeat (first | exact Clean.body | refine Clean.then ?_ | refine Clean.inBlock ?_)) ?_
          replace hS := hS.drew
          go_wp2_with (first
            | (show wpList _ _ _ (⟨some 16, .load _ _, _, _, _, _⟩ :: _) _ _; refine wpList_val rfl (op_load agg32b rfl rfl ((SepL.getBlk (b := p) (T := 52) ((hS.bring (by repeat (first | exact t0 | apply tS))))).cells.subN 0 32 HSA.out) HSL.out) ?_; go_frame)
            | (show wpList _ _ _ (⟨some 20, .load _ _, _, _, _, _⟩ :: _) _ _; refine wpList_val rfl (op_load1S (b := p) (T := 52) oneU64 ((hS.bring (by repeat (first | exact t0 | apply tS)))) rfl rfl HEP.out) ?_; go_frame)
            | (go_at_call 46; refine Ret.calls (HR hS) ?_; clear hS; rintro r1 w ⟨rfl, hS⟩)
            | (refine fin_mk (by kernel_rfl) ?_)
            | go_big_skip
            | (show wpList _ _ _ (⟨some 29, .indexAddr _ _ _, _, _, _, _⟩ :: _) _ _; refine wpList_val rfl (op_indexArr arr65b rfl (b := p) (off := 102) rfl (k := k) rfl hk) ?_; go_frame)
            | (show wpList _ _ _ (⟨some 30, .load _ _, _, _, _, _⟩ :: _) _ _; refine wpList_val rfl (op_load1S (b := p) (T := 52) oneBool ((hS.bring (by repeat (first | exact t0 | apply tS)))) rfl rfl HT.out) ?_; go_frame)
            | (show wpList _ _ _ (⟨some 32, .binOp _ _ _ _ _, _, _, _, _⟩ :: _) _ _; refine wpList_val rfl (op_isubN rfl rfl rfl i0 HTI.out (by omega)) ?_; go_frame)
            | (show wpList _ _ _ (⟨some 37, .indexAddr _ _ _, _, _, _, _⟩ :: _) _ _; refine wpList_val rfl (op_indexArr arr2i rfl (b := p) (off := 35) rfl (k := i0) rfl hi0) ?_; go_frame)
            | (show wpList _ _ _ (⟨some 38, .load _ _, _, _, _, _⟩ :: _) _ _; refine wpList_val rfl (op_load1S (b := p) (T := 52) oneInt ((hS.bring (by repeat (first | exact t0 | apply tS)))) rfl rfl HX.out) ?_; go_frame)
            | (show wpList _ _ _ (⟨some 40, .binOp _ _ _ _ _, _, _, _, _⟩ :: _) _ _; refine wpList_val rfl (op_igeq rfl rfl rfl GX.out) ?_; go_frame)
            | (show wpList _ _ _ (⟨some 44, .binOp _ _ _ _ _, _, _, _, _⟩ :: _) _ _; refine wpList_val rfl (op_ineI rfl rfl rfl NX.out) ?_; go_frame)
            | (show wpList _ _ _ (⟨some 49, .binOp _ _ _ _ _, _, _, _, _⟩ :: _) _ _; refine wpList_val rfl (op_isubN rfl rfl rfl i1 HI.out (by omega)) ?_; go_frame)
            | (show wpList _ _ _ (⟨some 52, .indexAddr _ _ _, _, _, _, _⟩ :: _) _ _; refine wpList_val rfl (op_indexArr arr2i rfl (b := p) (off := 35) rfl (k := i1) rfl hi1) ?_; go_frame)
            | (show wpList _ _ _ (⟨some 53, .load _ _, _, _, _, _⟩ :: _) _ _; refine wpList_val rfl (op_load1S (b := p) (T := 52) oneInt ((hS.bring (by repeat (first | exact t0 | apply tS)))) rfl rfl HY.out) ?_; go_frame)
            | (show wpList _ _ _ (⟨some 55, .binOp _ _ _ _ _, _, _, _, _⟩ :: _) _ _; refine wpList_val rfl (op_igeq rfl rfl rfl GY.out) ?_; go_frame)
            | (show wpList _ _ _ (⟨some 59, .binOp _ _ _ _ _, _, _, _, _⟩ :: _) _ _; refine wpList_val rfl (op_ineI rfl rfl rfl NY.out) ?_; go_frame)
            )
          go_ret
          exact ⟨by rw [HE.out]; rfl, hS⟩
    | true =>
      have HTI : Hid ((1 : Int) - (q : Nat) = (i0 : Nat)) := by
        have h3 : 1 - q = i0 := h0
        unfold Hid
        omega
      clear h0
      by_cases x0 : 0 ≤ x
      · have GX : Hid (decide (0 ≤ x) = true) := decide_eq_true x0
        by_cases x1 : x = (k : Int)
        · have NX := neF x1
          have hbad : ¬ (x ≠ -1 ∧ x ≠ (k : Int)) := fun h => h.2 x1
          have hW2 : wayS sa r k = if y ≠ -1 ∧ y ≠ (k : Int) then y else -1 := hW.trans (if_neg hbad)
          by_cases y0 : 0 ≤ y
          · have GY : Hid (decide (0 ≤ y) = true) := decide_eq_true y0
            by_cases y1 : y = (k : Int)
            · have NY := neF y1
              have HE : Hid (wayS sa r k = -1) := hW2.trans (if_neg (fun h => h.2 y1))
              clear x0 y0 y1 hW hW2 hbad
              go_enter Tryd.func30, Tryd.ntmps30
              go_wp2_with (first
                | (go_at_call 45; refine Ret.calls (source_s (k : Int) w hs) ?_; rintro r1 w' ⟨rfl, rfl⟩)
                )
              refine wp_region_text (by kernel_rfl) (by kernel_rfl) (by repeat (first | exact Clean.body | refine Clean.then ?_ | refine Clean.inBlock ?_)) ?_
              replace hS := hS.drew
              go_wp2_with (first
                | (show wpList _ _ _ (⟨some 16, .load _ _, _, _, _, _⟩ :: _) _ _; refine wpList_val rfl (op_load agg32b rfl rfl ((SepL.getBlk (b := p) (T := 52) ((hS.bring (by repeat (first | exact t0 | apply tS))))).cells.subN 0 32 HSA.out) HSL.out) ?_; go_frame)
                | (show wpList _ _ _ (⟨some 20, .load _ _, _, _, _, _⟩ :: _) _ _; refine wpList_val rfl (op_load1S (b := p) (T := 52) oneU64 ((hS.bring (by repeat (first | exact t0 | apply tS)))) rfl rfl HEP.out) ?_; go_frame)
                | (go_at_call 46; refine Ret.calls (HR hS) ?_; clear hS; rintro r1 w ⟨rfl, hS⟩)
                | (refine fin_mk (by kernel_rfl) ?_)
                | go_big_skip
                | (show wpList _ _ _ (⟨some 29, .indexAddr _ _ _, _, _, _, _⟩ :: _) _ _; refine wpList_val rfl (op_indexArr arr65b rfl (b := p) (off := 102) rfl (k := k) rfl hk) ?_; go_frame)
                | (show wpList _ _ _ (⟨some 30, .load _ _, _, _, _, _⟩ :: _) _ _; refine wpList_val rfl (op_load1S (b := p) (T := 52) oneBool ((hS.bring (by repeat (first | exact t0 | apply tS)))) rfl rfl HT.out) ?_; go_frame)
                | (show wpList _ _ _ (⟨some 32, .binOp _ _ _ _ _, _, _, _, _⟩ :: _) _ _; refine wpList_val rfl (op_isubN rfl rfl rfl i0 HTI.out (by omega)) ?_; go_frame)
                | (show wpList _ _ _ (⟨some 37, .indexAddr _ _ _, _, _, _, _⟩ :: _) _ _; refine wpList_val rfl (op_indexArr arr2i rfl (b := p) (off := 35) rfl (k := i0) rfl hi0) ?_; go_frame)
                | (show wpList _ _ _ (⟨some 38, .load _ _, _, _, _, _⟩ :: _) _ _; refine wpList_val rfl (op_load1S (b := p) (T := 52) oneInt ((hS.bring (by repeat (first | exact t0 | apply tS)))) rfl rfl HX.out) ?_; go_frame)
                | (show wpList _ _ _ (⟨some 40, .binOp _ _ _ _ _, _, _, _, _⟩ :: _) _ _; refine wpList_val rfl (op_igeq rfl rfl rfl GX.out) ?_; go_frame)
                | (show wpList _ _ _ (⟨some 44, .binOp _ _ _ _ _, _, _, _, _⟩ :: _) _ _; refine wpList_val rfl (op_ineI rfl rfl rfl NX.out) ?_; go_frame)
                | (show wpList _ _ _ (⟨some 49, .binOp _ _ _ _ _, _, _, _, _⟩ :: _) _ _; refine wpList_val rfl (op_isubN rfl rfl rfl i1 HI.out (by omega)) ?_; go_frame)
                | (show wpList _ _ _ (⟨some 52, .indexAddr _ _ _, _, _, _, _⟩ :: _) _ _; refine wpList_val rfl (op_indexArr arr2i rfl (b := p) (off := 35) rfl (k := i1) rfl hi1) ?_; go_frame)
                | (show wpList _ _ _ (⟨some 53, .load _ _, _, _, _, _⟩ :: _) _ _; refine wpList_val rfl (op_load1S (b := p) (T := 52) oneInt ((hS.bring (by repeat (first | exact t0 | apply tS)))) rfl rfl HY.out) ?_; go_frame)
                | (show wpList _ _ _ (⟨some 55, .binOp _ _ _ _ _, _, _, _, _⟩ :: _) _ _; refine wpList_val rfl (op_igeq rfl rfl rfl GY.out) ?_; go_frame)
                | (show wpList _ _ _ (⟨some 59, .binOp _ _ _ _ _, _, _, _, _⟩ :: _) _ _; refine wpList_val rfl (op_ineI rfl rfl rfl NY.out) ?_; go_frame)
                )
              go_ret
              exact ⟨by rw [HE.out]; rfl, hS⟩
            · have NY := neT y1
              have HE : Hid (wayS sa r k = y) := hW2.trans (if_pos ⟨by omega, y1⟩)
              clear x0 y0 y1 hW hW2 hbad
              go_enter Tryd.func30, Tryd.ntmps30
              go_wp2_with (first
                | (go_at_call 45; refine Ret.calls (source_s (k : Int) w hs) ?_; rintro r1 w' ⟨rfl, rfl⟩)
                )
              refine wp_region_text (by kernel_rfl) (by kernel_rfl) (by repeat (first | exact Clean.body | refine Clean.then ?_ | refine Clean.inBlock ?_)) ?_
              replace hS := hS.drew
              go_wp2_with (first
                | (show wpList _ _ _ (⟨some 16, .load _ _, _, _, _, _⟩ :: _) _ _; refine wpList_val rfl (op_load agg32b rfl rfl ((SepL.getBlk (b := p) (T := 52) ((hS.bring (by repeat (first | exact t0 | apply tS))))).cells.subN 0 32 HSA.out) HSL.out) ?_; go_frame)
                | (show wpList _ _ _ (⟨some 20, .load _ _, _, _, _, _⟩ :: _) _ _; refine wpList_val rfl (op_load1S (b := p) (T := 52) oneU64 ((hS.bring (by repeat (first | exact t0 | apply tS)))) rfl rfl HEP.out) ?_; go_frame)
                | (go_at_call 46; refine Ret.calls (HR hS) ?_; clear hS; rintro r1 w ⟨rfl, hS⟩)
                | (refine fin_mk (by kernel_rfl) ?_)
                | go_big_skip
                | (show wpList _ _ _ (⟨some 29, .indexAddr _ _ _, _, _, _, _⟩ :: _) _ _; refine wpList_val rfl (op_indexArr arr65b rfl (b := p) (off := 102) rfl (k := k) rfl hk) ?_; go_frame)
                | (show wpList _ _ _ (⟨some 30, .load _ _, _, _, _, _⟩ :: _) _ _; refine wpList_val rfl (op_load1S (b := p) (T := 52) oneBool ((hS.bring (by repeat (first | exact t0 | apply tS)))) rfl rfl HT.out) ?_; go_frame)
                | (show wpList _ _ _ (⟨some 32, .binOp _ _ _ _ _, _, _, _, _⟩ :: _) _ _; refine wpList_val rfl (op_isubN rfl rfl rfl i0 HTI.out (by omega)) ?_; go_frame)
                | (show wpList _ _ _ (⟨some 37, .indexAddr _ _ _, _, _, _, _⟩ :: _) _ _; refine wpList_val rfl (op_indexArr arr2i rfl (b := p) (off := 35) rfl (k := i0) rfl hi0) ?_; go_frame)
                | (show wpList _ _ _ (⟨some 38, .load _ _, _, _, _, _⟩ :: _) _ _; refine wpList_val rfl (op_load1S (b := p) (T := 52) oneInt ((hS.bring (by repeat (first | exact t0 | apply tS)))) rfl rfl HX.out) ?_; go_frame)
                | (show wpList _ _ _ (⟨some 40, .binOp _ _ _ _ _, _, _, _, _⟩ :: _) _ _; refine wpList_val rfl (op_igeq rfl rfl rfl GX.out) ?_; go_frame)
                | (show wpList _ _ _ (⟨some 44, .binOp _ _ _ _ _, _, _, _, _⟩ :: _) _ _; refine wpList_val rfl (op_ineI rfl rfl rfl NX.out) ?_; go_frame)
                | (show wpList _ _ _ (⟨some 49, .binOp _ _ _ _ _, _, _, _, _⟩ :: _) _ _; refine wpList_val rfl (op_isubN rfl rfl rfl i1 HI.out (by omega)) ?_; go_frame)
                | (show wpList _ _ _ (⟨some 52, .indexAddr _ _ _, _, _, _, _⟩ :: _) _ _; refine wpList_val rfl (op_indexArr arr2i rfl (b := p) (off := 35) rfl (k := i1) rfl hi1) ?_; go_frame)
                | (show wpList _ _ _ (⟨some 53, .load _ _, _, _, _, _⟩ :: _) _ _; refine wpList_val rfl (op_load1S (b := p) (T := 52) oneInt ((hS.bring (by repeat (first | exact t0 | apply tS)))) rfl rfl HY.out) ?_; go_frame)
                | (show wpList _ _ _ (⟨some 55, .binOp _ _ _ _ _, _, _, _, _⟩ :: _) _ _; refine wpList_val rfl (op_igeq rfl rfl rfl GY.out) ?_; go_frame)
                | (show wpList _ _ _ (⟨some 59, .binOp _ _ _ _ _, _, _, _, _⟩ :: _) _ _; refine wpList_val rfl (op_ineI rfl rfl rfl NY.out) ?_; go_frame)
                )
              go_ret
              exact ⟨by rw [HE.out]; rfl, hS⟩
          · have GY : Hid (decide (0 ≤ y) = false) := decide_eq_false y0
            have HE : Hid (wayS sa r k = -1) := hW2.trans (if_neg (fun h => h.1 (by omega)))
            clear x0 y0 hW hW2 hbad
            go_enter Tryd.func30, Tryd.ntmps30
            go_wp2_with (first
              | (go_at_call 45; refine Ret.calls (source_s (k : Int) w hs) ?_; rintro r1 w' ⟨rfl, rfl⟩)
              )
            refine wp_region_text (by kernel_rfl) (by kernel_rfl) (by repeat (first | exact Clean.body | refine Clean.then ?_ | refine Clean.inBlock ?_)) ?_
            replace hS := hS.drew
            go_wp2_with (first
              | (show wpList _ _ _ (⟨some 16, .load _ _, _, _, _, _⟩ :: _) _ _; refine wpList_val rfl (op_load agg32b rfl rfl ((SepL.getBlk (b := p) (T := 52) ((hS.bring (by repeat (first | exact t0 | apply tS))))).cells.subN 0 32 HSA.out) HSL.out) ?_; go_frame)
              | (show wpList _ _ _ (⟨some 20, .load _ _, _, _, _, _⟩ :: _) _ _; refine wpList_val rfl (op_load1S (b := p) (T := 52) oneU64 ((hS.bring (by repeat (first | exact t0 | apply tS)))) rfl rfl HEP.out) ?_; go_frame)
              | (go_at_call 46; refine Ret.calls (HR hS) ?_; clear hS; rintro r1 w ⟨rfl, hS⟩)
              | (refine fin_mk (by kernel_rfl) ?_)
              | go_big_skip
              | (show wpList _ _ _ (⟨some 29, .indexAddr _ _ _, _, _, _, _⟩ :: _) _ _; refine wpList_val rfl (op_indexArr arr65b rfl (b := p) (off := 102) rfl (k := k) rfl hk) ?_; go_frame)
              | (show wpList _ _ _ (⟨some 30, .load _ _, _, _, _, _⟩ :: _) _ _; refine wpList_val rfl (op_load1S (b := p) (T := 52) oneBool ((hS.bring (by repeat (first | exact t0 | apply tS)))) rfl rfl HT.out) ?_; go_frame)
              | (show wpList _ _ _ (⟨some 32, .binOp _ _ _ _ _, _, _, _, _⟩ :: _) _ _; refine wpList_val rfl (op_isubN rfl rfl rfl i0 HTI.out (by omega)) ?_; go_frame)
              | (show wpList _ _ _ (⟨some 37, .indexAddr _ _ _, _, _, _, _⟩ :: _) _ _; refine wpList_val rfl (op_indexArr arr2i rfl (b := p) (off := 35) rfl (k := i0) rfl hi0) ?_; go_frame)
              | (show wpList _ _ _ (⟨some 38, .load _ _, _, _, _, _⟩ :: _) _ _; refine wpList_val rfl (op_load1S (b := p) (T := 52) oneInt ((hS.bring (by repeat (first | exact t0 | apply tS)))) rfl rfl HX.out) ?_; go_frame)
              | (show wpList _ _ _ (⟨some 40, .binOp _ _ _ _ _, _, _, _, _⟩ :: _) _ _; refine wpList_val rfl (op_igeq rfl rfl rfl GX.out) ?_; go_frame)
              | (show wpList _ _ _ (⟨some 44, .binOp _ _ _ _ _, _, _, _, _⟩ :: _) _ _; refine wpList_val rfl (op_ineI rfl rfl rfl NX.out) ?_; go_frame)
              | (show wpList _ _ _ (⟨some 49, .binOp _ _ _ _ _, _, _, _, _⟩ :: _) _ _; refine wpList_val rfl (op_isubN rfl rfl rfl i1 HI.out (by omega)) ?_; go_frame)
              | (show wpList _ _ _ (⟨some 52, .indexAddr _ _ _, _, _, _, _⟩ :: _) _ _; refine wpList_val rfl (op_indexArr arr2i rfl (b := p) (off := 35) rfl (k := i1) rfl hi1) ?_; go_frame)
              | (show wpList _ _ _ (⟨some 53, .load _ _, _, _, _, _⟩ :: _) _ _; refine wpList_val rfl (op_load1S (b := p) (T := 52) oneInt ((hS.bring (by repeat (first | exact t0 | apply tS)))) rfl rfl HY.out) ?_; go_frame)
              | (show wpList _ _ _ (⟨some 55, .binOp _ _ _ _ _, _, _, _, _⟩ :: _) _ _; refine wpList_val rfl (op_igeq rfl rfl rfl GY.out) ?_; go_frame)
              | (show wpList _ _ _ (⟨some 59, .binOp _ _ _ _ _, _, _, _, _⟩ :: _) _ _; refine wpList_val rfl (op_ineI rfl rfl rfl NY.out) ?_; go_frame)
              )
            go_ret
            exact ⟨by rw [HE.out]; rfl, hS⟩
        · have NX := neT x1
          have HE : Hid (wayS sa r k = x) := hW.trans (if_pos ⟨by omega, x1⟩)
          clear x0 x1 hW
          go_enter Tryd.func30, Tryd.ntmps30
          go_wp2_with (first
            | (go_at_call 45; refine Ret.calls (source_s (k : Int) w hs) ?_; rintro r1 w' ⟨rfl, rfl⟩)
            )
          refine wp_region_text (by kernel_rfl) (by kernel_rfl) (by repeat (first | exact Clean.body | refine Clean.then ?_ | refine Clean.inBlock ?_)) ?_
          replace hS := hS.drew
          go_wp2_with (first
            | (show wpList _ _ _ (⟨some 16, .load _ _, _, _, _, _⟩ :: _) _ _; refine wpList_val rfl (op_load agg32b rfl rfl ((SepL.getBlk (b := p) (T := 52) ((hS.bring (by repeat (first | exact t0 | apply tS))))).cells.subN 0 32 HSA.out) HSL.out) ?_; go_frame)
            | (show wpList _ _ _ (⟨some 20, .load _ _, _, _, _, _⟩ :: _) _ _; refine wpList_val rfl (op_load1S (b := p) (T := 52) oneU64 ((hS.bring (by repeat (first | exact t0 | apply tS)))) rfl rfl HEP.out) ?_; go_frame)
            | (go_at_call 46; refine Ret.calls (HR hS) ?_; clear hS; rintro r1 w ⟨rfl, hS⟩)
            | (refine fin_mk (by kernel_rfl) ?_)
            | go_big_skip
            | (show wpList _ _ _ (⟨some 29, .indexAddr _ _ _, _, _, _, _⟩ :: _) _ _; refine wpList_val rfl (op_indexArr arr65b rfl (b := p) (off := 102) rfl (k := k) rfl hk) ?_; go_frame)
            | (show wpList _ _ _ (⟨some 30, .load _ _, _, _, _, _⟩ :: _) _ _; refine wpList_val rfl (op_load1S (b := p) (T := 52) oneBool ((hS.bring (by repeat (first | exact t0 | apply tS)))) rfl rfl HT.out) ?_; go_frame)
            | (show wpList _ _ _ (⟨some 32, .binOp _ _ _ _ _, _, _, _, _⟩ :: _) _ _; refine wpList_val rfl (op_isubN rfl rfl rfl i0 HTI.out (by omega)) ?_; go_frame)
            | (show wpList _ _ _ (⟨some 37, .indexAddr _ _ _, _, _, _, _⟩ :: _) _ _; refine wpList_val rfl (op_indexArr arr2i rfl (b := p) (off := 35) rfl (k := i0) rfl hi0) ?_; go_frame)
            | (show wpList _ _ _ (⟨some 38, .load _ _, _, _, _, _⟩ :: _) _ _; refine wpList_val rfl (op_load1S (b := p) (T := 52) oneInt ((hS.bring (by repeat (first | exact t0 | apply tS)))) rfl rfl HX.out) ?_; go_frame)
            | (show wpList _ _ _ (⟨some 40, .binOp _ _ _ _ _, _, _, _, _⟩ :: _) _ _; refine wpList_val rfl (op_igeq rfl rfl rfl GX.out) ?_; go_frame)
            | (show wpList _ _ _ (⟨some 44, .binOp _ _ _ _ _, _, _, _, _⟩ :: _) _ _; refine wpList_val rfl (op_ineI rfl rfl rfl NX.out) ?_; go_frame)
            | (show wpList _ _ _ (⟨some 49, .binOp _ _ _ _ _, _, _, _, _⟩ :: _) _ _; refine wpList_val rfl (op_isubN rfl rfl rfl i1 HI.out (by omega)) ?_; go_frame)
            | (show wpList _ _ _ (⟨some 52, .indexAddr _ _ _, _, _, _, _⟩ :: _) _ _; refine wpList_val rfl (op_indexArr arr2i rfl (b := p) (off := 35) rfl (k := i1) rfl hi1) ?_; go_frame)
            | (show wpList _ _ _ (⟨some 53, .load _ _, _, _, _, _⟩ :: _) _ _; refine wpList_val rfl (op_load1S (b := p) (T := 52) oneInt ((hS.bring (by repeat (first | exact t0 | apply tS)))) rfl rfl HY.out) ?_; go_frame)
            | (show wpList _ _ _ (⟨some 55, .binOp _ _ _ _ _, _, _, _, _⟩ :: _) _ _; refine wpList_val rfl (op_igeq rfl rfl rfl GY.out) ?_; go_frame)
            | (show wpList _ _ _ (⟨some 59, .binOp _ _ _ _ _, _, _, _, _⟩ :: _) _ _; refine wpList_val rfl (op_ineI rfl rfl rfl NY.out) ?_; go_frame)
            )
          go_ret
          exact ⟨by rw [HE.out]; rfl, hS⟩
      · have GX : Hid (decide (0 ≤ x) = false) := decide_eq_false x0
        have hbad : ¬ (x ≠ -1 ∧ x ≠ (k : Int)) := fun h => h.1 (by omega)
        have hW2 : wayS sa r k = if y ≠ -1 ∧ y ≠ (k : Int) then y else -1 := hW.trans (if_neg hbad)
        by_cases y0 : 0 ≤ y
        · have GY : Hid (decide (0 ≤ y) = true) := decide_eq_true y0
          by_cases y1 : y = (k : Int)
          · have NY := neF y1
            have HE : Hid (wayS sa r k = -1) := hW2.trans (if_neg (fun h => h.2 y1))
            clear x0 y0 y1 hW hW2 hbad
            go_enter Tryd.func30, Tryd.ntmps30
            go_wp2_with (first
              | (go_at_call 45; refine Ret.calls (source_s (k : Int) w hs) ?_; rintro r1 w' ⟨rfl, rfl⟩)
              )
            refine wp_region_text (by kernel_rfl) (by kernel_rfl) (by repeat (first | exact Clean.body | refine Clean.then ?_ | refine Clean.inBlock ?_)) ?_
            replace hS := hS.drew
            go_wp2_with (first
              | (show wpList _ _ _ (⟨some 16, .load _ _, _, _, _, _⟩ :: _) _ _; refine wpList_val rfl (op_load agg32b rfl rfl ((SepL.getBlk (b := p) (T := 52) ((hS.bring (by repeat (first | exact t0 | apply tS))))).cells.subN 0 32 HSA.out) HSL.out) ?_; go_frame)
              | (show wpList _ _ _ (⟨some 20, .load _ _, _, _, _, _⟩ :: _) _ _; refine wpList_val rfl (op_load1S (b := p) (T := 52) oneU64 ((hS.bring (by repeat (first | exact t0 | apply tS)))) rfl rfl HEP.out) ?_; go_frame)
              | (go_at_call 46; refine Ret.calls (HR hS) ?_; clear hS; rintro r1 w ⟨rfl, hS⟩)
              | (refine fin_mk (by kernel_rfl) ?_)
              | go_big_skip
              | (show wpList _ _ _ (⟨some 29, .indexAddr _ _ _, _, _, _, _⟩ :: _) _ _; refine wpList_val rfl (op_indexArr arr65b rfl (b := p) (off := 102) rfl (k := k) rfl hk) ?_; go_frame)
              | (show wpList _ _ _ (⟨some 30, .load _ _, _, _, _, _⟩ :: _) _ _; refine wpList_val rfl (op_load1S (b := p) (T := 52) oneBool ((hS.bring (by repeat (first | exact t0 | apply tS)))) rfl rfl HT.out) ?_; go_frame)
              | (show wpList _ _ _ (⟨some 32, .binOp _ _ _ _ _, _, _, _, _⟩ :: _) _ _; refine wpList_val rfl (op_isubN rfl rfl rfl i0 HTI.out (by omega)) ?_; go_frame)
              | (show wpList _ _ _ (⟨some 37, .indexAddr _ _ _, _, _, _, _⟩ :: _) _ _; refine wpList_val rfl (op_indexArr arr2i rfl (b := p) (off := 35) rfl (k := i0) rfl hi0) ?_; go_frame)
              | (show wpList _ _ _ (⟨some 38, .load _ _, _, _, _, _⟩ :: _) _ _; refine wpList_val rfl (op_load1S (b := p) (T := 52) oneInt ((hS.bring (by repeat (first | exact t0 | apply tS)))) rfl rfl HX.out) ?_; go_frame)
              | (show wpList _ _ _ (⟨some 40, .binOp _ _ _ _ _, _, _, _, _⟩ :: _) _ _; refine wpList_val rfl (op_igeq rfl rfl rfl GX.out) ?_; go_frame)
              | (show wpList _ _ _ (⟨some 44, .binOp _ _ _ _ _, _, _, _, _⟩ :: _) _ _; refine wpList_val rfl (op_ineI rfl rfl rfl NX.out) ?_; go_frame)
              | (show wpList _ _ _ (⟨some 49, .binOp _ _ _ _ _, _, _, _, _⟩ :: _) _ _; refine wpList_val rfl (op_isubN rfl rfl rfl i1 HI.out (by omega)) ?_; go_frame)
              | (show wpList _ _ _ (⟨some 52, .indexAddr _ _ _, _, _, _, _⟩ :: _) _ _; refine wpList_val rfl (op_indexArr arr2i rfl (b := p) (off := 35) rfl (k := i1) rfl hi1) ?_; go_frame)
              | (show wpList _ _ _ (⟨some 53, .load _ _, _, _, _, _⟩ :: _) _ _; refine wpList_val rfl (op_load1S (b := p) (T := 52) oneInt ((hS.bring (by repeat (first | exact t0 | apply tS)))) rfl rfl HY.out) ?_; go_frame)
              | (show wpList _ _ _ (⟨some 55, .binOp _ _ _ _ _, _, _, _, _⟩ :: _) _ _; refine wpList_val rfl (op_igeq rfl rfl rfl GY.out) ?_; go_frame)
              | (show wpList _ _ _ (⟨some 59, .binOp _ _ _ _ _, _, _, _, _⟩ :: _) _ _; refine wpList_val rfl (op_ineI rfl rfl rfl NY.out) ?_; go_frame)
              )
            go_ret
            exact ⟨by rw [HE.out]; rfl, hS⟩
          · have NY := neT y1
            have HE : Hid (wayS sa r k = y) := hW2.trans (if_pos ⟨by omega, y1⟩)
            clear x0 y0 y1 hW hW2 hbad
            go_enter Tryd.func30, Tryd.ntmps30
            go_wp2_with (first
              | (go_at_call 45; refine Ret.calls (source_s (k : Int) w hs) ?_; rintro r1 w' ⟨rfl, rfl⟩)
              )
            refine wp_region_text (by kernel_rfl) (by kernel_rfl) (by repeat (first | exact Clean.body | refine Clean.then ?_ | refine Clean.inBlock ?_)) ?_
            replace hS := hS.drew
            go_wp2_with (first
              | (show wpList _ _ _ (⟨some 16, .load _ _, _, _, _, _⟩ :: _) _ _; refine wpList_val rfl (op_load agg32b rfl rfl ((SepL.getBlk (b := p) (T := 52) ((hS.bring (by repeat (first | exact t0 | apply tS))))).cells.subN 0 32 HSA.out) HSL.out) ?_; go_frame)
              | (show wpList _ _ _ (⟨some 20, .load _ _, _, _, _, _⟩ :: _) _ _; refine wpList_val rfl (op_load1S (b := p) (T := 52) oneU64 ((hS.bring (by repeat (first | exact t0 | apply tS)))) rfl rfl HEP.out) ?_; go_frame)
              | (go_at_call 46; refine Ret.calls (HR hS) ?_; clear hS; rintro r1 w ⟨rfl, hS⟩)
              | (refine fin_mk (by kernel_rfl) ?_)
              | go_big_skip
              | (show wpList _ _ _ (⟨some 29, .indexAddr _ _ _, _, _, _, _⟩ :: _) _ _; refine wpList_val rfl (op_indexArr arr65b rfl (b := p) (off := 102) rfl (k := k) rfl hk) ?_; go_frame)
              | (show wpList _ _ _ (⟨some 30, .load _ _, _, _, _, _⟩ :: _) _ _; refine wpList_val rfl (op_load1S (b := p) (T := 52) oneBool ((hS.bring (by repeat (first | exact t0 | apply tS)))) rfl rfl HT.out) ?_; go_frame)
              | (show wpList _ _ _ (⟨some 32, .binOp _ _ _ _ _, _, _, _, _⟩ :: _) _ _; refine wpList_val rfl (op_isubN rfl rfl rfl i0 HTI.out (by omega)) ?_; go_frame)
              | (show wpList _ _ _ (⟨some 37, .indexAddr _ _ _, _, _, _, _⟩ :: _) _ _; refine wpList_val rfl (op_indexArr arr2i rfl (b := p) (off := 35) rfl (k := i0) rfl hi0) ?_; go_frame)
              | (show wpList _ _ _ (⟨some 38, .load _ _, _, _, _, _⟩ :: _) _ _; refine wpList_val rfl (op_load1S (b := p) (T := 52) oneInt ((hS.bring (by repeat (first | exact t0 | apply tS)))) rfl rfl HX.out) ?_; go_frame)
              | (show wpList _ _ _ (⟨some 40, .binOp _ _ _ _ _, _, _, _, _⟩ :: _) _ _; refine wpList_val rfl (op_igeq rfl rfl rfl GX.out) ?_; go_frame)
              | (show wpList _ _ _ (⟨some 44, .binOp _ _ _ _ _, _, _, _, _⟩ :: _) _ _; refine wpList_val rfl (op_ineI rfl rfl rfl NX.out) ?_; go_frame)
              | (show wpList _ _ _ (⟨some 49, .binOp _ _ _ _ _, _, _, _, _⟩ :: _) _ _; refine wpList_val rfl (op_isubN rfl rfl rfl i1 HI.out (by omega)) ?_; go_frame)
              | (show wpList _ _ _ (⟨some 52, .indexAddr _ _ _, _, _, _, _⟩ :: _) _ _; refine wpList_val rfl (op_indexArr arr2i rfl (b := p) (off := 35) rfl (k := i1) rfl hi1) ?_; go_frame)
              | (show wpList _ _ _ (⟨some 53, .load _ _, _, _, _, _⟩ :: _) _ _; refine wpList_val rfl (op_load1S (b := p) (T := 52) oneInt ((hS.bring (by repeat (first | exact t0 | apply tS)))) rfl rfl HY.out) ?_; go_frame)
              | (show wpList _ _ _ (⟨some 55, .binOp _ _ _ _ _, _, _, _, _⟩ :: _) _ _; refine wpList_val rfl (op_igeq rfl rfl rfl GY.out) ?_; go_frame)
              | (show wpList _ _ _ (⟨some 59, .binOp _ _ _ _ _, _, _, _, _⟩ :: _) _ _; refine wpList_val rfl (op_ineI rfl rfl rfl NY.out) ?_; go_frame)
              )
            go_ret
            exact ⟨by rw [HE.out]; rfl, hS⟩
        · have GY : Hid (decide (0 ≤ y) = false) := decide_eq_false y0
          have HE : Hid (wayS sa r k = -1) := hW2.trans (if_neg (fun h => h.1 (by omega)))
          clear x0 y0 hW hW2 hbad
          go_enter Tryd.func30, Tryd.ntmps30
          go_wp2_with (first
            | (go_at_call 45; refine Ret.calls (source_s (k : Int) w hs) ?_; rintro r1 w' ⟨rfl, rfl⟩)
            )
          refine wp_region_text (by kernel_rfl) (by kernel_rfl) (by repeat (first | exact Clean.body | refine Clean.then ?_ | refine Clean.inBlock ?_)) ?_
          replace hS := hS.drew
          go_wp2_with (first
            | (show wpList _ _ _ (⟨some 16, .load _ _, _, _, _, _⟩ :: _) _ _; refine wpList_val rfl (op_load agg32b rfl rfl ((SepL.getBlk (b := p) (T := 52) ((hS.bring (by repeat (first | exact t0 | apply tS))))).cells.subN 0 32 HSA.out) HSL.out) ?_; go_frame)
            | (show wpList _ _ _ (⟨some 20, .load _ _, _, _, _, _⟩ :: _) _ _; refine wpList_val rfl (op_load1S (b := p) (T := 52) oneU64 ((hS.bring (by repeat (first | exact t0 | apply tS)))) rfl rfl HEP.out) ?_; go_frame)
            | (go_at_call 46; refine Ret.calls (HR hS) ?_; clear hS; rintro r1 w ⟨rfl, hS⟩)
            | (refine fin_mk (by kernel_rfl) ?_)
            | go_big_skip
            | (show wpList _ _ _ (⟨some 29, .indexAddr _ _ _, _, _, _, _⟩ :: _) _ _; refine wpList_val rfl (op_indexArr arr65b rfl (b := p) (off := 102) rfl (k := k) rfl hk) ?_; go_frame)
            | (show wpList _ _ _ (⟨some 30, .load _ _, _, _, _, _⟩ :: _) _ _; refine wpList_val rfl (op_load1S (b := p) (T := 52) oneBool ((hS.bring (by repeat (first | exact t0 | apply tS)))) rfl rfl HT.out) ?_; go_frame)
            | (show wpList _ _ _ (⟨some 32, .binOp _ _ _ _ _, _, _, _, _⟩ :: _) _ _; refine wpList_val rfl (op_isubN rfl rfl rfl i0 HTI.out (by omega)) ?_; go_frame)
            | (show wpList _ _ _ (⟨some 37, .indexAddr _ _ _, _, _, _, _⟩ :: _) _ _; refine wpList_val rfl (op_indexArr arr2i rfl (b := p) (off := 35) rfl (k := i0) rfl hi0) ?_; go_frame)
            | (show wpList _ _ _ (⟨some 38, .load _ _, _, _, _, _⟩ :: _) _ _; refine wpList_val rfl (op_load1S (b := p) (T := 52) oneInt ((hS.bring (by repeat (first | exact t0 | apply tS)))) rfl rfl HX.out) ?_; go_frame)
            | (show wpList _ _ _ (⟨some 40, .binOp _ _ _ _ _, _, _, _, _⟩ :: _) _ _; refine wpList_val rfl (op_igeq rfl rfl rfl GX.out) ?_; go_frame)
            | (show wpList _ _ _ (⟨some 44, .binOp _ _ _ _ _, _, _, _, _⟩ :: _) _ _; refine wpList_val rfl (op_ineI rfl rfl rfl NX.out) ?_; go_frame)
            | (show wpList _ _ _ (⟨some 49, .binOp _ _ _ _ _, _, _, _, _⟩ :: _) _ _; refine wpList_val rfl (op_isubN rfl rfl rfl i1 HI.out (by omega)) ?_; go_frame)
            | (show wpList _ _ _ (⟨some 52, .indexAddr _ _ _, _, _, _, _⟩ :: _) _ _; refine wpList_val rfl (op_indexArr arr2i rfl (b := p) (off := 35) rfl (k := i1) rfl hi1) ?_; go_frame)
            | (show wpList _ _ _ (⟨some 53, .load _ _, _, _, _, _⟩ :: _) _ _; refine wpList_val rfl (op_load1S (b := p) (T := 52) oneInt ((hS.bring (by repeat (first | exact t0 | apply tS)))) rfl rfl HY.out) ?_; go_frame)
            | (show wpList _ _ _ (⟨some 55, .binOp _ _ _ _ _, _, _, _, _⟩ :: _) _ _; refine wpList_val rfl (op_igeq rfl rfl rfl GY.out) ?_; go_frame)
            | (show wpList _ _ _ (⟨some 59, .binOp _ _ _ _ _, _, _, _, _⟩ :: _) _ _; refine wpList_val rfl (op_ineI rfl rfl rfl NY.out) ?_; go_frame)
            )
          go_ret
          exact ⟨by rw [HE.out]; rfl, hS⟩
end
end Go.Proofs.YtlplgobkidpgkaaDoor
namespace Go.Proofs.YtlplgobkidpgkaaDoor
open Go Go.RowKit Go.Px Go.Sha
theorem agg65i : Agg Tryd.prog 49 65 := Agg.of Tryd.underlying49 rfl (by kernel_rfl)
theorem agg65b : Agg Tryd.prog 50 65 := Agg.of Tryd.underlying50 rfl (by kernel_rfl)
theorem buildInts (w : World) : (Instr.build 49 #[]).run Tryd.prog w = .ok (.agg (List.replicate 65 (I64 0)).toArray) w := run_build w 49 _ _ (by kernel_rfl)
theorem buildBools (w : World) : (Instr.build 50 #[]).run Tryd.prog w = .ok (.agg (List.replicate 65 (.bool false)).toArray) w := run_build w 50 _ _ (by kernel_rfl)
theorem rr_succ2 {sa : List Byte} (hsa : sa.length = 32) (r : Rt) (a b : Int) : (rrC sa r).take 35 ++ [I64 a, I64 b] ++ (rrC sa r).drop (35 + 2) = rrC sa { r with s0 := a, s1 := b } := by
  unfold rrC
  rw [List.drop_append, List.drop_eq_nil_of_le (by rw [headC_len hsa]; omega), headC_len hsa, List.nil_append, List.drop_zero, List.take_append_of_le_length (by rw [headC_len hsa]; omega)]
  unfold headC
  rw [List.take_append, List.take_of_length_le (by rw [List.length_map]; omega), List.length_map, hsa]
  simp
theorem rr_ints {sa : List Byte} (hsa : sa.length = 32) {r : Rt} (hm : r.ms.length = 65) : (rrC sa r).take 37 ++ List.replicate 65 (I64 0) ++ (rrC sa r).drop (37 + 65) = rrC sa { r with ms := List.replicate 65 0 } := by
  unfold rrC
  rw [List.drop_append, List.drop_eq_nil_of_le (by rw [headC_len hsa]; omega), headC_len hsa, List.nil_append, List.take_append_of_le_length (by rw [headC_len hsa]; omega), List.take_of_length_le (by rw [headC_len hsa]; omega), List.drop_append, List.drop_eq_nil_of_le (by rw [List.length_map]; omega), List.length_map, hm, List.nil_append]
  show headC sa r ++ _ ++ List.drop 0 _ = headC sa r ++ ((List.replicate 65 0).map (fun (m : Nat) => I64 m) ++ r.ts.map Value.bool)
  rw [List.map_replicate, List.drop_zero, List.append_assoc]
  rfl
theorem rr_bools {sa : List Byte} (hsa : sa.length = 32) {r : Rt} (hm : r.ms.length = 65) (ht : r.ts.length = 65) : (rrC sa r).take 102 ++ List.replicate 65 (.bool false) ++ (rrC sa r).drop (102 + 65) = rrC sa { r with ts := List.replicate 65 false } := by
  rw [List.drop_eq_nil_of_le (by unfold rrC; rw [List.length_append, headC_len hsa, List.length_append, List.length_map, List.length_map, hm, ht]; omega), List.append_nil]
  unfold rrC
  rw [← List.append_assoc, List.take_append_of_le_length (by rw [List.length_append, headC_len hsa, List.length_map]; omega), List.take_of_length_le (by rw [List.length_append, headC_len hsa, List.length_map]; omega)]
  show headC sa r ++ r.ms.map (fun (m : Nat) => I64 m) ++ _ = headC sa r ++ (r.ms.map (fun (m : Nat) => I64 m) ++ (List.replicate 65 false).map Value.bool)
  rw [List.map_replicate, List.append_assoc]
theorem cap_step {n : Nat} (h : n < 18446744073709551615) : (n + 1) % 18446744073709551616 = capU (n + 1) := by
  rw [Nat.mod_eq_of_lt (by omega)]
  exact (Nat.min_eq_left (by omega)).symm
theorem cap_end {n : Nat} (h : ¬ n < 18446744073709551615) (h2 : n < 18446744073709551616) : capU (n + 1) = n := by
  have e : n = 18446744073709551615 := by omega
  rw [e]
  exact Nat.min_eq_right (by omega)
theorem rep_one (z : Value) (h : z.oneCell' = true) (n : Nat) : Hid (∀ v ∈ List.replicate n z, v.oneCell' = true) := by
  intro v hv
  rw [List.eq_of_mem_replicate hv]
  exact h
section
variable {R : Nat → Prop} {base w : World} {F : List Hp}
theorem own_one {v : Value} {a : Int} (hS : SepL R base w (.own 3 1 v [[I64 a]] :: F)) : SepL R base w (.own 3 1 v ([a].map fun z => [I64 z]) :: F) := hS
set_option maxRecDepth 100000 in
set_option maxHeartbeats 4000000 in
theorem rtick_s {p : Nat} {sa : List Byte} {r : Rt} {v : Value} {peers : List Int} (hS : SepL R base w (.blk p 52 (rrC sa r) :: F)) (hsa : sa.length = 32) (hok : ROk 3 r) (hv : RdIn R base 1 v (peers.map fun z => [I64 z])) (hlen : peers.length ≤ 1000000) {now d0 d1 d2 : Nat} (hnow : now < 18446744073709551616) (hd1 : d1 < 65536) (hd2 : d2 < 65536) :
    Calls Tryd.prog 20 #[.pointer (some ⟨p, 0, none⟩), U now, v, .agg #[.int .u16 d0, .int .u16 d1, .int .u16 d2]] w (Ret fun y w' => y = .bool (!decide (now < r.fin)) ∧ SepL R base w' (.blk p 52 (rrC sa (tickR r now peers d0 d1 d2)) :: F)) := by
  have HFI : Hid ((rrC sa r)[33]? = some (U r.fin)) := head_at hsa r _ (k := 1) (by omega)
  by_cases h1 : now < r.fin
  · have H1 : Hid (decide (now < r.fin) = true) := decide_eq_true h1
    have HE : Hid (tickR r now peers d0 d1 d2 = r) := if_pos h1
    clear h1
    go_enter Tryd.func20, Tryd.ntmps20
    go_wp2_with (first
      | (show wpList _ _ _ (⟨some 7, .box _ _, _, _, _, _⟩ :: _) _ _; refine wpS_boxA (cs := [.int .u16 d0, .int .u16 d1, .int .u16 d2]) hS rfl rfl rfl ?_; clear hS; intro nb w hS; go_frame)
      | (show wpList _ _ _ (⟨some 15, .load _ _, _, _, _, _⟩ :: _) _ _; refine wpList_val rfl (op_load1S (b := p) (T := 52) oneU64 ((hS.bring (by repeat (first | exact t0 | apply tS)))) rfl rfl HFI.out) ?_; go_frame)
      | (show wpList _ _ _ (⟨some 16, .binOp _ _ _ _ _, _, _, _, _⟩ :: _) _ _; refine wpList_val rfl (opU_lss rfl rfl rfl H1.out) ?_; go_frame)
      )
    go_ret
    exact ⟨by rw [H1.out]; rfl, by rw [HE.out]; exact hS.sel (by repeat (first | exact Sel.refl | refine Sel.take (by repeat (first | exact t0 | apply tS)) ?_ | apply Sel.drop))⟩
  · have H1 : Hid (decide (now < r.fin) = false) := decide_eq_false h1
    have hep := hok.ep
    have HEP : Hid ((rrC sa r)[32]? = some (U r.epoch)) := head_at hsa r _ (k := 0) (by omega)
    have HL2 : Hid (∀ n ∈ [600], n < 18446744073709551616) := by intro n hn; rw [List.mem_singleton.1 hn]; omega
    obtain ⟨e1, he1⟩ : ∃ e, capU (r.epoch + 1) = e := ⟨_, rfl⟩
    obtain ⟨e2, he2⟩ : ∃ e, capU (now + 600) = e := ⟨_, rfl⟩
    have HE2 : Hid (laterN now [600] = e2) := (later_cap _ _).trans he2
    obtain ⟨bb, hbb⟩ : ∃ b, decide (0 < d0 % 10) = b := ⟨_, rfl⟩
    have HG : Hid ((((d0 % 10 : Nat) : Int) != 0) = bb) := by
      unfold Hid
      rw [← hbb, Bool.eq_iff_iff, bne_iff_ne, decide_eq_true_eq]
      omega
    obtain ⟨a, ha⟩ : ∃ a, chooseP peers (-1) d1 = a := ⟨_, rfl⟩
    obtain ⟨b, hb⟩ : ∃ b, chooseP peers a d2 = b := ⟨_, rfl⟩
    have HC1 : Hid (pickI (cntP peers []) d1 = a) := by
      rw [← ha]
      unfold Hid chooseP cntP
      rw [cnt_none]
    have HC2 : Hid (pickI (cntP peers [a]) d2 = b) := hb
    have hE : tickR r now peers d0 d1 d2 = { r with epoch := e1, fin := e2, stems := bb, s0 := a, s1 := b, ms := List.replicate 65 0, ts := List.replicate 65 false } := by
      unfold tickR
      rw [if_neg h1, he1, he2, hbb, ha, hb]
    have HE := hide hE
    have HS1 := hide (rr_e hsa r e1)
    have HS2 := hide (rr_f hsa { r with epoch := e1 } e2)
    have HS3 := hide (rr_b hsa { r with epoch := e1, fin := e2 } bb)
    have HS4 := hide (rr_succ2 hsa { r with epoch := e1, fin := e2, stems := bb } a b)
    have HS5 := hide (rr_ints hsa (r := { r with epoch := e1, fin := e2, stems := bb, s0 := a, s1 := b }) hok.ml)
    have HS6 := hide (rr_bools hsa (r := { r with epoch := e1, fin := e2, stems := bb, s0 := a, s1 := b, ms := List.replicate 65 0 }) (by simp) hok.tl)
    have hln : ∀ q : Rt, q.ms.length = 65 → q.ts.length = 65 → (rrC sa q).length = 167 := fun q h1 h2 => by
      unfold rrC
      rw [List.length_append, headC_len hsa, List.length_append, List.length_map, List.length_map, h1, h2]
    have HLN := hide (rr_lt hsa r)
    have HLN1 := hide (rr_lt hsa { r with epoch := e1 })
    have HLN2 := hide (rr_lt hsa { r with epoch := e1, fin := e2 })
    have HLN3 : Hid (35 + 2 ≤ (rrC sa { r with epoch := e1, fin := e2, stems := bb }).length) := rr_lt hsa _
    have HLN4 : Hid (37 + 65 ≤ (rrC sa { r with epoch := e1, fin := e2, stems := bb, s0 := a, s1 := b }).length) := by
      unfold Hid
      rw [hln { r with epoch := e1, fin := e2, stems := bb, s0 := a, s1 := b } hok.ml hok.tl]
      omega
    have HLN5 : Hid (102 + 65 ≤ (rrC sa { r with epoch := e1, fin := e2, stems := bb, s0 := a, s1 := b, ms := List.replicate 65 0 }).length) := by
      unfold Hid
      rw [hln { r with epoch := e1, fin := e2, stems := bb, s0 := a, s1 := b, ms := List.replicate 65 0 } (by simp) hok.tl]
      omega
    have HO2 : Hid (∀ v ∈ [I64 a, I64 b], v.oneCell' = true) := by
      intro v hv
      simp only [List.mem_cons, List.not_mem_nil, or_false] at hv
      rcases hv with rfl | rfl <;> rfl
    have HO3 := rep_one (I64 0) rfl 65
    have HO4 := rep_one (.bool false) rfl 65
    by_cases hle : r.epoch < 18446744073709551615
    · have HLE : Hid (decide (r.epoch < 18446744073709551615) = true) := decide_eq_true hle
      have HE1 : Hid ((r.epoch + 1) % 18446744073709551616 = e1) := (cap_step hle).trans he1
      clear h1 he1 he2 hbb ha hb hE hle hln
      go_enter Tryd.func20, Tryd.ntmps20
      go_wp2_with (first
        | (show wpList _ _ _ (⟨some 7, .box _ _, _, _, _, _⟩ :: _) _ _; refine wpS_boxA (cs := [.int .u16 d0, .int .u16 d1, .int .u16 d2]) hS rfl rfl rfl ?_; clear hS; intro nb w hS; go_frame)
        | (show wpList _ _ _ (⟨some 15, .load _ _, _, _, _, _⟩ :: _) _ _; refine wpList_val rfl (op_load1S (b := p) (T := 52) oneU64 ((hS.bring (by repeat (first | exact t0 | apply tS)))) rfl rfl HFI.out) ?_; go_frame)
        | (show wpList _ _ _ (⟨some 16, .binOp _ _ _ _ _, _, _, _, _⟩ :: _) _ _; refine wpList_val rfl (opU_lss rfl rfl rfl H1.out) ?_; go_frame)
        | (show wpList _ _ _ (⟨some 20, .load _ _, _, _, _, _⟩ :: _) _ _; refine wpList_val rfl (op_load1S (b := p) (T := 52) oneU64 ((hS.bring (by repeat (first | exact t0 | apply tS)))) rfl rfl HEP.out) ?_; go_frame)
        | (show wpList _ _ _ (⟨some 21, .binOp _ _ _ _ _, _, _, _, _⟩ :: _) _ _; refine wpList_val rfl (opU_lss rfl rfl (b := 18446744073709551615) rfl HLE.out) ?_; go_frame)
        | (show wpList _ _ _ (⟨some 25, .load _ _, _, _, _, _⟩ :: _) _ _; refine wpList_val rfl (op_load1S (b := p) (T := 52) oneU64 ((hS.bring (by repeat (first | exact t0 | apply tS)))) rfl rfl HEP.out) ?_; go_frame)
        | (show wpList _ _ _ (⟨some 26, .binOp _ _ _ _ _, _, _, _, _⟩ :: _) _ _; refine wpList_val rfl (opU_addW rfl rfl (b := 1) rfl e1 HE1.out) ?_; go_frame)
        | (show wpList _ _ _ (⟨_, .store 33 (.tmp 28) _, _, _, _, _⟩ :: _) _ _; (refine wpS_store1 (b := p) (i := 32) (T := 52) (by kernel_rfl) (hS.bring (by repeat (first | exact t0 | apply tS))) rfl rfl rfl (v := U e1) rfl rfl rfl (by have := HLN.out; omega) ?_); clear hS; intro w hS; rw [HS1.out] at hS; go_frame)
        | (show wpList _ _ _ (⟨some 31, .buildSlice _ _ _, _, _, _, _⟩ :: _) _ _; refine wpS_build11 slU hS rfl rfl (u := U 600) rfl rfl ?_; clear hS; intro v30 w hS; go_frame)
        | (go_at_call 42; refine Ret.calls (rlater_any now v30 [600] _ ((hS.bring (by repeat (first | exact t0 | apply tS))).getOwn.rd) hnow HL2.out) ?_; rintro r1 w' ⟨rfl, rfl⟩; rw [HE2.out])
        | (show wpList _ _ _ (⟨_, .store 33 (.tmp 34) _, _, _, _, _⟩ :: _) _ _; (refine wpS_store1 (b := p) (i := 33) (T := 52) (by kernel_rfl) (hS.bring (by repeat (first | exact t0 | apply tS))) rfl rfl rfl (v := U e2) rfl rfl rfl (by have := HLN1.out; omega) ?_); clear hS; intro w hS; rw [HS2.out] at hS; go_frame)
        | (show wpList _ _ _ (⟨some 36, .indexAddr _ _ _, _, _, _, _⟩ :: _) _ _; refine wpList_val rfl (op_indexArrZ arr3u rfl (b := nb) (off := 0) rfl rfl 0 rfl (by omega)) ?_; go_frame)
        | (show wpList _ _ _ (⟨some 37, .load _ _, _, _, _, _⟩ :: _) _ _; refine wpList_val rfl (op_load1S (b := nb) (T := 36) oneU16 ((hS.bring (by repeat (first | exact t0 | apply tS)))) rfl rfl rfl) ?_; go_frame)
        | (show wpList _ _ _ (⟨some 38, .binOp _ _ _ _ _, _, _, _, _⟩ :: _) _ _; refine wpList_val rfl (op_u16rem rfl (a := d0) (b := 10) rfl rfl (by omega)) ?_; go_frame)
        | (show wpList _ _ _ (⟨some 39, .binOp _ _ _ _ _, _, _, _, _⟩ :: _) _ _; refine wpList_val rfl (op_ineI rfl rfl rfl HG.out) ?_; go_frame)
        | (show wpList _ _ _ (⟨_, .store 4 _ _, _, _, _, _⟩ :: _) _ _; (refine wpS_store1 (b := p) (i := 34) (T := 52) (by kernel_rfl) (hS.bring (by repeat (first | exact t0 | apply tS))) rfl rfl rfl (v := .bool bb) rfl rfl rfl (by have := HLN2.out; omega) ?_); clear hS; intro w hS; rw [HS3.out] at hS; go_frame)
        )
      refine wp_region_ord (by kernel_rfl) [44] [[0, 2, 3, 1, 4, 5]] (by kernel_rfl) (by kernel_rfl) (fun w' => Blk w' nb 36 [.int .u16 d0, .int .u16 d1, .int .u16 d2]) Up.blk ((hS.bring (by repeat (first | exact t0 | apply tS))).getBlk) (by repeat (first | exact Clean.body | refine Clean.then ?_ | refine Clean.inBlock ?_ | refine SegQ.clean ?_ | refine FinC.clean ?_)) ?_
      replace hS := hS.drew
      refine ord_seg (by repeat (first | exact Clean.body | refine Clean.then ?_ | refine Clean.inBlock ?_ | refine SegQ.clean ?_ | refine FinC.clean ?_)) (n := 2) (rest := [[4, 5]]) [0, 2, 3, 1] [⟨_, _, _, _, _, _⟩, ⟨_, _, _, _, _, _⟩, ⟨_, _, _, _, _, _⟩, ⟨_, _, _, _, _, _⟩] rfl (by kernel_rfl) (by simp) _ _ ?_
      go_wp2_with (first
        | (show wpList _ _ _ (⟨some 44, .indexAddr _ _ _, _, _, _, _⟩ :: _) _ _; refine wpList_val rfl (op_indexArrZ arr3u rfl (b := nb) (off := 0) rfl rfl 1 rfl (by omega)) ?_; go_frame)
        | (show wpList _ _ _ (⟨some 45, .load _ _, _, _, _, _⟩ :: _) _ _; refine wpList_val rfl (op_load1S (b := nb) (T := 36) oneU16 ((hS.bring (by repeat (first | exact t0 | apply tS)))) rfl rfl rfl) ?_; go_frame)
        | (go_at_call 44; refine Ret.calls (counted_s (but := []) hS hv (RdIn.nil 1) hlen) ?_; clear hS; rintro vc w hS)
        | (go_at_call 43; refine Ret.calls (pick_rs vc (cntP peers []) _ ((hS.bring (by repeat (first | exact t0 | apply tS))).getOwn.rd) hd1) ?_; rintro r1 w' ⟨rfl, rfl⟩; rw [HC1.out])
        )
      refine segQ_mk (((hS.bring (by repeat (first | exact t0 | apply tS))).getBlk) : Blk _ nb 36 [.int .u16 d0, .int .u16 d1, .int .u16 d2]) ?_
      refine ord_seg (by repeat (first | exact Clean.body | refine Clean.then ?_ | refine Clean.inBlock ?_ | refine SegQ.clean ?_ | refine FinC.clean ?_)) (n := 1) (rest := [[5]]) [4] [⟨_, _, _, _, _, _⟩] rfl (by kernel_rfl) (by simp) _ _ ?_
      go_wp2_with (first
        | (show wpList _ _ _ (⟨some 44, .indexAddr _ _ _, _, _, _, _⟩ :: _) _ _; refine wpList_val rfl (op_indexArrZ arr3u rfl (b := nb) (off := 0) rfl rfl 1 rfl (by omega)) ?_; go_frame)
        | (show wpList _ _ _ (⟨some 45, .load _ _, _, _, _, _⟩ :: _) _ _; refine wpList_val rfl (op_load1S (b := nb) (T := 36) oneU16 ((hS.bring (by repeat (first | exact t0 | apply tS)))) rfl rfl rfl) ?_; go_frame)
        | (go_at_call 44; refine Ret.calls (counted_s (but := []) hS hv (RdIn.nil 1) hlen) ?_; clear hS; rintro vc w hS)
        | (go_at_call 43; refine Ret.calls (pick_rs vc (cntP peers []) _ ((hS.bring (by repeat (first | exact t0 | apply tS))).getOwn.rd) hd1) ?_; rintro r1 w' ⟨rfl, rfl⟩; rw [HC1.out])
        )
      refine segQ_mk (((hS.bring (by repeat (first | exact t0 | apply tS))).getBlk) : Blk _ nb 36 [.int .u16 d0, .int .u16 d1, .int .u16 d2]) ?_
      refine ord_seg (by repeat (first | exact Clean.body | refine Clean.then ?_ | refine Clean.inBlock ?_ | refine SegQ.clean ?_ | refine FinC.clean ?_)) (n := 0) (rest := [[]]) [5] [⟨_, _, _, _, _, _⟩] rfl (by kernel_rfl) (by simp) _ _ ?_
      go_wp2_with (first
        | (show wpList _ _ _ (⟨some 44, .indexAddr _ _ _, _, _, _, _⟩ :: _) _ _; refine wpList_val rfl (op_indexArrZ arr3u rfl (b := nb) (off := 0) rfl rfl 1 rfl (by omega)) ?_; go_frame)
        | (show wpList _ _ _ (⟨some 45, .load _ _, _, _, _, _⟩ :: _) _ _; refine wpList_val rfl (op_load1S (b := nb) (T := 36) oneU16 ((hS.bring (by repeat (first | exact t0 | apply tS)))) rfl rfl rfl) ?_; go_frame)
        | (go_at_call 44; refine Ret.calls (counted_s (but := []) hS hv (RdIn.nil 1) hlen) ?_; clear hS; rintro vc w hS)
        | (go_at_call 43; refine Ret.calls (pick_rs vc (cntP peers []) _ ((hS.bring (by repeat (first | exact t0 | apply tS))).getOwn.rd) hd1) ?_; rintro r1 w' ⟨rfl, rfl⟩; rw [HC1.out])
        )
      refine segQ_mk (((hS.bring (by repeat (first | exact t0 | apply tS))).getBlk) : Blk _ nb 36 [.int .u16 d0, .int .u16 d1, .int .u16 d2]) ?_
      refine finC_mk (by kernel_rfl) (by
        intro t ht
        simp only [List.mem_cons, List.not_mem_nil, or_false] at ht
        rcases ht with rfl
        exact stab_blk (b := nb) (fun w h => h) _ none) ?_
      go_wp2_with fail
      refine wp_region_ord (by kernel_rfl) [51] [[0, 1, 4, 5, 2, 3, 6, 7]] (by kernel_rfl) (by kernel_rfl) (fun w' => Blk w' nb 36 [.int .u16 d0, .int .u16 d1, .int .u16 d2]) Up.blk ((hS.bring (by repeat (first | exact t0 | apply tS))).getBlk) (by repeat (first | exact Clean.body | refine Clean.then ?_ | refine Clean.inBlock ?_ | refine SegQ.clean ?_ | refine FinC.clean ?_)) ?_
      replace hS := hS.drew
      refine ord_seg (by repeat (first | exact Clean.body | refine Clean.then ?_ | refine Clean.inBlock ?_ | refine SegQ.clean ?_ | refine FinC.clean ?_)) (n := 2) (rest := [[6, 7]]) [0, 1, 4, 5, 2, 3] [⟨_, _, _, _, _, _⟩, ⟨_, _, _, _, _, _⟩, ⟨_, _, _, _, _, _⟩, ⟨_, _, _, _, _, _⟩, ⟨_, _, _, _, _, _⟩, ⟨_, _, _, _, _, _⟩] rfl (by kernel_rfl) (by simp) _ _ ?_
      go_wp2_with (first
        | (show wpList _ _ _ (⟨some 49, .buildSlice _ _ _, _, _, _, _⟩ :: _) _ _; refine wpS_build11 slInt hS rfl rfl (u := I64 a) rfl rfl ?_; clear hS; intro v49 w hS; replace hS := own_one hS; go_frame)
        | (show wpList _ _ _ (⟨some 51, .indexAddr _ _ _, _, _, _, _⟩ :: _) _ _; refine wpList_val rfl (op_indexArrZ arr3u rfl (b := nb) (off := 0) rfl rfl 2 rfl (by omega)) ?_; go_frame)
        | (show wpList _ _ _ (⟨some 52, .load _ _, _, _, _, _⟩ :: _) _ _; refine wpList_val rfl (op_load1S (b := nb) (T := 36) oneU16 ((hS.bring (by repeat (first | exact t0 | apply tS)))) rfl rfl rfl) ?_; go_frame)
        | (go_at_call 44; (refine Ret.calls (counted_o (vb := v49) (but := [a]) (hS.bring (by repeat (first | exact t0 | apply tS))) hv hlen) ?_); clear hS; rintro ve w hS)
        | (go_at_call 43; refine Ret.calls (pick_rs ve (cntP peers [a]) _ ((hS.bring (by repeat (first | exact t0 | apply tS))).getOwn.rd) hd2) ?_; rintro r1 w' ⟨rfl, rfl⟩; rw [HC2.out])
        )
      refine segQ_mk (((hS.bring (by repeat (first | exact t0 | apply tS))).getBlk) : Blk _ nb 36 [.int .u16 d0, .int .u16 d1, .int .u16 d2]) ?_
      refine ord_seg (by repeat (first | exact Clean.body | refine Clean.then ?_ | refine Clean.inBlock ?_ | refine SegQ.clean ?_ | refine FinC.clean ?_)) (n := 1) (rest := [[7]]) [6] [⟨_, _, _, _, _, _⟩] rfl (by kernel_rfl) (by simp) _ _ ?_
      go_wp2_with (first
        | (show wpList _ _ _ (⟨some 49, .buildSlice _ _ _, _, _, _, _⟩ :: _) _ _; refine wpS_build11 slInt hS rfl rfl (u := I64 a) rfl rfl ?_; clear hS; intro v49 w hS; replace hS := own_one hS; go_frame)
        | (show wpList _ _ _ (⟨some 51, .indexAddr _ _ _, _, _, _, _⟩ :: _) _ _; refine wpList_val rfl (op_indexArrZ arr3u rfl (b := nb) (off := 0) rfl rfl 2 rfl (by omega)) ?_; go_frame)
        | (show wpList _ _ _ (⟨some 52, .load _ _, _, _, _, _⟩ :: _) _ _; refine wpList_val rfl (op_load1S (b := nb) (T := 36) oneU16 ((hS.bring (by repeat (first | exact t0 | apply tS)))) rfl rfl rfl) ?_; go_frame)
        | (go_at_call 44; (refine Ret.calls (counted_o (vb := v49) (but := [a]) (hS.bring (by repeat (first | exact t0 | apply tS))) hv hlen) ?_); clear hS; rintro ve w hS)
        | (go_at_call 43; refine Ret.calls (pick_rs ve (cntP peers [a]) _ ((hS.bring (by repeat (first | exact t0 | apply tS))).getOwn.rd) hd2) ?_; rintro r1 w' ⟨rfl, rfl⟩; rw [HC2.out])
        )
      refine segQ_mk (((hS.bring (by repeat (first | exact t0 | apply tS))).getBlk) : Blk _ nb 36 [.int .u16 d0, .int .u16 d1, .int .u16 d2]) ?_
      refine ord_seg (by repeat (first | exact Clean.body | refine Clean.then ?_ | refine Clean.inBlock ?_ | refine SegQ.clean ?_ | refine FinC.clean ?_)) (n := 0) (rest := [[]]) [7] [⟨_, _, _, _, _, _⟩] rfl (by kernel_rfl) (by simp) _ _ ?_
      go_wp2_with (first
        | (show wpList _ _ _ (⟨some 49, .buildSlice _ _ _, _, _, _, _⟩ :: _) _ _; refine wpS_build11 slInt hS rfl rfl (u := I64 a) rfl rfl ?_; clear hS; intro v49 w hS; replace hS := own_one hS; go_frame)
        | (show wpList _ _ _ (⟨some 51, .indexAddr _ _ _, _, _, _, _⟩ :: _) _ _; refine wpList_val rfl (op_indexArrZ arr3u rfl (b := nb) (off := 0) rfl rfl 2 rfl (by omega)) ?_; go_frame)
        | (show wpList _ _ _ (⟨some 52, .load _ _, _, _, _, _⟩ :: _) _ _; refine wpList_val rfl (op_load1S (b := nb) (T := 36) oneU16 ((hS.bring (by repeat (first | exact t0 | apply tS)))) rfl rfl rfl) ?_; go_frame)
        | (go_at_call 44; (refine Ret.calls (counted_o (vb := v49) (but := [a]) (hS.bring (by repeat (first | exact t0 | apply tS))) hv hlen) ?_); clear hS; rintro ve w hS)
        | (go_at_call 43; refine Ret.calls (pick_rs ve (cntP peers [a]) _ ((hS.bring (by repeat (first | exact t0 | apply tS))).getOwn.rd) hd2) ?_; rintro r1 w' ⟨rfl, rfl⟩; rw [HC2.out])
        )
      refine segQ_mk (((hS.bring (by repeat (first | exact t0 | apply tS))).getBlk) : Blk _ nb 36 [.int .u16 d0, .int .u16 d1, .int .u16 d2]) ?_
      refine finC_mk (by kernel_rfl) (by
        intro t ht
        simp only [List.mem_cons, List.not_mem_nil, or_false] at ht
        rcases ht with rfl
        exact stab_blk (b := nb) (fun w h => h) _ none) ?_
      go_wp2_with (first
        | (show wpList _ _ _ (⟨some 57, .build _ _, _, _, _, _⟩ :: _) _ _; refine wpList_val rfl (op_build (ps := #[(0, .int .i64 a), (1, .int .i64 b)]) rfl rfl (buildSucc a b) _) ?_; go_frame)
        | (show wpList _ _ _ (⟨_, .store 29 _ _, _, _, _, _⟩ :: _) _ _; (refine wpS_storeN (b := p) (off := 35) (T := 52) agg2 (hS.bring (by repeat (first | exact t0 | apply tS))) rfl rfl rfl (vs := [I64 a, I64 b]) rfl rfl HO2.out HLN3.out ?_); clear hS; intro w hS; rw [HS4.out] at hS; go_frame)
        | (show wpList _ _ _ (⟨some 61, .build _ _, _, _, _, _⟩ :: _) _ _; refine wpList_val rfl (op_build (ps := #[]) rfl rfl buildInts _) ?_; go_frame)
        | (show wpList _ _ _ (⟨_, .store 49 _ _, _, _, _, _⟩ :: _) _ _; (refine wpS_storeN (b := p) (off := 37) (T := 52) agg65i (hS.bring (by repeat (first | exact t0 | apply tS))) rfl rfl rfl (vs := List.replicate 65 (I64 0)) rfl rfl HO3.out HLN4.out ?_); clear hS; intro w hS; rw [HS5.out] at hS; go_frame)
        | (show wpList _ _ _ (⟨some 65, .build _ _, _, _, _, _⟩ :: _) _ _; refine wpList_val rfl (op_build (ps := #[]) rfl rfl buildBools _) ?_; go_frame)
        | (show wpList _ _ _ (⟨_, .store 50 _ _, _, _, _, _⟩ :: _) _ _; (refine wpS_storeN (b := p) (off := 102) (T := 52) agg65b (hS.bring (by repeat (first | exact t0 | apply tS))) rfl rfl rfl (vs := List.replicate 65 (.bool false)) rfl rfl HO4.out HLN5.out ?_); clear hS; intro w hS; rw [HS6.out] at hS; go_frame)
        )
      go_ret
      exact ⟨by rw [H1.out]; rfl, by rw [HE.out]; exact hS.sel (by repeat (first | exact Sel.refl | refine Sel.take (by repeat (first | exact t0 | apply tS)) ?_ | apply Sel.drop))⟩
    · have HLE : Hid (decide (r.epoch < 18446744073709551615) = false) := decide_eq_false hle
      have hee : e1 = r.epoch := he1.symm.trans (cap_end hle hep)
      have HS2 : Hid ((rrC sa r).set 33 (U e2) = rrC sa { r with epoch := e1, fin := e2 }) := by
        rw [hee]
        exact rr_f hsa r e2
      have HLN1 := HLN
      clear hee
      clear h1 he1 he2 hbb ha hb hE hle hln
      go_enter Tryd.func20, Tryd.ntmps20
      go_wp2_with (first
        | (show wpList _ _ _ (⟨some 7, .box _ _, _, _, _, _⟩ :: _) _ _; refine wpS_boxA (cs := [.int .u16 d0, .int .u16 d1, .int .u16 d2]) hS rfl rfl rfl ?_; clear hS; intro nb w hS; go_frame)
        | (show wpList _ _ _ (⟨some 15, .load _ _, _, _, _, _⟩ :: _) _ _; refine wpList_val rfl (op_load1S (b := p) (T := 52) oneU64 ((hS.bring (by repeat (first | exact t0 | apply tS)))) rfl rfl HFI.out) ?_; go_frame)
        | (show wpList _ _ _ (⟨some 16, .binOp _ _ _ _ _, _, _, _, _⟩ :: _) _ _; refine wpList_val rfl (opU_lss rfl rfl rfl H1.out) ?_; go_frame)
        | (show wpList _ _ _ (⟨some 20, .load _ _, _, _, _, _⟩ :: _) _ _; refine wpList_val rfl (op_load1S (b := p) (T := 52) oneU64 ((hS.bring (by repeat (first | exact t0 | apply tS)))) rfl rfl HEP.out) ?_; go_frame)
        | (show wpList _ _ _ (⟨some 21, .binOp _ _ _ _ _, _, _, _, _⟩ :: _) _ _; refine wpList_val rfl (opU_lss rfl rfl (b := 18446744073709551615) rfl HLE.out) ?_; go_frame)
        | (show wpList _ _ _ (⟨some 25, .load _ _, _, _, _, _⟩ :: _) _ _; refine wpList_val rfl (op_load1S (b := p) (T := 52) oneU64 ((hS.bring (by repeat (first | exact t0 | apply tS)))) rfl rfl HEP.out) ?_; go_frame)
        | (show wpList _ _ _ (⟨some 26, .binOp _ _ _ _ _, _, _, _, _⟩ :: _) _ _; refine wpList_val rfl (opU_addW rfl rfl (b := 1) rfl e1 HE1.out) ?_; go_frame)
        | (show wpList _ _ _ (⟨_, .store 33 (.tmp 28) _, _, _, _, _⟩ :: _) _ _; (refine wpS_store1 (b := p) (i := 32) (T := 52) (by kernel_rfl) (hS.bring (by repeat (first | exact t0 | apply tS))) rfl rfl rfl (v := U e1) rfl rfl rfl (by have := HLN.out; omega) ?_); clear hS; intro w hS; rw [HS1.out] at hS; go_frame)
        | (show wpList _ _ _ (⟨some 31, .buildSlice _ _ _, _, _, _, _⟩ :: _) _ _; refine wpS_build11 slU hS rfl rfl (u := U 600) rfl rfl ?_; clear hS; intro v30 w hS; go_frame)
        | (go_at_call 42; refine Ret.calls (rlater_any now v30 [600] _ ((hS.bring (by repeat (first | exact t0 | apply tS))).getOwn.rd) hnow HL2.out) ?_; rintro r1 w' ⟨rfl, rfl⟩; rw [HE2.out])
        | (show wpList _ _ _ (⟨_, .store 33 (.tmp 34) _, _, _, _, _⟩ :: _) _ _; (refine wpS_store1 (b := p) (i := 33) (T := 52) (by kernel_rfl) (hS.bring (by repeat (first | exact t0 | apply tS))) rfl rfl rfl (v := U e2) rfl rfl rfl (by have := HLN1.out; omega) ?_); clear hS; intro w hS; rw [HS2.out] at hS; go_frame)
        | (show wpList _ _ _ (⟨some 36, .indexAddr _ _ _, _, _, _, _⟩ :: _) _ _; refine wpList_val rfl (op_indexArrZ arr3u rfl (b := nb) (off := 0) rfl rfl 0 rfl (by omega)) ?_; go_frame)
        | (show wpList _ _ _ (⟨some 37, .load _ _, _, _, _, _⟩ :: _) _ _; refine wpList_val rfl (op_load1S (b := nb) (T := 36) oneU16 ((hS.bring (by repeat (first | exact t0 | apply tS)))) rfl rfl rfl) ?_; go_frame)
        | (show wpList _ _ _ (⟨some 38, .binOp _ _ _ _ _, _, _, _, _⟩ :: _) _ _; refine wpList_val rfl (op_u16rem rfl (a := d0) (b := 10) rfl rfl (by omega)) ?_; go_frame)
        | (show wpList _ _ _ (⟨some 39, .binOp _ _ _ _ _, _, _, _, _⟩ :: _) _ _; refine wpList_val rfl (op_ineI rfl rfl rfl HG.out) ?_; go_frame)
        | (show wpList _ _ _ (⟨_, .store 4 _ _, _, _, _, _⟩ :: _) _ _; (refine wpS_store1 (b := p) (i := 34) (T := 52) (by kernel_rfl) (hS.bring (by repeat (first | exact t0 | apply tS))) rfl rfl rfl (v := .bool bb) rfl rfl rfl (by have := HLN2.out; omega) ?_); clear hS; intro w hS; rw [HS3.out] at hS; go_frame)
        )
      refine wp_region_ord (by kernel_rfl) [44] [[0, 2, 3, 1, 4, 5]] (by kernel_rfl) (by kernel_rfl) (fun w' => Blk w' nb 36 [.int .u16 d0, .int .u16 d1, .int .u16 d2]) Up.blk ((hS.bring (by repeat (first | exact t0 | apply tS))).getBlk) (by repeat (first | exact Clean.body | refine Clean.then ?_ | refine Clean.inBlock ?_ | refine SegQ.clean ?_ | refine FinC.clean ?_)) ?_
      replace hS := hS.drew
      refine ord_seg (by repeat (first | exact Clean.body | refine Clean.then ?_ | refine Clean.inBlock ?_ | refine SegQ.clean ?_ | refine FinC.clean ?_)) (n := 2) (rest := [[4, 5]]) [0, 2, 3, 1] [⟨_, _, _, _, _, _⟩, ⟨_, _, _, _, _, _⟩, ⟨_, _, _, _, _, _⟩, ⟨_, _, _, _, _, _⟩] rfl (by kernel_rfl) (by simp) _ _ ?_
      go_wp2_with (first
        | (show wpList _ _ _ (⟨some 44, .indexAddr _ _ _, _, _, _, _⟩ :: _) _ _; refine wpList_val rfl (op_indexArrZ arr3u rfl (b := nb) (off := 0) rfl rfl 1 rfl (by omega)) ?_; go_frame)
        | (show wpList _ _ _ (⟨some 45, .load _ _, _, _, _, _⟩ :: _) _ _; refine wpList_val rfl (op_load1S (b := nb) (T := 36) oneU16 ((hS.bring (by repeat (first | exact t0 | apply tS)))) rfl rfl rfl) ?_; go_frame)
        | (go_at_call 44; refine Ret.calls (counted_s (but := []) hS hv (RdIn.nil 1) hlen) ?_; clear hS; rintro vc w hS)
        | (go_at_call 43; refine Ret.calls (pick_rs vc (cntP peers []) _ ((hS.bring (by repeat (first | exact t0 | apply tS))).getOwn.rd) hd1) ?_; rintro r1 w' ⟨rfl, rfl⟩; rw [HC1.out])
        )
      refine segQ_mk (((hS.bring (by repeat (first | exact t0 | apply tS))).getBlk) : Blk _ nb 36 [.int .u16 d0, .int .u16 d1, .int .u16 d2]) ?_
      refine ord_seg (by repeat (first | exact Clean.body | refine Clean.then ?_ | refine Clean.inBlock ?_ | refine SegQ.clean ?_ | refine FinC.clean ?_)) (n := 1) (rest := [[5]]) [4] [⟨_, _, _, _, _, _⟩] rfl (by kernel_rfl) (by simp) _ _ ?_
      go_wp2_with (first
        | (show wpList _ _ _ (⟨some 44, .indexAddr _ _ _, _, _, _, _⟩ :: _) _ _; refine wpList_val rfl (op_indexArrZ arr3u rfl (b := nb) (off := 0) rfl rfl 1 rfl (by omega)) ?_; go_frame)
        | (show wpList _ _ _ (⟨some 45, .load _ _, _, _, _, _⟩ :: _) _ _; refine wpList_val rfl (op_load1S (b := nb) (T := 36) oneU16 ((hS.bring (by repeat (first | exact t0 | apply tS)))) rfl rfl rfl) ?_; go_frame)
        | (go_at_call 44; refine Ret.calls (counted_s (but := []) hS hv (RdIn.nil 1) hlen) ?_; clear hS; rintro vc w hS)
        | (go_at_call 43; refine Ret.calls (pick_rs vc (cntP peers []) _ ((hS.bring (by repeat (first | exact t0 | apply tS))).getOwn.rd) hd1) ?_; rintro r1 w' ⟨rfl, rfl⟩; rw [HC1.out])
        )
      refine segQ_mk (((hS.bring (by repeat (first | exact t0 | apply tS))).getBlk) : Blk _ nb 36 [.int .u16 d0, .int .u16 d1, .int .u16 d2]) ?_
      refine ord_seg (by repeat (first | exact Clean.body | refine Clean.then ?_ | refine Clean.inBlock ?_ | refine SegQ.clean ?_ | refine FinC.clean ?_)) (n := 0) (rest := [[]]) [5] [⟨_, _, _, _, _, _⟩] rfl (by kernel_rfl) (by simp) _ _ ?_
      go_wp2_with (first
        | (show wpList _ _ _ (⟨some 44, .indexAddr _ _ _, _, _, _, _⟩ :: _) _ _; refine wpList_val rfl (op_indexArrZ arr3u rfl (b := nb) (off := 0) rfl rfl 1 rfl (by omega)) ?_; go_frame)
        | (show wpList _ _ _ (⟨some 45, .load _ _, _, _, _, _⟩ :: _) _ _; refine wpList_val rfl (op_load1S (b := nb) (T := 36) oneU16 ((hS.bring (by repeat (first | exact t0 | apply tS)))) rfl rfl rfl) ?_; go_frame)
        | (go_at_call 44; refine Ret.calls (counted_s (but := []) hS hv (RdIn.nil 1) hlen) ?_; clear hS; rintro vc w hS)
        | (go_at_call 43; refine Ret.calls (pick_rs vc (cntP peers []) _ ((hS.bring (by repeat (first | exact t0 | apply tS))).getOwn.rd) hd1) ?_; rintro r1 w' ⟨rfl, rfl⟩; rw [HC1.out])
        )
      refine segQ_mk (((hS.bring (by repeat (first | exact t0 | apply tS))).getBlk) : Blk _ nb 36 [.int .u16 d0, .int .u16 d1, .int .u16 d2]) ?_
      refine finC_mk (by kernel_rfl) (by
        intro t ht
        simp only [List.mem_cons, List.not_mem_nil, or_false] at ht
        rcases ht with rfl
        exact stab_blk (b := nb) (fun w h => h) _ none) ?_
      go_wp2_with fail
      refine wp_region_ord (by kernel_rfl) [51] [[0, 1, 4, 5, 2, 3, 6, 7]] (by kernel_rfl) (by kernel_rfl) (fun w' => Blk w' nb 36 [.int .u16 d0, .int .u16 d1, .int .u16 d2]) Up.blk ((hS.bring (by repeat (first | exact t0 | apply tS))).getBlk) (by repeat (first | exact Clean.body | refine Clean.then ?_ | refine Clean.inBlock ?_ | refine SegQ.clean ?_ | refine FinC.clean ?_)) ?_
      replace hS := hS.drew
      refine ord_seg (by repeat (first | exact Clean.body | refine Clean.then ?_ | refine Clean.inBlock ?_ | refine SegQ.clean ?_ | refine FinC.clean ?_)) (n := 2) (rest := [[6, 7]]) [0, 1, 4, 5, 2, 3] [⟨_, _, _, _, _, _⟩, ⟨_, _, _, _, _, _⟩, ⟨_, _, _, _, _, _⟩, ⟨_, _, _, _, _, _⟩, ⟨_, _, _, _, _, _⟩, ⟨_, _, _, _, _, _⟩] rfl (by kernel_rfl) (by simp) _ _ ?_
      go_wp2_with (first
        | (show wpList _ _ _ (⟨some 49, .buildSlice _ _ _, _, _, _, _⟩ :: _) _ _; refine wpS_build11 slInt hS rfl rfl (u := I64 a) rfl rfl ?_; clear hS; intro v49 w hS; replace hS := own_one hS; go_frame)
        | (show wpList _ _ _ (⟨some 51, .indexAddr _ _ _, _, _, _, _⟩ :: _) _ _; refine wpList_val rfl (op_indexArrZ arr3u rfl (b := nb) (off := 0) rfl rfl 2 rfl (by omega)) ?_; go_frame)
        | (show wpList _ _ _ (⟨some 52, .load _ _, _, _, _, _⟩ :: _) _ _; refine wpList_val rfl (op_load1S (b := nb) (T := 36) oneU16 ((hS.bring (by repeat (first | exact t0 | apply tS)))) rfl rfl rfl) ?_; go_frame)
        | (go_at_call 44; (refine Ret.calls (counted_o (vb := v49) (but := [a]) (hS.bring (by repeat (first | exact t0 | apply tS))) hv hlen) ?_); clear hS; rintro ve w hS)
        | (go_at_call 43; refine Ret.calls (pick_rs ve (cntP peers [a]) _ ((hS.bring (by repeat (first | exact t0 | apply tS))).getOwn.rd) hd2) ?_; rintro r1 w' ⟨rfl, rfl⟩; rw [HC2.out])
        )
      refine segQ_mk (((hS.bring (by repeat (first | exact t0 | apply tS))).getBlk) : Blk _ nb 36 [.int .u16 d0, .int .u16 d1, .int .u16 d2]) ?_
      refine ord_seg (by repeat (first | exact Clean.body | refine Clean.then ?_ | refine Clean.inBlock ?_ | refine SegQ.clean ?_ | refine FinC.clean ?_)) (n := 1) (rest := [[7]]) [6] [⟨_, _, _, _, _, _⟩] rfl (by kernel_rfl) (by simp) _ _ ?_
      go_wp2_with (first
        | (show wpList _ _ _ (⟨some 49, .buildSlice _ _ _, _, _, _, _⟩ :: _) _ _; refine wpS_build11 slInt hS rfl rfl (u := I64 a) rfl rfl ?_; clear hS; intro v49 w hS; replace hS := own_one hS; go_frame)
        | (show wpList _ _ _ (⟨some 51, .indexAddr _ _ _, _, _, _, _⟩ :: _) _ _; refine wpList_val rfl (op_indexArrZ arr3u rfl (b := nb) (off := 0) rfl rfl 2 rfl (by omega)) ?_; go_frame)
        | (show wpList _ _ _ (⟨some 52, .load _ _, _, _, _, _⟩ :: _) _ _; refine wpList_val rfl (op_load1S (b := nb) (T := 36) oneU16 ((hS.bring (by repeat (first | exact t0 | apply tS)))) rfl rfl rfl) ?_; go_frame)
        | (go_at_call 44; (refine Ret.calls (counted_o (vb := v49) (but := [a]) (hS.bring (by repeat (first | exact t0 | apply tS))) hv hlen) ?_); clear hS; rintro ve w hS)
        | (go_at_call 43; refine Ret.calls (pick_rs ve (cntP peers [a]) _ ((hS.bring (by repeat (first | exact t0 | apply tS))).getOwn.rd) hd2) ?_; rintro r1 w' ⟨rfl, rfl⟩; rw [HC2.out])
        )
      refine segQ_mk (((hS.bring (by repeat (first | exact t0 | apply tS))).getBlk) : Blk _ nb 36 [.int .u16 d0, .int .u16 d1, .int .u16 d2]) ?_
      refine ord_seg (by repeat (first | exact Clean.body | refine Clean.then ?_ | refine Clean.inBlock ?_ | refine SegQ.clean ?_ | refine FinC.clean ?_)) (n := 0) (rest := [[]]) [7] [⟨_, _, _, _, _, _⟩] rfl (by kernel_rfl) (by simp) _ _ ?_
      go_wp2_with (first
        | (show wpList _ _ _ (⟨some 49, .buildSlice _ _ _, _, _, _, _⟩ :: _) _ _; refine wpS_build11 slInt hS rfl rfl (u := I64 a) rfl rfl ?_; clear hS; intro v49 w hS; replace hS := own_one hS; go_frame)
        | (show wpList _ _ _ (⟨some 51, .indexAddr _ _ _, _, _, _, _⟩ :: _) _ _; refine wpList_val rfl (op_indexArrZ arr3u rfl (b := nb) (off := 0) rfl rfl 2 rfl (by omega)) ?_; go_frame)
        | (show wpList _ _ _ (⟨some 52, .load _ _, _, _, _, _⟩ :: _) _ _; refine wpList_val rfl (op_load1S (b := nb) (T := 36) oneU16 ((hS.bring (by repeat (first | exact t0 | apply tS)))) rfl rfl rfl) ?_; go_frame)
        | (go_at_call 44; (refine Ret.calls (counted_o (vb := v49) (but := [a]) (hS.bring (by repeat (first | exact t0 | apply tS))) hv hlen) ?_); clear hS; rintro ve w hS)
        | (go_at_call 43; refine Ret.calls (pick_rs ve (cntP peers [a]) _ ((hS.bring (by repeat (first | exact t0 | apply tS))).getOwn.rd) hd2) ?_; rintro r1 w' ⟨rfl, rfl⟩; rw [HC2.out])
        )
      refine segQ_mk (((hS.bring (by repeat (first | exact t0 | apply tS))).getBlk) : Blk _ nb 36 [.int .u16 d0, .int .u16 d1, .int .u16 d2]) ?_
      refine finC_mk (by kernel_rfl) (by
        intro t ht
        simp only [List.mem_cons, List.not_mem_nil, or_false] at ht
        rcases ht with rfl
        exact stab_blk (b := nb) (fun w h => h) _ none) ?_
      go_wp2_with (first
        | (show wpList _ _ _ (⟨some 57, .build _ _, _, _, _, _⟩ :: _) _ _; refine wpList_val rfl (op_build (ps := #[(0, .int .i64 a), (1, .int .i64 b)]) rfl rfl (buildSucc a b) _) ?_; go_frame)
        | (show wpList _ _ _ (⟨_, .store 29 _ _, _, _, _, _⟩ :: _) _ _; (refine wpS_storeN (b := p) (off := 35) (T := 52) agg2 (hS.bring (by repeat (first | exact t0 | apply tS))) rfl rfl rfl (vs := [I64 a, I64 b]) rfl rfl HO2.out HLN3.out ?_); clear hS; intro w hS; rw [HS4.out] at hS; go_frame)
        | (show wpList _ _ _ (⟨some 61, .build _ _, _, _, _, _⟩ :: _) _ _; refine wpList_val rfl (op_build (ps := #[]) rfl rfl buildInts _) ?_; go_frame)
        | (show wpList _ _ _ (⟨_, .store 49 _ _, _, _, _, _⟩ :: _) _ _; (refine wpS_storeN (b := p) (off := 37) (T := 52) agg65i (hS.bring (by repeat (first | exact t0 | apply tS))) rfl rfl rfl (vs := List.replicate 65 (I64 0)) rfl rfl HO3.out HLN4.out ?_); clear hS; intro w hS; rw [HS5.out] at hS; go_frame)
        | (show wpList _ _ _ (⟨some 65, .build _ _, _, _, _, _⟩ :: _) _ _; refine wpList_val rfl (op_build (ps := #[]) rfl rfl buildBools _) ?_; go_frame)
        | (show wpList _ _ _ (⟨_, .store 50 _ _, _, _, _, _⟩ :: _) _ _; (refine wpS_storeN (b := p) (off := 102) (T := 52) agg65b (hS.bring (by repeat (first | exact t0 | apply tS))) rfl rfl rfl (vs := List.replicate 65 (.bool false)) rfl rfl HO4.out HLN5.out ?_); clear hS; intro w hS; rw [HS6.out] at hS; go_frame)
        )
      go_ret
      exact ⟨by rw [H1.out]; rfl, by rw [HE.out]; exact hS.sel (by repeat (first | exact Sel.refl | refine Sel.take (by repeat (first | exact t0 | apply tS)) ?_ | apply Sel.drop))⟩
end
end Go.Proofs.YtlplgobkidpgkaaDoor
