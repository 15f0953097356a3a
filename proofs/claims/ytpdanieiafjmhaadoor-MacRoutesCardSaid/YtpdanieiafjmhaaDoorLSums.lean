/- Of any pieces the sum, the sum of it, the check are the document's: the law returns true. Conditions: those that stand ahead of each theorem. -/
import Derived.Test.YtpdanieiafjmhaaDoorRSum
namespace Go.Proofs.YtpdanieiafjmhaaDoor
open Go.RowKit Go.Px Go.Sha
def heavyGo (lim : Nat) : List (List Byte) → Nat → Bool
  | [], _ => false
  | p :: r, s => if lim < s + min p.length (lim + 1) then true else heavyGo lim r (s + min p.length (lim + 1))
def heavyB (top lim : Nat) (ps : List (List Byte)) : Bool := if top < ps.length then true else heavyGo lim ps 0
theorem heavyGo_false (lim : Nat) : ∀ (ps : List (List Byte)) (s : Nat), s ≤ lim → heavyGo lim ps s = false → s + ps.flatten.length ≤ lim
  | [], s, h, _ => by simpa using h
  | p :: r, s, _, h => by
    unfold heavyGo at h
    split at h
    · cases h
    · rename_i hc
      have := heavyGo_false lim r _ (by omega) h
      rw [List.flatten_cons, List.length_append]
      omega
theorem heavyB_false {top lim : Nat} {ps : List (List Byte)} (h : heavyB top lim ps = false) : ps.flatten.length ≤ lim := by
  unfold heavyB at h
  split at h
  · cases h
  · have := heavyGo_false lim ps 0 (by omega) h
    omega
theorem heavyGo_nil (lim s : Nat) : heavyGo lim [] s = false := rfl
theorem heavyGo_cons {lim : Nat} {ps : List (List Byte)} {k s q : Nat} (hk : k < ps.length) (hq : min ps[k].length (lim + 1) = q) : heavyGo lim (ps.drop k) s = if lim < s + q then true else heavyGo lim (ps.drop (k + 1)) (s + q) := by
  rw [List.drop_eq_getElem_cons hk]
  subst hq
  rfl
attribute [irreducible] heavyGo
section
variable {R : Nat → Prop} {base w : World} {F : List Hp}
set_option maxRecDepth 100000 in
set_option maxHeartbeats 4000000 in
theorem heavy_s (hS : SepL R base w F) {v : Value} {us : List Value} {ps : List (List Byte)} (hv : Pieces R base v us ps) {b : Bool} (hb : heavyB 200 4000 ps = b) :
    Calls Tryd.prog 26 #[v] w (Ret fun r w' => r = .bool b ∧ SepL R base w' F) := by
  obtain ⟨n, hnn⟩ : ∃ n, us.length = n := ⟨_, rfl⟩
  have hpn : ps.length = n := by rw [← hv.len, hnn]
  unfold heavyB at hb
  rw [hpn] at hb
  by_cases hbig : 200 < n
  · rw [if_pos hbig] at hb
    subst hb
    have HD : Hid (decide ((200 : Int) < (n : Int)) = true) := by
      unfold Hid
      rw [decide_eq_true_iff]
      omega
    clear hbig
    go_enter Tryd.func26, Tryd.ntmps26
    go_wp2_with (first
      | (show wpList _ _ _ (⟨some 7, .call _, _, _, _, _⟩ :: _) _ _; refine wpList_val rfl (op_lenU slPieces rfl rfl rfl (hS.rd hv.rd) hnn) ?_; go_frame)
      | (show wpList _ _ _ (⟨some 8, .binOp .gtr _ _ _ _, _, _, _, _⟩ :: _) _ _; refine wpList_val rfl (op_igtr rfl rfl rfl HD.out) ?_; go_frame)
      )
    go_ret
    exact ⟨rfl, hS⟩
  · rw [if_neg hbig] at hb
    have HD : Hid (decide ((200 : Int) < (n : Int)) = false) := by
      unfold Hid
      rw [decide_eq_false_iff_not]
      omega
    have hn2 : n ≤ 200 := by omega
    have hb' : heavyGo 4000 (ps.drop 0) 0 = b := hb
    clear hbig hb
    go_enter Tryd.func26, Tryd.ntmps26
    go_wp2_with (first
      | (show wpList _ _ _ (⟨some 7, .call _, _, _, _, _⟩ :: _) _ _; refine wpList_val rfl (op_lenU slPieces rfl rfl rfl (hS.rd hv.rd) hnn) ?_; go_frame)
      | (show wpList _ _ _ (⟨some 8, .binOp .gtr _ _ _ _, _, _, _, _⟩ :: _) _ _; refine wpList_val rfl (op_igtr rfl rfl rfl HD.out) ?_; go_frame)
      | (show wpList _ _ _ (⟨some 10, .call _, _, _, _, _⟩ :: _) _ _; refine wpList_val rfl (op_lenU slPieces rfl rfl rfl (hS.rd hv.rd) hnn) ?_; go_frame)
      )
    go_loopw [11, 3] (fun i s wr => ∃ k s0 : Nat, i = .int .i64 k ∧ s = .int .i64 s0 ∧ k ≤ n ∧ s0 ≤ 4000 ∧ heavyGo 4000 (ps.drop k) s0 = b ∧ SepL R base wr F) (fun i _ _ => n - (intOf i).toNat)
    case atStart => exact ⟨0, 0, rfl, rfl, by omega, by omega, hb', hS⟩
    case round =>
      clear hS hb'
      obtain ⟨k, s0, rfl, rfl, hk, hs0, hbk, hS⟩ := hrel
      by_cases hlt : k < n
      · have hku : k < us.length := by omega
        have hkp : k < ps.length := by omega
        obtain ⟨q, hq⟩ : ∃ q, min ps[k].length (4000 + 1) = q := ⟨_, rfl⟩
        rw [heavyGo_cons hkp hq] at hbk
        have hp := hv.at_ k hku hkp
        obtain ⟨L, hL⟩ : ∃ L, ps[k].length = L := ⟨_, rfl⟩
        have HL := hide hL
        have HQ : Hid (min L 4001 = q) := by
          unfold Hid
          rw [← hq, hL]
        have hq1 : q ≤ 4001 := by omega
        obtain ⟨s1, hs1⟩ : ∃ s, s0 + q = s := ⟨_, rfl⟩
        rw [hs1] at hbk
        clear hq hL
        by_cases hg : 4000 < s1
        · rw [if_pos hg] at hbk
          subst hbk
          have HG : Hid (decide ((4000 : Int) < (s1 : Int)) = true) := by
            unfold Hid
            rw [decide_eq_true_iff]
            omega
          clear hg
          go_wp2_with (first
            | (show wpList _ _ _ (⟨_, .indexAddr _ _ _, _, _, _, _⟩ :: _) _ _; refine wpList_val rfl (op_indexAddr slPieces rfl (v := v) rfl rfl (hS.rd hv.rd) (by rw [List.length_map]; exact hku)) ?_; go_frame)
            | (show wpList _ _ _ (⟨_, .load _ _, _, _, _, _⟩ :: _) _ _; refine wpList_val rfl (op_loadE1 oneBytes rfl (v := v) (k := k) rfl (f := fun u => u) (hS.rd hv.rd) hku) ?_; go_frame)
            | (show wpList _ _ _ (⟨some 17, .call _, _, _, _, _⟩ :: _) _ _; refine wpList_val rfl (op_lenB slBytes rfl rfl rfl (hS.rd hp) HL.out) ?_; go_frame)
            | (show wpList _ _ _ (⟨some 18, .call _, _, _, _, _⟩ :: _) _ _; refine wpList_val rfl (op_minN (b := 4001) rfl rfl rfl) ?_; rw [HQ.out]; go_frame)
            | (show wpList _ _ _ (⟨some 19, .binOp _ _ _ _ _, _, _, _, _⟩ :: _) _ _; refine wpList_val rfl (op_iaddN rfl rfl rfl s1 (by omega) (by omega)) ?_; go_frame)
            | (show wpList _ _ _ (⟨some 21, .binOp _ _ _ _ _, _, _, _, _⟩ :: _) _ _; refine wpList_val rfl (op_igtr rfl rfl rfl HG.out) ?_; go_frame)
            )
          go_ret
          exact ⟨rfl, hS⟩
        · rw [if_neg hg] at hbk
          have HG : Hid (decide ((4000 : Int) < (s1 : Int)) = false) := by
            unfold Hid
            rw [decide_eq_false_iff_not]
            omega
          have hs1b : s1 ≤ 4000 := by omega
          clear hg
          go_wp2_with (first
            | (show wpList _ _ _ (⟨_, .indexAddr _ _ _, _, _, _, _⟩ :: _) _ _; refine wpList_val rfl (op_indexAddr slPieces rfl (v := v) rfl rfl (hS.rd hv.rd) (by rw [List.length_map]; exact hku)) ?_; go_frame)
            | (show wpList _ _ _ (⟨_, .load _ _, _, _, _, _⟩ :: _) _ _; refine wpList_val rfl (op_loadE1 oneBytes rfl (v := v) (k := k) rfl (f := fun u => u) (hS.rd hv.rd) hku) ?_; go_frame)
            | (show wpList _ _ _ (⟨some 17, .call _, _, _, _, _⟩ :: _) _ _; refine wpList_val rfl (op_lenB slBytes rfl rfl rfl (hS.rd hp) HL.out) ?_; go_frame)
            | (show wpList _ _ _ (⟨some 18, .call _, _, _, _, _⟩ :: _) _ _; refine wpList_val rfl (op_minN (b := 4001) rfl rfl rfl) ?_; rw [HQ.out]; go_frame)
            | (show wpList _ _ _ (⟨some 19, .binOp _ _ _ _ _, _, _, _, _⟩ :: _) _ _; refine wpList_val rfl (op_iaddN rfl rfl rfl s1 (by omega) (by omega)) ?_; go_frame)
            | (show wpList _ _ _ (⟨some 21, .binOp _ _ _ _ _, _, _, _, _⟩ :: _) _ _; refine wpList_val rfl (op_igtr rfl rfl rfl HG.out) ?_; go_frame)
            )
          go_roundw
          case rel => exact ⟨k + 1, s1, by go_num, rfl, by omega, hs1b, hbk, hS⟩
          case measure => simp [intOf]; omega
      · have hk2 : k = n := by omega
        subst hk2
        rw [List.drop_eq_nil_of_le (by omega), heavyGo_nil] at hbk
        subst hbk
        go_wp2_with fail
        go_ret
        exact ⟨rfl, hS⟩
end
set_option maxRecDepth 100000 in
set_option maxHeartbeats 4000000 in
theorem shaSums_w {W : World} (hK : CIn All W 0 (kTab.map W32)) (hF : CIn All W 1 (first.map W32)) {v : Value} {us : List Value} {ps : List (List Byte)} (hv : Pieces All W v us ps) :
    Calls Tryd.prog 8 #[v] W (Ret fun r w' => r = .bool true ∧ Chg No W w') := by
  have hS := SepL.start W
  rcases hb : heavyB 200 4000 ps with _ | _
  · have hfl := heavyB_false hb
    have HSM : ∀ {w : World} {F : List Hp}, SepL All W w F → Calls Tryd.prog 23 #[v] w (Ret fun r w' => r = HV (sum ps.flatten) ∧ SepL All W w' F) := fun h => sum_s h hK hF hv (by omega)
    have HTW : ∀ {w : World} {F : List Hp}, SepL All W w F → Calls Tryd.prog 29 #[v] w (Ret fun r w' => r = HV (twice ps.flatten) ∧ SepL All W w' F) := fun h => twice_s h hK hF hv (by omega)
    have HJN : ∀ {w : World} {F : List Hp}, SepL All W w F → Calls Tryd.prog 27 #[v] w (Ret fun r w' => SepL All W w' (.own 5 1 r (bytes ps.flatten) :: F)) := fun h => join_s h hv (by omega)
    have HB := hide hb
    generalize ps.flatten = fl at *
    have HF1 : Hid (fl.length ≤ 1099511627776) := by
      unfold Hid
      omega
    have HF2 : Hid (fl.length < 4611686018427386000) := by
      unfold Hid
      omega
    have HL1 := hide (sum_len fl)
    have HL2 := hide (twice_len fl)
    clear hb hfl
    go_enter Tryd.func8, Tryd.ntmps8
    go_wp2_with (first
      | (go_at_call 17; refine Ret.calls (alive_s hS hK hF) ?_; clear hS; rintro r w ⟨rfl, hS⟩)
      | (go_at_call 26; refine Ret.calls (heavy_s hS hv HB.out) ?_; clear hS; rintro r w ⟨rfl, hS⟩)
      | (go_at_call 27; refine Ret.calls (HJN hS) ?_; clear hS; rintro v3 w hS)
      | (go_at_call 23; refine Ret.calls (HSM hS) ?_; clear hS; rintro r w ⟨rfl, hS⟩)
      | (go_at_call 29; refine Ret.calls (HTW hS) ?_; clear hS; rintro r w ⟨rfl, hS⟩)
      | (go_at_call 28; refine Ret.calls (rsum_own hS HF1.out) ?_; clear hS; rintro r w ⟨rfl, hS⟩)
      | (go_at_call 30; refine Ret.calls (rtwice_own hS HF1.out) ?_; clear hS; rintro r w ⟨rfl, hS⟩)
      | (go_at_call 32; refine Ret.calls (rcheck_own hS HF1.out) ?_; clear hS; rintro r w ⟨rfl, hS⟩)
      | (go_at_call 31; refine Ret.calls (check_own hS hK hF HF2.out) ?_; clear hS; rintro r w ⟨rfl, hS⟩)
      | (show wpList _ _ _ (⟨some 14, .binOp _ _ _ _ _, _, _, _, _⟩ :: _) _ _; refine wpList_val rfl (op_eqHash rfl rfl rfl HL1.out rfl) ?_; go_frame)
      | (show wpList _ _ _ (⟨some 20, .binOp _ _ _ _ _, _, _, _, _⟩ :: _) _ _; refine wpList_val rfl (op_eqHash rfl rfl rfl HL2.out rfl) ?_; go_frame)
      | (show wpList _ _ _ (⟨some 27, .binOp _ _ _ _ _, _, _, _, _⟩ :: _) _ _; refine wpList_val rfl (op_eq32 rfl rfl rfl rfl) ?_; go_frame)
      )
    go_ret
    exact ⟨rfl, hS.chg⟩
  · have HB := hide hb
    clear hb
    go_enter Tryd.func8, Tryd.ntmps8
    go_wp2_with (first
      | (go_at_call 17; refine Ret.calls (alive_s hS hK hF) ?_; clear hS; rintro r w ⟨rfl, hS⟩)
      | (go_at_call 26; refine Ret.calls (heavy_s hS hv HB.out) ?_; clear hS; rintro r w ⟨rfl, hS⟩)
      )
    go_ret
    exact ⟨rfl, hS.chg⟩
end Go.Proofs.YtpdanieiafjmhaaDoor
