/- The document's sum under a key. Conditions: those that stand ahead of each theorem. -/
import Derived.Test.YtpdanieiafjmhaaDoorMAlive
import Derived.Test.YtpdanieiafjmhaaDoorLSums
namespace Go.Proofs.YtpdanieiafjmhaaDoor
open Go.RowKit Go.Px Go.Sha
theorem xor_next {x c : Byte} {P : List Byte} {i : Nat} (hi : i < P.length) (hc : P[i]? = some c) : xorB x (P.take i) ++ [c ^^^ x] = xorB x (P.take (i + 1)) := by
  unfold xorB
  have : P[i] = c := Option.some.inj ((List.getElem?_eq_getElem hi).symm.trans hc)
  rw [List.take_succ_eq_append_getElem hi, List.map_append, this]
  rfl
theorem blk_rdB {w : World} {b T m : Nat} {bs : List Byte} (h : Blk w b T (bs.map B8)) (hm : bs.length = m) (hl : m ≤ 1000) : Rd 1 w (.slice (some ⟨b, 0, none⟩) m m) (bytes bs) := blk_rd h hm hl
theorem xorB_nil (x : Byte) (P : List Byte) : xorB x (P.take 0) = [] := by
  unfold xorB
  rfl
section
variable {R : Nat → Prop} {base w : World} {F : List Hp}
set_option maxRecDepth 100000 in
set_option maxHeartbeats 4000000 in
theorem mheavy_s (hS : SepL R base w F) {v : Value} {us : List Value} {ps : List (List Byte)} (hv : Pieces R base v us ps) {b : Bool} (hb : heavyB 100 2000 ps = b) :
    Calls Tryd.prog 34 #[v] w (Ret fun r w' => r = .bool b ∧ SepL R base w' F) := by
  obtain ⟨n, hnn⟩ : ∃ n, us.length = n := ⟨_, rfl⟩
  have hpn : ps.length = n := by rw [← hv.len, hnn]
  unfold heavyB at hb
  rw [hpn] at hb
  by_cases hbig : 100 < n
  · rw [if_pos hbig] at hb
    subst hb
    have HD : Hid (decide ((100 : Int) < (n : Int)) = true) := by
      unfold Hid
      rw [decide_eq_true_iff]
      omega
    clear hbig
    go_enter Tryd.func34, Tryd.ntmps34
    go_wp2_with (first
      | (show wpList _ _ _ (⟨some 7, .call _, _, _, _, _⟩ :: _) _ _; refine wpList_val rfl (op_lenU slPieces rfl rfl rfl (hS.rd hv.rd) hnn) ?_; go_frame)
      | (show wpList _ _ _ (⟨some 8, .binOp .gtr _ _ _ _, _, _, _, _⟩ :: _) _ _; refine wpList_val rfl (op_igtr rfl rfl rfl HD.out) ?_; go_frame)
      )
    go_ret
    exact ⟨rfl, hS⟩
  · rw [if_neg hbig] at hb
    have HD : Hid (decide ((100 : Int) < (n : Int)) = false) := by
      unfold Hid
      rw [decide_eq_false_iff_not]
      omega
    have hn2 : n ≤ 100 := by omega
    have hb' : heavyGo 2000 (ps.drop 0) 0 = b := hb
    clear hbig hb
    go_enter Tryd.func34, Tryd.ntmps34
    go_wp2_with (first
      | (show wpList _ _ _ (⟨some 7, .call _, _, _, _, _⟩ :: _) _ _; refine wpList_val rfl (op_lenU slPieces rfl rfl rfl (hS.rd hv.rd) hnn) ?_; go_frame)
      | (show wpList _ _ _ (⟨some 8, .binOp .gtr _ _ _ _, _, _, _, _⟩ :: _) _ _; refine wpList_val rfl (op_igtr rfl rfl rfl HD.out) ?_; go_frame)
      | (show wpList _ _ _ (⟨some 10, .call _, _, _, _, _⟩ :: _) _ _; refine wpList_val rfl (op_lenU slPieces rfl rfl rfl (hS.rd hv.rd) hnn) ?_; go_frame)
      )
    go_loopw [11, 3] (fun i s wr => ∃ k s0 : Nat, i = .int .i64 k ∧ s = .int .i64 s0 ∧ k ≤ n ∧ s0 ≤ 2000 ∧ heavyGo 2000 (ps.drop k) s0 = b ∧ SepL R base wr F) (fun i _ _ => n - (intOf i).toNat)
    case atStart => exact ⟨0, 0, rfl, rfl, by omega, by omega, hb', hS⟩
    case round =>
      clear hS hb'
      obtain ⟨k, s0, rfl, rfl, hk, hs0, hbk, hS⟩ := hrel
      by_cases hlt : k < n
      · have hku : k < us.length := by omega
        have hkp : k < ps.length := by omega
        obtain ⟨q, hq⟩ : ∃ q, min ps[k].length (2000 + 1) = q := ⟨_, rfl⟩
        rw [heavyGo_cons hkp hq] at hbk
        have hp := hv.at_ k hku hkp
        obtain ⟨L, hL⟩ : ∃ L, ps[k].length = L := ⟨_, rfl⟩
        have HL := hide hL
        have HQ : Hid (min L 2001 = q) := by
          unfold Hid
          rw [← hq, hL]
        have hq1 : q ≤ 2001 := by omega
        obtain ⟨s1, hs1⟩ : ∃ s, s0 + q = s := ⟨_, rfl⟩
        rw [hs1] at hbk
        clear hq hL
        by_cases hg : 2000 < s1
        · rw [if_pos hg] at hbk
          subst hbk
          have HG : Hid (decide ((2000 : Int) < (s1 : Int)) = true) := by
            unfold Hid
            rw [decide_eq_true_iff]
            omega
          clear hg
          go_wp2_with (first
            | (show wpList _ _ _ (⟨_, .indexAddr _ _ _, _, _, _, _⟩ :: _) _ _; refine wpList_val rfl (op_indexAddr slPieces rfl (v := v) rfl rfl (hS.rd hv.rd) (by rw [List.length_map]; exact hku)) ?_; go_frame)
            | (show wpList _ _ _ (⟨_, .load _ _, _, _, _, _⟩ :: _) _ _; refine wpList_val rfl (op_loadE1 oneBytes rfl (v := v) (k := k) rfl (f := fun u => u) (hS.rd hv.rd) hku) ?_; go_frame)
            | (show wpList _ _ _ (⟨some 17, .call _, _, _, _, _⟩ :: _) _ _; refine wpList_val rfl (op_lenB slBytes rfl rfl rfl (hS.rd hp) HL.out) ?_; go_frame)
            | (show wpList _ _ _ (⟨some 18, .call _, _, _, _, _⟩ :: _) _ _; refine wpList_val rfl (op_minN (b := 2001) rfl rfl rfl) ?_; rw [HQ.out]; go_frame)
            | (show wpList _ _ _ (⟨some 19, .binOp _ _ _ _ _, _, _, _, _⟩ :: _) _ _; refine wpList_val rfl (op_iaddN rfl rfl rfl s1 (by omega) (by omega)) ?_; go_frame)
            | (show wpList _ _ _ (⟨some 21, .binOp _ _ _ _ _, _, _, _, _⟩ :: _) _ _; refine wpList_val rfl (op_igtr rfl rfl rfl HG.out) ?_; go_frame)
            )
          go_ret
          exact ⟨rfl, hS⟩
        · rw [if_neg hg] at hbk
          have HG : Hid (decide ((2000 : Int) < (s1 : Int)) = false) := by
            unfold Hid
            rw [decide_eq_false_iff_not]
            omega
          have hs1b : s1 ≤ 2000 := by omega
          clear hg
          go_wp2_with (first
            | (show wpList _ _ _ (⟨_, .indexAddr _ _ _, _, _, _, _⟩ :: _) _ _; refine wpList_val rfl (op_indexAddr slPieces rfl (v := v) rfl rfl (hS.rd hv.rd) (by rw [List.length_map]; exact hku)) ?_; go_frame)
            | (show wpList _ _ _ (⟨_, .load _ _, _, _, _, _⟩ :: _) _ _; refine wpList_val rfl (op_loadE1 oneBytes rfl (v := v) (k := k) rfl (f := fun u => u) (hS.rd hv.rd) hku) ?_; go_frame)
            | (show wpList _ _ _ (⟨some 17, .call _, _, _, _, _⟩ :: _) _ _; refine wpList_val rfl (op_lenB slBytes rfl rfl rfl (hS.rd hp) HL.out) ?_; go_frame)
            | (show wpList _ _ _ (⟨some 18, .call _, _, _, _, _⟩ :: _) _ _; refine wpList_val rfl (op_minN (b := 2001) rfl rfl rfl) ?_; rw [HQ.out]; go_frame)
            | (show wpList _ _ _ (⟨some 19, .binOp _ _ _ _ _, _, _, _, _⟩ :: _) _ _; refine wpList_val rfl (op_iaddN rfl rfl rfl s1 (by omega) (by omega)) ?_; go_frame)
            | (show wpList _ _ _ (⟨some 21, .binOp _ _ _ _ _, _, _, _, _⟩ :: _) _ _; refine wpList_val rfl (op_igtr rfl rfl rfl HG.out) ?_; go_frame)
            )
          go_roundw
          case rel => exact ⟨k + 1, s1, by go_num, rfl, by omega, hs1b, hbk, hS⟩
          case measure => simp [intOf]; omega
      · have hk2 : k = n := by omega
        subst hk2
        rw [List.drop_eq_nil_of_le (by omega), heavyGo_nil] at hbk
        subst hbk
        go_wp2_with fail
        go_ret
        exact ⟨rfl, hS⟩
set_option maxRecDepth 100000 in
set_option maxHeartbeats 4000000 in
theorem rmblock_s (hS : SepL R base w F) {v : Value} {key : List Byte} (hv : RdIn R base 1 v (bytes key)) (hn0 : key.length ≤ 1099511627776) (x : Byte) :
    Calls Tryd.prog 49 #[v, B8 x] w (Ret fun r w' => SepL R base w' (.own 5 1 r (bytes (xorB x (padK key))) :: F)) := by
  obtain ⟨n, hn⟩ : ∃ n, key.length = n := ⟨_, rfl⟩
  have HN := hide hn
  have HNB := hide hn0
  have hPl := padK_len key
  have HSL : Hid (((sum key).map B8).length = 32) := by
    unfold Hid
    rw [List.length_map, sum_len]
  by_cases hs : 64 < n
  · have HD : Hid (decide ((64 : Int) < (n : Int)) = true) := by
      unfold Hid
      rw [decide_eq_true_iff]
      omega
    have hpe := padK_long (key := key) (by omega)
    go_enter Tryd.func49, Tryd.ntmps49
    go_wp2_with (first
      | (show wpList _ _ _ (⟨some 11, .binOp _ _ _ _ _, _, _, _, _⟩ :: _) _ _; refine wpList_val rfl (op_igtr rfl rfl rfl HD.out) ?_; go_frame)
      | (show wpList _ _ _ (⟨some 10, .call _, _, _, _, _⟩ :: _) _ _; refine wpList_val rfl (op_lenB slBytes rfl rfl rfl (hS.rd hv) HN.out) ?_; go_frame)
      | (show wpList _ _ _ (⟨some 5, .alloc _, _, _, _, _⟩ :: _) _ _; refine wpS_alloc hS rfl rfl zero32b (zs := (List.replicate 32 (0 : Byte)).map B8) rfl ?_; clear hS; intro n5 w hS; go_frame)
      | (go_at_call 28; refine Ret.calls (rsum_s hS hv HNB.out) ?_; clear hS; rintro r w ⟨rfl, hS⟩)
      | (show wpList _ _ _ (⟨_, .store 34 _ _, _, _, _, _⟩ :: _) _ _; (refine wpS_storeAll agg32b (hS.bring (by repeat (first | exact t0 | apply tS))) rfl rfl rfl (vs := (sum key).map B8) rfl HSL.out (B8_one _) (by rw [List.length_map, List.length_replicate]) ?_); clear hS; intro w hS; go_frame)
      | (show wpList _ _ _ (⟨some 14, .slice _ _ _ _ _, _, _, _, _⟩ :: _) _ _; refine wpList_val rfl (op_sliceArr arr32b rfl rfl (l := 0) (h := 32) (Or.inl ⟨rfl, rfl⟩) (Or.inl ⟨rfl, rfl⟩) (by omega) (by omega)) ?_; rw [if_neg (by omega)]; go_frame)
      )
    obtain ⟨G, hG⟩ : ∃ G, G = .blk n5 34 ((sum key).map B8) :: F := ⟨_, rfl⟩
    obtain ⟨v0, hv0⟩ : ∃ v0, v0 = Value.slice (some ⟨n5, 0, none⟩) 32 32 := ⟨_, rfl⟩
    have hkl0 := sum_len key
    obtain ⟨kk, hkk⟩ : ∃ k, sum key = k := ⟨_, rfl⟩
    rw [hkk] at hG hkl0 hpe
    obtain ⟨kl, hkl⟩ : ∃ k, kk.length = k := ⟨_, rfl⟩
    have HKL := hide hkl
    have HPE : Hid (kk ++ List.replicate 32 0 = padK key) := hpe.symm
    have HRD : ∀ {w : World} {u : Value} {A : List (List Value)}, SepL R base w (.own 5 1 u A :: G) → Rd 1 w v0 (bytes kk) := fun h => by
      rw [hG] at h
      rw [hv0]
      exact blk_rd h.tail.getBlk hkl0 (by omega)
    have HS0 : SepL R base w (.own 5 1 (.slice none 0 0) (bytes (xorB x ((padK key).take 0))) :: G) := by
      rw [xorB_nil, hG, ← hkk]
      exact hS.nilOwn _ _
    have HEND : ∀ {w : World} {u : Value} {A : List (List Value)}, SepL R base w (.own 5 1 u A :: G) → SepL R base w (.own 5 1 u A :: F) := fun h => by
      rw [hG] at h
      exact h.sel (by repeat (first | exact Sel.refl | refine Sel.take (by repeat (first | exact t0 | apply tS)) ?_ | apply Sel.drop))
    rw [← hv0]
    clear hS hG hv0 hpe hkk HD HSL hs
    obtain ⟨P, hPP⟩ : ∃ P, padK key = P := ⟨_, rfl⟩
    have HPP := hide hPP
    rw [hPP] at hPl HPE HS0
    clear hPP
    go_loopw [15, 6] (fun i u wr => ∃ k : Nat, i = .int .i64 k ∧ k ≤ 64 ∧ SepL R base wr (.own 5 1 u (bytes (xorB x (P.take k))) :: G)) (fun i _ _ => 64 - (intOf i).toNat)
    case atStart => exact ⟨0, rfl, by omega, HS0⟩
    case round =>
      clear HS0
      obtain ⟨i, rfl, hi, hS⟩ := hrel
      by_cases hlt : i < 64
      · have HXL : Hid ((xorB x (P.take i)).length = i) := by
          unfold Hid
          rw [xorB_len, List.length_take]
          omega
        have hiP : i < P.length := by omega
        by_cases hik2 : i < kl
        · have hik : i < kk.length := by omega
          obtain ⟨c, hc⟩ : ∃ c, kk[i] = c := ⟨_, rfl⟩
          have HC : Hid (kk[i] = c) := hc
          have HST : Hid (xorB x (P.take i) ++ [c ^^^ x] = xorB x (P.take (i + 1))) := xor_next hiP (by rw [← HPE.out, List.getElem?_append_left hik, List.getElem?_eq_getElem hik, hc])
          clear hc
          go_wp2_with (first
            | (show wpList _ _ _ (⟨some 20, .call _, _, _, _, _⟩ :: _) _ _; refine wpList_val rfl (op_lenB slBytes rfl rfl rfl (HRD hS) HKL.out) ?_; go_frame)
            | (show wpList _ _ _ (⟨some 24, .indexAddr _ _ _, _, _, _, _⟩ :: _) _ _; refine wpList_val rfl (op_indexAddr slBytes rfl (v := v0) rfl rfl (HRD hS) (by rw [bytes_len]; exact hik)) ?_; go_frame)
            | (show wpList _ _ _ (⟨some 25, .load _ _, _, _, _, _⟩ :: _) _ _; refine wpList_val rfl (op_loadBE oneU8 rfl (v := v0) (k := i) rfl (HRD hS) hik) ?_; rw [HC.out]; go_frame)
            | (show wpList _ _ _ (⟨some 29, .binOp _ _ _ _ _, _, _, _, _⟩ :: _) _ _; refine wpList_val rfl (op_bin8 (op := .xor) (a := c) rfl rfl rfl rfl) ?_; go_frame)
            | (show wpList _ _ _ (⟨some 30, .buildSlice _ _ _, _, _, _, _⟩ :: _) _ _; refine wpS_build11 slBytes hS rfl rfl rfl rfl ?_; clear hS; intro v30 w hS; rw [b1] at hS; go_frame)
            | (show wpList _ _ _ (⟨some 31, .call _, _, _, _, _⟩ :: _) _ _; (refine wpS_append slBytes (hS.bring (by repeat (first | exact t0 | apply tS))) rfl rfl rfl rfl ((hS.bring (by repeat (first | exact t0 | apply tS))).getOwn.rd) (flat_bytes _) (by rw [bytes_len, bytes_len, HXL.out]; simp only [List.length_cons, List.length_nil]; omega) (by rw [bytes_len, bytes_len, HXL.out]; simp only [List.length_cons, List.length_nil, maxLen]; omega) ?_); clear hS; intro v31 w hS; rw [← bytes_app, HST.out] at hS; go_frame)
            )
          go_roundw
          case rel => exact ⟨i + 1, by go_num, by omega, hS.sel (by repeat (first | exact Sel.refl | refine Sel.take (by repeat (first | exact t0 | apply tS)) ?_ | apply Sel.drop))⟩
          case measure => simp [intOf]; omega
        · have hc : True := trivial
          obtain ⟨c, hc0⟩ : ∃ c : Byte, c = 0#8 := ⟨_, rfl⟩
          have HST : Hid (xorB x (P.take i) ++ [(0#8 : Byte) ^^^ x] = xorB x (P.take (i + 1))) := xor_next hiP (by rw [← HPE.out, List.getElem?_append_right (by omega), List.getElem?_replicate, if_pos (by omega)]; rfl)
          clear hc hc0 c
          go_wp2_with (first
            | (show wpList _ _ _ (⟨some 20, .call _, _, _, _, _⟩ :: _) _ _; refine wpList_val rfl (op_lenB slBytes rfl rfl rfl (HRD hS) HKL.out) ?_; go_frame)
            | (show wpList _ _ _ (⟨some 29, .binOp _ _ _ _ _, _, _, _, _⟩ :: _) _ _; refine wpList_val rfl (op_bin8 (op := .xor) (a := 0#8) rfl rfl rfl rfl) ?_; go_frame)
            | (show wpList _ _ _ (⟨some 30, .buildSlice _ _ _, _, _, _, _⟩ :: _) _ _; refine wpS_build11 slBytes hS rfl rfl rfl (u := B8 (0#8 ^^^ x)) rfl ?_; clear hS; intro v30 w hS; rw [b1] at hS; go_frame)
            | (show wpList _ _ _ (⟨some 31, .call _, _, _, _, _⟩ :: _) _ _; (refine wpS_append slBytes (hS.bring (by repeat (first | exact t0 | apply tS))) rfl rfl rfl rfl ((hS.bring (by repeat (first | exact t0 | apply tS))).getOwn.rd) (flat_bytes _) (by rw [bytes_len, bytes_len, HXL.out]; simp only [List.length_cons, List.length_nil]; omega) (by rw [bytes_len, bytes_len, HXL.out]; simp only [List.length_cons, List.length_nil, maxLen]; omega) ?_); clear hS; intro v31 w hS; rw [← bytes_app, HST.out] at hS; go_frame)
            )
          go_roundw
          case rel => exact ⟨i + 1, by go_num, by omega, hS.sel (by repeat (first | exact Sel.refl | refine Sel.take (by repeat (first | exact t0 | apply tS)) ?_ | apply Sel.drop))⟩
          case measure => simp [intOf]; omega
      · have hk2 : i = 64 := by omega
        subst hk2
        rw [List.take_of_length_le (by omega)] at hS
        go_wp2_with fail
        go_ret
        have hE := HEND hS
        rw [← HPP.out] at hE
        exact hE
  · have HD : Hid (decide ((64 : Int) < (n : Int)) = false) := by
      unfold Hid
      rw [decide_eq_false_iff_not]
      omega
    have hpe := padK_short (key := key) (by omega)
    go_enter Tryd.func49, Tryd.ntmps49
    go_wp2_with (first
      | (show wpList _ _ _ (⟨some 11, .binOp _ _ _ _ _, _, _, _, _⟩ :: _) _ _; refine wpList_val rfl (op_igtr rfl rfl rfl HD.out) ?_; go_frame)
      | (show wpList _ _ _ (⟨some 10, .call _, _, _, _, _⟩ :: _) _ _; refine wpList_val rfl (op_lenB slBytes rfl rfl rfl (hS.rd hv) HN.out) ?_; go_frame)
      | (show wpList _ _ _ (⟨some 5, .alloc _, _, _, _, _⟩ :: _) _ _; refine wpS_alloc hS rfl rfl zero32b (zs := (List.replicate 32 (0 : Byte)).map B8) rfl ?_; clear hS; intro n5 w hS; go_frame)
      | (go_at_call 28; refine Ret.calls (rsum_s hS hv HNB.out) ?_; clear hS; rintro r w ⟨rfl, hS⟩)
      | (show wpList _ _ _ (⟨_, .store 34 _ _, _, _, _, _⟩ :: _) _ _; (refine wpS_storeAll agg32b (hS.bring (by repeat (first | exact t0 | apply tS))) rfl rfl rfl (vs := (sum key).map B8) rfl HSL.out (B8_one _) (by rw [List.length_map, List.length_replicate]) ?_); clear hS; intro w hS; go_frame)
      | (show wpList _ _ _ (⟨some 14, .slice _ _ _ _ _, _, _, _, _⟩ :: _) _ _; refine wpList_val rfl (op_sliceArr arr32b rfl rfl (l := 0) (h := 32) (Or.inl ⟨rfl, rfl⟩) (Or.inl ⟨rfl, rfl⟩) (by omega) (by omega)) ?_; rw [if_neg (by omega)]; go_frame)
      )
    obtain ⟨G, hG⟩ : ∃ G, G = F := ⟨_, rfl⟩
    obtain ⟨v0, hv0⟩ : ∃ v0, v0 = v := ⟨_, rfl⟩
    obtain ⟨kk, hkk⟩ : ∃ k, key = k := ⟨_, rfl⟩
    obtain ⟨kl, hkl⟩ : ∃ k, kk.length = k := ⟨_, rfl⟩
    have HKL := hide hkl
    have HPE : Hid (kk ++ List.replicate (64 - kl) 0 = padK key) := by
      unfold Hid
      rw [hpe, ← hkl, ← hkk]
    have HRD : ∀ {w : World} {u : Value} {A : List (List Value)}, SepL R base w (.own 5 1 u A :: G) → Rd 1 w v0 (bytes kk) := fun h => by
      rw [hv0, ← hkk]
      exact h.rd hv
    have HS0 : SepL R base w (.own 5 1 (.slice none 0 0) (bytes (xorB x ((padK key).take 0))) :: G) := by
      rw [xorB_nil, hG]
      exact hS.nilOwn _ _
    have HEND : ∀ {w : World} {u : Value} {A : List (List Value)}, SepL R base w (.own 5 1 u A :: G) → SepL R base w (.own 5 1 u A :: F) := fun h => by
      rwa [hG] at h
    rw [← hv0]
    clear hS hG hv0 hpe hkk HD HSL hs
    obtain ⟨P, hPP⟩ : ∃ P, padK key = P := ⟨_, rfl⟩
    have HPP := hide hPP
    rw [hPP] at hPl HPE HS0
    clear hPP
    go_loopw [15, 6] (fun i u wr => ∃ k : Nat, i = .int .i64 k ∧ k ≤ 64 ∧ SepL R base wr (.own 5 1 u (bytes (xorB x (P.take k))) :: G)) (fun i _ _ => 64 - (intOf i).toNat)
    case atStart => exact ⟨0, rfl, by omega, HS0⟩
    case round =>
      clear HS0
      obtain ⟨i, rfl, hi, hS⟩ := hrel
      by_cases hlt : i < 64
      · have HXL : Hid ((xorB x (P.take i)).length = i) := by
          unfold Hid
          rw [xorB_len, List.length_take]
          omega
        have hiP : i < P.length := by omega
        by_cases hik2 : i < kl
        · have hik : i < kk.length := by omega
          obtain ⟨c, hc⟩ : ∃ c, kk[i] = c := ⟨_, rfl⟩
          have HC : Hid (kk[i] = c) := hc
          have HST : Hid (xorB x (P.take i) ++ [c ^^^ x] = xorB x (P.take (i + 1))) := xor_next hiP (by rw [← HPE.out, List.getElem?_append_left hik, List.getElem?_eq_getElem hik, hc])
          clear hc
          go_wp2_with (first
            | (show wpList _ _ _ (⟨some 20, .call _, _, _, _, _⟩ :: _) _ _; refine wpList_val rfl (op_lenB slBytes rfl rfl rfl (HRD hS) HKL.out) ?_; go_frame)
            | (show wpList _ _ _ (⟨some 24, .indexAddr _ _ _, _, _, _, _⟩ :: _) _ _; refine wpList_val rfl (op_indexAddr slBytes rfl (v := v0) rfl rfl (HRD hS) (by rw [bytes_len]; exact hik)) ?_; go_frame)
            | (show wpList _ _ _ (⟨some 25, .load _ _, _, _, _, _⟩ :: _) _ _; refine wpList_val rfl (op_loadBE oneU8 rfl (v := v0) (k := i) rfl (HRD hS) hik) ?_; rw [HC.out]; go_frame)
            | (show wpList _ _ _ (⟨some 29, .binOp _ _ _ _ _, _, _, _, _⟩ :: _) _ _; refine wpList_val rfl (op_bin8 (op := .xor) (a := c) rfl rfl rfl rfl) ?_; go_frame)
            | (show wpList _ _ _ (⟨some 30, .buildSlice _ _ _, _, _, _, _⟩ :: _) _ _; refine wpS_build11 slBytes hS rfl rfl rfl rfl ?_; clear hS; intro v30 w hS; rw [b1] at hS; go_frame)
            | (show wpList _ _ _ (⟨some 31, .call _, _, _, _, _⟩ :: _) _ _; (refine wpS_append slBytes (hS.bring (by repeat (first | exact t0 | apply tS))) rfl rfl rfl rfl ((hS.bring (by repeat (first | exact t0 | apply tS))).getOwn.rd) (flat_bytes _) (by rw [bytes_len, bytes_len, HXL.out]; simp only [List.length_cons, List.length_nil]; omega) (by rw [bytes_len, bytes_len, HXL.out]; simp only [List.length_cons, List.length_nil, maxLen]; omega) ?_); clear hS; intro v31 w hS; rw [← bytes_app, HST.out] at hS; go_frame)
            )
          go_roundw
          case rel => exact ⟨i + 1, by go_num, by omega, hS.sel (by repeat (first | exact Sel.refl | refine Sel.take (by repeat (first | exact t0 | apply tS)) ?_ | apply Sel.drop))⟩
          case measure => simp [intOf]; omega
        · have hc : True := trivial
          obtain ⟨c, hc0⟩ : ∃ c : Byte, c = 0#8 := ⟨_, rfl⟩
          have HST : Hid (xorB x (P.take i) ++ [(0#8 : Byte) ^^^ x] = xorB x (P.take (i + 1))) := xor_next hiP (by rw [← HPE.out, List.getElem?_append_right (by omega), List.getElem?_replicate, if_pos (by omega)]; rfl)
          clear hc hc0 c
          go_wp2_with (first
            | (show wpList _ _ _ (⟨some 20, .call _, _, _, _, _⟩ :: _) _ _; refine wpList_val rfl (op_lenB slBytes rfl rfl rfl (HRD hS) HKL.out) ?_; go_frame)
            | (show wpList _ _ _ (⟨some 29, .binOp _ _ _ _ _, _, _, _, _⟩ :: _) _ _; refine wpList_val rfl (op_bin8 (op := .xor) (a := 0#8) rfl rfl rfl rfl) ?_; go_frame)
            | (show wpList _ _ _ (⟨some 30, .buildSlice _ _ _, _, _, _, _⟩ :: _) _ _; refine wpS_build11 slBytes hS rfl rfl rfl (u := B8 (0#8 ^^^ x)) rfl ?_; clear hS; intro v30 w hS; rw [b1] at hS; go_frame)
            | (show wpList _ _ _ (⟨some 31, .call _, _, _, _, _⟩ :: _) _ _; (refine wpS_append slBytes (hS.bring (by repeat (first | exact t0 | apply tS))) rfl rfl rfl rfl ((hS.bring (by repeat (first | exact t0 | apply tS))).getOwn.rd) (flat_bytes _) (by rw [bytes_len, bytes_len, HXL.out]; simp only [List.length_cons, List.length_nil]; omega) (by rw [bytes_len, bytes_len, HXL.out]; simp only [List.length_cons, List.length_nil, maxLen]; omega) ?_); clear hS; intro v31 w hS; rw [← bytes_app, HST.out] at hS; go_frame)
            )
          go_roundw
          case rel => exact ⟨i + 1, by go_num, by omega, hS.sel (by repeat (first | exact Sel.refl | refine Sel.take (by repeat (first | exact t0 | apply tS)) ?_ | apply Sel.drop))⟩
          case measure => simp [intOf]; omega
      · have hk2 : i = 64 := by omega
        subst hk2
        rw [List.take_of_length_le (by omega)] at hS
        go_wp2_with fail
        go_ret
        have hE := HEND hS
        rw [← HPP.out] at hE
        exact hE
set_option maxRecDepth 100000 in
set_option maxHeartbeats 4000000 in
theorem rmsum_s (hS : SepL R base w F) {v u : Value} {key bs : List Byte} (hv : RdIn R base 1 v (bytes key)) (hn0 : key.length ≤ 1099511627776) (hu : RdIn R base 1 u (bytes bs)) (hb0 : bs.length ≤ 1099511627000) :
    Calls Tryd.prog 36 #[v, u] w (Ret fun r w' => r = HV (hmac key bs) ∧ SepL R base w' F) := by
  have HB1 : ∀ {w : World} {F : List Hp}, SepL R base w F → Calls Tryd.prog 49 #[v, .int .u8 54] w (Ret fun r w' => SepL R base w' (.own 5 1 r (bytes (xorB 0x36#8 (padK key))) :: F)) := fun h => rmblock_s h hv hn0 0x36#8
  have HB2 : ∀ {w : World} {F : List Hp}, SepL R base w F → Calls Tryd.prog 49 #[v, .int .u8 92] w (Ret fun r w' => SepL R base w' (.own 5 1 r (bytes (xorB 0x5c#8 (padK key))) :: F)) := fun h => rmblock_s h hv hn0 0x5c#8
  have hx1 : (xorB 0x36#8 (padK key)).length = 64 := by rw [xorB_len, padK_len]
  have hx2 : (xorB 0x5c#8 (padK key)).length = 64 := by rw [xorB_len, padK_len]
  have hH := hmac_eq key bs
  generalize xorB 0x36#8 (padK key) = XI at *
  generalize xorB 0x5c#8 (padK key) = XO at *
  obtain ⟨m, hm⟩ : ∃ m, bs.length = m := ⟨_, rfl⟩
  have HM := hide hm
  have HX1 := hide hx1
  have HX2 := hide hx2
  have HF1 : Hid ((XI ++ bs).length ≤ 1099511627776) := by
    unfold Hid
    rw [List.length_append, hx1]
    omega
  have hsl := sum_len (XI ++ bs)
  obtain ⟨si, hsi⟩ : ∃ s, sum (XI ++ bs) = s := ⟨_, rfl⟩
  have HSI := hide hsi
  rw [hsi] at hH hsl
  have HHM := hide hH
  have HSL := hide hsl
  have HSL2 : Hid ((si.map B8).length = 32) := by
    unfold Hid
    rw [List.length_map, hsl]
  have HF2 : Hid ((XO ++ si).length ≤ 1099511627776) := by
    unfold Hid
    rw [List.length_append, hx2, hsl]
    omega
  have HHL : Hid (((hmac key bs).map B8).length = 32) := by
    unfold Hid
    rw [List.length_map, hmac_len]
  clear hsi hH hsl hx1 hx2
  go_enter Tryd.func36, Tryd.ntmps36
  go_wp2_with (first
    | (show wpList _ _ _ (⟨some 4, .alloc _, _, _, _, _⟩ :: _) _ _; refine wpS_alloc hS rfl rfl zero32b (zs := (List.replicate 32 (0 : Byte)).map B8) rfl ?_; clear hS; intro n4 w hS; go_frame)
    | (show wpList _ _ _ (⟨some 5, .alloc _, _, _, _, _⟩ :: _) _ _; refine wpS_alloc hS rfl rfl zero32b (zs := (List.replicate 32 (0 : Byte)).map B8) rfl ?_; clear hS; intro n5 w hS; go_frame)
    | (go_at_call 49; refine Ret.calls (HB1 hS) ?_; clear hS; rintro v7 w hS)
    | (show wpList _ _ _ (⟨some 9, .call _, _, _, _, _⟩ :: _) _ _; (refine wpS_append slBytes (hS.bring (by repeat (first | exact t0 | apply tS))) rfl rfl rfl rfl (hS.rd hu) (flat_bytes _) (by rw [bytes_len, bytes_len, HX1.out, HM.out]; omega) (by rw [bytes_len, bytes_len, HX1.out, HM.out]; simp only [maxLen]; omega) ?_); clear hS; intro v9 w hS; rw [← bytes_app] at hS; go_frame)
    | (go_at_call 28; refine Ret.calls (rsum_own hS HF1.out) ?_; clear hS; rintro r w ⟨rfl, hS⟩; rw [HSI.out])
    | (show wpList _ _ _ (⟨_, .store 34 _ _, _, _, _, _⟩ :: _) _ _; (refine wpS_storeAll agg32b (hS.bring (by repeat (first | exact t0 | apply tS))) rfl rfl rfl (vs := si.map B8) rfl HSL2.out (B8_one _) (by rw [List.length_map, List.length_replicate]) ?_); clear hS; intro w hS; go_frame)
    )
  refine wp_region_text (by kernel_rfl) (by kernel_rfl) (by repeat (first | exact Clean.body | refine Clean.then ?_ | refine Clean.inBlock ?_)) ?_
  replace hS := hS.drew
  go_wp2_with (first
    | (go_at_call 49; refine Ret.calls (HB2 hS) ?_; clear hS; rintro v12 w hS)
    | (show wpList _ _ _ (⟨some 13, .slice _ _ _ _ _, _, _, _, _⟩ :: _) _ _; refine wpList_val rfl (op_sliceArr arr32b rfl rfl (l := 0) (h := 32) (Or.inl ⟨rfl, rfl⟩) (Or.inl ⟨rfl, rfl⟩) (by omega) (by omega)) ?_; rw [if_neg (by omega)]; go_frame)
    | (show wpList _ _ _ (⟨some 14, .call _, _, _, _, _⟩ :: _) _ _; (refine wpS_append (sv := v12) slBytes (hS.bring (by repeat (first | exact t0 | apply tS))) rfl rfl rfl rfl (blk_rdB ((hS.bring (by repeat (first | exact t0 | apply tS))).getBlk) HSL.out (by omega)) (flat_bytes _) (by rw [bytes_len, bytes_len, HX2.out, HSL.out]; omega) (by rw [bytes_len, bytes_len, HX2.out, HSL.out]; simp only [maxLen]; omega) ?_); clear hS; intro v14 w hS; rw [← bytes_app] at hS; go_frame)
    | (go_at_call 28; refine Ret.calls (rsum_own hS HF2.out) ?_; clear hS; rintro r w ⟨rfl, hS⟩; rw [HHM.out])
    | (show wpList _ _ _ (⟨_, .store 34 _ _, _, _, _, _⟩ :: _) _ _; (refine wpS_storeAll agg32b (hS.bring (by repeat (first | exact t0 | apply tS))) rfl rfl rfl (vs := (hmac key bs).map B8) rfl HHL.out (B8_one _) (by rw [List.length_map, List.length_replicate]) ?_); clear hS; intro w hS; go_frame)
    )
  refine fin_mk (by kernel_rfl) ?_
  go_wp2_with fail
  exact ret_cell (b := n4) agg32b rfl rfl rfl ((hS.bring (by repeat (first | exact t0 | apply tS))).getBlk) HHL.out ⟨rfl, (hS.sel (by repeat (first | exact Sel.refl | refine Sel.take (by repeat (first | exact t0 | apply tS)) ?_ | apply Sel.drop)) : SepL R base _ F)⟩
theorem rmsum_own {T : Nat} {v u : Value} {key bs : List Byte} (hS : SepL R base w (.own T 1 u (bytes bs) :: F)) (hv : RdIn R base 1 v (bytes key)) (hn0 : key.length ≤ 1099511627776) (hb0 : bs.length ≤ 1099511627000) :
    Calls Tryd.prog 36 #[v, u] w (Ret fun r w' => r = HV (hmac key bs) ∧ SepL R base w' F) := by
  obtain ⟨R', h1, h2, h3, h4⟩ := hS.freezeOwn
  refine Ret.calls (rmsum_s h1 (h3 _ _ _ hv) hn0 h2 hb0) ?_
  rintro r w' ⟨h5, h6⟩
  exact ⟨h5, (h4 w' _ h6).tail⟩
end
end Go.Proofs.YtpdanieiafjmhaaDoor
