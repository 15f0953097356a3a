/- The document's sums under a key, and a source's way. Conditions: those that stand ahead of each theorem. -/
import Derived.Test.YtlplgobkidpgkaaDoorGMac
import Derived.Test.YtlplgobkidpgkaaDoorGShaC
namespace Go.Proofs.YtlplgobkidpgkaaDoor
open Go.RowKit Go.Px Go.Sha
def heavyGo (lim : Nat) : List (List Byte) → Nat → Bool
  | [], _ => false
  | p :: r, s => if lim < s + min p.length (lim + 1) then true else heavyGo lim r (s + min p.length (lim + 1))
def heavyB (top lim : Nat) (ps : List (List Byte)) : Bool := if top < ps.length then true else heavyGo lim ps 0
theorem heavyGo_false (lim : Nat) : ∀ (ps : List (List Byte)) (s : Nat), s ≤ lim → heavyGo lim ps s = false → s + ps.flatten.length ≤ lim
  | [], s, h, _ => by simpa using h
  | p :: r, s, _, h => by
    unfold heavyGo at h
    split at h
    · cases h
    · rename_i hc
      have := heavyGo_false lim r _ (by omega) h
      rw [List.flatten_cons, List.length_append]
      omega
theorem heavyB_false {top lim : Nat} {ps : List (List Byte)} (h : heavyB top lim ps = false) : ps.flatten.length ≤ lim := by
  unfold heavyB at h
  split at h
  · cases h
  · have := heavyGo_false lim ps 0 (by omega) h
    omega
theorem heavyGo_nil (lim s : Nat) : heavyGo lim [] s = false := rfl
theorem heavyGo_cons {lim : Nat} {ps : List (List Byte)} {k s q : Nat} (hk : k < ps.length) (hq : min ps[k].length (lim + 1) = q) : heavyGo lim (ps.drop k) s = if lim < s + q then true else heavyGo lim (ps.drop (k + 1)) (s + q) := by
  rw [List.drop_eq_getElem_cons hk]
  subst hq
  rfl
attribute [irreducible] heavyGo
section
variable {R : Nat → Prop} {base w : World} {F : List Hp}
end
end Go.Proofs.YtlplgobkidpgkaaDoor
namespace Go.Proofs.YtlplgobkidpgkaaDoor
open Go.RowKit Go.Px Go.Sha
theorem xor_next {x c : Byte} {P : List Byte} {i : Nat} (hi : i < P.length) (hc : P[i]? = some c) : xorB x (P.take i) ++ [c ^^^ x] = xorB x (P.take (i + 1)) := by
  unfold xorB
  have : P[i] = c := Option.some.inj ((List.getElem?_eq_getElem hi).symm.trans hc)
  rw [List.take_succ_eq_append_getElem hi, List.map_append, this]
  rfl
theorem blk_rdB {w : World} {b T m : Nat} {bs : List Byte} (h : Blk w b T (bs.map B8)) (hm : bs.length = m) (hl : m ≤ 1000) : Rd 1 w (.slice (some ⟨b, 0, none⟩) m m) (bytes bs) := blk_rd h hm hl
theorem xorB_nil (x : Byte) (P : List Byte) : xorB x (P.take 0) = [] := by
  unfold xorB
  rfl
section
variable {R : Nat → Prop} {base w : World} {F : List Hp}
set_option maxRecDepth 100000 in
set_option maxHeartbeats 4000000 in
theorem rmblock_s (hS : SepL R base w F) {v : Value} {key : List Byte} (hv : RdIn R base 1 v (bytes key)) (hn0 : key.length ≤ 1099511627776) (x : Byte) :
    Calls Tryd.prog 64 #[v, B8 x] w (Ret fun r w' => SepL R base w' (.own 5 1 r (bytes (xorB x (padK key))) :: F)) := by
  obtain ⟨n, hn⟩ : ∃ n, key.length = n := ⟨_, rfl⟩
  have HN := hide hn
  have HNB := hide hn0
  have hPl := padK_len key
  have HSL : Hid (((sum key).map B8).length = 32) := by
    unfold Hid
    rw [List.length_map, sum_len]
  by_cases hs : 64 < n
  · have HD : Hid (decide ((64 : Int) < (n : Int)) = true) := by
      unfold Hid
      rw [decide_eq_true_iff]
      omega
    have hpe := padK_long (key := key) (by omega)
    go_enter Tryd.func64, Tryd.ntmps64
    go_wp2_with (first
      | (show wpList _ _ _ (⟨some 11, .binOp _ _ _ _ _, _, _, _, _⟩ :: _) _ _; refine wpList_val rfl (op_igtr rfl rfl rfl HD.out) ?_; go_frame)
      | (show wpList _ _ _ (⟨some 10, .call _, _, _, _, _⟩ :: _) _ _; refine wpList_val rfl (op_lenB slBytes rfl rfl rfl (hS.rd hv) HN.out) ?_; go_frame)
      | (show wpList _ _ _ (⟨some 5, .alloc _, _, _, _, _⟩ :: _) _ _; refine wpS_alloc hS rfl rfl zero32b (zs := (List.replicate 32 (0 : Byte)).map B8) rfl ?_; clear hS; intro n5 w hS; go_frame)
      | (go_at_call 63; refine Ret.calls (rsum_s hS hv HNB.out) ?_; clear hS; rintro r w ⟨rfl, hS⟩)
      | (show wpList _ _ _ (⟨_, .store 23 _ _, _, _, _, _⟩ :: _) _ _; (refine wpS_storeAll agg32b (hS.bring (by repeat (first | exact t0 | apply tS))) rfl rfl rfl (vs := (sum key).map B8) rfl HSL.out (B8_one _) (by rw [List.length_map, List.length_replicate]) ?_); clear hS; intro w hS; go_frame)
      | (show wpList _ _ _ (⟨some 14, .slice _ _ _ _ _, _, _, _, _⟩ :: _) _ _; refine wpList_val rfl (op_sliceArr arr32b rfl rfl (l := 0) (h := 32) (Or.inl ⟨rfl, rfl⟩) (Or.inl ⟨rfl, rfl⟩) (by omega) (by omega)) ?_; rw [if_neg (by omega)]; go_frame)
      )
    obtain ⟨G, hG⟩ : ∃ G, G = .blk n5 23 ((sum key).map B8) :: F := ⟨_, rfl⟩
    obtain ⟨v0, hv0⟩ : ∃ v0, v0 = Value.slice (some ⟨n5, 0, none⟩) 32 32 := ⟨_, rfl⟩
    have hkl0 := sum_len key
    obtain ⟨kk, hkk⟩ : ∃ k, sum key = k := ⟨_, rfl⟩
    rw [hkk] at hG hkl0 hpe
    obtain ⟨kl, hkl⟩ : ∃ k, kk.length = k := ⟨_, rfl⟩
    have HKL := hide hkl
    have HPE : Hid (kk ++ List.replicate 32 0 = padK key) := hpe.symm
    have HRD : ∀ {w : World} {u : Value} {A : List (List Value)}, SepL R base w (.own 5 1 u A :: G) → Rd 1 w v0 (bytes kk) := fun h => by
      rw [hG] at h
      rw [hv0]
      exact blk_rd h.tail.getBlk hkl0 (by omega)
    have HS0 : SepL R base w (.own 5 1 (.slice none 0 0) (bytes (xorB x ((padK key).take 0))) :: G) := by
      rw [xorB_nil, hG, ← hkk]
      exact hS.nilOwn _ _
    have HEND : ∀ {w : World} {u : Value} {A : List (List Value)}, SepL R base w (.own 5 1 u A :: G) → SepL R base w (.own 5 1 u A :: F) := fun h => by
      rw [hG] at h
      exact h.sel (by repeat (first | exact Sel.refl | refine Sel.take (by repeat (first | exact t0 | apply tS)) ?_ | apply Sel.drop))
    rw [← hv0]
    clear hS hG hv0 hpe hkk HD HSL hs
    obtain ⟨P, hPP⟩ : ∃ P, padK key = P := ⟨_, rfl⟩
    have HPP := hide hPP
    rw [hPP] at hPl HPE HS0
    clear hPP
    go_loopw [15, 6] (fun i u wr => ∃ k : Nat, i = .int .i64 k ∧ k ≤ 64 ∧ SepL R base wr (.own 5 1 u (bytes (xorB x (P.take k))) :: G)) (fun i _ _ => 64 - (intOf i).toNat)
    case atStart => exact ⟨0, rfl, by omega, HS0⟩
    case round =>
      clear HS0
      obtain ⟨i, rfl, hi, hS⟩ := hrel
      by_cases hlt : i < 64
      · have HXL : Hid ((xorB x (P.take i)).length = i) := by
          unfold Hid
          rw [xorB_len, List.length_take]
          omega
        have hiP : i < P.length := by omega
        by_cases hik2 : i < kl
        · have hik : i < kk.length := by omega
          obtain ⟨c, hc⟩ : ∃ c, kk[i] = c := ⟨_, rfl⟩
          have HC : Hid (kk[i] = c) := hc
          have HST : Hid (xorB x (P.take i) ++ [c ^^^ x] = xorB x (P.take (i + 1))) := xor_next hiP (by rw [← HPE.out, List.getElem?_append_left hik, List.getElem?_eq_getElem hik, hc])
          clear hc
          go_wp2_with (first
            | (show wpList _ _ _ (⟨some 20, .call _, _, _, _, _⟩ :: _) _ _; refine wpList_val rfl (op_lenB slBytes rfl rfl rfl (HRD hS) HKL.out) ?_; go_frame)
            | (show wpList _ _ _ (⟨some 24, .indexAddr _ _ _, _, _, _, _⟩ :: _) _ _; refine wpList_val rfl (op_indexAddr slBytes rfl (v := v0) rfl rfl (HRD hS) (by rw [bytes_len]; exact hik)) ?_; go_frame)
            | (show wpList _ _ _ (⟨some 25, .load _ _, _, _, _, _⟩ :: _) _ _; refine wpList_val rfl (op_loadBE oneU8 rfl (v := v0) (k := i) rfl (HRD hS) hik) ?_; rw [HC.out]; go_frame)
            | (show wpList _ _ _ (⟨some 29, .binOp _ _ _ _ _, _, _, _, _⟩ :: _) _ _; refine wpList_val rfl (op_bin8 (op := .xor) (a := c) rfl rfl rfl rfl) ?_; go_frame)
            | (show wpList _ _ _ (⟨some 30, .buildSlice _ _ _, _, _, _, _⟩ :: _) _ _; refine wpS_build11 slBytes hS rfl rfl rfl rfl ?_; clear hS; intro v30 w hS; rw [b1] at hS; go_frame)
            | (show wpList _ _ _ (⟨some 31, .call _, _, _, _, _⟩ :: _) _ _; (refine wpS_append slBytes (hS.bring (by repeat (first | exact t0 | apply tS))) rfl rfl rfl rfl ((hS.bring (by repeat (first | exact t0 | apply tS))).getOwn.rd) (flat_bytes _) (by rw [bytes_len, bytes_len, HXL.out]; simp only [List.length_cons, List.length_nil]; omega) (by rw [bytes_len, bytes_len, HXL.out]; simp only [List.length_cons, List.length_nil, maxLen]; omega) ?_); clear hS; intro v31 w hS; rw [← bytes_app, HST.out] at hS; go_frame)
            )
          go_roundw
          case rel => exact ⟨i + 1, by go_num, by omega, hS.sel (by repeat (first | exact Sel.refl | refine Sel.take (by repeat (first | exact t0 | apply tS)) ?_ | apply Sel.drop))⟩
          case measure => simp [intOf]; omega
        · have hc : True := trivial
          obtain ⟨c, hc0⟩ : ∃ c : Byte, c = 0#8 := ⟨_, rfl⟩
          have HST : Hid (xorB x (P.take i) ++ [(0#8 : Byte) ^^^ x] = xorB x (P.take (i + 1))) := xor_next hiP (by rw [← HPE.out, List.getElem?_append_right (by omega), List.getElem?_replicate, if_pos (by omega)]; rfl)
          clear hc hc0 c
          go_wp2_with (first
            | (show wpList _ _ _ (⟨some 20, .call _, _, _, _, _⟩ :: _) _ _; refine wpList_val rfl (op_lenB slBytes rfl rfl rfl (HRD hS) HKL.out) ?_; go_frame)
            | (show wpList _ _ _ (⟨some 29, .binOp _ _ _ _ _, _, _, _, _⟩ :: _) _ _; refine wpList_val rfl (op_bin8 (op := .xor) (a := 0#8) rfl rfl rfl rfl) ?_; go_frame)
            | (show wpList _ _ _ (⟨some 30, .buildSlice _ _ _, _, _, _, _⟩ :: _) _ _; refine wpS_build11 slBytes hS rfl rfl rfl (u := B8 (0#8 ^^^ x)) rfl ?_; clear hS; intro v30 w hS; rw [b1] at hS; go_frame)
            | (show wpList _ _ _ (⟨some 31, .call _, _, _, _, _⟩ :: _) _ _; (refine wpS_append slBytes (hS.bring (by repeat (first | exact t0 | apply tS))) rfl rfl rfl rfl ((hS.bring (by repeat (first | exact t0 | apply tS))).getOwn.rd) (flat_bytes _) (by rw [bytes_len, bytes_len, HXL.out]; simp only [List.length_cons, List.length_nil]; omega) (by rw [bytes_len, bytes_len, HXL.out]; simp only [List.length_cons, List.length_nil, maxLen]; omega) ?_); clear hS; intro v31 w hS; rw [← bytes_app, HST.out] at hS; go_frame)
            )
          go_roundw
          case rel => exact ⟨i + 1, by go_num, by omega, hS.sel (by repeat (first | exact Sel.refl | refine Sel.take (by repeat (first | exact t0 | apply tS)) ?_ | apply Sel.drop))⟩
          case measure => simp [intOf]; omega
      · have hk2 : i = 64 := by omega
        subst hk2
        rw [List.take_of_length_le (by omega)] at hS
        go_wp2_with fail
        go_ret
        have hE := HEND hS
        rw [← HPP.out] at hE
        exact hE
  · have HD : Hid (decide ((64 : Int) < (n : Int)) = false) := by
      unfold Hid
      rw [decide_eq_false_iff_not]
      omega
    have hpe := padK_short (key := key) (by omega)
    go_enter Tryd.func64, Tryd.ntmps64
    go_wp2_with (first
      | (show wpList _ _ _ (⟨some 11, .binOp _ _ _ _ _, _, _, _, _⟩ :: _) _ _; refine wpList_val rfl (op_igtr rfl rfl rfl HD.out) ?_; go_frame)
      | (show wpList _ _ _ (⟨some 10, .call _, _, _, _, _⟩ :: _) _ _; refine wpList_val rfl (op_lenB slBytes rfl rfl rfl (hS.rd hv) HN.out) ?_; go_frame)
      | (show wpList _ _ _ (⟨some 5, .alloc _, _, _, _, _⟩ :: _) _ _; refine wpS_alloc hS rfl rfl zero32b (zs := (List.replicate 32 (0 : Byte)).map B8) rfl ?_; clear hS; intro n5 w hS; go_frame)
      | (go_at_call 63; refine Ret.calls (rsum_s hS hv HNB.out) ?_; clear hS; rintro r w ⟨rfl, hS⟩)
      | (show wpList _ _ _ (⟨_, .store 23 _ _, _, _, _, _⟩ :: _) _ _; (refine wpS_storeAll agg32b (hS.bring (by repeat (first | exact t0 | apply tS))) rfl rfl rfl (vs := (sum key).map B8) rfl HSL.out (B8_one _) (by rw [List.length_map, List.length_replicate]) ?_); clear hS; intro w hS; go_frame)
      | (show wpList _ _ _ (⟨some 14, .slice _ _ _ _ _, _, _, _, _⟩ :: _) _ _; refine wpList_val rfl (op_sliceArr arr32b rfl rfl (l := 0) (h := 32) (Or.inl ⟨rfl, rfl⟩) (Or.inl ⟨rfl, rfl⟩) (by omega) (by omega)) ?_; rw [if_neg (by omega)]; go_frame)
      )
    obtain ⟨G, hG⟩ : ∃ G, G = F := ⟨_, rfl⟩
    obtain ⟨v0, hv0⟩ : ∃ v0, v0 = v := ⟨_, rfl⟩
    obtain ⟨kk, hkk⟩ : ∃ k, key = k := ⟨_, rfl⟩
    obtain ⟨kl, hkl⟩ : ∃ k, kk.length = k := ⟨_, rfl⟩
    have HKL := hide hkl
    have HPE : Hid (kk ++ List.replicate (64 - kl) 0 = padK key) := by
      unfold Hid
      rw [hpe, ← hkl, ← hkk]
    have HRD : ∀ {w : World} {u : Value} {A : List (List Value)}, SepL R base w (.own 5 1 u A :: G) → Rd 1 w v0 (bytes kk) := fun h => by
      rw [hv0, ← hkk]
      exact h.rd hv
    have HS0 : SepL R base w (.own 5 1 (.slice none 0 0) (bytes (xorB x ((padK key).take 0))) :: G) := by
      rw [xorB_nil, hG]
      exact hS.nilOwn _ _
    have HEND : ∀ {w : World} {u : Value} {A : List (List Value)}, SepL R base w (.own 5 1 u A :: G) → SepL R base w (.own 5 1 u A :: F) := fun h => by
      rwa [hG] at h
    rw [← hv0]
    clear hS hG hv0 hpe hkk HD HSL hs
    obtain ⟨P, hPP⟩ : ∃ P, padK key = P := ⟨_, rfl⟩
    have HPP := hide hPP
    rw [hPP] at hPl HPE HS0
    clear hPP
    go_loopw [15, 6] (fun i u wr => ∃ k : Nat, i = .int .i64 k ∧ k ≤ 64 ∧ SepL R base wr (.own 5 1 u (bytes (xorB x (P.take k))) :: G)) (fun i _ _ => 64 - (intOf i).toNat)
    case atStart => exact ⟨0, rfl, by omega, HS0⟩
    case round =>
      clear HS0
      obtain ⟨i, rfl, hi, hS⟩ := hrel
      by_cases hlt : i < 64
      · have HXL : Hid ((xorB x (P.take i)).length = i) := by
          unfold Hid
          rw [xorB_len, List.length_take]
          omega
        have hiP : i < P.length := by omega
        by_cases hik2 : i < kl
        · have hik : i < kk.length := by omega
          obtain ⟨c, hc⟩ : ∃ c, kk[i] = c := ⟨_, rfl⟩
          have HC : Hid (kk[i] = c) := hc
          have HST : Hid (xorB x (P.take i) ++ [c ^^^ x] = xorB x (P.take (i + 1))) := xor_next hiP (by rw [← HPE.out, List.getElem?_append_left hik, List.getElem?_eq_getElem hik, hc])
          clear hc
          go_wp2_with (first
            | (show wpList _ _ _ (⟨some 20, .call _, _, _, _, _⟩ :: _) _ _; refine wpList_val rfl (op_lenB slBytes rfl rfl rfl (HRD hS) HKL.out) ?_; go_frame)
            | (show wpList _ _ _ (⟨some 24, .indexAddr _ _ _, _, _, _, _⟩ :: _) _ _; refine wpList_val rfl (op_indexAddr slBytes rfl (v := v0) rfl rfl (HRD hS) (by rw [bytes_len]; exact hik)) ?_; go_frame)
            | (show wpList _ _ _ (⟨some 25, .load _ _, _, _, _, _⟩ :: _) _ _; refine wpList_val rfl (op_loadBE oneU8 rfl (v := v0) (k := i) rfl (HRD hS) hik) ?_; rw [HC.out]; go_frame)
            | (show wpList _ _ _ (⟨some 29, .binOp _ _ _ _ _, _, _, _, _⟩ :: _) _ _; refine wpList_val rfl (op_bin8 (op := .xor) (a := c) rfl rfl rfl rfl) ?_; go_frame)
            | (show wpList _ _ _ (⟨some 30, .buildSlice _ _ _, _, _, _, _⟩ :: _) _ _; refine wpS_build11 slBytes hS rfl rfl rfl rfl ?_; clear hS; intro v30 w hS; rw [b1] at hS; go_frame)
            | (show wpList _ _ _ (⟨some 31, .call _, _, _, _, _⟩ :: _) _ _; (refine wpS_append slBytes (hS.bring (by repeat (first | exact t0 | apply tS))) rfl rfl rfl rfl ((hS.bring (by repeat (first | exact t0 | apply tS))).getOwn.rd) (flat_bytes _) (by rw [bytes_len, bytes_len, HXL.out]; simp only [List.length_cons, List.length_nil]; omega) (by rw [bytes_len, bytes_len, HXL.out]; simp only [List.length_cons, List.length_nil, maxLen]; omega) ?_); clear hS; intro v31 w hS; rw [← bytes_app, HST.out] at hS; go_frame)
            )
          go_roundw
          case rel => exact ⟨i + 1, by go_num, by omega, hS.sel (by repeat (first | exact Sel.refl | refine Sel.take (by repeat (first | exact t0 | apply tS)) ?_ | apply Sel.drop))⟩
          case measure => simp [intOf]; omega
        · have hc : True := trivial
          obtain ⟨c, hc0⟩ : ∃ c : Byte, c = 0#8 := ⟨_, rfl⟩
          have HST : Hid (xorB x (P.take i) ++ [(0#8 : Byte) ^^^ x] = xorB x (P.take (i + 1))) := xor_next hiP (by rw [← HPE.out, List.getElem?_append_right (by omega), List.getElem?_replicate, if_pos (by omega)]; rfl)
          clear hc hc0 c
          go_wp2_with (first
            | (show wpList _ _ _ (⟨some 20, .call _, _, _, _, _⟩ :: _) _ _; refine wpList_val rfl (op_lenB slBytes rfl rfl rfl (HRD hS) HKL.out) ?_; go_frame)
            | (show wpList _ _ _ (⟨some 29, .binOp _ _ _ _ _, _, _, _, _⟩ :: _) _ _; refine wpList_val rfl (op_bin8 (op := .xor) (a := 0#8) rfl rfl rfl rfl) ?_; go_frame)
            | (show wpList _ _ _ (⟨some 30, .buildSlice _ _ _, _, _, _, _⟩ :: _) _ _; refine wpS_build11 slBytes hS rfl rfl rfl (u := B8 (0#8 ^^^ x)) rfl ?_; clear hS; intro v30 w hS; rw [b1] at hS; go_frame)
            | (show wpList _ _ _ (⟨some 31, .call _, _, _, _, _⟩ :: _) _ _; (refine wpS_append slBytes (hS.bring (by repeat (first | exact t0 | apply tS))) rfl rfl rfl rfl ((hS.bring (by repeat (first | exact t0 | apply tS))).getOwn.rd) (flat_bytes _) (by rw [bytes_len, bytes_len, HXL.out]; simp only [List.length_cons, List.length_nil]; omega) (by rw [bytes_len, bytes_len, HXL.out]; simp only [List.length_cons, List.length_nil, maxLen]; omega) ?_); clear hS; intro v31 w hS; rw [← bytes_app, HST.out] at hS; go_frame)
            )
          go_roundw
          case rel => exact ⟨i + 1, by go_num, by omega, hS.sel (by repeat (first | exact Sel.refl | refine Sel.take (by repeat (first | exact t0 | apply tS)) ?_ | apply Sel.drop))⟩
          case measure => simp [intOf]; omega
      · have hk2 : i = 64 := by omega
        subst hk2
        rw [List.take_of_length_le (by omega)] at hS
        go_wp2_with fail
        go_ret
        have hE := HEND hS
        rw [← HPP.out] at hE
        exact hE
set_option maxRecDepth 100000 in
set_option maxHeartbeats 4000000 in
theorem rmsum_s (hS : SepL R base w F) {v u : Value} {key bs : List Byte} (hv : RdIn R base 1 v (bytes key)) (hn0 : key.length ≤ 1099511627776) (hu : RdIn R base 1 u (bytes bs)) (hb0 : bs.length ≤ 1099511627000) :
    Calls Tryd.prog 54 #[v, u] w (Ret fun r w' => r = HV (hmac key bs) ∧ SepL R base w' F) := by
  have HB1 : ∀ {w : World} {F : List Hp}, SepL R base w F → Calls Tryd.prog 64 #[v, .int .u8 54] w (Ret fun r w' => SepL R base w' (.own 5 1 r (bytes (xorB 0x36#8 (padK key))) :: F)) := fun h => rmblock_s h hv hn0 0x36#8
  have HB2 : ∀ {w : World} {F : List Hp}, SepL R base w F → Calls Tryd.prog 64 #[v, .int .u8 92] w (Ret fun r w' => SepL R base w' (.own 5 1 r (bytes (xorB 0x5c#8 (padK key))) :: F)) := fun h => rmblock_s h hv hn0 0x5c#8
  have hx1 : (xorB 0x36#8 (padK key)).length = 64 := by rw [xorB_len, padK_len]
  have hx2 : (xorB 0x5c#8 (padK key)).length = 64 := by rw [xorB_len, padK_len]
  have hH := hmac_eq key bs
  generalize xorB 0x36#8 (padK key) = XI at *
  generalize xorB 0x5c#8 (padK key) = XO at *
  obtain ⟨m, hm⟩ : ∃ m, bs.length = m := ⟨_, rfl⟩
  have HM := hide hm
  have HX1 := hide hx1
  have HX2 := hide hx2
  have HF1 : Hid ((XI ++ bs).length ≤ 1099511627776) := by
    unfold Hid
    rw [List.length_append, hx1]
    omega
  have hsl := sum_len (XI ++ bs)
  obtain ⟨si, hsi⟩ : ∃ s, sum (XI ++ bs) = s := ⟨_, rfl⟩
  have HSI := hide hsi
  rw [hsi] at hH hsl
  have HHM := hide hH
  have HSL := hide hsl
  have HSL2 : Hid ((si.map B8).length = 32) := by
    unfold Hid
    rw [List.length_map, hsl]
  have HF2 : Hid ((XO ++ si).length ≤ 1099511627776) := by
    unfold Hid
    rw [List.length_append, hx2, hsl]
    omega
  have HHL : Hid (((hmac key bs).map B8).length = 32) := by
    unfold Hid
    rw [List.length_map, hmac_len]
  clear hsi hH hsl hx1 hx2
  go_enter Tryd.func54, Tryd.ntmps54
  go_wp2_with (first
    | (show wpList _ _ _ (⟨some 4, .alloc _, _, _, _, _⟩ :: _) _ _; refine wpS_alloc hS rfl rfl zero32b (zs := (List.replicate 32 (0 : Byte)).map B8) rfl ?_; clear hS; intro n4 w hS; go_frame)
    | (show wpList _ _ _ (⟨some 5, .alloc _, _, _, _, _⟩ :: _) _ _; refine wpS_alloc hS rfl rfl zero32b (zs := (List.replicate 32 (0 : Byte)).map B8) rfl ?_; clear hS; intro n5 w hS; go_frame)
    | (go_at_call 64; refine Ret.calls (HB1 hS) ?_; clear hS; rintro v7 w hS)
    | (show wpList _ _ _ (⟨some 9, .call _, _, _, _, _⟩ :: _) _ _; (refine wpS_append slBytes (hS.bring (by repeat (first | exact t0 | apply tS))) rfl rfl rfl rfl (hS.rd hu) (flat_bytes _) (by rw [bytes_len, bytes_len, HX1.out, HM.out]; omega) (by rw [bytes_len, bytes_len, HX1.out, HM.out]; simp only [maxLen]; omega) ?_); clear hS; intro v9 w hS; rw [← bytes_app] at hS; go_frame)
    | (go_at_call 63; refine Ret.calls (rsum_own hS HF1.out) ?_; clear hS; rintro r w ⟨rfl, hS⟩; rw [HSI.out])
    | (show wpList _ _ _ (⟨_, .store 23 _ _, _, _, _, _⟩ :: _) _ _; (refine wpS_storeAll agg32b (hS.bring (by repeat (first | exact t0 | apply tS))) rfl rfl rfl (vs := si.map B8) rfl HSL2.out (B8_one _) (by rw [List.length_map, List.length_replicate]) ?_); clear hS; intro w hS; go_frame)
    )
  refine wp_region_text (by kernel_rfl) (by kernel_rfl) (by repeat (first | exact Clean.body | refine Clean.then ?_ | refine Clean.inBlock ?_)) ?_
  replace hS := hS.drew
  go_wp2_with (first
    | (go_at_call 64; refine Ret.calls (HB2 hS) ?_; clear hS; rintro v12 w hS)
    | (show wpList _ _ _ (⟨some 13, .slice _ _ _ _ _, _, _, _, _⟩ :: _) _ _; refine wpList_val rfl (op_sliceArr arr32b rfl rfl (l := 0) (h := 32) (Or.inl ⟨rfl, rfl⟩) (Or.inl ⟨rfl, rfl⟩) (by omega) (by omega)) ?_; rw [if_neg (by omega)]; go_frame)
    | (show wpList _ _ _ (⟨some 14, .call _, _, _, _, _⟩ :: _) _ _; (refine wpS_append (sv := v12) slBytes (hS.bring (by repeat (first | exact t0 | apply tS))) rfl rfl rfl rfl (blk_rdB ((hS.bring (by repeat (first | exact t0 | apply tS))).getBlk) HSL.out (by omega)) (flat_bytes _) (by rw [bytes_len, bytes_len, HX2.out, HSL.out]; omega) (by rw [bytes_len, bytes_len, HX2.out, HSL.out]; simp only [maxLen]; omega) ?_); clear hS; intro v14 w hS; rw [← bytes_app] at hS; go_frame)
    | (go_at_call 63; refine Ret.calls (rsum_own hS HF2.out) ?_; clear hS; rintro r w ⟨rfl, hS⟩; rw [HHM.out])
    | (show wpList _ _ _ (⟨_, .store 23 _ _, _, _, _, _⟩ :: _) _ _; (refine wpS_storeAll agg32b (hS.bring (by repeat (first | exact t0 | apply tS))) rfl rfl rfl (vs := (hmac key bs).map B8) rfl HHL.out (B8_one _) (by rw [List.length_map, List.length_replicate]) ?_); clear hS; intro w hS; go_frame)
    )
  refine fin_mk (by kernel_rfl) ?_
  go_wp2_with fail
  exact ret_cell (b := n4) agg32b rfl rfl rfl ((hS.bring (by repeat (first | exact t0 | apply tS))).getBlk) HHL.out ⟨rfl, (hS.sel (by repeat (first | exact Sel.refl | refine Sel.take (by repeat (first | exact t0 | apply tS)) ?_ | apply Sel.drop)) : SepL R base _ F)⟩
theorem rmsum_own {T : Nat} {v u : Value} {key bs : List Byte} (hS : SepL R base w (.own T 1 u (bytes bs) :: F)) (hv : RdIn R base 1 v (bytes key)) (hn0 : key.length ≤ 1099511627776) (hb0 : bs.length ≤ 1099511627000) :
    Calls Tryd.prog 54 #[v, u] w (Ret fun r w' => r = HV (hmac key bs) ∧ SepL R base w' F) := by
  obtain ⟨R', h1, h2, h3, h4⟩ := hS.freezeOwn
  refine Ret.calls (rmsum_s h1 (h3 _ _ _ hv) hn0 h2 hb0) ?_
  rintro r w' ⟨h5, h6⟩
  exact ⟨h5, (h4 w' _ h6).tail⟩
end
end Go.Proofs.YtlplgobkidpgkaaDoor
namespace Go.Proofs.YtlplgobkidpgkaaDoor
open Go.RowKit Go.Px Go.Sha
/-- a number's bytes, the lowest first -/
def leB (x n : Nat) : List Byte := (List.range n).map fun i => BitVec.ofNat 8 (x / 256 ^ i)
theorem leB_len (x n : Nat) : (leB x n).length = n := by simp [leB]
theorem leB_take (x : Nat) {n k : Nat} (hk : k < n) : (leB x n).take k ++ [BitVec.ofNat 8 (x / 256 ^ k)] = (leB x n).take (k + 1) := by
  have e : (leB x n)[k]? = some (BitVec.ofNat 8 (x / 256 ^ k)) := by
    unfold leB
    rw [List.getElem?_map, List.getElem?_range hk]
    rfl
  rw [List.take_add_one, e]
  rfl
theorem text_leB (e : BitVec 64) {s : Nat} (hs : s ≤ 64) : leB e.toNat 8 ++ leB s 2 = text e s := by
  have h0 : ∀ j, (e >>> (8 * j)).setWidth 8 = BitVec.ofNat 8 (e.toNat / 256 ^ j) := fun j => by
    apply BitVec.eq_of_toNat_eq
    rw [BitVec.toNat_setWidth, BitVec.toNat_ushiftRight, BitVec.toNat_ofNat, Nat.shiftRight_eq_div_pow, Nat.pow_mul]
  unfold text leB
  rw [show List.range 10 = [0, 1, 2, 3, 4, 5, 6, 7, 8, 9] from rfl, show List.range 8 = [0, 1, 2, 3, 4, 5, 6, 7] from rfl, show List.range 2 = [0, 1] from rfl]
  have hlo : ∀ j, j < 8 → txAt e s j = BitVec.ofNat 8 (e.toNat / 256 ^ j) := fun j hj => by
    rw [← h0]
    unfold txAt
    rw [if_pos hj]
  have h8 : txAt e s 8 = BitVec.ofNat 8 (s / 256 ^ 0) := by
    rw [← txAt_8]
    simp
  have h9 : txAt e s 9 = BitVec.ofNat 8 (s / 256 ^ 1) := by
    rw [← txAt_9, show s / 256 ^ 1 = 0 by omega]
  simp only [List.map_cons, List.map_nil, List.cons_append, List.nil_append]
  rw [hlo 0 (by omega), hlo 1 (by omega), hlo 2 (by omega), hlo 3 (by omega), hlo 4 (by omega), hlo 5 (by omega), hlo 6 (by omega), hlo 7 (by omega), h8, h9]
attribute [irreducible] leB
/-- the number of eight bytes, taken from the last one on -/
def gN (bs : List Byte) : Nat → Nat
  | 0 => 0
  | m + 1 => gN bs m * 256 + (bs.getD (7 - m) 0).toNat
theorem gN_zero (bs : List Byte) : gN bs 0 = 0 := rfl
theorem gN_succ (bs : List Byte) (m : Nat) : gN bs (m + 1) = gN bs m * 256 + (bs.getD (7 - m) 0).toNat := rfl
theorem gN_lt (bs : List Byte) : ∀ m, gN bs m < 256 ^ m
  | 0 => by simp [gN]
  | m + 1 => by
    have h1 := gN_lt bs m
    have h2 := (bs.getD (7 - m) 0).isLt
    rw [gN_succ, Nat.pow_succ]
    omega
theorem lePart_lt (bs : List Byte) : ∀ k, k ≤ 8 → (lePart bs k).toNat < 256 ^ k ∧ (∀ j, k = j + 1 → (lePart bs k).toNat = (lePart bs j).toNat + (bs.getD j 0).toNat * 256 ^ j)
  | 0, _ => ⟨by rw [lePart_zero]; simp, fun j h => by omega⟩
  | k + 1, hk => by
    have h1 := (lePart_lt bs k (by omega)).1
    have h2 := (bs.getD k 0).isLt
    have h3 : 256 ^ k = 2 ^ (8 * k) := by rw [Nat.pow_mul]
    have hstep : (lePart bs (k + 1)).toNat = (lePart bs k).toNat + (bs.getD k 0).toNat * 256 ^ k := by
      rw [lePart_succ, BitVec.toNat_or, BitVec.toNat_shiftLeft, BitVec.toNat_setWidth, Nat.shiftLeft_eq]
      have h4 : (bs.getD k 0).toNat % 2 ^ 64 = (bs.getD k 0).toNat := Nat.mod_eq_of_lt (by omega)
      have h5 : 2 ^ (8 * k) ≤ 2 ^ 56 := Nat.pow_le_pow_right (by omega) (by omega)
      have h6 : (bs.getD k 0).toNat * 2 ^ (8 * k) < 2 ^ 64 := by
        have : (bs.getD k 0).toNat * 2 ^ (8 * k) ≤ 255 * 2 ^ 56 := Nat.mul_le_mul (by omega) h5
        omega
      rw [h4, Nat.mod_eq_of_lt h6, Nat.or_comm, Nat.mul_comm, ← Nat.two_pow_add_eq_or_of_lt (by rw [← h3]; exact h1), h3]
      rw [Nat.mul_comm, Nat.add_comm]
    refine ⟨?_, fun j hj => ?_⟩
    · rw [hstep, Nat.pow_succ]
      have : (bs.getD k 0).toNat * 256 ^ k ≤ 255 * 256 ^ k := Nat.mul_le_mul_right _ (by omega)
      omega
    · have : j = k := by omega
      subst this
      exact hstep
theorem gN_le (bs : List Byte) : gN bs 8 = (lePart bs 8).toNat := by
  have h7 := (lePart_lt bs 8 (by omega)).2 7 rfl
  have h6 := (lePart_lt bs 7 (by omega)).2 6 rfl
  have h5 := (lePart_lt bs 6 (by omega)).2 5 rfl
  have h4 := (lePart_lt bs 5 (by omega)).2 4 rfl
  have h3 := (lePart_lt bs 4 (by omega)).2 3 rfl
  have h2 := (lePart_lt bs 3 (by omega)).2 2 rfl
  have h1 := (lePart_lt bs 2 (by omega)).2 1 rfl
  have h0 := (lePart_lt bs 1 (by omega)).2 0 rfl
  have hz : (lePart bs 0).toNat = 0 := by rw [lePart_zero]; rfl
  have g := gN_succ bs
  have g1 := g 0
  have g2 := g 1
  have g3 := g 2
  have g4 := g 3
  have g5 := g 4
  have g6 := g 5
  have g7 := g 6
  have g8 := g 7
  have g0 := gN_zero bs
  simp only [Nat.zero_add, Nat.reduceAdd, Nat.reduceSub, Nat.reducePow, Nat.sub_zero] at g1 g2 g3 g4 g5 g6 g7 g8 h0 h1 h2 h3 h4 h5 h6 h7
  omega
attribute [irreducible] gN
theorem op_uquoN {P : Program} {o : Oper} {w : World} {ρ : Operand → Value} {t t' : TypeId} {x y : Operand} (ho : o.op = .binOp .quo t x y t') {a b : Nat} (hx : ρ x = .int .u64 a) (hy : ρ y = .int .u64 b) (hb : 0 < b) (ha : a < 18446744073709551616) : (execOp ρ o).run P w = .ok (.value (.int .u64 (a / b : Nat))) w := by
  have h0 : ¬ ((b : Int) = 0) := by omega
  have e : IntKind.u64.wrap (Int.tdiv (a : Int) b) = ((a / b : Nat) : Int) := by
    have h : Int.tdiv (a : Int) b = ((a / b : Nat) : Int) := rfl
    have hl := Nat.div_le_self a b
    rw [h, Px.wrap64]
    generalize a / b = q at hl
    omega
  unfold execOp
  simp only [ho, hx, hy, Sem.run_bind, run_eqGuard_int, Result.andThen_ok, binOp, ne_eq, not_true_eq_false, if_false, Op.intDiv, Sem.run_pure, if_neg h0, e]
theorem op_umulN {P : Program} {o : Oper} {w : World} {ρ : Operand → Value} {t t' : TypeId} {x y : Operand} (ho : o.op = .binOp .mul t x y t') {a b : Nat} (hx : ρ x = .int .u64 a) (hy : ρ y = .int .u64 b) (n : Nat) (hn : a * b = n) (hb : n < 18446744073709551616) : (execOp ρ o).run P w = .ok (.value (.int .u64 n)) w := by
  have e : IntKind.u64.wrap ((a : Int) * b) = n := by rw [← Int.natCast_mul, hn, Px.wrap64]; omega
  unfold execOp
  simp only [ho, hx, hy, Sem.run_bind, run_eqGuard_int, Result.andThen_ok, binOp, ne_eq, not_true_eq_false, if_false, Op.intArith, Sem.run_pure, e]
theorem op_uaddN {P : Program} {o : Oper} {w : World} {ρ : Operand → Value} {t t' : TypeId} {x y : Operand} (ho : o.op = .binOp .add t x y t') {a b : Nat} (hx : ρ x = .int .u64 a) (hy : ρ y = .int .u64 b) (n : Nat) (hn : a + b = n) (hb : n < 18446744073709551616) : (execOp ρ o).run P w = .ok (.value (.int .u64 n)) w := by
  have e : IntKind.u64.wrap ((a : Int) + b) = n := by rw [Px.wrap64]; omega
  unfold execOp
  simp only [ho, hx, hy, Sem.run_bind, run_eqGuard_int, Result.andThen_ok, binOp, ne_eq, not_true_eq_false, if_false, Op.intArith, Sem.run_pure, e]
theorem op_8to64N {P : Program} {o : Oper} {w : World} {ρ : Operand → Value} {s d : TypeId} {sd : TypeDesc} (hs : P.underlying s = some sd) (hd : P.underlying d = some (.int .u64)) {x : Operand} (ho : o.op = .convert s d x) {a : BitVec 8} (hx : ρ x = B8 a) : (execOp ρ o).run P w = .ok (.value (.int .u64 (a.toNat : Nat))) w := by
  rw [op_convert hs hd ho hx]
  have := a.isLt
  have e : IntKind.u64.wrap (a.toNat : Int) = a.toNat := by rw [Px.wrap64]; omega
  rw [e]
section
variable {R : Nat → Prop} {base w : World} {F : List Hp}
set_option maxRecDepth 100000 in
set_option maxHeartbeats 4000000 in
theorem rput8_s (hS : SepL R base w F) (x : Nat) (hx : x < 256 ^ 8) (_hx64 : x < 18446744073709551616) :
    Calls Tryd.prog 52 #[.int .u64 x, .int .i64 8] w (Ret fun r w' => ∃ v, r = .tuple #[v, .int .i64 0] ∧ SepL R base w' (.own 5 1 v (bytes (leB x 8)) :: F)) := by
  have hl := leB_len x 8
  have hAll : (leB x 8).take 8 = leB x 8 := List.take_of_length_le (by omega)
  have hN : ∀ k, k < 8 → (leB x 8).take k ++ [BitVec.ofNat 8 (x / 256 ^ k)] = (leB x 8).take (k + 1) := fun k hk => leB_take x hk
  generalize leB x 8 = B at *
  go_enter Tryd.func52, Tryd.ntmps52
  go_wp2_with fail
  go_loopw [22, 6, 0] (fun i u y wr => ∃ k z : Nat, i = .int .i64 k ∧ y = .int .u64 z ∧ z = x / 256 ^ k ∧ k ≤ 8 ∧ SepL R base wr (.own 5 1 u (bytes (B.take k)) :: F)) (fun i _ _ _ => 8 - (intOf i).toNat)
  case atStart => exact ⟨0, x, rfl, rfl, by simp, by omega, hS.nilOwn _ _⟩
  case round =>
    clear hS
    obtain ⟨k, z, rfl, rfl, hz, hk, hS⟩ := hrel
    have hzx : z ≤ x := by rw [hz]; exact Nat.div_le_self _ _
    by_cases hlt : k < 8
    · have HBL : Hid ((B.take k).length = k) := by
        unfold Hid
        rw [List.length_take]
        omega
      obtain ⟨r, hr⟩ : ∃ r, z % 256 = r := ⟨_, rfl⟩
      obtain ⟨q, hq⟩ : ∃ q, z / 256 = q := ⟨_, rfl⟩
      have HR := hide hr
      have HQ := hide hq
      have HST : Hid (B.take k ++ [BitVec.ofNat 8 r] = B.take (k + 1)) := by
        unfold Hid
        rw [← hN k hlt, ← hz, ← hr]
        congr 2
        apply BitVec.eq_of_toNat_eq
        simp
      have hqz : q = x / 256 ^ (k + 1) := by
        rw [← hq, hz, Nat.div_div_eq_div_mul, Nat.pow_succ]
      clear hr hq hN
      go_wp2_with (first
        | (show wpList _ _ _ (⟨some 26, .binOp _ _ _ _ _, _, _, _, _⟩ :: _) _ _; refine wpList_val rfl (op_uremN (b := 256) rfl rfl rfl (by omega)) ?_; rw [HR.out]; go_frame)
        | (show wpList _ _ _ (⟨some 27, .convert _ _ _, _, _, _, _⟩ :: _) _ _; refine wpList_val rfl (op_natTo8 undU64 undU8 rfl rfl) ?_; go_frame)
        | (show wpList _ _ _ (⟨some 28, .buildSlice _ _ _, _, _, _, _⟩ :: _) _ _; refine wpS_build11 slBytes hS rfl rfl rfl rfl ?_; clear hS; intro v28 w hS; rw [b1] at hS; go_frame)
        | (show wpList _ _ _ (⟨some 29, .call _, _, _, _, _⟩ :: _) _ _; (refine wpS_append slBytes (hS.bring (by repeat (first | exact t0 | apply tS))) rfl rfl rfl rfl ((hS.bring (by repeat (first | exact t0 | apply tS))).getOwn.rd) (flat_bytes _) (by rw [bytes_len, bytes_len, HBL.out]; simp only [List.length_cons, List.length_nil]; omega) (by rw [bytes_len, bytes_len, HBL.out]; simp only [List.length_cons, List.length_nil, maxLen]; omega) ?_); clear hS; intro v29 w hS; rw [← bytes_app, HST.out] at hS; go_frame)
        | (show wpList _ _ _ (⟨some 31, .binOp _ _ _ _ _, _, _, _, _⟩ :: _) _ _; refine wpList_val rfl (op_uquoN (b := 256) rfl rfl rfl (by omega) (by omega)) ?_; rw [HQ.out]; go_frame)
        )
      go_roundw
      case rel => exact ⟨k + 1, q, by go_num, rfl, hqz, by omega, hS.sel (by repeat (first | exact Sel.refl | refine Sel.take (by repeat (first | exact t0 | apply tS)) ?_ | apply Sel.drop))⟩
      case measure => simp [intOf]; omega
    · have hk2 : k = 8 := by omega
      subst hk2
      have hz0 : z = 0 := by
        rw [hz]
        exact Nat.div_eq_of_lt hx
      clear hz
      subst hz0
      rw [hAll] at hS
      have HG : Hid (decide ((0 : Int) < ((0 : Nat) : Int)) = false) := rfl
      go_wp2_with (first
        | (show wpList _ _ _ (⟨some 34, .binOp _ _ _ _ _, _, _, _, _⟩ :: _) _ _; refine wpList_val rfl (op_igtr rfl rfl rfl HG.out) ?_; go_frame)
        )
      exact ret_tmp2 rfl rfl rfl rfl ⟨_, rfl, hS⟩
set_option maxRecDepth 100000 in
set_option maxHeartbeats 4000000 in
theorem rput2_s (hS : SepL R base w F) (x : Nat) (hx : x < 256 ^ 2) (_hx64 : x < 18446744073709551616) :
    Calls Tryd.prog 52 #[.int .u64 x, .int .i64 2] w (Ret fun r w' => ∃ v, r = .tuple #[v, .int .i64 0] ∧ SepL R base w' (.own 5 1 v (bytes (leB x 2)) :: F)) := by
  have hl := leB_len x 2
  have hAll : (leB x 2).take 2 = leB x 2 := List.take_of_length_le (by omega)
  have hN : ∀ k, k < 2 → (leB x 2).take k ++ [BitVec.ofNat 8 (x / 256 ^ k)] = (leB x 2).take (k + 1) := fun k hk => leB_take x hk
  generalize leB x 2 = B at *
  go_enter Tryd.func52, Tryd.ntmps52
  go_wp2_with fail
  go_loopw [22, 6, 0] (fun i u y wr => ∃ k z : Nat, i = .int .i64 k ∧ y = .int .u64 z ∧ z = x / 256 ^ k ∧ k ≤ 2 ∧ SepL R base wr (.own 5 1 u (bytes (B.take k)) :: F)) (fun i _ _ _ => 2 - (intOf i).toNat)
  case atStart => exact ⟨0, x, rfl, rfl, by simp, by omega, hS.nilOwn _ _⟩
  case round =>
    clear hS
    obtain ⟨k, z, rfl, rfl, hz, hk, hS⟩ := hrel
    have hzx : z ≤ x := by rw [hz]; exact Nat.div_le_self _ _
    by_cases hlt : k < 2
    · have HBL : Hid ((B.take k).length = k) := by
        unfold Hid
        rw [List.length_take]
        omega
      obtain ⟨r, hr⟩ : ∃ r, z % 256 = r := ⟨_, rfl⟩
      obtain ⟨q, hq⟩ : ∃ q, z / 256 = q := ⟨_, rfl⟩
      have HR := hide hr
      have HQ := hide hq
      have HST : Hid (B.take k ++ [BitVec.ofNat 8 r] = B.take (k + 1)) := by
        unfold Hid
        rw [← hN k hlt, ← hz, ← hr]
        congr 2
        apply BitVec.eq_of_toNat_eq
        simp
      have hqz : q = x / 256 ^ (k + 1) := by
        rw [← hq, hz, Nat.div_div_eq_div_mul, Nat.pow_succ]
      clear hr hq hN
      go_wp2_with (first
        | (show wpList _ _ _ (⟨some 26, .binOp _ _ _ _ _, _, _, _, _⟩ :: _) _ _; refine wpList_val rfl (op_uremN (b := 256) rfl rfl rfl (by omega)) ?_; rw [HR.out]; go_frame)
        | (show wpList _ _ _ (⟨some 27, .convert _ _ _, _, _, _, _⟩ :: _) _ _; refine wpList_val rfl (op_natTo8 undU64 undU8 rfl rfl) ?_; go_frame)
        | (show wpList _ _ _ (⟨some 28, .buildSlice _ _ _, _, _, _, _⟩ :: _) _ _; refine wpS_build11 slBytes hS rfl rfl rfl rfl ?_; clear hS; intro v28 w hS; rw [b1] at hS; go_frame)
        | (show wpList _ _ _ (⟨some 29, .call _, _, _, _, _⟩ :: _) _ _; (refine wpS_append slBytes (hS.bring (by repeat (first | exact t0 | apply tS))) rfl rfl rfl rfl ((hS.bring (by repeat (first | exact t0 | apply tS))).getOwn.rd) (flat_bytes _) (by rw [bytes_len, bytes_len, HBL.out]; simp only [List.length_cons, List.length_nil]; omega) (by rw [bytes_len, bytes_len, HBL.out]; simp only [List.length_cons, List.length_nil, maxLen]; omega) ?_); clear hS; intro v29 w hS; rw [← bytes_app, HST.out] at hS; go_frame)
        | (show wpList _ _ _ (⟨some 31, .binOp _ _ _ _ _, _, _, _, _⟩ :: _) _ _; refine wpList_val rfl (op_uquoN (b := 256) rfl rfl rfl (by omega) (by omega)) ?_; rw [HQ.out]; go_frame)
        )
      go_roundw
      case rel => exact ⟨k + 1, q, by go_num, rfl, hqz, by omega, hS.sel (by repeat (first | exact Sel.refl | refine Sel.take (by repeat (first | exact t0 | apply tS)) ?_ | apply Sel.drop))⟩
      case measure => simp [intOf]; omega
    · have hk2 : k = 2 := by omega
      subst hk2
      have hz0 : z = 0 := by
        rw [hz]
        exact Nat.div_eq_of_lt hx
      clear hz
      subst hz0
      rw [hAll] at hS
      have HG : Hid (decide ((0 : Int) < ((0 : Nat) : Int)) = false) := rfl
      go_wp2_with (first
        | (show wpList _ _ _ (⟨some 34, .binOp _ _ _ _ _, _, _, _, _⟩ :: _) _ _; refine wpList_val rfl (op_igtr rfl rfl rfl HG.out) ?_; go_frame)
        )
      exact ret_tmp2 rfl rfl rfl rfl ⟨_, rfl, hS⟩
set_option maxRecDepth 100000 in
set_option maxHeartbeats 4000000 in
theorem rget8_s (hS : SepL R base w F) {v : Value} {bs : List Byte} (hv : RdIn R base 1 v (bytes bs)) (hl : bs.length = 8) :
    Calls Tryd.prog 62 #[v] w (Ret fun r w' => r = .tuple #[.int .u64 ((lePart bs 8).toNat : Nat), .int .i64 0] ∧ SepL R base w' F) := by
  have HL := hide hl
  have hG8 := gN_le bs
  have hGL := gN_lt bs
  have hGS := gN_succ bs
  have hG0 := gN_zero bs
  generalize (lePart bs 8).toNat = X at *
  generalize gN bs = g at *
  go_enter Tryd.func62, Tryd.ntmps62
  go_wp2_with (first
    | (show wpList _ _ _ (⟨_, .call ⟨.builtin .len, _, _⟩, _, _, _, _⟩ :: _) _ _; refine wpList_val rfl (op_lenB slBytes rfl rfl rfl (hS.rd hv) HL.out) ?_; go_frame)
    | (show wpList _ _ _ (⟨some 26, .binOp _ _ _ _ _, _, _, _, _⟩ :: _) _ _; refine wpList_val rfl (op_isubI rfl rfl rfl 7 (by omega) (by omega) (by omega)) ?_; go_frame)
    )
  go_loopw [5, 4] (fun i u wr => ∃ (m y : Nat) (z : Int), i = .int .i64 z ∧ u = .int .u64 y ∧ z = 7 - (m : Int) ∧ m ≤ 8 ∧ y = g m ∧ SepL R base wr F) (fun i _ _ => (intOf i + 1).toNat)
  case atStart => exact ⟨0, 0, 7, rfl, rfl, rfl, by omega, hG0.symm, hS⟩
  case round =>
    clear hS
    obtain ⟨m, y, z, rfl, rfl, hz, hm, hy, hS⟩ := hrel
    by_cases hlm : m < 8
    · obtain ⟨qq, hqq⟩ : ∃ q : Nat, q + m = 7 := ⟨7 - m, by omega⟩
      have hzq : z = (qq : Int) := by omega
      subst hzq
      have hqb : qq < bs.length := by omega
      obtain ⟨c, hc⟩ : ∃ c, bs[qq] = c := ⟨_, rfl⟩
      have HC : Hid (bs[qq] = c) := hc
      have hgm := hGL m
      have hpw : 256 ^ m ≤ 256 ^ 7 := Nat.pow_le_pow_right (by omega) (by omega)
      have hcl := c.isLt
      have hgs := hGS m
      rw [show 7 - m = qq by omega, List.getD_eq_getElem?_getD, List.getElem?_eq_getElem hqb, hc] at hgs
      have hgs2 : g (m + 1) = y * 256 + c.toNat := by rw [hy]; exact hgs
      have hy7 : y < 72057594037927936 := by
        rw [hy]
        exact Nat.lt_of_lt_of_le hgm hpw
      have HGE : Hid (decide ((0 : Int) ≤ (qq : Int)) = true) := by
        unfold Hid
        rw [decide_eq_true_iff]
        omega
      obtain ⟨y1, hy1⟩ : ∃ a, y * 256 = a := ⟨_, rfl⟩
      obtain ⟨y2, hy2⟩ : ∃ a, y1 + c.toNat = a := ⟨_, rfl⟩
      have hyy : y2 = g (m + 1) := by rw [hgs2, ← hy2, ← hy1]
      obtain ⟨z', hz'⟩ : ∃ z : Int, (qq : Int) - 1 = z := ⟨_, rfl⟩
      clear hgs hgs2 hGS hGL hgm hpw hc hz hy
      go_wp2_with (first
        | (show wpList _ _ _ (⟨some 28, .binOp _ _ _ _ _, _, _, _, _⟩ :: _) _ _; refine wpList_val rfl (op_igeq rfl rfl rfl HGE.out) ?_; go_frame)
        | (show wpList _ _ _ (⟨some 32, .binOp _ _ _ _ _, _, _, _, _⟩ :: _) _ _; refine wpList_val rfl (op_umulN (b := 256) rfl rfl rfl y1 hy1 (by omega)) ?_; go_frame)
        | (show wpList _ _ _ (⟨some 35, .indexAddr _ _ _, _, _, _, _⟩ :: _) _ _; refine wpList_val rfl (op_indexAddr slBytes rfl (v := v) rfl rfl (hS.rd hv) (by rw [bytes_len]; exact hqb)) ?_; go_frame)
        | (show wpList _ _ _ (⟨some 36, .load _ _, _, _, _, _⟩ :: _) _ _; refine wpList_val rfl (op_loadBE oneU8 rfl (v := v) (k := qq) rfl (hS.rd hv) hqb) ?_; rw [HC.out]; go_frame)
        | (show wpList _ _ _ (⟨some 37, .convert _ _ _, _, _, _, _⟩ :: _) _ _; refine wpList_val rfl (op_8to64N undU8 undU64 rfl rfl) ?_; go_frame)
        | (show wpList _ _ _ (⟨some 38, .binOp _ _ _ _ _, _, _, _, _⟩ :: _) _ _; refine wpList_val rfl (op_uaddN rfl rfl rfl y2 hy2 (by omega)) ?_; go_frame)
        | (show wpList _ _ _ (⟨some 30, .binOp _ _ _ _ _, _, _, _, _⟩ :: _) _ _; refine wpList_val rfl (op_isubI rfl rfl rfl z' (by omega) (by omega) (by omega)) ?_; go_frame)
        )
      go_roundw
      case rel => exact ⟨m + 1, y2, z', rfl, rfl, by omega, by omega, hyy, hS⟩
      case measure => simp [intOf]; omega
    · have hm8 : m = 8 := by omega
      subst hm8
      have hz1 : z = -1 := by omega
      subst hz1
      have hyX : y = X := hy.trans hG8
      subst hyX
      have HM1 : Hid (decide ((0 : Int) ≤ -1) = false) := rfl
      clear hz hy hG8 hGL hGS
      go_wp2_with (first
        | (show wpList _ _ _ (⟨some 28, .binOp _ _ _ _ _, _, _, _, _⟩ :: _) _ _; refine wpList_val rfl (op_igeq rfl rfl rfl HM1.out) ?_; go_frame)
        )
      exact ret_tmp2 rfl rfl rfl rfl ⟨rfl, hS⟩
set_option maxRecDepth 100000 in
set_option maxHeartbeats 4000000 in
theorem rpick_s (hS : SepL R base w F) {h : List Byte} (hh : h.length = 32) (n : Nat) (hn : 1 ≤ n) (hn2 : n ≤ 9223372036854775807) :
    Calls Tryd.prog 53 #[.agg (h.map B8).toArray, .int .i64 n] w (Ret fun r w' => r = .tuple #[.int .i64 (pickN h n : Nat), .int .i64 0] ∧ SepL R base w' F) := by
  have HLT : Hid (decide ((n : Int) < 1) = false) := by
    unfold Hid
    rw [decide_eq_false_iff_not]
    omega
  have HGT : ∀ {b : Nat} {w : World} {F : List Hp}, SepL R base w (.blk b 23 (h.map B8) :: F) → Calls Tryd.prog 62 #[.slice (some ⟨b, 0, none⟩) 8 32] w (Ret fun r w' => r = .tuple #[.int .u64 ((lePart h 8).toNat : Nat), .int .i64 0] ∧ SepL R base w' (.blk b 23 (h.map B8) :: F)) := fun {b w F} hs => by
    obtain ⟨R', h1, h2, h2', h3, h4⟩ := hs.freezeBlk
    have hc : CIn R' w b (h.map B8) := ⟨h2.cells, h2'⟩
    have hr := CIn.asRd hc (by rw [List.length_map]; simp [maxLen]; omega)
    rw [List.length_map, hh] at hr
    have hr2 := RdIn.takeV (v := .slice (some ⟨b, 0, none⟩) 32 32) (bs := h) hr (k := 8) (by omega)
    have hg := rget8_s h1 hr2 (by rw [List.length_take]; omega)
    rw [lePart_take h 8 8 (by omega)] at hg
    refine Ret.calls hg ?_
    rintro r w' ⟨h5, h6⟩
    exact ⟨h5, h4 w' _ h6⟩
  have hp := pickN_lt h (n := n) (by omega)
  have HPE : Hid ((lePart h 8).toNat % n = pickN h n) := pickN_eq
  generalize pickN h n = q at *
  generalize (lePart h 8).toNat = x at *
  go_enter Tryd.func53, Tryd.ntmps53
  go_wp2_with (first
    | (show wpList _ _ _ (⟨some 2, .box _ _, _, _, _, _⟩ :: _) _ _; refine wpS_boxA (cs := h.map B8) hS rfl rfl rfl ?_; clear hS; intro n2 w hS; go_frame)
    | (show wpList _ _ _ (⟨some 9, .binOp _ _ _ _ _, _, _, _, _⟩ :: _) _ _; refine wpList_val rfl (op_ilss rfl rfl rfl HLT.out) ?_; go_frame)
    | (show wpList _ _ _ (⟨some 11, .slice _ _ _ _ _, _, _, _, _⟩ :: _) _ _; refine wpList_val rfl (op_sliceArr arr32b rfl rfl (l := 0) (h := 8) (Or.inl ⟨rfl, rfl⟩) (Or.inr rfl) (by omega) (by omega)) ?_; rw [if_neg (by omega)]; go_frame)
    | (go_at_call 62; refine Ret.calls (HGT hS) ?_; clear hS; rintro r w ⟨rfl, hS⟩)
    | (show wpList _ _ _ (⟨some 17, .convert _ _ _, _, _, _, _⟩ :: _) _ _; refine wpList_val rfl (op_i64u64 undInt undU64 rfl rfl (by omega)) ?_; go_frame)
    | (show wpList _ _ _ (⟨some 18, .binOp _ _ _ _ _, _, _, _, _⟩ :: _) _ _; refine wpList_val rfl (op_uremN (a := x) rfl rfl rfl (by omega)) ?_; rw [HPE.out]; go_frame)
    | (show wpList _ _ _ (⟨some 19, .convert _ _ _, _, _, _, _⟩ :: _) _ _; refine wpList_val rfl (op_u64int undU64 undInt rfl rfl (by omega)) ?_; go_frame)
    )
  exact ret_tmp2 rfl rfl rfl rfl ⟨rfl, hS.sel (by repeat (first | exact Sel.refl | refine Sel.take (by repeat (first | exact t0 | apply tS)) ?_ | apply Sel.drop))⟩
set_option maxRecDepth 100000 in
set_option maxHeartbeats 4000000 in
theorem rpickArg_s (hS : SepL R base w F) {h : List Byte} (n : Int) (hn : n < 1) :
    Calls Tryd.prog 53 #[.agg (h.map B8).toArray, .int .i64 n] w (Ret fun r w' => r = .tuple #[.int .i64 0, .int .i64 2] ∧ SepL R base w' F) := by
  have HLT : Hid (decide ((n : Int) < 1) = true) := by
    unfold Hid
    rw [decide_eq_true_iff]
    omega
  clear hn
  go_enter Tryd.func53, Tryd.ntmps53
  go_wp2_with (first
    | (show wpList _ _ _ (⟨some 2, .box _ _, _, _, _, _⟩ :: _) _ _; refine wpS_boxA (cs := h.map B8) hS rfl rfl rfl ?_; clear hS; intro n2 w hS; go_frame)
    | (show wpList _ _ _ (⟨some 9, .binOp _ _ _ _ _, _, _, _, _⟩ :: _) _ _; refine wpList_val rfl (op_ilss rfl rfl rfl HLT.out) ?_; go_frame)
    )
  exact ret_tmp2 rfl rfl rfl rfl ⟨rfl, hS.sel (by repeat (first | exact Sel.refl | refine Sel.take (by repeat (first | exact t0 | apply tS)) ?_ | apply Sel.drop))⟩
theorem rmsum_arrO {T T1 b1 m1 : Nat} {u : Value} {xs ys : List Byte} (hS : SepL R base w (.own T 1 u (bytes ys) :: .blk b1 T1 (xs.map B8) :: F)) (hm1 : xs.length = m1) (hl1 : m1 ≤ 1000) (hl2 : ys.length ≤ 1000) :
    Calls Tryd.prog 54 #[.slice (some ⟨b1, 0, none⟩) m1 m1, u] w (Ret fun r w' => r = HV (hmac xs ys) ∧ SepL R base w' F) := by
  obtain ⟨R1, h1, h2, h3, h4⟩ := hS.freezeOwn
  obtain ⟨R2, g1, g2, g2', g3, g4⟩ := h1.freezeBlk
  have hc1 : CIn R2 w b1 (xs.map B8) := ⟨g2.cells, g2'⟩
  have hr1 := CIn.asRd hc1 (by rw [List.length_map]; simp [maxLen]; omega)
  rw [List.length_map, hm1] at hr1
  refine Ret.calls (rmsum_s g1 hr1 (by omega) (g3 _ _ _ h2) (by omega)) ?_
  rintro r w' ⟨h6, h7⟩
  exact ⟨h6, (h4 w' _ (g4 w' _ h7)).tail.tail⟩
set_option maxRecDepth 100000 in
set_option maxHeartbeats 4000000 in
theorem rrouteArg_s (hS : SepL R base w F) {sa : List Byte} (e : BitVec 64) (s n : Int) (h : s < 0 ∨ 64 < s ∨ n < 1) :
    Calls Tryd.prog 46 #[.agg (sa.map B8).toArray, W64 e, .int .i64 s, .int .i64 n] w (Ret fun r w' => r = .tuple #[.int .i64 0, .int .i64 2] ∧ SepL R base w' F) := by
  obtain ⟨d1, hd1⟩ : ∃ d, decide (s < 0) = d := ⟨_, rfl⟩
  obtain ⟨d2, hd2⟩ : ∃ d, decide (64 < s) = d := ⟨_, rfl⟩
  obtain ⟨d3, hd3⟩ : ∃ d, decide (n < 1) = d := ⟨_, rfl⟩
  have H1 := hide hd1
  have H2 := hide hd2
  have H3 := hide hd3
  have hor : d1 = true ∨ d2 = true ∨ d3 = true := by
    rw [← hd1, ← hd2, ← hd3]
    simpa using h
  clear hd1 hd2 hd3 h
  cases d1 <;> cases d2 <;> cases d3 <;> first
    | (simp at hor; done)
    | (clear hor
       go_enter Tryd.func46, Tryd.ntmps46
       go_wp2_with (first
         | (show wpList _ _ _ (⟨some 4, .box _ _, _, _, _, _⟩ :: _) _ _; refine wpS_boxA (cs := sa.map B8) hS rfl rfl rfl ?_; clear hS; intro n4 w hS; go_frame)
         | (show wpList _ _ _ (⟨some 15, .binOp _ _ _ _ _, _, _, _, _⟩ :: _) _ _; refine wpList_val rfl (op_ilss rfl rfl rfl H1.out) ?_; go_frame)
         | (show wpList _ _ _ (⟨some 18, .binOp _ _ _ _ _, _, _, _, _⟩ :: _) _ _; refine wpList_val rfl (op_igtr rfl rfl rfl H2.out) ?_; go_frame)
         | (show wpList _ _ _ (⟨some 22, .binOp _ _ _ _ _, _, _, _, _⟩ :: _) _ _; refine wpList_val rfl (op_ilss rfl rfl rfl H3.out) ?_; go_frame)
         )
       exact ret_tmp2 rfl rfl rfl rfl ⟨rfl, hS.sel (by repeat (first | exact Sel.refl | refine Sel.take (by repeat (first | exact t0 | apply tS)) ?_ | apply Sel.drop))⟩)
set_option maxRecDepth 100000 in
set_option maxHeartbeats 4000000 in
theorem rroute_s (hS : SepL R base w F) {sa : List Byte} (hsa : sa.length = 32) (e : BitVec 64) (s n : Nat) (hs : s ≤ 64) (hn : 1 ≤ n) (hn2 : n ≤ 9223372036854775807) :
    Calls Tryd.prog 46 #[.agg (sa.map B8).toArray, W64 e, .int .i64 s, .int .i64 n] w (Ret fun r w' => r = .tuple #[.int .i64 (routeN sa e s n : Nat), .int .i64 0] ∧ SepL R base w' F) := by
  have H1 : Hid (decide ((s : Int) < 0) = false) := by
    unfold Hid
    rw [decide_eq_false_iff_not]
    omega
  have H2 : Hid (decide ((64 : Int) < (s : Int)) = false) := by
    unfold Hid
    rw [decide_eq_false_iff_not]
    omega
  have H3 : Hid (decide ((n : Int) < 1) = false) := by
    unfold Hid
    rw [decide_eq_false_iff_not]
    omega
  have HSA := hide hsa
  have hRE := routeN_eq sa e s n
  have HTL := hide (text_len e s)
  have HTE := hide (text_leB e hs)
  have HB8 := hide (leB_len e.toNat 8)
  have HB2 := hide (leB_len s 2)
  have HP8 : ∀ {w : World} {F : List Hp}, SepL R base w F → Calls Tryd.prog 52 #[W64 e, .int .i64 8] w (Ret fun r w' => ∃ v, r = .tuple #[v, .int .i64 0] ∧ SepL R base w' (.own 5 1 v (bytes (leB e.toNat 8)) :: F)) := fun h => rput8_s h e.toNat (by have := e.isLt; omega) e.isLt
  have HP2 : ∀ {w : World} {F : List Hp}, SepL R base w F → Calls Tryd.prog 52 #[.int .u64 s, .int .i64 2] w (Ret fun r w' => ∃ v, r = .tuple #[v, .int .i64 0] ∧ SepL R base w' (.own 5 1 v (bytes (leB s 2)) :: F)) := fun h => rput2_s h s (by omega) (by omega)
  have HPK : ∀ {w : World} {F : List Hp}, SepL R base w F → Calls Tryd.prog 53 #[HV (hmac sa (text e s)), .int .i64 n] w (Ret fun r w' => r = .tuple #[.int .i64 (routeN sa e s n : Nat), .int .i64 0] ∧ SepL R base w' F) := fun hs => by
    have h2 := rpick_s hs (hmac_len sa (text e s)) n hn hn2
    rw [hRE] at h2
    exact h2
  generalize routeN sa e s n = q at *
  have MK : True := trivial
  clear hRE
  go_enter Tryd.func46, Tryd.ntmps46
  go_wp2_with (first
    | (show wpList _ _ _ (⟨some 4, .box _ _, _, _, _, _⟩ :: _) _ _; refine wpS_boxA (cs := sa.map B8) hS rfl rfl rfl ?_; clear hS; intro n4 w hS; go_frame)
    | (show wpList _ _ _ (⟨some 15, .binOp _ _ _ _ _, _, _, _, _⟩ :: _) _ _; refine wpList_val rfl (op_ilss rfl rfl rfl H1.out) ?_; go_frame)
    | (show wpList _ _ _ (⟨some 18, .binOp _ _ _ _ _, _, _, _, _⟩ :: _) _ _; refine wpList_val rfl (op_igtr rfl rfl rfl H2.out) ?_; go_frame)
    | (show wpList _ _ _ (⟨some 22, .binOp _ _ _ _ _, _, _, _, _⟩ :: _) _ _; refine wpList_val rfl (op_ilss rfl rfl rfl H3.out) ?_; go_frame)
    | (replace MK := MK; go_at_call 52; refine Ret.calls (HP8 hS) ?_; clear hS; rintro r w ⟨v8, rfl, hS⟩; clear MK)
    | (show wpList _ _ _ (⟨some 31, .convert _ _ _, _, _, _, _⟩ :: _) _ _; refine wpList_val rfl (op_i64u64 undInt undU64 rfl rfl (by omega)) ?_; go_frame)
    | (go_at_call 52; refine Ret.calls (HP2 hS) ?_; clear hS; rintro r w ⟨v2, rfl, hS⟩)
    )
  refine wp_region_text (by kernel_rfl) (by kernel_rfl) (by repeat (first | exact Clean.body | refine Clean.then ?_ | refine Clean.inBlock ?_)) ?_
  replace hS := hS.drew
  go_wp2_with (first
    | (show wpList _ _ _ (⟨some 35, .slice _ _ _ _ _, _, _, _, _⟩ :: _) _ _; refine wpList_val rfl (op_sliceArr arr32b rfl rfl (l := 0) (h := 32) (Or.inl ⟨rfl, rfl⟩) (Or.inl ⟨rfl, rfl⟩) (by omega) (by omega)) ?_; rw [if_neg (by omega)]; go_frame)
    | (show wpList _ _ _ (⟨some 38, .call _, _, _, _, _⟩ :: _) _ _; (refine wpS_append (sv := v8) slBytes (hS.bring (by repeat (first | exact t0 | apply tS))) rfl rfl rfl rfl ((hS.bring (by repeat (first | exact t0 | apply tS))).getOwn.rd) (flat_bytes _) (by rw [bytes_len, bytes_len, HB8.out, HB2.out]; omega) (by rw [bytes_len, bytes_len, HB8.out, HB2.out]; simp only [maxLen]; omega) ?_); clear hS; intro v38 w hS; rw [← bytes_app, HTE.out] at hS; go_frame)
    | (go_at_call 54; refine Ret.calls (rmsum_arrO (F := F) (hS.sel (by repeat (first | exact Sel.refl | refine Sel.take (by repeat (first | exact t0 | apply tS)) ?_ | apply Sel.drop))) HSA.out (by omega) (by rw [HTL.out]; omega)) ?_; clear hS; rintro r w ⟨rfl, hS⟩)
    | (go_at_call 53; refine Ret.calls (HPK hS) ?_; clear hS; rintro r w ⟨rfl, hS⟩)
    )
  refine fin_mk (by kernel_rfl) ?_
  go_wp2_with fail
  exact ret_tmp2 rfl rfl rfl rfl ⟨rfl, hS⟩
end
end Go.Proofs.YtlplgobkidpgkaaDoor
