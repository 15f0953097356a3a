/- What the document says that some ends see; what is secret; the examples. Conditions: those that stand ahead of each theorem. -/
import Derived.Test.YtnjeoaplohlgkaaDoorGTb
import Derived.Test.YtnjeoaplohlgkaaDoorInts
namespace Go.Proofs.YtnjeoaplohlgkaaDoor
open Go.RowKit Go.Px Go.Sha
def seesL (E : List Int) (L : List (Value × PS)) : List (Value × PS) := L.filter fun x => decide (x.2.to ∈ E)
theorem seesL_snd (E : List Int) (L : List (Value × PS)) : (seesL E L).map (·.2) = seesP E (L.map (·.2)) := by
  unfold seesL seesP
  rw [List.filter_map]
  rfl
theorem seesL_next {E : List Int} {L : List (Value × PS)} {k : Nat} (hk : k < L.length) : seesL E (L.take (k + 1)) = seesL E (L.take k) ++ (if L[k].2.to ∈ E then [L[k]] else []) := by
  unfold seesL
  rw [List.take_succ_eq_append_getElem hk, List.filter_append]
  congr 1
  by_cases h : L[k].2.to ∈ E
  · simp [h]
  · simp [h]
theorem sl320 (p : Nat) : Value.slice (some ⟨p, if 32 = 0 then 0 else 0 + 0, none⟩) (32 - 0) (32 - 0) = .slice (some ⟨p, 0, none⟩) 32 32 := rfl
theorem rdCells {w : World} {p off : Nat} {bs : List Byte} (hc : Cells w p off (bs.map B8)) (hl : bs.length = 32) : Rd 1 w (.slice (some ⟨p, off, none⟩) 32 32) (bytes bs) := by
  have h : (bytes bs).length = 32 := by rw [bytes_length, hl]
  refine ⟨some ⟨p, off, none⟩, 32, by rw [h], by rw [h]; exact Nat.le_refl _, by simp [maxLen], fun x hx => ?_, fun _ => ⟨p, off, rfl, ?_⟩⟩
  · unfold bytes at hx
    obtain ⟨u, _, rfl⟩ := List.mem_map.1 hx
    rfl
  · unfold bytes
    rw [flat1]
    exact hc
section
variable {R : Nat → Prop} {base w : World} {F : List Hp}
set_option maxRecDepth 100000 in
set_option maxHeartbeats 4000000 in
theorem sees_s (hS : SepL R base w F) {v e : Value} {L : List (Value × PS)} {E : List Int} (hv : SIn R base v L) (he : RdIn R base 1 e (E.map fun z => [I64 z])) (hl : L.length ≤ 10000) :
    Calls Tryd.prog 13 #[v, e] w (Ret fun r w' => SepL R base w' (.own 39 4 r ((seesL E L).map sC) :: F)) := by
  have HL : Hid ((L.map sC).length = L.length) := by simp [Hid]
  go_enter Tryd.func13, Tryd.ntmps13
  go_wp2_with (first
    | (show wpList _ _ _ (⟨_, .call ⟨.builtin .len, _, _⟩, _, _, _, _⟩ :: _) _ _; refine wpList_val rfl (op_len slSight rfl rfl (v := v) (xs := L.map sC) rfl (by exact hS.rd hv.rd)) ?_; rw [HL.out]; go_frame)
    )
  replace hS := hS.nilOwn 39 4
  go_loopw [5, 10] (fun ov iv wr => ∃ (k : Nat) (A : List (Value × PS)), iv = .int .i64 k ∧ k ≤ L.length ∧ Hid (A = seesL E (L.take k)) ∧ SepL R base wr (.own 39 4 ov (A.map sC) :: F)) (fun _ iv _ => L.length - (intOf iv).toNat)
  case atStart => exact ⟨0, [], rfl, by omega, rfl, hS⟩
  case round =>
    clear hS
    obtain ⟨k, A, rfl, hk, HA, hS⟩ := hrel
    by_cases hlt : k < L.length
    ·
      have hlk : k < (L.map sC).length := by rw [HL.out]; exact hlt
      obtain ⟨⟨u, s⟩, hx⟩ : ∃ x, L[k] = x := ⟨_, rfl⟩
      have hxm : (u, s) ∈ L := by rw [← hx]; exact List.getElem_mem hlt
      have HX : Hid ((L.map sC)[k] = sC (u, s)) := by
        unfold Hid
        rw [List.getElem_map, hx]
      have HUR := hide (hv.at_ _ hxm)
      have HU1 := hide (hS.rd HUR.out).one1
      have HUF := hide (sC_flat (x := (u, s)) HU1.out)
      have hal : A.length ≤ 10000 := by
        rw [HA.out]
        refine Nat.le_trans (List.length_filter_le _ _) ?_
        rw [List.length_take]
        omega
      have HA1 : Hid (((A.map sC).length + [sC (u, s)].length) * 48 ≤ 140737488355328) := by unfold Hid; rw [List.length_map, List.length_singleton]; omega
      have HA2 : Hid ((A.map sC).length + [sC (u, s)].length ≤ maxLen) := by unfold Hid maxLen; rw [List.length_map, List.length_singleton]; omega
      have hnx := seesL_next (E := E) hlt
      rw [hx] at hnx
      by_cases hmem : s.to ∈ E
      · have HMEM : Hid (decide (s.to ∈ E) = true) := decT hmem
        rw [if_pos (show (u, s).2.to ∈ E from hmem)] at hnx
        have HN : Hid (A ++ [(u, s)] = seesL E (L.take (k + 1))) := by
          unfold Hid
          rw [hnx, HA.out]
        clear hx hxm hal hnx hmem
        go_wp2_with (first
          | (show wpList _ _ _ (⟨some 12, .indexAddr _ _ _, _, _, _, _⟩ :: _) _ _; refine wpList_val rfl (op_indexAddr slSight rfl (v := v) (xs := L.map sC) rfl (k := k) rfl (by exact hS.rd hv.rd) hlk) ?_; go_frame)
          | (show wpList _ _ _ (⟨some 13, .load _ _, _, _, _, _⟩ :: _) _ _; refine wpList_val rfl (op_loadE aggSight rfl (v := v) (xs := L.map sC) (k := k) rfl (by exact hS.rd hv.rd) hlk) ?_; rw [HX.out]; go_frame)
          | (show wpList _ _ _ (⟨_, .alloc 39, _, _, _, _⟩ :: _) _ _; refine wpS_alloc hS rfl rfl Tryd.zeroValue39 (zs := [.int .i64 0, .int .i64 0, .int .i64 0, .slice none 0 0]) rfl ?_; clear hS; intro nb w hS; go_frame)
          | (show wpList _ _ _ (⟨_, .store 39 _ _, _, _, _, _⟩ :: _) _ _; (refine wpS_storeAll (b := nb) aggSight (hS.bring (by repeat (first | exact t0 | apply tS))) rfl rfl rfl (vs := sC (u, s)) rfl rfl HUF.out rfl ?_); clear hS; intro w hS; go_frame)
          | (show wpList _ _ _ (⟨_, .load 3 _, _, _, _, _⟩ :: _) _ _; refine wpList_val rfl (op_load1S (b := nb) (T := 39) oneInt ((hS.bring (by repeat (first | exact t0 | apply tS)))) rfl rfl rfl) ?_; go_frame)
          | (go_at_call 28; refine Ret.calls (has_s hS he s.to) ?_; clear hS; rw [HMEM.out]; rintro r w ⟨rfl, hS⟩)
          | (show wpList _ _ _ (⟨_, .load 39 _, _, _, _, _⟩ :: _) _ _; refine wpList_val rfl (op_load aggSight rfl rfl (SepL.getBlk (b := nb) (T := 39) ((hS.bring (by repeat (first | exact t0 | apply tS))))).cells rfl) ?_; go_frame)
          | (show wpList _ _ _ (⟨_, .buildSlice 23 1 _, _, _, _, _⟩ :: _) _ _; refine wpS_build1A slSight (by omega) hS rfl rfl (cs := sC (u, s)) rfl rfl ?_; clear hS; intro v2 w hS; go_frame)
          | (show wpList _ _ _ (⟨_, .call ⟨.builtin .append, _, _⟩, _, _, _, _⟩ :: _) _ _; (refine wpS_append slSight (hS.bring (by repeat (first | exact t0 | apply tS))) rfl rfl (sv := u5) (xs := A.map sC) (xv := v2) rfl rfl (ys := [sC (u, s)]) ((hS.bring (by repeat (first | exact t0 | apply tS))).getOwn.rd) (flat_sC HU1.out) HA1.out HA2.out ?_); clear hS; intro v3 w hS; go_frame)
          )
        go_roundw
        case rel => exact ⟨k + 1, A ++ [(u, s)], by go_num, by omega, HN, by rw [List.map_append, List.map_singleton]; exact hS.sel (by repeat (first | exact Sel.refl | refine Sel.take (by repeat (first | exact t0 | apply tS)) ?_ | apply Sel.drop))⟩
        case measure => simp [intOf]; omega
      · have HMEM : Hid (decide (s.to ∈ E) = false) := decF hmem
        rw [if_neg (show ¬ (u, s).2.to ∈ E from hmem), List.append_nil] at hnx
        have HN : Hid (A = seesL E (L.take (k + 1))) := by
          unfold Hid
          rw [hnx, HA.out]
        clear hx hxm hal hnx hmem
        go_wp2_with (first
          | (show wpList _ _ _ (⟨some 12, .indexAddr _ _ _, _, _, _, _⟩ :: _) _ _; refine wpList_val rfl (op_indexAddr slSight rfl (v := v) (xs := L.map sC) rfl (k := k) rfl (by exact hS.rd hv.rd) hlk) ?_; go_frame)
          | (show wpList _ _ _ (⟨some 13, .load _ _, _, _, _, _⟩ :: _) _ _; refine wpList_val rfl (op_loadE aggSight rfl (v := v) (xs := L.map sC) (k := k) rfl (by exact hS.rd hv.rd) hlk) ?_; rw [HX.out]; go_frame)
          | (show wpList _ _ _ (⟨_, .alloc 39, _, _, _, _⟩ :: _) _ _; refine wpS_alloc hS rfl rfl Tryd.zeroValue39 (zs := [.int .i64 0, .int .i64 0, .int .i64 0, .slice none 0 0]) rfl ?_; clear hS; intro nb w hS; go_frame)
          | (show wpList _ _ _ (⟨_, .store 39 _ _, _, _, _, _⟩ :: _) _ _; (refine wpS_storeAll (b := nb) aggSight (hS.bring (by repeat (first | exact t0 | apply tS))) rfl rfl rfl (vs := sC (u, s)) rfl rfl HUF.out rfl ?_); clear hS; intro w hS; go_frame)
          | (show wpList _ _ _ (⟨_, .load 3 _, _, _, _, _⟩ :: _) _ _; refine wpList_val rfl (op_load1S (b := nb) (T := 39) oneInt ((hS.bring (by repeat (first | exact t0 | apply tS)))) rfl rfl rfl) ?_; go_frame)
          | (go_at_call 28; refine Ret.calls (has_s hS he s.to) ?_; clear hS; rw [HMEM.out]; rintro r w ⟨rfl, hS⟩)
          | (show wpList _ _ _ (⟨_, .load 39 _, _, _, _, _⟩ :: _) _ _; refine wpList_val rfl (op_load aggSight rfl rfl (SepL.getBlk (b := nb) (T := 39) ((hS.bring (by repeat (first | exact t0 | apply tS))))).cells rfl) ?_; go_frame)
          | (show wpList _ _ _ (⟨_, .buildSlice 23 1 _, _, _, _, _⟩ :: _) _ _; refine wpS_build1A slSight (by omega) hS rfl rfl (cs := sC (u, s)) rfl rfl ?_; clear hS; intro v2 w hS; go_frame)
          | (show wpList _ _ _ (⟨_, .call ⟨.builtin .append, _, _⟩, _, _, _, _⟩ :: _) _ _; (refine wpS_append slSight (hS.bring (by repeat (first | exact t0 | apply tS))) rfl rfl (sv := u5) (xs := A.map sC) (xv := v2) rfl rfl (ys := [sC (u, s)]) ((hS.bring (by repeat (first | exact t0 | apply tS))).getOwn.rd) (flat_sC HU1.out) HA1.out HA2.out ?_); clear hS; intro v3 w hS; go_frame)
          )
        go_roundw
        case rel => exact ⟨k + 1, A, by go_num, by omega, HN, hS.sel (by repeat (first | exact Sel.refl | refine Sel.take (by repeat (first | exact t0 | apply tS)) ?_ | apply Sel.drop))⟩
        case measure => simp [intOf]; omega
    · have hk2 : k = L.length := by omega
      subst hk2
      have ha := HA.out
      rw [List.take_length] at ha
      subst ha
      go_wp2_with fail
      go_ret
      exact hS
set_option maxRecDepth 100000 in
set_option maxHeartbeats 4000000 in
theorem rsumT_s (hS : SepL R base w F) {v : Value} {L : List (Value × PS)} (hv : SIn R base v L) (hL : LOk (L.map (·.2))) :
    Calls Tryd.prog 17 #[v] w (Ret fun r w' => r = HV (sumT (L.map (·.2))) ∧ SepL R base w' F) := by
  have HL : Hid ((L.map sC).length = L.length) := by simp [Hid]
  have HLO := hide hL
  have hl0 := hL.len
  rw [List.length_map] at hl0
  clear hL
  go_enter Tryd.func17, Tryd.ntmps17
  go_wp2_with (first
    | (show wpList _ _ _ (⟨some 2, .alloc _, _, _, _, _⟩ :: _) _ _; refine wpS_alloc hS rfl rfl zero32b (zs := (List.replicate 32 (0 : Byte)).map B8) rfl ?_; clear hS; intro n2 w hS; go_frame)
    | (show wpList _ _ _ (⟨some 3, .alloc _, _, _, _, _⟩ :: _) _ _; refine wpS_alloc hS rfl rfl zero32b (zs := (List.replicate 32 (0 : Byte)).map B8) rfl ?_; clear hS; intro n3 w hS; go_frame)
    | (show wpList _ _ _ (⟨_, .call ⟨.builtin .len, _, _⟩, _, _, _, _⟩ :: _) _ _; refine wpList_val rfl (op_len slSight rfl rfl (v := v) (xs := L.map sC) rfl (by exact hS.rd hv.rd)) ?_; rw [HL.out]; go_frame)
    )
  go_loopw [9] (fun iv wr => ∃ (k : Nat) (h : List Byte), iv = .int .i64 k ∧ k ≤ L.length ∧ Hid (h = sumT ((L.map (·.2)).take k)) ∧ SepL R base wr (.blk n3 33 (h.map B8) :: .blk n2 33 ((List.replicate 32 (0 : Byte)).map B8) :: F)) (fun iv _ => L.length - (intOf iv).toNat)
  case atStart => exact ⟨0, _, rfl, by omega, rfl, hS⟩
  case round =>
    clear hS
    obtain ⟨k, h, rfl, hk, HH, hS⟩ := hrel
    have HHL : Hid (h.length = 32) := by unfold Hid; rw [HH.out, sumT_len]
    have HHL2 : Hid ((h.map B8).length = 32) := by unfold Hid; rw [List.length_map, HHL.out]
    by_cases hlt : k < L.length
    ·
      have hlk : k < (L.map sC).length := by rw [HL.out]; exact hlt
      obtain ⟨⟨u, s⟩, hx⟩ : ∃ x, L[k] = x := ⟨_, rfl⟩
      have hxm : (u, s) ∈ L := by rw [← hx]; exact List.getElem_mem hlt
      have HX : Hid ((L.map sC)[k] = sC (u, s)) := by
        unfold Hid
        rw [List.getElem_map, hx]
      have HUR := hide (hv.at_ _ hxm)
      have HU1 := hide (hS.rd HUR.out).one1
      have HUF := hide (sC_flat (x := (u, s)) HU1.out)
      have hb5 := (HLO.out.all s (List.mem_map.2 ⟨(u, s), hxm, rfl⟩)).few
      have HB1 : Hid (((bytes (h ++ num s.src ++ num s.to ++ num s.lane)).length + (bytes s.bytes).length) * 1 ≤ 140737488355328) := by
        unfold Hid
        simp only [bytes_length, List.length_append, num_len, HHL.out]
        omega
      have HB2 : Hid ((bytes (h ++ num s.src ++ num s.to ++ num s.lane)).length + (bytes s.bytes).length ≤ maxLen) := by
        unfold Hid maxLen
        simp only [bytes_length, List.length_append, num_len, HHL.out]
        omega
      have HTW : Hid ((h ++ num s.src ++ num s.to ++ num s.lane ++ s.bytes).length ≤ 1099511627776) := by
        unfold Hid
        simp only [List.length_append, num_len, HHL.out]
        omega
      have HTE : Hid (twice (h ++ num s.src ++ num s.to ++ num s.lane ++ s.bytes) = stepS h s) := by unfold Hid stepS; simp only [List.append_assoc]
      have HSL : Hid (((stepS h s).map B8).length = 32) := by unfold Hid; rw [List.length_map, stepS_len]
      have HN : Hid (stepS h s = sumT ((L.map (·.2)).take (k + 1))) := by
        unfold Hid
        rw [List.take_succ_eq_append_getElem (by rw [List.length_map]; exact hlt), sumT_snoc, ← HH.out, List.getElem_map, hx]
      obtain ⟨M1, hM1⟩ : ∃ m : Nat, m = 0 := ⟨0, rfl⟩
      obtain ⟨M2, hM2⟩ : ∃ m : Nat, m = 0 := ⟨0, rfl⟩
      clear hM1 hM2 hx hxm hb5
      go_wp2_with (first
        | (show wpList _ _ _ (⟨some 11, .indexAddr _ _ _, _, _, _, _⟩ :: _) _ _; refine wpList_val rfl (op_indexAddr slSight rfl (v := v) (xs := L.map sC) rfl (k := k) rfl (by exact hS.rd hv.rd) hlk) ?_; go_frame)
        | (show wpList _ _ _ (⟨some 12, .load _ _, _, _, _, _⟩ :: _) _ _; refine wpList_val rfl (op_loadE aggSight rfl (v := v) (xs := L.map sC) (k := k) rfl (by exact hS.rd hv.rd) hlk) ?_; rw [HX.out]; go_frame)
        | (show wpList _ _ _ (⟨_, .alloc 39, _, _, _, _⟩ :: _) _ _; refine wpS_alloc hS rfl rfl Tryd.zeroValue39 (zs := [.int .i64 0, .int .i64 0, .int .i64 0, .slice none 0 0]) rfl ?_; clear hS; intro nb w hS; go_frame)
        | (show wpList _ _ _ (⟨_, .store 39 _ _, _, _, _, _⟩ :: _) _ _; (refine wpS_storeAll (b := nb) aggSight (hS.bring (by repeat (first | exact t0 | apply tS))) rfl rfl rfl (vs := sC (u, s)) rfl rfl HUF.out rfl ?_); clear hS; intro w hS; go_frame)
        | (show wpList _ _ _ (⟨_, .buildSlice 37 0 _, _, _, _, _⟩ :: _) _ _; refine wpS_build0 slBytes hS rfl rfl ?_; clear hS; intro v13 w hS; go_frame)
        | (show wpList _ _ _ (⟨_, .slice _ _ none none _, _, _, _, _⟩ :: _) _ _; refine wpList_val rfl (op_sliceArr arr32b rfl rfl (l := 0) (h := 32) (Or.inl ⟨rfl, rfl⟩) (Or.inl ⟨rfl, rfl⟩) (by omega) (by omega)) ?_; rw [sl320]; go_frame)
        | (show wpList _ _ _ (⟨some 15, .call _, _, _, _, _⟩ :: _) _ _; (refine wpS_append slBytes (hS.bring (by repeat (first | exact t0 | apply tS))) rfl rfl (sv := v13) (xs := []) (xv := .slice (some ⟨n3, 0, none⟩) 32 32) rfl rfl (ys := bytes h) (rdCells (SepL.getBlk (b := n3) (T := 33) ((hS.bring (by repeat (first | exact t0 | apply tS))))).cells HHL.out) (flat_bytes _) (by simp only [bytes_length, List.length_nil, HHL.out]; omega) (by simp only [bytes_length, List.length_nil, HHL.out, maxLen]; omega) ?_); clear hS; intro v15 w hS; rw [List.nil_append] at hS; go_frame)
        | (show wpList _ _ _ (⟨_, .load 3 _, _, _, _, _⟩ :: _) _ _; refine wpList_val rfl (op_load1S (b := nb) (T := 39) oneInt ((hS.bring (by repeat (first | exact t0 | apply tS)))) rfl rfl rfl) ?_; go_frame)
        | (have m1 := M1; clear m1; go_at_call 31; refine Ret.calls (num_s hS s.src) ?_; clear hS M1; rintro e1 w hS)
        | (have m1 := M2; clear m1; go_at_call 31; refine Ret.calls (num_s hS s.to) ?_; clear hS M2; rintro e2 w hS)
        | (go_at_call 31; refine Ret.calls (num_s hS s.lane) ?_; clear hS; rintro e3 w hS)
        | (show wpList _ _ _ (⟨some 20, .call _, _, _, _, _⟩ :: _) _ _; (refine wpS_append slBytes (hS.bring (by repeat (first | exact t0 | apply tS))) rfl rfl (sv := v15) (xs := bytes h) (xv := e1) rfl rfl (ys := bytes (num s.src)) ((hS.bring (by repeat (first | exact t0 | apply tS))).getOwn.rd) (flat_bytes _) (by simp only [bytes_length, num_len, HHL.out]; omega) (by simp only [bytes_length, num_len, HHL.out, maxLen]; omega) ?_); clear hS; intro v20 w hS; rw [← bytes_app] at hS; go_frame)
        | (show wpList _ _ _ (⟨some 25, .call _, _, _, _, _⟩ :: _) _ _; (refine wpS_append slBytes (hS.bring (by repeat (first | exact t0 | apply tS))) rfl rfl (sv := v20) (xs := bytes (h ++ num s.src)) (xv := e2) rfl rfl (ys := bytes (num s.to)) ((hS.bring (by repeat (first | exact t0 | apply tS))).getOwn.rd) (flat_bytes _) (by simp only [bytes_length, List.length_append, num_len, HHL.out]; omega) (by simp only [bytes_length, List.length_append, num_len, HHL.out, maxLen]; omega) ?_); clear hS; intro v25 w hS; rw [← bytes_app] at hS; go_frame)
        | (show wpList _ _ _ (⟨some 30, .call _, _, _, _, _⟩ :: _) _ _; (refine wpS_append slBytes (hS.bring (by repeat (first | exact t0 | apply tS))) rfl rfl (sv := v25) (xs := bytes (h ++ num s.src ++ num s.to)) (xv := e3) rfl rfl (ys := bytes (num s.lane)) ((hS.bring (by repeat (first | exact t0 | apply tS))).getOwn.rd) (flat_bytes _) (by simp only [bytes_length, List.length_append, num_len, HHL.out]; omega) (by simp only [bytes_length, List.length_append, num_len, HHL.out, maxLen]; omega) ?_); clear hS; intro v30 w hS; rw [← bytes_app] at hS; go_frame)
        | (show wpList _ _ _ (⟨some 33, .load _ _, _, _, _, _⟩ :: _) _ _; refine wpList_val rfl (op_load1S (b := nb) (T := 39) oneBytes ((hS.bring (by repeat (first | exact t0 | apply tS)))) rfl rfl rfl) ?_; go_frame)
        | (show wpList _ _ _ (⟨some 34, .call _, _, _, _, _⟩ :: _) _ _; (refine wpS_append slBytes (hS.bring (by repeat (first | exact t0 | apply tS))) rfl rfl (sv := v30) (xs := bytes (h ++ num s.src ++ num s.to ++ num s.lane)) (xv := u) rfl rfl (ys := bytes s.bytes) (hS.rd HUR.out) (flat_bytes _) (HB1.out) (HB2.out) ?_); clear hS; intro v34 w hS; rw [← bytes_app] at hS; go_frame)
        | (go_at_call 32; (refine Ret.calls (rtwice_own (bs := h ++ num s.src ++ num s.to ++ num s.lane ++ s.bytes) (hS.bring (by repeat (first | exact t0 | apply tS))) HTW.out) ?_); clear hS; rw [HTE.out]; rintro r w ⟨rfl, hS⟩)
        | (show wpList _ _ _ (⟨_, .store 33 (.tmp 3) _, _, _, _, _⟩ :: _) _ _; (refine wpS_storeAll (b := n3) agg32b (hS.bring (by repeat (first | exact t0 | apply tS))) rfl rfl rfl (vs := (stepS h s).map B8) rfl HSL.out (B8_one _) HHL2.out ?_); clear hS; intro w hS; go_frame)
        )
      go_roundw
      case rel => exact ⟨k + 1, _, by go_num, by omega, HN, hS.sel (by repeat (first | exact Sel.refl | refine Sel.take (by repeat (first | exact t0 | apply tS)) ?_ | apply Sel.drop))⟩
      case measure => simp [intOf]; omega
    · have hk2 : k = L.length := by omega
      subst hk2
      have hh := HH.out
      rw [List.take_of_length_le (by rw [List.length_map]; exact Nat.le_refl _)] at hh
      go_wp2_with (first
        | (show wpList _ _ _ (⟨_, .load 33 _, _, _, _, _⟩ :: _) _ _; refine wpList_val rfl (op_load agg32b rfl rfl (SepL.getBlk (b := n3) (T := 33) ((hS.bring (by repeat (first | exact t0 | apply tS))))).cells HHL2.out) ?_; go_frame)
        | (show wpList _ _ _ (⟨_, .store 33 _ _, _, _, _, _⟩ :: _) _ _; (refine wpS_storeAll (b := n2) agg32b (hS.bring (by repeat (first | exact t0 | apply tS))) rfl rfl rfl (vs := h.map B8) rfl HHL2.out (B8_one _) (by rw [List.length_map, List.length_replicate]) ?_); clear hS; intro w hS; go_frame)
        )
      exact ret_cell (b := n2) agg32b rfl rfl rfl ((hS.bring (by repeat (first | exact t0 | apply tS))).getBlk) HHL2.out ⟨by rw [← hh]; rfl, hS.sel (by repeat (first | exact Sel.refl | refine Sel.take (by repeat (first | exact t0 | apply tS)) ?_ | apply Sel.drop))⟩
theorem sumN_take (l : List Nat) {k : Nat} (hk : k < l.length) : (l.take (k + 1)).sum = (l.take k).sum + l[k] := by
  rw [List.take_succ_eq_append_getElem hk, List.sum_append]
  simp
theorem sumN_le (l : List Nat) (k : Nat) : (l.take k).sum ≤ l.sum := by
  conv => rhs; rw [← List.take_append_drop k l]
  rw [List.sum_append]
  omega
set_option maxRecDepth 100000 in
set_option maxHeartbeats 4000000 in
theorem great_s (hS : SepL R base w F) {v : Value} {L : List (Value × PS)} (hv : SIn R base v L) {b : Bool} (hb : greatB (L.map (·.2)) = b) :
    Calls Tryd.prog 10 #[v] w (Ret fun r w' => r = .bool b ∧ SepL R base w' F) := by
  have HL : Hid ((L.map sC).length = L.length) := by simp [Hid]
  have hmax := (hS.rd hv.rd).len
  rw [HL.out] at hmax
  unfold maxLen at hmax
  unfold greatB at hb
  rw [List.length_map] at hb
  by_cases h1 : 100 < L.length
  · have HG : Hid (decide ((100 : Int) < (L.length : Int)) = true) := decT (by omega)
    rw [decide_eq_true h1, Bool.true_or] at hb
    subst hb
    clear h1
    go_enter Tryd.func10, Tryd.ntmps10
    go_wp2_with (first
      | (show wpList _ _ _ (⟨some 7, .call _, _, _, _, _⟩ :: _) _ _; refine wpList_val rfl (op_len slSight rfl rfl (v := v) (xs := L.map sC) rfl (by exact hS.rd hv.rd)) ?_; rw [HL.out]; go_frame)
      | (show wpList _ _ _ (⟨some 8, .binOp _ _ _ _ _, _, _, _, _⟩ :: _) _ _; refine wpList_val rfl (op_igtr rfl rfl rfl HG.out) ?_; go_frame)
      | (show wpList _ _ _ (⟨some 10, .call _, _, _, _, _⟩ :: _) _ _; refine wpList_val rfl (op_len slSight rfl rfl (v := v) (xs := L.map sC) rfl (by exact hS.rd hv.rd)) ?_; rw [HL.out]; go_frame)
      )
    go_ret
    exact ⟨rfl, hS⟩
  · have HG : Hid (decide ((100 : Int) < (L.length : Int)) = false) := decF (by omega)
    rw [decide_eq_false h1, Bool.false_or] at hb
    obtain ⟨N, hN⟩ : ∃ N, (L.map (·.2)).map (fun s => min s.bytes.length 5001) = N := ⟨_, rfl⟩
    rw [hN] at hb
    have hnl : N.length = L.length := by rw [← hN, List.length_map, List.length_map]
    have HB := hide hb
    have HNN := hide hN
    have HNL := hide hnl
    clear h1 hb hN hnl
    go_enter Tryd.func10, Tryd.ntmps10
    go_wp2_with (first
      | (show wpList _ _ _ (⟨some 7, .call _, _, _, _, _⟩ :: _) _ _; refine wpList_val rfl (op_len slSight rfl rfl (v := v) (xs := L.map sC) rfl (by exact hS.rd hv.rd)) ?_; rw [HL.out]; go_frame)
      | (show wpList _ _ _ (⟨some 8, .binOp _ _ _ _ _, _, _, _, _⟩ :: _) _ _; refine wpList_val rfl (op_igtr rfl rfl rfl HG.out) ?_; go_frame)
      | (show wpList _ _ _ (⟨some 10, .call _, _, _, _, _⟩ :: _) _ _; refine wpList_val rfl (op_len slSight rfl rfl (v := v) (xs := L.map sC) rfl (by exact hS.rd hv.rd)) ?_; rw [HL.out]; go_frame)
      )
    go_loopw [3, 11] (fun nv iv wr => ∃ k s0 : Nat, iv = .int .i64 k ∧ nv = .int .i64 s0 ∧ k ≤ L.length ∧ s0 ≤ 5000 ∧ Hid ((N.take k).sum = s0) ∧ SepL R base wr F) (fun _ iv _ => L.length - (intOf iv).toNat)
    case atStart => exact ⟨0, 0, rfl, rfl, by omega, by omega, rfl, hS⟩
    case round =>
      clear hS
      obtain ⟨k, s0, rfl, rfl, hk, hs0, HS0, hS⟩ := hrel
      by_cases hlt : k < L.length
      ·
        have hlk : k < (L.map sC).length := by rw [HL.out]; exact hlt
        obtain ⟨⟨u, s⟩, hx⟩ : ∃ x, L[k] = x := ⟨_, rfl⟩
        have hxm : (u, s) ∈ L := by rw [← hx]; exact List.getElem_mem hlt
        have HX : Hid ((L.map sC)[k] = sC (u, s)) := by
          unfold Hid
          rw [List.getElem_map, hx]
        have HUR := hide (hv.at_ _ hxm)
        have HU1 := hide (hS.rd HUR.out).one1
        have HUF := hide (sC_flat (x := (u, s)) HU1.out)
        have hnk : k < N.length := by rw [HNL.out]; exact hlt
        have HBN : Hid ((bytes s.bytes).length = s.bytes.length) := bytes_length _
        obtain ⟨q, hq⟩ : ∃ q, min s.bytes.length 5001 = q := ⟨_, rfl⟩
        have HQ := hide hq
        have hq1 : q ≤ 5001 := by omega
        have hnq : N[k] = q := by
          simp only [← HNN.out, List.getElem_map, hx]
          exact hq
        obtain ⟨s1, hs1⟩ : ∃ s, s0 + q = s := ⟨_, rfl⟩
        have hst := sumN_take N hnk
        rw [HS0.out, hnq, hs1] at hst
        by_cases hg : 5000 < s1
        · have HG5 : Hid (decide ((5000 : Int) < (s1 : Int)) = true) := decT (by omega)
          have hbt : b = true := by
            rw [← HB.out, decide_eq_true_eq]
            have := sumN_le N (k + 1)
            omega
          subst hbt
          clear hx hxm hq hnq hst hnk hg
          go_wp2_with (first
            | (show wpList _ _ _ (⟨some 13, .indexAddr _ _ _, _, _, _, _⟩ :: _) _ _; refine wpList_val rfl (op_indexAddr slSight rfl (v := v) (xs := L.map sC) rfl (k := k) rfl (by exact hS.rd hv.rd) hlk) ?_; go_frame)
            | (show wpList _ _ _ (⟨some 14, .load _ _, _, _, _, _⟩ :: _) _ _; refine wpList_val rfl (op_loadE aggSight rfl (v := v) (xs := L.map sC) (k := k) rfl (by exact hS.rd hv.rd) hlk) ?_; rw [HX.out]; go_frame)
            | (show wpList _ _ _ (⟨_, .alloc 39, _, _, _, _⟩ :: _) _ _; refine wpS_alloc hS rfl rfl Tryd.zeroValue39 (zs := [.int .i64 0, .int .i64 0, .int .i64 0, .slice none 0 0]) rfl ?_; clear hS; intro nb w hS; go_frame)
            | (show wpList _ _ _ (⟨_, .store 39 _ _, _, _, _, _⟩ :: _) _ _; (refine wpS_storeAll (b := nb) aggSight (hS.bring (by repeat (first | exact t0 | apply tS))) rfl rfl rfl (vs := sC (u, s)) rfl rfl HUF.out rfl ?_); clear hS; intro w hS; go_frame)
            | (show wpList _ _ _ (⟨some 17, .load _ _, _, _, _, _⟩ :: _) _ _; refine wpList_val rfl (op_load1S (b := nb) (T := 39) oneBytes ((hS.bring (by repeat (first | exact t0 | apply tS)))) rfl rfl rfl) ?_; go_frame)
            | (show wpList _ _ _ (⟨some 18, .call _, _, _, _, _⟩ :: _) _ _; refine wpList_val rfl (op_len slBytes rfl rfl (v := u) (xs := bytes s.bytes) rfl (hS.rd HUR.out)) ?_; rw [HBN.out]; go_frame)
            | (show wpList _ _ _ (⟨some 19, .call _, _, _, _, _⟩ :: _) _ _; refine wpList_val rfl (op_minN (b := 5001) rfl rfl rfl) ?_; rw [HQ.out]; go_frame)
            | (show wpList _ _ _ (⟨some 20, .binOp _ _ _ _ _, _, _, _, _⟩ :: _) _ _; refine wpList_val rfl (op_iaddN rfl rfl rfl s1 (by omega) (by omega)) ?_; go_frame)
            | (show wpList _ _ _ (⟨some 22, .binOp _ _ _ _ _, _, _, _, _⟩ :: _) _ _; refine wpList_val rfl (op_igtr rfl rfl rfl HG5.out) ?_; go_frame)
            )
          go_ret
          exact ⟨rfl, hS.sel (by repeat (first | exact Sel.refl | refine Sel.take (by repeat (first | exact t0 | apply tS)) ?_ | apply Sel.drop))⟩
        · have HG5 : Hid (decide ((5000 : Int) < (s1 : Int)) = false) := decF (by omega)
          have hs15 : s1 ≤ 5000 := by omega
          have HST := hide hst
          clear hx hxm hq hnq hst hnk hg
          go_wp2_with (first
            | (show wpList _ _ _ (⟨some 13, .indexAddr _ _ _, _, _, _, _⟩ :: _) _ _; refine wpList_val rfl (op_indexAddr slSight rfl (v := v) (xs := L.map sC) rfl (k := k) rfl (by exact hS.rd hv.rd) hlk) ?_; go_frame)
            | (show wpList _ _ _ (⟨some 14, .load _ _, _, _, _, _⟩ :: _) _ _; refine wpList_val rfl (op_loadE aggSight rfl (v := v) (xs := L.map sC) (k := k) rfl (by exact hS.rd hv.rd) hlk) ?_; rw [HX.out]; go_frame)
            | (show wpList _ _ _ (⟨_, .alloc 39, _, _, _, _⟩ :: _) _ _; refine wpS_alloc hS rfl rfl Tryd.zeroValue39 (zs := [.int .i64 0, .int .i64 0, .int .i64 0, .slice none 0 0]) rfl ?_; clear hS; intro nb w hS; go_frame)
            | (show wpList _ _ _ (⟨_, .store 39 _ _, _, _, _, _⟩ :: _) _ _; (refine wpS_storeAll (b := nb) aggSight (hS.bring (by repeat (first | exact t0 | apply tS))) rfl rfl rfl (vs := sC (u, s)) rfl rfl HUF.out rfl ?_); clear hS; intro w hS; go_frame)
            | (show wpList _ _ _ (⟨some 17, .load _ _, _, _, _, _⟩ :: _) _ _; refine wpList_val rfl (op_load1S (b := nb) (T := 39) oneBytes ((hS.bring (by repeat (first | exact t0 | apply tS)))) rfl rfl rfl) ?_; go_frame)
            | (show wpList _ _ _ (⟨some 18, .call _, _, _, _, _⟩ :: _) _ _; refine wpList_val rfl (op_len slBytes rfl rfl (v := u) (xs := bytes s.bytes) rfl (hS.rd HUR.out)) ?_; rw [HBN.out]; go_frame)
            | (show wpList _ _ _ (⟨some 19, .call _, _, _, _, _⟩ :: _) _ _; refine wpList_val rfl (op_minN (b := 5001) rfl rfl rfl) ?_; rw [HQ.out]; go_frame)
            | (show wpList _ _ _ (⟨some 20, .binOp _ _ _ _ _, _, _, _, _⟩ :: _) _ _; refine wpList_val rfl (op_iaddN rfl rfl rfl s1 (by omega) (by omega)) ?_; go_frame)
            | (show wpList _ _ _ (⟨some 22, .binOp _ _ _ _ _, _, _, _, _⟩ :: _) _ _; refine wpList_val rfl (op_igtr rfl rfl rfl HG5.out) ?_; go_frame)
            )
          go_roundw
          case rel => exact ⟨k + 1, s1, by go_num, rfl, by omega, hs15, HST, hS.sel (by repeat (first | exact Sel.refl | refine Sel.take (by repeat (first | exact t0 | apply tS)) ?_ | apply Sel.drop))⟩
          case measure => simp [intOf]; omega
      · have hk2 : k = L.length := by omega
        subst hk2
        have hs := HS0.out
        rw [List.take_of_length_le (by rw [HNL.out]; exact Nat.le_refl _)] at hs
        have hbf : b = false := by
          rw [← HB.out, decide_eq_false_iff_not]
          omega
        subst hbf
        go_wp2_with fail
        go_ret
        exact ⟨rfl, hS⟩
end
end Go.Proofs.YtnjeoaplohlgkaaDoor
namespace Go.Proofs.YtnjeoaplohlgkaaDoor
open Go.RowKit Go.Px Go.Sha
/-- where an element is first; -1: nowhere -/
def ixOf {α : Type} [DecidableEq α] (x : α) : List α → Int
  | [] => -1
  | y :: l => if y = x then 0 else if ixOf x l = -1 then -1 else ixOf x l + 1
theorem ix_range {α : Type} [DecidableEq α] (x : α) : ∀ l : List α, -1 ≤ ixOf x l ∧ ixOf x l < l.length
  | [] => by simp [ixOf]
  | y :: l => by
    have := ix_range x l
    unfold ixOf
    simp only [List.length_cons]
    split
    · omega
    · split <;> omega
theorem ix_none {α : Type} [DecidableEq α] {x : α} : ∀ {l : List α}, x ∉ l → ixOf x l = -1
  | [], _ => rfl
  | y :: l, h => by
    simp only [List.mem_cons, not_or] at h
    unfold ixOf
    rw [if_neg (fun e => h.1 e.symm), if_pos (ix_none h.2)]
theorem ix_at {α : Type} [DecidableEq α] {x : α} : ∀ {l m : List α}, x ∉ l → ixOf x (l ++ x :: m) = l.length
  | [], m, _ => by simp [ixOf]
  | y :: l, m, h => by
    simp only [List.mem_cons, not_or] at h
    have ih := ix_at (m := m) h.2
    rw [List.cons_append]
    unfold ixOf
    rw [if_neg (fun e => h.1 e.symm), ih, if_neg (by omega)]
    simp
theorem mem_first {α : Type} [DecidableEq α] {x : α} : ∀ {l : List α}, x ∈ l → ∃ a b, l = a ++ x :: b ∧ x ∉ a
  | [], h => by cases h
  | y :: l, h => by
    by_cases hy : x = y
    · subst hy
      exact ⟨[], l, rfl, by simp⟩
    · rcases List.mem_cons.1 h with e | e
      · exact absurd e hy
      · obtain ⟨a, b, rfl, hn⟩ := mem_first e
        exact ⟨y :: a, b, rfl, by simp [hy, hn]⟩
theorem ix_mem {α : Type} [DecidableEq α] {x : α} {l : List α} : (0 ≤ ixOf x l) ↔ x ∈ l := by
  constructor
  · intro h
    apply Classical.byContradiction
    intro hn
    rw [ix_none hn] at h
    omega
  · intro h
    obtain ⟨a, b, rfl, hn⟩ := mem_first h
    rw [ix_at hn]
    omega
set_option maxRecDepth 100000 in
set_option maxHeartbeats 2000000 in
theorem index_int (v : Value) (l : List Int) (x : Int) (w : World) (hv : Rd 1 w v (l.map fun z => [I64 z])) :
    Calls Tryd.prog 38 #[v, I64 x] w (Ret fun r w' => r = .int .i64 (ixOf x l) ∧ w' = w) := by
  have HL : Hid ((l.map fun z => [I64 z]).length = l.length) := by simp [Hid]
  have hmax : l.length ≤ maxLen := by
    have := hv.len
    rwa [HL.out] at this
  unfold maxLen at hmax
  go_enter Tryd.func38, Tryd.ntmps38
  go_wp2_with (first
    | (show wpList _ _ _ (⟨_, .call ⟨.builtin .len, _, _⟩, _, _, _, _⟩ :: _) _ _; refine wpList_val rfl (op_len slInt rfl rfl rfl (by exact hv)) ?_; rw [HL.out]; go_frame)
    | (show wpList _ _ _ (⟨_, .indexAddr 22 _ _, _, _, _, _⟩ :: _) _ _; refine wpList_val rfl (op_indexAddr slInt rfl rfl (k := k) rfl (by exact hv) hlt') ?_; go_frame)
    | (show wpList _ _ _ (⟨_, .load 3 _, _, _, _, _⟩ :: _) _ _; refine wpList_val rfl (op_loadE1 oneInt rfl rfl (f := I64) (by exact hv) hlt) ?_; rw [HX.out]; go_frame)
    )
  go_loop [8] (fun i => ∃ k : Nat, i = .int .i64 k ∧ k ≤ l.length ∧ x ∉ l.take k) (fun i => l.length - (intOf i).toNat)
  case atStart => exact ⟨0, rfl, by omega, by simp⟩
  case round =>
    obtain ⟨k, rfl, hk, hno⟩ := hrel
    by_cases hlt : k < l.length
    · have hlt' : k < (l.map fun z => [I64 z]).length := by simpa using hlt
      have hsp : l = l.take k ++ l[k] :: l.drop (k + 1) := by
        rw [← List.drop_eq_getElem_cons hlt, List.take_append_drop]
      obtain ⟨y, hy⟩ : ∃ y, l[k] = y := ⟨_, rfl⟩
      have HX := hide hy
      have hn : l.take (k + 1) = l.take k ++ [y] := by rw [List.take_succ_eq_append_getElem hlt, hy]
      rw [hy] at hsp
      have hlk : (l.take k).length = k := by simp; omega
      clear hy
      by_cases he : x = y
      · have HR : Hid (ixOf x l = k) := by
          unfold Hid
          rw [hsp, ← he, ix_at hno, hlk]
        have HE : Hid ((x : Int) = y) := he
        clear hsp hn he hno hlk
        go_wp2_with (first
          | (show wpList _ _ _ (⟨_, .call ⟨.builtin .len, _, _⟩, _, _, _, _⟩ :: _) _ _; refine wpList_val rfl (op_len slInt rfl rfl rfl (by exact hv)) ?_; rw [HL.out]; go_frame)
          | (show wpList _ _ _ (⟨_, .indexAddr 22 _ _, _, _, _, _⟩ :: _) _ _; refine wpList_val rfl (op_indexAddr slInt rfl rfl (k := k) rfl (by exact hv) hlt') ?_; go_frame)
          | (show wpList _ _ _ (⟨_, .load 3 _, _, _, _, _⟩ :: _) _ _; refine wpList_val rfl (op_loadE1 oneInt rfl rfl (f := I64) (by exact hv) hlt) ?_; rw [HX.out]; go_frame)
          | (show wpList _ _ _ (⟨some 16, .binOp _ _ _ _ _, _, _, _, _⟩ :: _) _ _; refine wpList_val rfl (op_eqI rfl rfl rfl HE.out) ?_; go_frame)
          )
        go_ret
        exact ⟨by rw [HR.out]; rfl, rfl⟩
      · have HE : Hid ((x == y) = false) := by
          unfold Hid
          rw [beq_eq_false_iff_ne]
          exact he
        have hno' : x ∉ l.take (k + 1) := by
          rw [hn]
          simp [hno, he]
        clear hsp hn he hno hlk
        go_wp2_with (first
          | (show wpList _ _ _ (⟨_, .call ⟨.builtin .len, _, _⟩, _, _, _, _⟩ :: _) _ _; refine wpList_val rfl (op_len slInt rfl rfl rfl (by exact hv)) ?_; rw [HL.out]; go_frame)
          | (show wpList _ _ _ (⟨_, .indexAddr 22 _ _, _, _, _, _⟩ :: _) _ _; refine wpList_val rfl (op_indexAddr slInt rfl rfl (k := k) rfl (by exact hv) hlt') ?_; go_frame)
          | (show wpList _ _ _ (⟨_, .load 3 _, _, _, _, _⟩ :: _) _ _; refine wpList_val rfl (op_loadE1 oneInt rfl rfl (f := I64) (by exact hv) hlt) ?_; rw [HX.out]; go_frame)
          | (show wpList _ _ _ (⟨some 16, .binOp _ _ _ _ _, _, _, _, _⟩ :: _) _ _; refine wpList_val rfl (op_eqI' rfl rfl rfl HE.out) ?_; go_frame)
          )
        go_round
        case rel => exact ⟨k + 1, by go_num, by omega, hno'⟩
        case measure => simp [intOf]; omega
    · have hk2 : k = l.length := by omega
      subst hk2
      rw [List.take_length] at hno
      have HR := hide (ix_none hno)
      clear hno
      go_wp2_with fail
      go_ret
      exact ⟨by rw [HR.out]; rfl, rfl⟩
set_option maxRecDepth 100000 in
theorem contains_int (v : Value) (l : List Int) (x : Int) (w : World) (hv : Rd 1 w v (l.map fun z => [I64 z])) {b : Bool} (hb : Hid (decide (x ∈ l) = b)) :
    Calls Tryd.prog 33 #[v, I64 x] w (Ret fun r w' => r = .bool b ∧ w' = w) := by
  have H := index_int v l x w hv
  have HG : Hid (decide ((0 : Int) ≤ ixOf x l) = b) := by
    unfold Hid
    rw [← hb.out, decide_eq_decide]
    exact ix_mem
  generalize ixOf x l = j at *
  go_enter Tryd.func33, Tryd.ntmps33
  go_wp2_with (first
    | (go_at_call 38; refine Ret.calls H ?_; rintro r w' ⟨rfl, rfl⟩)
    | (show wpList _ _ _ (⟨some 8, .binOp _ _ _ _ _, _, _, _, _⟩ :: _) _ _; refine wpList_val rfl (op_igeq rfl rfl rfl HG.out) ?_; go_frame)
    )
  go_ret
  exact ⟨rfl, rfl⟩
def secretB (z : Int) (E : List Int) : Bool := decide (z = 64) || (decide (0 ≤ z) && decide (z < 64) && !decide (z ∈ E))
set_option maxRecDepth 100000 in
set_option maxHeartbeats 1000000 in
theorem secret_s (v : Value) (E : List Int) (z : Int) (w : World) (hv : Rd 1 w v (E.map fun z => [I64 z])) {b : Bool} (hb : secretB z E = b) :
    Calls Tryd.prog 18 #[I64 z, v] w (Ret fun r w' => r = .bool b ∧ w' = w) := by
  obtain ⟨c, hc⟩ : ∃ c, decide (z ∈ E) = c := ⟨_, rfl⟩
  have HC := contains_int v E z w hv (b := c) hc
  unfold secretB at hb
  rw [hc] at hb
  by_cases h1 : z = 64
  · have H1 := eqT h1
    rw [decide_eq_true h1, Bool.true_or] at hb
    subst hb
    clear h1 hc HC hv
    go_enter Tryd.func18, Tryd.ntmps18
    go_wp2_with (first
      | go_big_skip
      | (show wpList _ _ _ (⟨some 6, .binOp _ _ _ _ _, _, _, _, _⟩ :: _) _ _; refine wpList_val rfl (op_eqI' rfl rfl rfl H1.out) ?_; go_frame)
      )
    go_ret
    exact ⟨rfl, rfl⟩
  · have H1 := eqF h1
    rw [decide_eq_false h1, Bool.false_or] at hb
    by_cases h2 : 0 ≤ z
    · have H2 : Hid (decide (0 ≤ z) = true) := decT h2
      rw [decide_eq_true h2, Bool.true_and] at hb
      by_cases h3 : z < 64
      · have H3 : Hid (decide (z < 64) = true) := decT h3
        rw [decide_eq_true h3, Bool.true_and] at hb
        subst hb
        clear h1 h2 h3 hc hv
        go_enter Tryd.func18, Tryd.ntmps18
        go_wp2_with (first
          | go_big_skip
          | (show wpList _ _ _ (⟨some 6, .binOp _ _ _ _ _, _, _, _, _⟩ :: _) _ _; refine wpList_val rfl (op_eqI' rfl rfl rfl H1.out) ?_; go_frame)
          | (show wpList _ _ _ (⟨some 8, .binOp _ _ _ _ _, _, _, _, _⟩ :: _) _ _; refine wpList_val rfl (op_igeq rfl rfl rfl H2.out) ?_; go_frame)
          | (show wpList _ _ _ (⟨some 11, .binOp _ _ _ _ _, _, _, _, _⟩ :: _) _ _; refine wpList_val rfl (op_ilss rfl rfl rfl H3.out) ?_; go_frame)
          | (go_at_call 33; refine Ret.calls HC ?_; rintro r w' ⟨rfl, rfl⟩)
          )
        go_ret
        exact ⟨rfl, rfl⟩
      · have H3 : Hid (decide (z < 64) = false) := decF h3
        rw [decide_eq_false h3, Bool.false_and] at hb
        subst hb
        clear h1 h2 h3 hc HC hv
        go_enter Tryd.func18, Tryd.ntmps18
        go_wp2_with (first
          | go_big_skip
          | (show wpList _ _ _ (⟨some 6, .binOp _ _ _ _ _, _, _, _, _⟩ :: _) _ _; refine wpList_val rfl (op_eqI' rfl rfl rfl H1.out) ?_; go_frame)
          | (show wpList _ _ _ (⟨some 8, .binOp _ _ _ _ _, _, _, _, _⟩ :: _) _ _; refine wpList_val rfl (op_igeq rfl rfl rfl H2.out) ?_; go_frame)
          | (show wpList _ _ _ (⟨some 11, .binOp _ _ _ _ _, _, _, _, _⟩ :: _) _ _; refine wpList_val rfl (op_ilss rfl rfl rfl H3.out) ?_; go_frame)
          )
        go_ret
        exact ⟨rfl, rfl⟩
    · have H2 : Hid (decide (0 ≤ z) = false) := decF h2
      rw [decide_eq_false h2, Bool.false_and, Bool.false_and] at hb
      subst hb
      clear h1 h2 hc HC hv
      go_enter Tryd.func18, Tryd.ntmps18
      go_wp2_with (first
        | go_big_skip
        | (show wpList _ _ _ (⟨some 6, .binOp _ _ _ _ _, _, _, _, _⟩ :: _) _ _; refine wpList_val rfl (op_eqI' rfl rfl rfl H1.out) ?_; go_frame)
        | (show wpList _ _ _ (⟨some 8, .binOp _ _ _ _ _, _, _, _, _⟩ :: _) _ _; refine wpList_val rfl (op_igeq rfl rfl rfl H2.out) ?_; go_frame)
        )
      go_ret
      exact ⟨rfl, rfl⟩
end Go.Proofs.YtnjeoaplohlgkaaDoor
namespace Go.Proofs.YtnjeoaplohlgkaaDoor
open Go.RowKit Go.Px Go.Sha
def s1 : PS := ⟨1, 2, 0, []⟩
def s2 : PS := ⟨2, 3, 0, []⟩
def s3 : PS := ⟨2, 1, 0, [7#8]⟩
def g3 (v : Value) : List (Value × PS) := [(.slice none 0 0, s1), (.slice none 0 0, s2), (v, s3)]
theorem b13 : [I64 1, I64 3].map (fun v => v.cells.toList) = ([1, 3] : List Int).map fun z => [I64 z] := rfl
theorem e13 : ∀ z ∈ ([1, 3] : List Int), In64 z := by
  intro z hz
  simp only [List.mem_cons, List.not_mem_nil, or_false] at hz
  unfold In64
  omega
theorem build8 (w : World) : (Instr.build 39 #[(0, I64 1), (1, I64 2)]).run Tryd.prog w = .ok (.agg (sC (.slice none 0 0, s1)).toArray) w := run_build w 39 _ _ (by kernel_rfl)
theorem build9 (w : World) : (Instr.build 39 #[(0, I64 2), (1, I64 3)]).run Tryd.prog w = .ok (.agg (sC (.slice none 0 0, s2)).toArray) w := run_build w 39 _ _ (by kernel_rfl)
theorem Rd.isSl {n : Nat} {w : World} {v : Value} {xs : List (List Value)} (h : Rd n w v xs) : ∃ A l c, v = .slice A l c := by
  obtain ⟨A, cap, rfl, _⟩ := h.form
  exact ⟨A, _, cap, rfl⟩
theorem build11 {v : Value} (hv : ∃ A l c, v = .slice A l c) (w : World) : (Instr.build 39 #[(0, I64 2), (1, I64 1), (3, v)]).run Tryd.prog w = .ok (.agg (sC (v, s3)).toArray) w := by
  obtain ⟨A, l, c, rfl⟩ := hv
  exact run_build w 39 _ _ (by kernel_rfl)
theorem sz3 {v : Value} : ∀ x ∈ [Value.agg (sC (.slice none 0 0, s1)).toArray, .agg (sC (.slice none 0 0, s2)).toArray, .agg (sC (v, s3)).toArray], x.cells.size = 4 := by
  intro x hx
  simp only [List.mem_cons, List.not_mem_nil, or_false] at hx
  rcases hx with rfl | rfl | rfl <;> rfl
theorem s23_ok : LOk [s2, s3] := by
  refine ⟨by simp, fun s hs => ?_⟩
  simp only [List.mem_cons, List.not_mem_nil, or_false] at hs
  rcases hs with rfl | rfl <;> exact ⟨by simp [In64, s2, s3], by simp [In64, s2, s3], by simp [In64, s2, s3], by simp [s2, s3]⟩
theorem g3_ok {v : Value} : LOk ((g3 v).map (·.2)) := by
  refine ⟨by simp [g3], fun s hs => ?_⟩
  simp only [g3, List.map_cons, List.map_nil, List.mem_cons, List.not_mem_nil, or_false] at hs
  rcases hs with rfl | rfl | rfl <;> exact ⟨by simp [In64, s1, s2, s3], by simp [In64, s1, s2, s3], by simp [In64, s1, s2, s3], by simp [s1, s2, s3]⟩
theorem g3_sees (v : Value) : [] ++ seesP [1, 3] ((g3 v).map (·.2)) = [s2, s3] := by
  simp [g3, seesP, s1, s2, s3]
theorem two_of {q : List (Value × PS)} (h : q.map (·.2) = [s2, s3]) : ∃ a c, q = [(a, s2), (c, s3)] := by
  match q, h with
  | [(a, x), (c, y)], h =>
    simp only [List.map_cons, List.map_nil, List.cons.injEq, and_true] at h
    obtain ⟨rfl, rfl⟩ := h
    exact ⟨a, c, rfl⟩
theorem sec1 : secretB 64 [1] = true := rfl
theorem sec2 : secretB 1 [1] = false := rfl
theorem sec3 : secretB 65 [] = false := rfl
section
variable {R : Nat → Prop} {base w : World} {F : List Hp}
theorem g3_of {v u : Value} (hS : SepL R base w (.own 39 4 v ([Value.agg (sC (.slice none 0 0, s1)).toArray, .agg (sC (.slice none 0 0, s2)).toArray, .agg (sC (u, s3)).toArray].map fun v => v.cells.toList) :: .own 5 1 u [[.int .u8 7]] :: F)) : SepL R base w (hG v (g3 u) :: F) := by
  have h1 := hSg_nil ((hS.nilOwn 5 1).nilOwn 5 1)
  have h2 := hSg_snoc (s := s1) (u := .slice none 0 0) (m := []) h1
  have h3 := hSg_snoc (s := s2) (u := .slice none 0 0) h2
  have h4 := hSg_snoc (s := s3) (u := u) (h3.perm (List.Perm.cons _ (List.Perm.swap _ _ _)))
  exact hG_of (h4.perm (List.Perm.swap _ _ _))
theorem new_own {T : Nat} {v : Value} {E : List Int} (hS : SepL R base w (.own T 1 v (E.map fun z => [I64 z]) :: F)) (hE : ∀ z ∈ E, In64 z) :
    Calls Tryd.prog 11 #[v] w (Ret fun r w' => ∃ p, r = .pointer (some ⟨p, 0, none⟩) ∧ SepL R base w' (.own T 1 v (E.map fun z => [I64 z]) :: hW p E [] :: F)) := by
  obtain ⟨R', h1, h2, h3, h4⟩ := hS.freezeOwn
  refine Ret.calls (new_w h1 h2 hE) ?_
  rintro r w' ⟨p, rfl, h5⟩
  exact ⟨p, rfl, h4 w' _ h5⟩
theorem see_own {p : Nat} {E : List Int} {S0 : List PS} {v : Value} {L : List (Value × PS)} (hS : SepL R base w (hG v L :: hW p E S0 :: F)) (hK : CIn R base 1 (kTab.map W32)) (hF : CIn R base 0 (first.map W32)) (hL : LOk (L.map (·.2))) (h0 : S0.length + L.length ≤ 10000) :
    Calls Tryd.prog 12 #[.pointer (some ⟨p, 0, none⟩), v] w (Ret fun _ w' => SepL R base w' (hG v L :: hW p E (S0 ++ seesP E (L.map (·.2))) :: F)) := by
  obtain ⟨R', h1, h2, h3, h4⟩ := hG_freeze hS
  refine Ret.calls (see_s h1 (kTab_mv hK h3) (first_mv hF h3) h2 hL h0) ?_
  intro r w' h5
  exact h4 w' _ h5
theorem rsumT_own {v : Value} {l : List (Value × PS)} (hS : SepL R base w (hG v l :: F)) (hL : LOk (l.map (·.2))) :
    Calls Tryd.prog 17 #[v] w (Ret fun r w' => r = HV (sumT (l.map (·.2))) ∧ SepL R base w' (hG v l :: F)) := by
  obtain ⟨R', h1, h2, h3, h4⟩ := hG_freeze hS
  refine Ret.calls (rsumT_s h1 h2 hL) ?_
  rintro r w' ⟨h5, h6⟩
  exact ⟨h5, h4 w' _ h6⟩
set_option maxRecDepth 100000 in
set_option maxHeartbeats 4000000 in
theorem alive_s (hS : SepL R base w F) (hK : CIn R base 1 (kTab.map W32)) (hF : CIn R base 0 (first.map W32)) :
    Calls Tryd.prog 9 #[] w (Ret fun r w' => r = .bool true ∧ SepL R base w' F) := by
  obtain ⟨M1, hM1⟩ : ∃ m : Nat, m = 0 := ⟨0, rfl⟩
  obtain ⟨M2, hM2⟩ : ∃ m : Nat, m = 0 := ⟨0, rfl⟩
  clear hM1 hM2
  go_enter Tryd.func9, Tryd.ntmps9
  go_wp2_with (first
    | go_big_skip
    | (show wpList _ _ _ (⟨some 3, .buildSlice _ _ _, _, _, _, _⟩ :: _) _ _; refine wpS_buildL slInt hS rfl rfl [I64 1, I64 3] rfl rfl (by omega) (by omega) (by simp [Value.cells]) ?_; clear hS; intro v3 w hS; rw [b13] at hS; go_frame)
    | (go_at_call 11; refine Ret.calls (new_own hS e13) ?_; clear hS; rintro r w ⟨p, rfl, hS⟩)
    | (show wpList _ _ _ (⟨some 8, .build _ _, _, _, _, _⟩ :: _) _ _; refine wpList_val rfl (op_build (ps := #[(0, I64 1), (1, I64 2)]) rfl rfl build8 _) ?_; go_frame)
    | (show wpList _ _ _ (⟨some 9, .build _ _, _, _, _, _⟩ :: _) _ _; refine wpList_val rfl (op_build (ps := #[(0, I64 2), (1, I64 3)]) rfl rfl build9 _) ?_; go_frame)
    | (show wpList _ _ _ (⟨some 10, .buildSlice _ _ _, _, _, _, _⟩ :: _) _ _; refine wpS_build11 slBytes hS rfl rfl (u := .int .u8 7) rfl rfl ?_; clear hS; intro v10 w hS; have HS10 := hide (Rd.isSl hS.getOwn.rd); go_frame)
    | (show wpList _ _ _ (⟨some 11, .build _ _, _, _, _, _⟩ :: _) _ _; refine wpList_val rfl (op_build (ps := #[(0, I64 2), (1, I64 1), (3, v10)]) rfl rfl (build11 HS10.out) _) ?_; go_frame)
    | (show wpList _ _ _ (⟨some 12, .buildSlice _ _ _, _, _, _, _⟩ :: _) _ _; refine wpS_buildL slSight hS rfl rfl [.agg (sC (.slice none 0 0, s1)).toArray, .agg (sC (.slice none 0 0, s2)).toArray, .agg (sC (v10, s3)).toArray] rfl rfl (by omega) (by omega) sz3 ?_; clear hS; intro v12 w hS; replace hS := g3_of hS; go_frame)
    | (go_at_call 12; refine Ret.calls (see_own (E := [1, 3]) (S0 := []) (L := g3 v10) (F := F) (hS.sel (by repeat (first | exact Sel.refl | refine Sel.take (by repeat (first | exact t0 | apply tS)) ?_ | apply Sel.drop))) hK hF g3_ok (by simp [g3])) ?_; clear hS; rintro r w hS; rw [g3_sees] at hS)
    | (go_at_call 15; (refine Ret.calls (all_s (p := p) (E := [1, 3]) (S := [s2, s3]) (hS.bring (by repeat (first | exact t0 | apply tS))) s23_ok) ?_); clear hS; rintro r w ⟨q, hq, hS⟩; obtain ⟨a, c, rfl⟩ := two_of hq; clear hq)
    | go_big_skip
    | (show wpList _ _ _ (⟨some 17, .call _, _, _, _, _⟩ :: _) _ _; refine wpList_val rfl (op_len slSight rfl rfl (v := r) (xs := [(a, s2), (c, s3)].map sC) rfl (hG_srd ((hS.bring (by repeat (first | exact t0 | apply tS))))).rd) ?_; go_frame)
    | (show wpList _ _ _ (⟨some 21, .indexAddr _ _ _, _, _, _, _⟩ :: _) _ _; refine wpList_val rfl (op_indexAddrZ slSight rfl (v := r) (xs := [(a, s2), (c, s3)].map sC) rfl rfl (hG_srd ((hS.bring (by repeat (first | exact t0 | apply tS))))).rd 0 rfl (by simp)) ?_; go_frame)
    | (show wpList _ _ _ (⟨some 22, .fieldAddr _ _ _, _, _, _, _⟩ :: _) _ _; refine wpList_val rfl (op_fieldAddrE (j := 1) (by kernel_rfl) rfl (n := 4) (v := r) (k := 0) (xs := [(a, s2), (c, s3)].map sC) rfl (hG_srd ((hS.bring (by repeat (first | exact t0 | apply tS))))).rd (by simp)) ?_; go_frame)
    | (show wpList _ _ _ (⟨some 23, .load _ _, _, _, _, _⟩ :: _) _ _; refine wpList_val rfl (op_loadF1 oneInt rfl (n := 4) (v := r) (k := 0) (j := 1) (xs := [(a, s2), (c, s3)].map sC) rfl (hG_srd ((hS.bring (by repeat (first | exact t0 | apply tS))))).rd (by simp) (u := I64 3) rfl) ?_; go_frame)
    | (show wpList _ _ _ (⟨some 28, .indexAddr _ _ _, _, _, _, _⟩ :: _) _ _; refine wpList_val rfl (op_indexAddrZ slSight rfl (v := r) (xs := [(a, s2), (c, s3)].map sC) rfl rfl (hG_srd ((hS.bring (by repeat (first | exact t0 | apply tS))))).rd 1 rfl (by simp)) ?_; go_frame)
    | (show wpList _ _ _ (⟨some 29, .fieldAddr _ _ _, _, _, _, _⟩ :: _) _ _; refine wpList_val rfl (op_fieldAddrE (j := 3) (by kernel_rfl) rfl (n := 4) (v := r) (k := 1) (xs := [(a, s2), (c, s3)].map sC) rfl (hG_srd ((hS.bring (by repeat (first | exact t0 | apply tS))))).rd (by simp)) ?_; go_frame)
    | (show wpList _ _ _ (⟨some 30, .load _ _, _, _, _, _⟩ :: _) _ _; refine wpList_val rfl (op_loadF1 oneBytes rfl (n := 4) (v := r) (k := 1) (j := 3) (xs := [(a, s2), (c, s3)].map sC) rfl (hG_srd ((hS.bring (by repeat (first | exact t0 | apply tS))))).rd (by simp) (u := c) rfl) ?_; go_frame)
    | (show wpList _ _ _ (⟨some 31, .call _, _, _, _, _⟩ :: _) _ _; refine wpList_val rfl (op_len slBytes rfl rfl (v := c) (xs := bytes s3.bytes) rfl ((hG_srd ((hS.bring (by repeat (first | exact t0 | apply tS))))).at_ (c, s3) (by simp))) ?_; go_frame)
    | (show wpList _ _ _ (⟨some 35, .buildSlice _ _ _, _, _, _, _⟩ :: _) _ _; refine wpS_build11 slInt hS rfl rfl (u := I64 1) rfl rfl ?_; clear hS; intro v35 w hS; go_frame)
    | (show wpList _ _ _ (⟨some 39, .buildSlice _ _ _, _, _, _, _⟩ :: _) _ _; refine wpS_build11 slInt hS rfl rfl (u := I64 1) rfl rfl ?_; clear hS; intro v39 w hS; go_frame)
    | (have m1 := M1; clear m1; go_at_call 18; refine Ret.calls (secret_s v35 [1] 64 _ ((hS.bring (by repeat (first | exact t0 | apply tS))).getOwn.rd) sec1) ?_; clear M1; rintro r1 w' ⟨rfl, rfl⟩)
    | (have m1 := M2; clear m1; go_at_call 18; refine Ret.calls (secret_s v39 [1] 1 _ ((hS.bring (by repeat (first | exact t0 | apply tS))).getOwn.rd) sec2) ?_; clear M2; rintro r1 w' ⟨rfl, rfl⟩)
    | (go_at_call 18; refine Ret.calls (secret_s (.slice none 0 0) [] 65 _ Rd.nil sec3) ?_; rintro r1 w' ⟨rfl, rfl⟩)
    | (go_at_call 16; (refine Ret.calls (sumW_s (p := p) (E := [1, 3]) (S := [s2, s3]) (hS.bring (by repeat (first | exact t0 | apply tS)))) ?_); clear hS; rintro r1 w ⟨rfl, hS⟩)
    | (go_at_call 17; (refine Ret.calls (rsumT_own (l := [(a, s2), (c, s3)]) (hS.bring (by repeat (first | exact t0 | apply tS))) s23_ok) ?_); clear hS; rintro r1 w ⟨rfl, hS⟩)
    | (show wpList _ _ _ (⟨some 52, .binOp _ _ _ _ _, _, _, _, _⟩ :: _) _ _; refine wpList_val rfl (op_eqHash rfl rfl rfl (sumT_len [s2, s3]) rfl) ?_; go_frame)
    )
  go_ret
  exact ⟨rfl, hS.sel (by repeat (first | exact Sel.refl | refine Sel.take (by repeat (first | exact t0 | apply tS)) ?_ | apply Sel.drop))⟩
end
end Go.Proofs.YtnjeoaplohlgkaaDoor
namespace Go.Proofs.YtnjeoaplohlgkaaDoor
open Go.RowKit Go.Px Go.Sha
structure AIn (s : PS) : Prop where
  src : In64 s.src
  to : In64 s.to
  lane : In64 s.lane
theorem lok_of {L : List (Value × PS)} (h : ∀ x ∈ L, AIn x.2) (hg : greatB (L.map (·.2)) = false) : LOk (L.map (·.2)) := by
  obtain ⟨h1, h2⟩ := heft_le hg
  refine ⟨by omega, fun s hs => ?_⟩
  obtain ⟨x, hx, rfl⟩ := List.mem_map.1 hs
  have h3 := h2 _ hs
  exact ⟨(h x hx).src, (h x hx).to, (h x hx).lane, by omega⟩
theorem qlen {q : List (Value × PS)} {S : List PS} (h : q.map (·.2) = S) (hS : LOk S) : q.length ≤ 100000 := by
  have h1 := hS.len
  rw [← h, List.length_map] at h1
  omega
theorem qfew {q : List (Value × PS)} {S : List PS} (h : q.map (·.2) = S) (hS : LOk S) : ∀ x ∈ q, x.2.bytes.length ≤ 100000 := fun x hx => (hS.all x.2 (by rw [← h]; exact List.mem_map.2 ⟨x, hx, rfl⟩)).few
section
variable {R : Nat → Prop} {base w : World} {F : List Hp}
theorem rsumT_list {v : Value} {l : List (Value × PS)} (hS : SepL R base w (.own 39 4 v (l.map sC) :: F)) (hat : ∀ x ∈ l, RdIn R base 1 x.1 (bytes x.2.bytes)) (hL : LOk (l.map (·.2))) :
    Calls Tryd.prog 17 #[v] w (Ret fun r w' => r = HV (sumT (l.map (·.2))) ∧ SepL R base w' (.own 39 4 v (l.map sC) :: F)) := by
  obtain ⟨R', h1, h2, h3, h4⟩ := hS.freezeOwn
  refine Ret.calls (rsumT_s h1 ⟨h2, fun x hx => h3 _ _ _ (hat x hx)⟩ hL) ?_
  rintro r w' ⟨h5, h6⟩
  exact ⟨h5, h4 w' _ h6⟩
end
end Go.Proofs.YtnjeoaplohlgkaaDoor
