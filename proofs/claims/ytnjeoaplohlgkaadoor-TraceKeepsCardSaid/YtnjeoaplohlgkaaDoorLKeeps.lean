/- What is shown is neither changed nor kept: the law returns true. Conditions: those that stand ahead of each theorem. -/
import Derived.Test.YtnjeoaplohlgkaaDoorLPieces
namespace Go.Proofs.YtnjeoaplohlgkaaDoor
open Go.RowKit Go.Px Go.Sha
def to5 (s : PS) : PS := { s with to := 5 }
theorem sC_to5 (u : Value) (s : PS) : (sC (u, s)).set 1 (I64 5) = sC (u, to5 s) := rfl
theorem e5 : ∀ z ∈ ([5] : List Int), In64 z := by
  intro z hz
  rw [List.mem_singleton.1 hz]
  unfold In64
  omega
theorem op_iaddW {P : Program} {o : Oper} {w : World} {ρ : Operand → Value} {t t' : TypeId} {x y : Operand} (ho : o.op = .binOp .add t x y t') {a b : Int} (hx : ρ x = .int .i64 a) (hy : ρ y = .int .i64 b) (z : Int) (hz : IntKind.i64.wrap (a + b) = z) : (execOp ρ o).run P w = .ok (.value (.int .i64 z)) w := by
  unfold execOp
  simp only [ho, hx, hy, Sem.run_bind, run_eqGuard_int, Result.andThen_ok, binOp, ne_eq, not_true_eq_false, if_false, Op.intArith, Sem.run_pure, hz, Result.andThen_ok]
theorem sees5 (T : List PS) : seesP [5] (T.map to5) = T.map to5 := by
  unfold seesP
  rw [List.filter_eq_self]
  intro s hs
  obtain ⟨t, _, rfl⟩ := List.mem_map.1 hs
  rfl
theorem LOk.five {T : List PS} (h : LOk T) : LOk (T.map to5) := by
  refine ⟨by rw [List.length_map]; exact h.len, fun s hs => ?_⟩
  obtain ⟨t, ht, rfl⟩ := List.mem_map.1 hs
  have h1 := h.all t ht
  exact ⟨h1.src, by show In64 5; unfold In64; omega, h1.lane, h1.few⟩
theorem split_at {α : Type} {B : List α} {i : Nat} (h : i < B.length) : ∃ l1 x l2, B = l1 ++ x :: l2 ∧ l1.length = i := by
  refine ⟨B.take i, B[i], B.drop (i + 1), ?_, by rw [List.length_take]; omega⟩
  rw [← List.drop_eq_getElem_cons h, List.take_append_drop]
theorem row_mid {B l1 l2 : List (Value × PS)} {x : Value × PS} {i : Nat} (hB : B = l1 ++ x :: l2) (hi : l1.length = i) (h : i < (B.map sC).length) : (B.map sC)[i] = sC x := by
  subst hB
  subst hi
  simp
theorem set_mid {B l1 l2 : List (Value × PS)} {x y : Value × PS} {i : Nat} (hB : B = l1 ++ x :: l2) (hi : l1.length = i) : (B.map sC).set i (sC y) = (l1 ++ y :: l2).map sC := by
  subst hB
  subst hi
  simp
theorem sC_mid (l1 l2 : List (Value × PS)) (u : Value) (s : PS) (b : List Byte) : (l1 ++ (u, s) :: l2).map sC = (l1 ++ (u, { s with bytes := b }) :: l2).map sC := by
  rw [List.map_append, List.map_append]
  rfl
section
variable {R : Nat → Prop} {base w : World} {F : List Hp}
theorem own5 {T : Nat} {v : Value} (h : SepL R base w (.own T 1 v [[I64 5]] :: F)) : SepL R base w (.own T 1 v (([5] : List Int).map fun z => [I64 z]) :: F) := h
theorem hSg_pull {B l1 l2 : List (Value × PS)} {u : Value} {s : PS} (hB : B = l1 ++ (u, s) :: l2) (hS : SepL R base w (hSg B :: F)) : SepL R base w (.own 5 1 u (bytes s.bytes) :: hSg (l1 ++ l2) :: F) := by
  subst hB
  have h := (hSg_open hS).perm ((sgP_mid l1 l2 (u, s)).append_right F)
  exact (hSg_close (h.perm List.perm_middle.symm)).perm (List.Perm.swap _ _ _)
theorem hSg_push {l1 l2 : List (Value × PS)} {u : Value} {s : PS} (hS : SepL R base w (.own 5 1 u (bytes s.bytes) :: hSg (l1 ++ l2) :: F)) : SepL R base w (hSg (l1 ++ (u, s) :: l2) :: F) := by
  have h := (hSg_open (hS.perm (List.Perm.swap _ _ _))).perm (List.perm_middle)
  exact hSg_close (h.perm ((sgP_mid l1 l2 (u, s)).symm.append_right F))
end
set_option maxRecDepth 100000 in
set_option maxHeartbeats 8000000 in
theorem traceKeeps_w {W : World} (hK : CIn All W 1 (kTab.map W32)) (hF : CIn All W 0 (first.map W32)) {vl : Value} {L : List (Value × PS)} (hl0 : SRd W vl L) (hL : ∀ x ∈ L, AIn x.2) (x : Byte) :
    Calls Tryd.prog 6 #[vl, B8 x] W (Ret fun r w' => r = .bool true ∧ Chg No W w') := by
  have hS := SepL.start W
  have hl := SIn.of hl0
  have HLN : Hid ((L.map sC).length = L.length) := by simp [Hid]
  clear hl0
  cases hg : greatB (L.map (·.2)) with
  | true =>
    have HGR := hide hg
    clear hg hL
    go_enter Tryd.func6, Tryd.ntmps6
    go_wp2_with (first
      | (go_at_call 9; refine Ret.calls (alive_s hS hK hF) ?_; clear hS; rintro r w ⟨rfl, hS⟩)
      | (go_at_call 10; refine Ret.calls (great_s hS hl HGR.out) ?_; clear hS; rintro r w ⟨rfl, hS⟩)
      )
    go_ret
    exact ⟨rfl, hS.chg⟩
  | false =>
    have HGR := hide hg
    have hlo := lok_of hL hg
    have HLO := hide hlo
    have hll := hlo.len
    rw [List.length_map] at hll
    obtain ⟨T, hT⟩ : ∃ T, L.map (·.2) = T := ⟨_, rfl⟩
    have HTL : Hid (T.length = L.length) := by unfold Hid; rw [← hT, List.length_map]
    have HT := hide hT
    obtain ⟨T5, hT5⟩ : ∃ S, T.map to5 = S := ⟨_, rfl⟩
    have HTO : Hid (LOk T5) := by unfold Hid; rw [← hT5, ← hT]; exact hlo.five
    have HT5 : Hid (T5.length = L.length) := by unfold Hid; rw [← hT5, List.length_map, HTL.out]
    have HSE : Hid (seesP [5] T5 = T5) := by unfold Hid; rw [← hT5]; exact sees5 T
    have HTM := hide hT5
    have HSL : Hid (((sumT T5).map B8).length = 32) := by unfold Hid; rw [List.length_map, sumT_len]
    have HEQ : Hid (((L.length : Int) == (L.length : Int)) = true) := eqT rfl
    clear hg hL hlo hT hT5
    go_enter Tryd.func6, Tryd.ntmps6
    go_wp2_with (first
      | (go_at_call 9; refine Ret.calls (alive_s hS hK hF) ?_; clear hS; rintro r w ⟨rfl, hS⟩)
      | (go_at_call 10; refine Ret.calls (great_s hS hl HGR.out) ?_; clear hS; rintro r w ⟨rfl, hS⟩)
      | (show wpList _ _ _ (⟨some 20, .buildSlice _ _ _, _, _, _, _⟩ :: _) _ _; refine wpS_build11 slInt hS rfl rfl (u := I64 5) rfl rfl ?_; clear hS; intro v20 w hS; replace hS := own5 hS; go_frame)
      | (go_at_call 11; refine Ret.calls (new_own hS e5) ?_; clear hS; rintro r w ⟨p, rfl, hS⟩)
      | (show wpList _ _ _ (⟨some 23, .call _, _, _, _, _⟩ :: _) _ _; refine wpList_val rfl (op_len slSight rfl rfl (v := vl) (xs := L.map sC) rfl (by exact hS.rd hl.rd)) ?_; rw [HLN.out]; go_frame)
      )
    go_loopw [6, 24] (fun sv iv wr => ∃ (k : Nat) (A : List (Value × PS)), iv = .int .i64 k ∧ k ≤ L.length ∧ Hid (A.map (·.2) = (T.take k).map to5) ∧ SepL All W wr [.own 39 4 sv (A.map sC), hSg A, hW p [5] []]) (fun _ iv _ => L.length - (intOf iv).toNat)
    case atStart => exact ⟨0, [], rfl, by omega, rfl, (hSg_nil (hS.nilOwn 39 4)).sel (by repeat (first | exact Sel.refl | refine Sel.take (by repeat (first | exact t0 | apply tS)) ?_ | apply Sel.drop))⟩
    case round =>
      clear hS
      obtain ⟨k, A, rfl, hk, HA, hS⟩ := hrel
      have hal : A.length = k := by
        have h1 := congrArg List.length HA.out
        rw [List.length_map, List.length_map, List.length_take, HTL.out] at h1
        omega
      by_cases hlt : k < L.length
      · have hlk : k < (L.map sC).length := by rw [HLN.out]; exact hlt
        obtain ⟨⟨u, s⟩, hx⟩ : ∃ x, L[k] = x := ⟨_, rfl⟩
        have hxm : (u, s) ∈ L := by rw [← hx]; exact List.getElem_mem hlt
        have HX : Hid ((L.map sC)[k] = sC (u, s)) := by
          unfold Hid
          rw [List.getElem_map, hx]
        have hktl : k < T.length := by rw [HTL.out]; exact hlt
        have hsk : T[k] = s := by simp only [← HT.out, List.getElem_map, hx]
        have HUR := hide (hl.at_ _ hxm)
        have HUF := hide (sC_flat (x := (u, s)) (hS.rd HUR.out).one1)
        have hsok := HLO.out.all s (List.mem_map.2 ⟨(u, s), hxm, rfl⟩)
        have hb5 := hsok.few
        have HB1 : Hid ((([] : List (List Value)).length + (bytes s.bytes).length) * 1 ≤ 140737488355328) := by
          unfold Hid
          rw [bytes_length, List.length_nil]
          omega
        have HB2 : Hid (([] : List (List Value)).length + (bytes s.bytes).length ≤ maxLen) := by
          unfold Hid maxLen
          rw [bytes_length, List.length_nil]
          omega
        have HA1 : Hid (∀ c : Value, ((A.map sC).length + [sC (c, to5 s)].length) * 48 ≤ 140737488355328) := by
          intro c
          rw [List.length_map, List.length_singleton]
          omega
        have HA2 : Hid (∀ c : Value, (A.map sC).length + [sC (c, to5 s)].length ≤ maxLen) := by
          intro c
          unfold maxLen
          rw [List.length_map, List.length_singleton]
          omega
        have HAN : Hid (∀ c : Value, Hid ((A ++ [(c, to5 s)]).map (·.2) = (T.take (k + 1)).map to5)) := by
          intro c
          unfold Hid
          rw [List.map_append, HA.out, List.take_succ_eq_append_getElem hktl, List.map_append, hsk]
          rfl
        clear hx hxm hsk hsok hb5 hal hktl
        go_wp2_with (first
          | (show wpList _ _ _ (⟨some 26, .indexAddr _ _ _, _, _, _, _⟩ :: _) _ _; refine wpList_val rfl (op_indexAddr slSight rfl (v := vl) (xs := L.map sC) rfl (k := k) rfl (by exact hS.rd hl.rd) hlk) ?_; go_frame)
          | (show wpList _ _ _ (⟨some 27, .load _ _, _, _, _, _⟩ :: _) _ _; refine wpList_val rfl (op_loadE aggSight rfl (v := vl) (xs := L.map sC) (k := k) rfl (by exact hS.rd hl.rd) hlk) ?_; rw [HX.out]; go_frame)
          | (show wpList _ _ _ (⟨_, .alloc 39, _, _, _, _⟩ :: _) _ _; refine wpS_alloc hS rfl rfl Tryd.zeroValue39 (zs := [.int .i64 0, .int .i64 0, .int .i64 0, .slice none 0 0]) rfl ?_; clear hS; intro nb w hS; go_frame)
          | (show wpList _ _ _ (⟨_, .store 39 _ _, _, _, _, _⟩ :: _) _ _; (refine wpS_storeAll (b := nb) aggSight (hS.bring (by repeat (first | exact t0 | apply tS))) rfl rfl rfl (vs := sC (u, s)) rfl rfl HUF.out rfl ?_); clear hS; intro w hS; go_frame)
          | (show wpList _ _ _ (⟨_, .store 3 _ _, _, _, _, _⟩ :: _) _ _; (refine wpS_store1 (b := nb) (T := 39) (by kernel_rfl) (hS.bring (by repeat (first | exact t0 | apply tS))) rfl rfl rfl (v := I64 5) rfl rfl rfl (by rw [sC_len]; omega) ?_); clear hS; intro w hS; rw [sC_to5] at hS; go_frame)
          | (show wpList _ _ _ (⟨some 29, .buildSlice _ _ _, _, _, _, _⟩ :: _) _ _; refine wpS_build0 slBytes hS rfl rfl ?_; clear hS; intro v29 w hS; go_frame)
          | (show wpList _ _ _ (⟨some 31, .load _ _, _, _, _, _⟩ :: _) _ _; refine wpList_val rfl (op_load1S (b := nb) (T := 39) oneBytes ((hS.bring (by repeat (first | exact t0 | apply tS)))) rfl rfl rfl) ?_; go_frame)
          | (show wpList _ _ _ (⟨some 32, .call _, _, _, _, _⟩ :: _) _ _; (refine wpS_append slBytes (hS.bring (by repeat (first | exact t0 | apply tS))) rfl rfl (sv := v29) (xs := []) (xv := u) rfl rfl (ys := bytes s.bytes) (by exact hS.rd HUR.out) (flat_bytes _) HB1.out HB2.out ?_); clear hS; intro v32 w hS; rw [List.nil_append] at hS; have HC1 := hide hS.getOwn.rd.cells1; have HC2 := hide hS.getOwn.rd.one1; go_frame)
          | (show wpList _ _ _ (⟨_, .store 37 _ _, _, _, _, _⟩ :: _) _ _; (refine wpS_store1 (b := nb) (T := 39) (by kernel_rfl) (hS.bring (by repeat (first | exact t0 | apply tS))) rfl rfl rfl (v := v32) rfl HC1.out HC2.out (by rw [sC_len]; omega) ?_); clear hS; intro w hS; rw [sC_set] at hS; go_frame)
          | (show wpList _ _ _ (⟨some 35, .load _ _, _, _, _, _⟩ :: _) _ _; refine wpList_val rfl (op_load aggSight rfl rfl (SepL.getBlk (b := nb) (T := 39) ((hS.bring (by repeat (first | exact t0 | apply tS))))).cells rfl) ?_; go_frame)
          | (show wpList _ _ _ (⟨_, .buildSlice 23 1 _, _, _, _, _⟩ :: _) _ _; refine wpS_build1A slSight (by omega) hS rfl rfl (cs := sC (v32, to5 s)) rfl rfl ?_; clear hS; intro v36 w hS; go_frame)
          | (show wpList _ _ _ (⟨some 37, .call _, _, _, _, _⟩ :: _) _ _; (refine wpS_append slSight (hS.bring (by repeat (first | exact t0 | apply tS))) rfl rfl (sv := u6) (xs := A.map sC) (xv := v36) rfl rfl (ys := [sC (v32, to5 s)]) ((hS.bring (by repeat (first | exact t0 | apply tS))).getOwn.rd) (flat_sC HC2.out) (HA1.out v32) (HA2.out v32) ?_); clear hS; intro v37 w hS; go_frame)
          )
        go_roundw
        case rel =>
          have h1 : SepL All W w (hSg A :: .own 5 1 v32 (bytes (to5 s).bytes) :: [.own 39 4 v37 (A.map sC ++ [sC (v32, to5 s)]), hW p [5] []]) := hS.sel (by repeat (first | exact Sel.refl | refine Sel.take (by repeat (first | exact t0 | apply tS)) ?_ | apply Sel.drop))
          have h2 := hSg_snoc h1
          have h3 : SepL All W w [.own 39 4 v37 ((A ++ [(v32, to5 s)]).map sC), hSg (A ++ [(v32, to5 s)]), hW p [5] []] := by
            rw [List.map_append, List.map_singleton]
            exact h2.sel (by repeat (first | exact Sel.refl | refine Sel.take (by repeat (first | exact t0 | apply tS)) ?_ | apply Sel.drop))
          exact ⟨k + 1, A ++ [(v32, to5 s)], by go_num, by omega, HAN.out v32, h3⟩
        case measure => simp [intOf]; omega
      · have hk2 : k = L.length := by omega
        have ha := HA.out
        rw [hk2, ← HTL.out, List.take_length, HTM.out] at ha
        have HAL : Hid ((A.map sC).length = L.length) := by unfold Hid; rw [List.length_map, hal, hk2]
        have HAO : Hid (LOk (A.map (·.2))) := by unfold Hid; rw [ha]; exact HTO.out
        have HAM : Hid (([] : List PS).length + A.length ≤ 10000) := by unfold Hid; rw [hal, List.length_nil]; omega
        have HS0 : Hid ([] ++ seesP [5] (A.map (·.2)) = T5) := by unfold Hid; rw [ha, List.nil_append]; exact HSE.out
        have HAB : Hid (A.length = L.length) := by unfold Hid; rw [hal, hk2]
        clear ha hal hk2
        replace hS := hG_of hS
        go_wp2_with (first
          | (go_at_call 12; refine Ret.calls (see_own (p := p) (E := [5]) (S0 := []) (v := u6) (L := A) (F := []) hS hK hF HAO.out HAM.out) ?_; clear hS; rintro r w hS; rw [HS0.out] at hS; replace hS := hG_to hS)
          | (go_at_call 15; (refine Ret.calls (all_s (p := p) (E := [5]) (S := T5) (hS.bring (by repeat (first | exact t0 | apply tS))) HTO.out) ?_); clear hS; rintro q1v w ⟨q1, hq, hS⟩; have HQ1 := hide hq; clear hq)
          | (go_at_call 16; (refine Ret.calls (sumW_s (p := p) (E := [5]) (S := T5) (hS.bring (by repeat (first | exact t0 | apply tS)))) ?_); clear hS; rintro r1 w ⟨rfl, hS⟩)
          | (show wpList _ _ _ (⟨some 10, .alloc _, _, _, _, _⟩ :: _) _ _; refine wpS_alloc hS rfl rfl zero32b (zs := (List.replicate 32 (0 : Byte)).map B8) rfl ?_; clear hS; intro nh w hS; go_frame)
          | (show wpList _ _ _ (⟨_, .store 33 _ _, _, _, _, _⟩ :: _) _ _; (refine wpS_storeAll (b := nh) agg32b (hS.bring (by repeat (first | exact t0 | apply tS))) rfl rfl rfl (vs := (sumT T5).map B8) rfl HSL.out (B8_one _) (by rw [List.length_map, List.length_replicate]) ?_); clear hS; intro w hS; go_frame)
          | (show wpList _ _ _ (⟨some 47, .call _, _, _, _, _⟩ :: _) _ _; refine wpList_val rfl (op_len slSight rfl rfl (v := u6) (xs := A.map sC) rfl ((hS.bring (by repeat (first | exact t0 | apply tS))).getOwn.rd)) ?_; rw [HAL.out]; go_frame)
          )
        have HQ1L := hide (qlen2 HQ1.out)
        go_loopw [48] (fun iv wr => ∃ (i : Nat) (B : List (Value × PS)), iv = .int .i64 i ∧ i ≤ L.length ∧ Hid (B.length = L.length) ∧ SepL All W wr [.own 39 4 u6 (B.map sC), hSg B, .blk nh 33 ((sumT T5).map B8), hG q1v q1, hW p [5] T5]) (fun iv _ => L.length - (intOf iv).toNat)
        case atStart => exact ⟨0, A, rfl, by omega, HAB, hS.sel (by repeat (first | exact Sel.refl | refine Sel.take (by repeat (first | exact t0 | apply tS)) ?_ | apply Sel.drop))⟩
        case round =>
          clear hS
          obtain ⟨i, B, rfl, hi, HBL0, hS⟩ := hrel
          by_cases hil : i < L.length
          · have hib : i < B.length := by rw [HBL0.out]; exact hil
            obtain ⟨l1, ⟨u, s⟩, l2, hB, hl1⟩ := split_at hib
            have HKL : Hid (i < (B.map sC).length) := by unfold Hid; rw [List.length_map]; exact hib
            have HU : Hid (((B.map sC)[i]'HKL.out)[3]? = some u) := by
              unfold Hid
              rw [row_mid hB hl1]
              rfl
            have hS2 := hSg_pull hB (hS.sel (by repeat (first | exact Sel.refl | refine Sel.take (by repeat (first | exact t0 | apply tS)) ?_ | apply Sel.drop)) : SepL All W _ (hSg B :: [.own 39 4 u6 (B.map sC), .blk nh 33 ((sumT T5).map B8), hG q1v q1, hW p [5] T5]))
            clear hS
            have hS := hS2
            clear hS2
            obtain ⟨n, hn⟩ : ∃ n, s.bytes.length = n := ⟨_, rfl⟩
            have HN0 := hide hn
            have HN : Hid ((bytes s.bytes).length = n) := by unfold Hid; rw [bytes_length, hn]
            have hmax := hS.getOwn.rd.len
            rw [HN.out] at hmax
            unfold maxLen at hmax
            have HBL : ∀ b, Hid ((l1 ++ (u, { s with bytes := b }) :: l2).length = L.length) := by
              intro b
              unfold Hid
              rw [← HBL0.out, hB]
              simp
            have HBL := hide HBL
            have HB := hide hB
            clear hB hl1 hn hib
            go_wp2_with (first
              | (show wpList _ _ _ (⟨some 53, .indexAddr _ _ _, _, _, _, _⟩ :: _) _ _; refine wpList_val rfl (op_indexAddr slSight rfl (v := u6) (xs := B.map sC) rfl (k := i) rfl ((hS.bring (by repeat (first | exact t0 | apply tS))).getOwn.rd) HKL.out) ?_; go_frame)
              | (show wpList _ _ _ (⟨some 54, .fieldAddr _ _ _, _, _, _, _⟩ :: _) _ _; refine wpList_val rfl (op_fieldAddrE (j := 3) (by kernel_rfl) rfl (n := 4) (v := u6) (k := i) (xs := B.map sC) rfl ((hS.bring (by repeat (first | exact t0 | apply tS))).getOwn.rd) HKL.out) ?_; go_frame)
              | (show wpList _ _ _ (⟨some 55, .load _ _, _, _, _, _⟩ :: _) _ _; refine wpList_val rfl (op_loadF1 oneBytes rfl (n := 4) (v := u6) (k := i) (j := 3) (xs := B.map sC) rfl ((hS.bring (by repeat (first | exact t0 | apply tS))).getOwn.rd) HKL.out (u := u) HU.out) ?_; go_frame)
              | (show wpList _ _ _ (⟨some 56, .call _, _, _, _, _⟩ :: _) _ _; refine wpList_val rfl (op_len slBytes rfl rfl (v := u) (xs := bytes s.bytes) rfl ((hS.bring (by repeat (first | exact t0 | apply tS))).getOwn.rd)) ?_; rw [HN.out]; go_frame)
              )
            have HBL := HBL.out
            go_loopw [57] (fun jv wr => ∃ (j : Nat) (b : List Byte), jv = .int .i64 j ∧ j ≤ n ∧ Hid (b.length = n) ∧ SepL All W wr [.own 5 1 u (bytes b), hSg (l1 ++ l2), .own 39 4 u6 (B.map sC), .blk nh 33 ((sumT T5).map B8), hG q1v q1, hW p [5] T5]) (fun jv _ => n - (intOf jv).toNat)
            case atStart => exact ⟨0, s.bytes, rfl, by omega, HN0, hS.sel (by repeat (first | exact Sel.refl | refine Sel.take (by repeat (first | exact t0 | apply tS)) ?_ | apply Sel.drop))⟩
            case round =>
              clear hS
              obtain ⟨j, b, rfl, hj, HBN, hS⟩ := hrel
              by_cases hjn : j < n
              · have hjb : j < b.length := by rw [HBN.out]; exact hjn
                have HJL : Hid (j < (bytes b).length) := by unfold Hid; rw [bytes_length]; exact hjb
                obtain ⟨c, hc⟩ : ∃ c, b[j] = c := ⟨_, rfl⟩
                have HC := hide hc
                have HBN2 : Hid ((b.set j (c ^^^ x)).length = n) := by unfold Hid; rw [List.length_set]; exact HBN.out
                clear hc
                go_wp2_with (first
                  | (show wpList _ _ _ (⟨some 62, .indexAddr _ _ _, _, _, _, _⟩ :: _) _ _; refine wpList_val rfl (op_indexAddr slSight rfl (v := u6) (xs := B.map sC) rfl (k := i) rfl ((hS.bring (by repeat (first | exact t0 | apply tS))).getOwn.rd) HKL.out) ?_; go_frame)
                  | (show wpList _ _ _ (⟨some 63, .fieldAddr _ _ _, _, _, _, _⟩ :: _) _ _; refine wpList_val rfl (op_fieldAddrE (j := 3) (by kernel_rfl) rfl (n := 4) (v := u6) (k := i) (xs := B.map sC) rfl ((hS.bring (by repeat (first | exact t0 | apply tS))).getOwn.rd) HKL.out) ?_; go_frame)
                  | (show wpList _ _ _ (⟨some 64, .load _ _, _, _, _, _⟩ :: _) _ _; refine wpList_val rfl (op_loadF1 oneBytes rfl (n := 4) (v := u6) (k := i) (j := 3) (xs := B.map sC) rfl ((hS.bring (by repeat (first | exact t0 | apply tS))).getOwn.rd) HKL.out (u := u) HU.out) ?_; go_frame)
                  | (show wpList _ _ _ (⟨some 66, .indexAddr _ _ _, _, _, _, _⟩ :: _) _ _; refine wpList_val rfl (op_indexAddr slBytes rfl (v := u) (xs := bytes b) rfl (k := j) rfl ((hS.bring (by repeat (first | exact t0 | apply tS))).getOwn.rd) HJL.out) ?_; go_frame)
                  | (show wpList _ _ _ (⟨some 67, .load _ _, _, _, _, _⟩ :: _) _ _; refine wpList_val rfl (op_loadBE oneU8 rfl (v := u) (k := j) (bs := b) rfl ((hS.bring (by repeat (first | exact t0 | apply tS))).getOwn.rd) hjb) ?_; rw [HC.out]; go_frame)
                  | (show wpList _ _ _ (⟨some 69, .binOp _ _ _ _ _, _, _, _, _⟩ :: _) _ _; refine wpList_val rfl (op_bin8 (op := .xor) rfl rfl (a := c) (b := x) rfl rfl) ?_; go_frame)
                  | (show wpList _ _ _ (⟨some 70, .indexAddr _ _ _, _, _, _, _⟩ :: _) _ _; refine wpList_val rfl (op_indexAddr slBytes rfl (v := u) (xs := bytes b) rfl (k := j) rfl ((hS.bring (by repeat (first | exact t0 | apply tS))).getOwn.rd) HJL.out) ?_; go_frame)
                  | (show wpList _ _ _ (⟨_, .store 5 _ _, _, _, _, _⟩ :: _) _ _; (refine wpS_storeE1 sizeU8 (v := u) (k := j) (hS.bring (by repeat (first | exact t0 | apply tS))) rfl rfl rfl (u := B8 (c ^^^ x)) rfl rfl rfl HJL.out ?_); clear hS; intro w hS; rw [bytes_set] at hS; go_frame)
                  )
                go_roundw
                case rel => exact ⟨j + 1, b.set j (c ^^^ x), by go_num, by omega, HBN2, hS.sel (by repeat (first | exact Sel.refl | refine Sel.take (by repeat (first | exact t0 | apply tS)) ?_ | apply Sel.drop))⟩
                case measure => simp [intOf]; omega
              · go_wp2_with fail
                go_roundw
                case rel =>
                  have h1 : SepL All W _ (.own 5 1 u (bytes ({ s with bytes := b } : PS).bytes) :: hSg (l1 ++ l2) :: [.own 39 4 u6 (B.map sC), .blk nh 33 ((sumT T5).map B8), hG q1v q1, hW p [5] T5]) := hS.sel (by repeat (first | exact Sel.refl | refine Sel.take (by repeat (first | exact t0 | apply tS)) ?_ | apply Sel.drop))
                  have h2 := hSg_push (s := { s with bytes := b }) h1
                  rw [HB.out, sC_mid l1 l2 u s b] at h2
                  exact ⟨i + 1, l1 ++ (u, { s with bytes := b }) :: l2, by go_num, by omega, HBL b, h2.sel (by repeat (first | exact Sel.refl | refine Sel.take (by repeat (first | exact t0 | apply tS)) ?_ | apply Sel.drop))⟩
                case measure => simp [intOf]; omega
          · go_wp2_with (first
              | (go_at_call 15; (refine Ret.calls (all_s (p := p) (E := [5]) (S := T5) (hS.bring (by repeat (first | exact t0 | apply tS))) HTO.out) ?_); clear hS; rintro q2v w ⟨q2, hq, hS⟩; have HQ2 := hide (qlen2 hq); have HQ3 := hide ((List.length_map sC).symm.trans (qlen2 hq)); clear hq; replace hS := hG_to hS)
              | (show wpList _ _ _ (⟨some 76, .call _, _, _, _, _⟩ :: _) _ _; refine wpList_val rfl (op_len slSight rfl rfl (v := q2v) (xs := q2.map sC) rfl ((hS.bring (by repeat (first | exact t0 | apply tS))).getOwn.rd)) ?_; rw [HQ2.out, HT5.out]; go_frame)
              )
            have HQ4 : Hid (q2.length = L.length) := by unfold Hid; rw [HQ3.out, HT5.out]
            go_loopw [77] (fun iv wr => ∃ (i : Nat) (B : List (Value × PS)), iv = .int .i64 i ∧ i ≤ L.length ∧ Hid (B.length = L.length) ∧ SepL All W wr [.own 39 4 q2v (B.map sC), hSg B, .blk nh 33 ((sumT T5).map B8), hG q1v q1, hW p [5] T5]) (fun iv _ => L.length - (intOf iv).toNat)
            case atStart => exact ⟨0, q2, rfl, by omega, HQ4, hS.sel (by repeat (first | exact Sel.refl | refine Sel.take (by repeat (first | exact t0 | apply tS)) ?_ | apply Sel.drop))⟩
            case round =>
              clear hS
              obtain ⟨i, B0, rfl, hi, HBL0, hS⟩ := hrel
              by_cases hil : i < L.length
              · have hib : i < B0.length := by rw [HBL0.out]; exact hil
                obtain ⟨l1, ⟨u, s0⟩, l2, hB0, hl1⟩ := split_at hib
                have HKL0 : Hid (i < (B0.map sC).length) := by unfold Hid; rw [List.length_map]; exact hib
                have HU0 : Hid (((B0.map sC)[i]'HKL0.out)[0]? = some (I64 s0.src)) := by
                  unfold Hid
                  rw [row_mid hB0 hl1]
                  rfl
                obtain ⟨z, hz⟩ : ∃ z, IntKind.i64.wrap (s0.src + 1) = z := ⟨_, rfl⟩
                have HZ := hide hz
                obtain ⟨s, hs⟩ : ∃ s : PS, s = { s0 with src := z } := ⟨_, rfl⟩
                have hsb : s.bytes = s0.bytes := by rw [hs]
                obtain ⟨B, hB⟩ : ∃ B, B = l1 ++ (u, s) :: l2 := ⟨_, rfl⟩
                have hbl : B.length = B0.length := by
                  rw [hB, hB0]
                  simp
                have HST : Hid ((B0.map sC).set i (((B0.map sC)[i]'HKL0.out).set 0 (I64 z)) = B.map sC) := by
                  unfold Hid
                  rw [row_mid hB0 hl1, hB, ← set_mid (y := (u, s)) hB0 hl1, hs]
                  rfl
                have HKL : Hid (i < (B.map sC).length) := by unfold Hid; rw [List.length_map, hbl]; exact hib
                have HU : Hid (((B.map sC)[i]'HKL.out)[3]? = some u) := by
                  unfold Hid
                  rw [row_mid hB hl1]
                  rfl
                have hS2 := hSg_pull hB0 (hS.sel (by repeat (first | exact Sel.refl | refine Sel.take (by repeat (first | exact t0 | apply tS)) ?_ | apply Sel.drop)) : SepL All W _ (hSg B0 :: [.own 39 4 q2v (B0.map sC), .blk nh 33 ((sumT T5).map B8), hG q1v q1, hW p [5] T5]))
                rw [← hsb] at hS2
                clear hS
                have hS := hS2
                clear hS2
                obtain ⟨n, hn⟩ : ∃ n, s.bytes.length = n := ⟨_, rfl⟩
                have HN0 := hide hn
                have HN : Hid ((bytes s.bytes).length = n) := by unfold Hid; rw [bytes_length, hn]
                have hmax := hS.getOwn.rd.len
                rw [HN.out] at hmax
                unfold maxLen at hmax
                have HBL : ∀ b, Hid ((l1 ++ (u, { s with bytes := b }) :: l2).length = L.length) := by
                  intro b
                  unfold Hid
                  rw [← HBL0.out, hB0]
                  simp
                have HBL := hide HBL
                have HB := hide hB
                clear hB hB0 hl1 hn hib hz hs hsb hbl
                go_wp2_with (first
                  | (show wpList _ _ _ (⟨some 82, .indexAddr _ _ _, _, _, _, _⟩ :: _) _ _; refine wpList_val rfl (op_indexAddr slSight rfl (v := q2v) (xs := B0.map sC) rfl (k := i) rfl ((hS.bring (by repeat (first | exact t0 | apply tS))).getOwn.rd) HKL0.out) ?_; go_frame)
                  | (show wpList _ _ _ (⟨some 83, .fieldAddr _ _ _, _, _, _, _⟩ :: _) _ _; refine wpList_val rfl (op_fieldAddrE (j := 0) (by kernel_rfl) rfl (n := 4) (v := q2v) (k := i) (xs := B0.map sC) rfl ((hS.bring (by repeat (first | exact t0 | apply tS))).getOwn.rd) HKL0.out) ?_; go_frame)
                  | (show wpList _ _ _ (⟨some 84, .load _ _, _, _, _, _⟩ :: _) _ _; refine wpList_val rfl (op_loadF1 oneInt rfl (n := 4) (v := q2v) (k := i) (j := 0) (xs := B0.map sC) rfl ((hS.bring (by repeat (first | exact t0 | apply tS))).getOwn.rd) HKL0.out (u := I64 s0.src) HU0.out) ?_; go_frame)
                  | (show wpList _ _ _ (⟨some 85, .binOp _ _ _ _ _, _, _, _, _⟩ :: _) _ _; refine wpList_val rfl (op_iaddW rfl rfl rfl z HZ.out) ?_; go_frame)
                  | (show wpList _ _ _ (⟨some 86, .indexAddr _ _ _, _, _, _, _⟩ :: _) _ _; refine wpList_val rfl (op_indexAddr slSight rfl (v := q2v) (xs := B0.map sC) rfl (k := i) rfl ((hS.bring (by repeat (first | exact t0 | apply tS))).getOwn.rd) HKL0.out) ?_; go_frame)
                  | (show wpList _ _ _ (⟨some 87, .fieldAddr _ _ _, _, _, _, _⟩ :: _) _ _; refine wpList_val rfl (op_fieldAddrE (j := 0) (by kernel_rfl) rfl (n := 4) (v := q2v) (k := i) (xs := B0.map sC) rfl ((hS.bring (by repeat (first | exact t0 | apply tS))).getOwn.rd) HKL0.out) ?_; go_frame)
                  | (show wpList _ _ _ (⟨_, .store 3 _ _, _, _, _, _⟩ :: _) _ _; (refine wpS_storeF1 (by kernel_rfl) (hS.bring (by repeat (first | exact t0 | apply tS))) rfl rfl (k := i) (j := 0) rfl (u := I64 z) rfl rfl rfl HKL0.out (by omega) ?_); clear hS; intro w hS; rw [HST.out] at hS; go_frame)
                  | (show wpList _ _ _ (⟨some 90, .indexAddr _ _ _, _, _, _, _⟩ :: _) _ _; refine wpList_val rfl (op_indexAddr slSight rfl (v := q2v) (xs := B.map sC) rfl (k := i) rfl ((hS.bring (by repeat (first | exact t0 | apply tS))).getOwn.rd) HKL.out) ?_; go_frame)
                  | (show wpList _ _ _ (⟨some 91, .fieldAddr _ _ _, _, _, _, _⟩ :: _) _ _; refine wpList_val rfl (op_fieldAddrE (j := 3) (by kernel_rfl) rfl (n := 4) (v := q2v) (k := i) (xs := B.map sC) rfl ((hS.bring (by repeat (first | exact t0 | apply tS))).getOwn.rd) HKL.out) ?_; go_frame)
                  | (show wpList _ _ _ (⟨some 92, .load _ _, _, _, _, _⟩ :: _) _ _; refine wpList_val rfl (op_loadF1 oneBytes rfl (n := 4) (v := q2v) (k := i) (j := 3) (xs := B.map sC) rfl ((hS.bring (by repeat (first | exact t0 | apply tS))).getOwn.rd) HKL.out (u := u) HU.out) ?_; go_frame)
                  | (show wpList _ _ _ (⟨some 93, .call _, _, _, _, _⟩ :: _) _ _; refine wpList_val rfl (op_len slBytes rfl rfl (v := u) (xs := bytes s.bytes) rfl ((hS.bring (by repeat (first | exact t0 | apply tS))).getOwn.rd)) ?_; rw [HN.out]; go_frame)
                  )
                have HBL := HBL.out
                go_loopw [94] (fun jv wr => ∃ (j : Nat) (b : List Byte), jv = .int .i64 j ∧ j ≤ n ∧ Hid (b.length = n) ∧ SepL All W wr [.own 5 1 u (bytes b), hSg (l1 ++ l2), .own 39 4 q2v (B.map sC), .blk nh 33 ((sumT T5).map B8), hG q1v q1, hW p [5] T5]) (fun jv _ => n - (intOf jv).toNat)
                case atStart => exact ⟨0, s.bytes, rfl, by omega, HN0, hS.sel (by repeat (first | exact Sel.refl | refine Sel.take (by repeat (first | exact t0 | apply tS)) ?_ | apply Sel.drop))⟩
                case round =>
                  clear hS
                  obtain ⟨j, b, rfl, hj, HBN, hS⟩ := hrel
                  by_cases hjn : j < n
                  · have hjb : j < b.length := by rw [HBN.out]; exact hjn
                    have HJL : Hid (j < (bytes b).length) := by unfold Hid; rw [bytes_length]; exact hjb
                    obtain ⟨c, hc⟩ : ∃ c, b[j] = c := ⟨_, rfl⟩
                    have HC := hide hc
                    have HBN2 : Hid ((b.set j (c ^^^ x)).length = n) := by unfold Hid; rw [List.length_set]; exact HBN.out
                    clear hc
                    go_wp2_with (first
                      | (show wpList _ _ _ (⟨some 99, .indexAddr _ _ _, _, _, _, _⟩ :: _) _ _; refine wpList_val rfl (op_indexAddr slSight rfl (v := q2v) (xs := B.map sC) rfl (k := i) rfl ((hS.bring (by repeat (first | exact t0 | apply tS))).getOwn.rd) HKL.out) ?_; go_frame)
                      | (show wpList _ _ _ (⟨some 100, .fieldAddr _ _ _, _, _, _, _⟩ :: _) _ _; refine wpList_val rfl (op_fieldAddrE (j := 3) (by kernel_rfl) rfl (n := 4) (v := q2v) (k := i) (xs := B.map sC) rfl ((hS.bring (by repeat (first | exact t0 | apply tS))).getOwn.rd) HKL.out) ?_; go_frame)
                      | (show wpList _ _ _ (⟨some 101, .load _ _, _, _, _, _⟩ :: _) _ _; refine wpList_val rfl (op_loadF1 oneBytes rfl (n := 4) (v := q2v) (k := i) (j := 3) (xs := B.map sC) rfl ((hS.bring (by repeat (first | exact t0 | apply tS))).getOwn.rd) HKL.out (u := u) HU.out) ?_; go_frame)
                      | (show wpList _ _ _ (⟨some 103, .indexAddr _ _ _, _, _, _, _⟩ :: _) _ _; refine wpList_val rfl (op_indexAddr slBytes rfl (v := u) (xs := bytes b) rfl (k := j) rfl ((hS.bring (by repeat (first | exact t0 | apply tS))).getOwn.rd) HJL.out) ?_; go_frame)
                      | (show wpList _ _ _ (⟨some 104, .load _ _, _, _, _, _⟩ :: _) _ _; refine wpList_val rfl (op_loadBE oneU8 rfl (v := u) (k := j) (bs := b) rfl ((hS.bring (by repeat (first | exact t0 | apply tS))).getOwn.rd) hjb) ?_; rw [HC.out]; go_frame)
                      | (show wpList _ _ _ (⟨some 106, .binOp _ _ _ _ _, _, _, _, _⟩ :: _) _ _; refine wpList_val rfl (op_bin8 (op := .xor) rfl rfl (a := c) (b := x) rfl rfl) ?_; go_frame)
                      | (show wpList _ _ _ (⟨some 107, .indexAddr _ _ _, _, _, _, _⟩ :: _) _ _; refine wpList_val rfl (op_indexAddr slBytes rfl (v := u) (xs := bytes b) rfl (k := j) rfl ((hS.bring (by repeat (first | exact t0 | apply tS))).getOwn.rd) HJL.out) ?_; go_frame)
                      | (show wpList _ _ _ (⟨_, .store 5 _ _, _, _, _, _⟩ :: _) _ _; (refine wpS_storeE1 sizeU8 (v := u) (k := j) (hS.bring (by repeat (first | exact t0 | apply tS))) rfl rfl rfl (u := B8 (c ^^^ x)) rfl rfl rfl HJL.out ?_); clear hS; intro w hS; rw [bytes_set] at hS; go_frame)
                      )
                    go_roundw
                    case rel => exact ⟨j + 1, b.set j (c ^^^ x), by go_num, by omega, HBN2, hS.sel (by repeat (first | exact Sel.refl | refine Sel.take (by repeat (first | exact t0 | apply tS)) ?_ | apply Sel.drop))⟩
                    case measure => simp [intOf]; omega
                  · go_wp2_with fail
                    go_roundw
                    case rel =>
                      have h1 : SepL All W _ (.own 5 1 u (bytes ({ s with bytes := b } : PS).bytes) :: hSg (l1 ++ l2) :: [.own 39 4 q2v (B.map sC), .blk nh 33 ((sumT T5).map B8), hG q1v q1, hW p [5] T5]) := hS.sel (by repeat (first | exact Sel.refl | refine Sel.take (by repeat (first | exact t0 | apply tS)) ?_ | apply Sel.drop))
                      have h2 := hSg_push (s := { s with bytes := b }) h1
                      rw [HB.out, sC_mid l1 l2 u s b] at h2
                      exact ⟨i + 1, l1 ++ (u, { s with bytes := b }) :: l2, by go_num, by omega, HBL b, h2.sel (by repeat (first | exact Sel.refl | refine Sel.take (by repeat (first | exact t0 | apply tS)) ?_ | apply Sel.drop))⟩
                    case measure => simp [intOf]; omega
              · go_wp2_with fail
                refine wp_region_ord (by kernel_rfl) [10] [[0, 2, 1, 3, 4, 5, 7, 6, 8, 9, 10, 11, 12, 13, 14, 15, 16, 17]] (by kernel_rfl) (by kernel_rfl) (fun w' => Blk w' nh 33 ((sumT T5).map B8)) Up.blk ((hS.bring (by repeat (first | exact t0 | apply tS))).getBlk) (by repeat (first | exact Clean.body | refine Clean.then ?_ | refine Clean.inBlock ?_ | refine SegQ.clean ?_ | refine FinC.clean ?_)) ?_
                replace hS := hS.drew
                refine ord_seg (by repeat (first | exact Clean.body | refine Clean.then ?_ | refine Clean.inBlock ?_ | refine SegQ.clean ?_ | refine FinC.clean ?_)) (n := 15) (rest := [[3, 4, 5, 7, 6, 8, 9, 10, 11, 12, 13, 14, 15, 16, 17]]) [0, 2, 1] [⟨_, _, _, _, _, _⟩, ⟨_, _, _, _, _, _⟩, ⟨_, _, _, _, _, _⟩] rfl (by kernel_rfl) (by simp) _ _ ?_
                go_wp2_with (first
                  | (go_at_call 15; (refine Ret.calls (all_s (p := p) (E := [5]) (S := T5) (hS.bring (by repeat (first | exact t0 | apply tS))) HTO.out) ?_); clear hS; rintro q3v w ⟨q3, hq, hS⟩; have HQ5 := hide hq; clear hq)
                  )
                refine segQ_mk (((hS.bring (by repeat (first | exact t0 | apply tS))).getBlk) : Blk _ nh 33 ((sumT T5).map B8)) ?_
                refine ord_seg (by repeat (first | exact Clean.body | refine Clean.then ?_ | refine Clean.inBlock ?_ | refine SegQ.clean ?_ | refine FinC.clean ?_)) (n := 14) (rest := [[4, 5, 7, 6, 8, 9, 10, 11, 12, 13, 14, 15, 16, 17]]) [3] [⟨_, _, _, _, _, _⟩] rfl (by kernel_rfl) (by simp) _ _ ?_
                go_wp2_with (first
                  | (go_at_call 14; refine Ret.calls (hS.callNo (sameSeen_s (v := q3v) (u := q1v) (l := q3) (m := q1) (b := true) (hG_srd ((hS.bring (by repeat (first | exact t0 | apply tS))))) (hG_srd ((hS.bring (by repeat (first | exact t0 | apply tS))))) (qlen HQ5.out HTO.out) (qfew HQ5.out HTO.out) (by simp [HQ5.out, HQ1.out]))) ?_; clear hS; rintro r w ⟨rfl, hS⟩)
                  )
                refine segQ_mk (((hS.bring (by repeat (first | exact t0 | apply tS))).getBlk) : Blk _ nh 33 ((sumT T5).map B8)) ?_
                refine ord_seg (by repeat (first | exact Clean.body | refine Clean.then ?_ | refine Clean.inBlock ?_ | refine SegQ.clean ?_ | refine FinC.clean ?_)) (n := 10) (rest := [[8, 9, 10, 11, 12, 13, 14, 15, 16, 17]]) [4, 5, 7, 6] [⟨_, _, _, _, _, _⟩, ⟨_, _, _, _, _, _⟩, ⟨_, _, _, _, _, _⟩, ⟨_, _, _, _, _, _⟩] rfl (by kernel_rfl) (by simp) _ _ ?_
                go_wp2_with (first
                  | (go_at_call 16; (refine Ret.calls (sumW_s (p := p) (E := [5]) (S := T5) (hS.bring (by repeat (first | exact t0 | apply tS)))) ?_); clear hS; rintro r1 w ⟨rfl, hS⟩)
                  | (show wpList _ _ _ (⟨some 117, .load _ _, _, _, _, _⟩ :: _) _ _; refine wpList_val rfl (op_load agg32b rfl rfl (SepL.getBlk (b := nh) (T := 33) ((hS.bring (by repeat (first | exact t0 | apply tS))))).cells HSL.out) ?_; go_frame)
                  )
                refine segQ_mk (((hS.bring (by repeat (first | exact t0 | apply tS))).getBlk) : Blk _ nh 33 ((sumT T5).map B8)) ?_
                refine ord_seg (by repeat (first | exact Clean.body | refine Clean.then ?_ | refine Clean.inBlock ?_ | refine SegQ.clean ?_ | refine FinC.clean ?_)) (n := 9) (rest := [[9, 10, 11, 12, 13, 14, 15, 16, 17]]) [8] [⟨_, _, _, _, _, _⟩] rfl (by kernel_rfl) (by simp) _ _ ?_
                go_wp2_with (first
                  | (show wpList _ _ _ (⟨some 118, .binOp _ _ _ _ _, _, _, _, _⟩ :: _) _ _; refine wpList_val rfl (op_eqHash rfl rfl rfl (sumT_len T5) rfl) ?_; go_frame)
                  )
                refine segQ_mk (((hS.bring (by repeat (first | exact t0 | apply tS))).getBlk) : Blk _ nh 33 ((sumT T5).map B8)) ?_
                refine ord_seg (by repeat (first | exact Clean.body | refine Clean.then ?_ | refine Clean.inBlock ?_ | refine SegQ.clean ?_ | refine FinC.clean ?_)) (n := 0) (rest := [[]]) [9, 10, 11, 12, 13, 14, 15, 16, 17] [⟨_, _, _, _, _, _⟩, ⟨_, _, _, _, _, _⟩, ⟨_, _, _, _, _, _⟩, ⟨_, _, _, _, _, _⟩, ⟨_, _, _, _, _, _⟩, ⟨_, _, _, _, _, _⟩, ⟨_, _, _, _, _, _⟩, ⟨_, _, _, _, _, _⟩, ⟨_, _, _, _, _, _⟩] rfl (by kernel_rfl) (by simp) _ _ ?_
                go_wp2_with (first
                  | (show wpList _ _ _ (⟨some 122, .call _, _, _, _, _⟩ :: _) _ _; refine wpList_val rfl (op_len slSight rfl rfl (v := q1v) (xs := q1.map sC) rfl (hG_srd ((hS.bring (by repeat (first | exact t0 | apply tS))))).rd) ?_; rw [HQ1L.out, HT5.out]; go_frame)
                  | (show wpList _ _ _ (⟨some 124, .call _, _, _, _, _⟩ :: _) _ _; refine wpList_val rfl (op_len slSight rfl rfl (v := vl) (xs := L.map sC) rfl (by exact hS.rd hl.rd)) ?_; rw [HLN.out]; go_frame)
                  | (show wpList _ _ _ (⟨some 125, .binOp _ _ _ _ _, _, _, _, _⟩ :: _) _ _; refine wpList_val rfl (op_eqI' rfl rfl rfl HEQ.out) ?_; go_frame)
                  )
                refine segQ_mk (((hS.bring (by repeat (first | exact t0 | apply tS))).getBlk) : Blk _ nh 33 ((sumT T5).map B8)) ?_
                refine finC_mk (by kernel_rfl) (by
                  intro t ht
                  simp only [List.mem_cons, List.not_mem_nil, or_false] at ht
                  rcases ht with rfl
                  exact stab_blk (b := nh) (fun w h => h) _ none) ?_
                go_wp2_with fail
                go_ret
                exact ⟨rfl, hS.chg⟩
end Go.Proofs.YtnjeoaplohlgkaaDoor
