/- Floors, locks, weights, their order and the worst. Conditions: those that stand ahead of each theorem. -/
import Derived.Test.YtieobcaegegboaaDoorGSwA
import Derived.Test.YtieobcaegegboaaDoorGTxA
import Derived.Test.YtieobcaegegboaaDoorGShaB
import Derived.Test.YtieobcaegegboaaDoorGSwB
namespace Go.Proofs.YtieobcaegegboaaDoor
open Go Go.RowKit Go.Px Go.Sha Go.Calc
/-- what so many bytes pay at least -/
def floorN (z : Int) : Nat := needN (max z 0).toNat 100
def lessB (a b : Wt) : Bool := decide (lessW a b)
set_option maxRecDepth 100000
theorem aggRWt : Agg Tryd.prog 55 2 := Agg.of Tryd.underlying55 rfl (by kernel_rfl)
theorem iRWt : (Tryd.prog.info? 55).map (fun i => (i.zero, i.size, i.bytes)) = some (some (.agg #[Value.int .u64 0, .int .i64 0]), 2, 16) := by kernel_rfl
theorem slRWt : SlTy Tryd.prog 43 55 2 16 where
  ty := by kernel_rfl
  info := by
    obtain ⟨i, h1, h2, h3, h4⟩ := info_parts iRWt
    exact ⟨i, _, h1, h2, h3, by simp [Value.cells], h4, by simp [Value.cells, Value.oneCell']⟩
  pos := by omega
theorem buildWt (x : Nat) (y : Int) (w : World) : (Instr.build 53 #[(0, U x), (1, I64 y)]).run Tryd.prog w = .ok (.agg #[U x, I64 y]) w := by kernel_rfl
theorem zeroWt (w : World) : (zeroValue 53).run Tryd.prog w = .ok (.agg [U 0, I64 0].toArray) w := by kernel_rfl
theorem zeroRWt (w : World) : (zeroValue 55).run Tryd.prog w = .ok (.agg [U 0, I64 0].toArray) w := by kernel_rfl
theorem wt_flat (l : List Wt) : Flat (l.map wtC) := by
  intro x hx v hv
  obtain ⟨a, _, rfl⟩ := List.mem_map.1 hx
  unfold wtC at hv
  simp only [List.mem_cons, List.not_mem_nil, or_false] at hv
  rcases hv with rfl | rfl <;> rfl
section
variable {R : Nat → Prop} {base w : World} {F : List Hp}
set_option maxHeartbeats 1000000 in
theorem floor_s {z : Int} (hz : In64 z) (hS : SepL R base w F) :
    Calls Tryd.prog 17 #[I64 z] w (Ret fun r w' => r = U (floorN z) ∧ SepL R base w' F) := by
  obtain ⟨n, hn⟩ : ∃ n, (max z 0).toNat = n := ⟨_, rfl⟩
  have HM : Hid (max z 0 = (n : Int)) := by unfold Hid; omega
  have hn2 : n ≤ 9223372036854775807 := by have := hz.2; omega
  have T1 : ∀ {w : World} {F : List Hp}, SepL R base w F → Calls Tryd.prog 35 #[.int .u64 n, .int .u64 100] w (Ret fun r w' => r = .tuple #[U (needN n 100), .int .i64 (needE n 100)] ∧ SepL R base w' F) := fun hS => need_s n 100 (by omega) (by omega) hS
  unfold floorN
  rw [hn]
  generalize needN n 100 = x at *
  generalize needE n 100 = y at *
  clear hn
  go_enter Tryd.func17, Tryd.ntmps17
  go_wp2_with (first
    | (show wpList _ _ _ (⟨some 7, .call _, _, _, _, _⟩ :: _) _ _; refine wpList_val rfl (op_maxI rfl rfl rfl _ HM.out) ?_; go_frame)
    | (show wpList _ _ _ (⟨some 8, .convert _ _ _, _, _, _, _⟩ :: _) _ _; refine wpList_val rfl (op_i64u64 undInt undU64 rfl rfl hn2) ?_; go_frame)
    | (go_at_call 35; refine Ret.calls (T1 hS) ?_; clear hS; rintro r1 w ⟨rfl, hS⟩)
    )
  go_ret
  exact ⟨rfl, hS⟩
set_option maxHeartbeats 1000000 in
theorem rfloor_s {z : Int} (hz : In64 z) (hS : SepL R base w F) :
    Calls Tryd.prog 18 #[I64 z] w (Ret fun r w' => r = U (floorN z) ∧ SepL R base w' F) := by
  obtain ⟨n, hn⟩ : ∃ n, (max z 0).toNat = n := ⟨_, rfl⟩
  have HM : Hid (max z 0 = (n : Int)) := by unfold Hid; omega
  have hn2 : n ≤ 9223372036854775807 := by have := hz.2; omega
  have T1 : ∀ {w : World} {F : List Hp}, SepL R base w F → Calls Tryd.prog 36 #[.int .u64 n, .int .u64 100] w (Ret fun r w' => r = .tuple #[U (needN n 100), .int .i64 (needE n 100)] ∧ SepL R base w' F) := fun hS => rneed_s n 100 (by omega) (by omega) hS
  unfold floorN
  rw [hn]
  generalize needN n 100 = x at *
  generalize needE n 100 = y at *
  clear hn
  go_enter Tryd.func18, Tryd.ntmps18
  go_wp2_with (first
    | (show wpList _ _ _ (⟨some 7, .call _, _, _, _, _⟩ :: _) _ _; refine wpList_val rfl (op_maxI rfl rfl rfl _ HM.out) ?_; go_frame)
    | (show wpList _ _ _ (⟨some 8, .convert _ _ _, _, _, _, _⟩ :: _) _ _; refine wpList_val rfl (op_i64u64 undInt undU64 rfl rfl hn2) ?_; go_frame)
    | (go_at_call 36; refine Ret.calls (T1 hS) ?_; clear hS; rintro r1 w ⟨rfl, hS⟩)
    )
  go_ret
  exact ⟨rfl, hS⟩
set_option maxHeartbeats 1000000 in
theorem lock_s (hS : SepL R base w F) (hK : CIn R base 3 (kTab.map W32)) (hF : CIn R base 0 (first.map W32)) {v : Value} {bs : List Byte} (hv : RdIn R base 1 v (bytes bs)) (hn : bs.length < 4611686018427386000) :
    Calls Tryd.prog 15 #[v] w (Ret fun r w' => r = HV (sum bs) ∧ SepL R base w' F) := by
  have HSM : Hid (∀ {T : Nat} {v2 : Value} {w : World} {F : List Hp}, SepL R base w (.own T 1 v2 [[v]] :: F) → Calls Tryd.prog 32 #[v2] w (Ret fun r w' => r = HV (sum bs) ∧ SepL R base w' F)) := fun h => sum_arg1 h hK hF hv hn
  obtain ⟨m, hm⟩ : ∃ m, sum bs = m := ⟨_, rfl⟩
  have HML := hide (show (m.map B8).length = 32 by rw [List.length_map, ← hm, sum_len])
  have HV1 := hide (slice_one hv)
  rw [hm] at HSM ⊢
  clear hm hv hn
  go_enter Tryd.func15, Tryd.ntmps15
  go_wp2_with (first
    | (refine wp_region_text (by kernel_rfl) (by kernel_rfl) (by repeat (first | exact Clean.body | refine Clean.then ?_ | refine Clean.inBlock ?_)) ?_; replace hS := hS.drew)
    | (refine fin_mk (by kernel_rfl) ?_)
    | (show wpList _ _ _ (⟨_, .alloc 34, _, _, _, _⟩ :: _) _ _; refine wpS_alloc hS rfl rfl zero32b (zs := (List.replicate 32 (0 : Byte)).map B8) rfl ?_; clear hS; intro nb w hS; go_frame)
    | (show wpList _ _ _ (⟨_, .buildSlice _ _ _, _, _, _, _⟩ :: _) _ _; refine wpS_build11 slPieces hS rfl rfl (u := v) rfl HV1.out.2 ?_; clear hS; intro v2 w hS; go_frame)
    | (go_at_call 32; refine Ret.calls (HSM.out hS) ?_; clear hS; rintro r w ⟨rfl, hS⟩)
    | (show wpList _ _ _ (⟨_, .store 34 _ _, _, _, _, _⟩ :: _) _ _; (refine wpS_storeAll agg32b (hS.bring (by repeat (first | exact t0 | apply tS))) rfl rfl rfl (vs := m.map B8) rfl HML.out (B8_one _) (by rw [List.length_map, List.length_replicate]) ?_); clear hS; intro w hS; go_frame)
    )
  exact ret_cell agg32b rfl rfl rfl ((hS.bring (by repeat (first | exact t0 | apply tS))).getBlk) HML.out ⟨rfl, (hS.sel (by repeat (first | exact Sel.refl | refine Sel.take (by repeat (first | exact t0 | apply tS)) ?_ | apply Sel.drop)) : SepL R base _ F)⟩
set_option maxHeartbeats 1000000 in
theorem rless_s {a b : Wt} (hS : SepL R base w F) (ha : WOk a) (hb : WOk b) {r : Bool} (hr : Hid (decide (lessW a b) = r)) :
    Calls Tryd.prog 25 #[.agg #[U a.fee, I64 a.size], .agg #[U b.fee, I64 b.size]] w (Ret fun y w' => y = .bool r ∧ SepL R base w' F) := by
  have HL : Hid (decide (cmpN (a.fee * sz b) (b.fee * sz a) < 0) = r) := by
    rw [← hr.out]
    exact decide_eq_decide.2 cmpN_neg
  have hsa := sz_lt ha.2
  have hsb := sz_lt hb.2
  have HC : ∀ {w : World} {F : List Hp}, SepL R base w F → Calls Tryd.prog 40 #[U a.fee, .int .u64 (sz b), U b.fee, .int .u64 (sz a)] w (Ret fun r w' => r = .int .i64 (cmpN (a.fee * sz b) (b.fee * sz a)) ∧ SepL R base w' F) := fun hS => rcmp_s a.fee (sz b) b.fee (sz a) ha.1 (by omega) hb.1 (by omega) hS
  have HMA : Hid (max a.size 1 = ((sz a : Nat) : Int)) := by unfold Hid sz; omega
  have HMB : Hid (max b.size 1 = ((sz b : Nat) : Int)) := by unfold Hid sz; omega
  generalize cmpN (a.fee * sz b) (b.fee * sz a) = z at *
  generalize sz a = x at *
  generalize sz b = y at *
  go_enter Tryd.func25, Tryd.ntmps25
  go_wp2_with (first
    | (show wpList _ _ _ (⟨some 2, .box _ _, _, _, _, _⟩ :: _) _ _; refine wpS_boxA (cs := [U a.fee, I64 a.size]) hS rfl rfl rfl ?_; clear hS; intro n2 w hS; go_frame)
    | (show wpList _ _ _ (⟨some 3, .box _ _, _, _, _, _⟩ :: _) _ _; refine wpS_boxA (cs := [U b.fee, I64 b.size]) hS rfl rfl rfl ?_; clear hS; intro n3 w hS; go_frame)
    | (show wpList _ _ _ (⟨some 6, .load _ _, _, _, _, _⟩ :: _) _ _; refine wpList_val rfl (op_load1S (b := n2) (T := 55) oneU ((hS.bring (by repeat (first | exact t0 | apply tS)))) rfl rfl rfl) ?_; go_frame)
    | (show wpList _ _ _ (⟨some 8, .load _ _, _, _, _, _⟩ :: _) _ _; refine wpList_val rfl (op_load1S (b := n3) (T := 55) oneInt ((hS.bring (by repeat (first | exact t0 | apply tS)))) rfl rfl rfl) ?_; go_frame)
    | (show wpList _ _ _ (⟨some 9, .call _, _, _, _, _⟩ :: _) _ _; refine wpList_val rfl (op_maxI rfl rfl rfl _ HMB.out) ?_; go_frame)
    | (show wpList _ _ _ (⟨some 10, .convert _ _ _, _, _, _, _⟩ :: _) _ _; refine wpList_val rfl (op_i64u64 undInt undU64 rfl rfl hsb) ?_; go_frame)
    | (show wpList _ _ _ (⟨some 12, .load _ _, _, _, _, _⟩ :: _) _ _; refine wpList_val rfl (op_load1S (b := n3) (T := 55) oneU ((hS.bring (by repeat (first | exact t0 | apply tS)))) rfl rfl rfl) ?_; go_frame)
    | (show wpList _ _ _ (⟨some 14, .load _ _, _, _, _, _⟩ :: _) _ _; refine wpList_val rfl (op_load1S (b := n2) (T := 55) oneInt ((hS.bring (by repeat (first | exact t0 | apply tS)))) rfl rfl rfl) ?_; go_frame)
    | (show wpList _ _ _ (⟨some 15, .call _, _, _, _, _⟩ :: _) _ _; refine wpList_val rfl (op_maxI rfl rfl rfl _ HMA.out) ?_; go_frame)
    | (show wpList _ _ _ (⟨some 16, .convert _ _ _, _, _, _, _⟩ :: _) _ _; refine wpList_val rfl (op_i64u64 undInt undU64 rfl rfl hsa) ?_; go_frame)
    | (go_at_call 40; refine Ret.calls (HC hS) ?_; clear hS; rintro r1 w ⟨rfl, hS⟩)
    | (show wpList _ _ _ (⟨some 18, .binOp _ _ _ _ _, _, _, _, _⟩ :: _) _ _; refine wpList_val rfl (op_ilss rfl rfl rfl HL.out) ?_; go_frame)
    )
  go_ret
  exact ⟨rfl, hS.sel (by repeat (first | exact Sel.refl | refine Sel.take (by repeat (first | exact t0 | apply tS)) ?_ | apply Sel.drop))⟩
set_option maxHeartbeats 4000000 in
theorem weights_s {lv : Value} {l : List Wt} (hS : SepL R base w F) (hl : LIn R base lv l) (hn : l.length ≤ 1000000) :
    Calls Tryd.prog 19 #[lv] w (Ret fun r w' => SepL R base w' (.own 53 2 r (l.map wtC) :: F)) := by
  obtain ⟨n, hnn⟩ : ∃ n, l.length = n := ⟨_, rfl⟩
  have HNL : Hid ((l.map wtC).length = n) := by unfold Hid; rw [List.length_map, hnn]
  have HRL := hide hl.rd
  have H0 : Hid (List.map wtC (l.take 0) = []) := by unfold Hid; rw [List.take_zero, List.map_nil]
  go_enter Tryd.func19, Tryd.ntmps19
  go_wp2_with (first
    | (show wpList _ _ _ (⟨some 7, .call _, _, _, _, _⟩ :: _) _ _; refine wpList_val rfl (op_len slRWt rfl rfl (v := lv) (xs := l.map wtC) rfl (by exact hS.rd HRL.out)) ?_; rw [HNL.out]; go_frame)
    )
  have hS1 := hS.nilOwn 53 2
  rw [← H0.out] at hS1
  go_loopw [8, 3] (fun kv v wr => ∃ k : Nat, kv = .int .i64 k ∧ k ≤ n ∧ SepL R base wr (.own 53 2 v ((l.take k).map wtC) :: F)) (fun kv _ _ => n - (intOf kv).toNat)
  case atStart => exact ⟨0, rfl, Nat.zero_le _, hS1⟩
  case round =>
    clear hS hS1 H0
    obtain ⟨k, rfl, hk, hS⟩ := hrel
    by_cases hlt : k < n
    · have hkL : k < l.length := by omega
      have hkr : k < (l.map wtC).length := by rw [List.length_map]; exact hkL
      obtain ⟨a, ha⟩ : ∃ a, l[k] = a := ⟨_, rfl⟩
      have HX : Hid ((l.map wtC)[k] = [U a.fee, I64 a.size]) := by unfold Hid; rw [List.getElem_map, ha]; rfl
      have HNX : Hid ((l.take k).map wtC ++ [[U a.fee, I64 a.size]] = (l.take (k + 1)).map wtC) := by
        unfold Hid
        rw [List.take_add_one, List.getElem?_eq_getElem hkL, ha, List.map_append]
        rfl
      have HTL : Hid (((l.take k).map wtC).length = k) := by
        unfold Hid
        rw [List.length_map, List.length_take]
        omega
      clear ha
      go_wp2_with (first
        | (show wpList _ _ _ (⟨some 10, .indexAddr _ _ _, _, _, _, _⟩ :: _) _ _; refine wpList_val rfl (op_indexAddr slRWt rfl (v := lv) (xs := l.map wtC) rfl (k := k) rfl (by exact hS.rd HRL.out) hkr) ?_; go_frame)
        | (show wpList _ _ _ (⟨some 11, .load _ _, _, _, _, _⟩ :: _) _ _; refine wpList_val rfl (op_loadE aggRWt rfl (v := lv) (xs := l.map wtC) (k := k) rfl (by exact hS.rd HRL.out) hkr) ?_; rw [HX.out]; go_frame)
        | (show wpList _ _ _ (⟨some 5, .alloc _, _, _, _, _⟩ :: _) _ _; refine wpS_alloc hS rfl rfl zeroRWt (zs := [U 0, I64 0]) rfl ?_; clear hS; intro nx w hS; go_frame)
        | (show wpList _ _ _ (⟨_, .store 55 _ _, _, _, _, _⟩ :: _) _ _; (refine wpS_storeAll (b := nx) aggRWt (hS.bring (by repeat (first | exact t0 | apply tS))) rfl rfl rfl (vs := [U a.fee, I64 a.size]) rfl rfl (by simp [U, Value.oneCell']) rfl ?_); clear hS; intro w hS; go_frame)
        | (show wpList _ _ _ (⟨some 14, .load _ _, _, _, _, _⟩ :: _) _ _; refine wpList_val rfl (op_load1S (b := nx) (T := 55) oneU ((hS.bring (by repeat (first | exact t0 | apply tS)))) rfl rfl rfl) ?_; go_frame)
        | (show wpList _ _ _ (⟨some 16, .load _ _, _, _, _, _⟩ :: _) _ _; refine wpList_val rfl (op_load1S (b := nx) (T := 55) oneInt ((hS.bring (by repeat (first | exact t0 | apply tS)))) rfl rfl rfl) ?_; go_frame)
        | (show wpList _ _ _ (⟨some 17, .build _ _, _, _, _, _⟩ :: _) _ _; refine wpList_val rfl (op_build (ps := #[(0, U a.fee), (1, I64 a.size)]) rfl rfl (buildWt a.fee a.size) _) ?_; go_frame)
        | (show wpList _ _ _ (⟨some 18, .buildSlice _ _ _, _, _, _, _⟩ :: _) _ _; refine wpS_build1A slWt (by omega) hS rfl rfl (cs := [U a.fee, I64 a.size]) rfl rfl ?_; clear hS; intro v2 w hS; go_frame)
        | (show wpList _ _ _ (⟨some 19, .call _, _, _, _, _⟩ :: _) _ _; replace hS := hS.sel (M := .own 53 2 u3 ((l.take k).map wtC) :: .own 53 2 v2 [[U a.fee, I64 a.size]] :: F) (by repeat (first | exact Sel.refl | refine Sel.take (by repeat (first | exact t0 | apply tS)) ?_ | apply Sel.drop)); refine wpS_append slWt hS rfl rfl rfl rfl (by exact hS.tail.getOwn.rd) (by exact wt_flat [a]) (by rw [HTL.out]; simp only [List.length_cons, List.length_nil]; omega) (by rw [HTL.out]; simp only [maxLen, List.length_cons, List.length_nil]; omega) ?_; clear hS; intro v3 w hS; rw [HNX.out] at hS; go_frame)
        )
      go_roundw
      case rel => exact ⟨k + 1, by go_num, hlt, hS.sel (by repeat (first | exact Sel.refl | refine Sel.take (by repeat (first | exact t0 | apply tS)) ?_ | apply Sel.drop))⟩
      case measure => simp [intOf]; omega
    · have HALL : Hid ((l.take k).map wtC = l.map wtC) := by
        unfold Hid
        rw [List.take_of_length_le (by omega)]
      rw [HALL.out] at hS
      go_wp2_with fail
      go_ret
      exact hS
end
end Go.Proofs.YtieobcaegegboaaDoor
namespace Go.Proofs.YtieobcaegegboaaDoor
open Go Go.RowKit Go.Px Go.Sha Go.Calc
theorem worst_next (l : List Wt) (k : Nat) : worstK l (k + 1) = if worstK l k < 0 ∨ lessW (wAt l k) (wAt l (worstK l k)) then (k : Int) else worstK l k := rfl
theorem worst_range (l : List Wt) (k : Nat) : (worstK l k = -1 ∧ k = 0) ∨ ∃ j : Nat, worstK l k = j ∧ j < k := by
  obtain ⟨h1, h2⟩ := worstK_spec l k
  by_cases hk : k = 0
  · exact .inl ⟨h1 hk, hk⟩
  · obtain ⟨a1, a2, _⟩ := h2 (by omega)
    exact .inr ⟨(worstK l k).toNat, by omega, by omega⟩
/-- are the first j no less than place i -/
def noneL (l : List Wt) (i j : Nat) : Bool := (List.range j).all fun q => !decide (lessW (wAt l q) (wAt l i))
theorem noneL_next (l : List Wt) (i j : Nat) : noneL l i (j + 1) = (noneL l i j && !decide (lessW (wAt l j) (wAt l i))) := by
  unfold noneL
  rw [List.range_succ, List.all_append]
  simp
theorem noneL_all (l : List Wt) (i : Nat) : noneL l i l.length = leastB l i := rfl
section
variable {R : Nat → Prop} {base w : World} {F : List Hp}
set_option maxRecDepth 100000
set_option maxHeartbeats 4000000 in
theorem worst_s {lv : Value} {l : List Wt} (hS : SepL R base w F) (hl : LIn R base lv l) (hlen : l.length ≤ 1000000) :
    Calls Tryd.prog 22 #[lv] w (Ret fun r w' => r = I64 (worstK l l.length) ∧ SepL R base w' F) := by
  obtain ⟨n, hn⟩ : ∃ n, l.length = n := ⟨_, rfl⟩
  have HNL : Hid ((l.map wtC).length = n) := by unfold Hid; rw [List.length_map, hn]
  have HRL := hide hl.rd
  have HOK := hide hl.ok
  have HN := hide hn
  rw [hn]
  go_enter Tryd.func22, Tryd.ntmps22
  go_wp2_with (first
    | (show wpList _ _ _ (⟨some 7, .call _, _, _, _, _⟩ :: _) _ _; refine wpList_val rfl (op_len slWt rfl rfl (v := lv) (xs := l.map wtC) rfl (by exact hS.rd HRL.out)) ?_; rw [HNL.out]; go_frame)
    )
  go_loopw [8, 3, 4] (fun kv zv _ wr => ∃ (k : Nat) (z : Int), kv = .int .i64 k ∧ zv = .int .i64 z ∧ k ≤ n ∧ Hid (z = worstK l k) ∧ SepL R base wr F) (fun kv _ _ _ => n - (intOf kv).toNat)
  case atStart => exact ⟨0, -1, rfl, rfl, Nat.zero_le _, rfl, hS⟩
  case round =>
    clear hS
    obtain ⟨k, z, rfl, rfl, hk, HW, hS⟩ := hrel
    by_cases hlt : k < n
    · have hkL : k < l.length := by omega
      have hkr : k < (l.map wtC).length := by rw [List.length_map]; exact hkL
      obtain ⟨a, ha⟩ : ∃ a, l[k] = a := ⟨_, rfl⟩
      have HX : Hid ((l.map wtC)[k] = [U a.fee, I64 a.size]) := by unfold Hid; rw [List.getElem_map, ha]; rfl
      have ea : wAt l k = a := by rw [wAt_get rfl hkL, ha]
      have HA := hide (HOK.out a (ha ▸ List.getElem_mem hkL))
      rcases worst_range l k with ⟨hw, hk0⟩ | ⟨j, hw, hjk⟩
      · have hz : z = -1 := HW.out.trans hw
        have HZ0 : Hid (decide (z < 0) = true) := decide_eq_true (by omega)
        have HNX : Hid ((k : Int) = worstK l (k + 1)) := by
          unfold Hid
          rw [worst_next, if_pos (.inl (by rw [hw]; omega))]
        clear hw hz HW ha ea hk0
        go_wp2_with (first
          | (show wpList _ _ _ (⟨_, .indexAddr 44 (.tmp 6) _, _, _, _, _⟩ :: _) _ _; refine wpList_val rfl (op_indexAddr slWt rfl (v := lv) (xs := l.map wtC) rfl (k := k) rfl (by exact hS.rd HRL.out) hkr) ?_; go_frame)
          | (show wpList _ _ _ (⟨some 12, .load _ _, _, _, _, _⟩ :: _) _ _; refine wpList_val rfl (op_loadE aggWt rfl (v := lv) (xs := l.map wtC) (k := k) rfl (by exact hS.rd HRL.out) hkr) ?_; rw [HX.out]; go_frame)
          | (show wpList _ _ _ (⟨some 5, .alloc _, _, _, _, _⟩ :: _) _ _; refine wpS_alloc hS rfl rfl zeroWt (zs := [U 0, I64 0]) rfl ?_; clear hS; intro nx w hS; go_frame)
          | (show wpList _ _ _ (⟨_, .store 53 _ _, _, _, _, _⟩ :: _) _ _; (refine wpS_storeAll (b := nx) aggWt (hS.bring (by repeat (first | exact t0 | apply tS))) rfl rfl rfl (vs := [U a.fee, I64 a.size]) rfl rfl (by simp [U, Value.oneCell']) rfl ?_); clear hS; intro w hS; go_frame)
          )
        refine wp_region_text (by kernel_rfl) (by kernel_rfl) (by repeat (first | exact Clean.body | refine Clean.then ?_ | refine Clean.inBlock ?_)) ?_
        replace hS := hS.drew
        go_wp2_with (first
          | go_big_skip
          | (show wpList _ _ _ (⟨some 14, .binOp _ _ _ _ _, _, _, _, _⟩ :: _) _ _; refine wpList_val rfl (op_ilss rfl rfl rfl HZ0.out) ?_; go_frame)
          | (refine fin_mk (by kernel_rfl) ?_)
          )
        go_roundw
        case rel => exact ⟨k + 1, k, by go_num, rfl, hlt, HNX, hS.sel (by repeat (first | exact Sel.refl | refine Sel.take (by repeat (first | exact t0 | apply tS)) ?_ | apply Sel.drop))⟩
        case measure => simp [intOf]; omega
      · have hjL : j < l.length := by omega
        have hjr : j < (l.map wtC).length := by rw [List.length_map]; exact hjL
        obtain ⟨b, hb⟩ : ∃ b, l[j] = b := ⟨_, rfl⟩
        have HY : Hid ((l.map wtC)[j] = [U b.fee, I64 b.size]) := by unfold Hid; rw [List.getElem_map, hb]; rfl
        have eb : wAt l j = b := by rw [wAt_get rfl hjL, hb]
        have HB := hide (HOK.out b (hb ▸ List.getElem_mem hjL))
        have hz : z = (j : Int) := HW.out.trans hw
        subst hz
        have HZ0 : Hid (decide ((j : Int) < 0) = false) := decide_eq_false (by omega)
        have HC : ∀ {w : World} {F : List Hp}, SepL R base w F → Calls Tryd.prog 39 #[.agg #[U a.fee, I64 a.size], .agg #[U b.fee, I64 b.size]] w (Ret fun r w' => r = .int .i64 (cmpN (a.fee * sz b) (b.fee * sz a)) ∧ SepL R base w' F) := fun hS => compare_s hS HA.out HB.out
        have hzz : cmpN (a.fee * sz b) (b.fee * sz a) < 0 ↔ lessW a b := cmpN_neg
        by_cases hless : lessW a b
        · have HZ : Hid (decide (cmpN (a.fee * sz b) (b.fee * sz a) < 0) = true) := decide_eq_true (hzz.2 hless)
          have HNX : Hid ((k : Int) = worstK l (k + 1)) := by
            unfold Hid
            rw [worst_next, if_pos (.inr (by rw [hw, ea, eb]; exact hless))]
          generalize cmpN (a.fee * sz b) (b.fee * sz a) = y at *
          clear hzz hless hw HW ha ea hb eb
          go_wp2_with (first
            | (show wpList _ _ _ (⟨_, .indexAddr 44 (.tmp 6) _, _, _, _, _⟩ :: _) _ _; refine wpList_val rfl (op_indexAddr slWt rfl (v := lv) (xs := l.map wtC) rfl (k := k) rfl (by exact hS.rd HRL.out) hkr) ?_; go_frame)
            | (show wpList _ _ _ (⟨some 12, .load _ _, _, _, _, _⟩ :: _) _ _; refine wpList_val rfl (op_loadE aggWt rfl (v := lv) (xs := l.map wtC) (k := k) rfl (by exact hS.rd HRL.out) hkr) ?_; rw [HX.out]; go_frame)
            | (show wpList _ _ _ (⟨some 5, .alloc _, _, _, _, _⟩ :: _) _ _; refine wpS_alloc hS rfl rfl zeroWt (zs := [U 0, I64 0]) rfl ?_; clear hS; intro nx w hS; go_frame)
            | (show wpList _ _ _ (⟨_, .store 53 _ _, _, _, _, _⟩ :: _) _ _; (refine wpS_storeAll (b := nx) aggWt (hS.bring (by repeat (first | exact t0 | apply tS))) rfl rfl rfl (vs := [U a.fee, I64 a.size]) rfl rfl (by simp [U, Value.oneCell']) rfl ?_); clear hS; intro w hS; go_frame)
            )
          refine wp_region_text (by kernel_rfl) (by kernel_rfl) (by repeat (first | exact Clean.body | refine Clean.then ?_ | refine Clean.inBlock ?_)) ?_
          replace hS := hS.drew
          go_wp2_with (first
            | go_big_skip
            | (show wpList _ _ _ (⟨some 14, .binOp _ _ _ _ _, _, _, _, _⟩ :: _) _ _; refine wpList_val rfl (op_ilss rfl rfl rfl HZ0.out) ?_; go_frame)
            | (show wpList _ _ _ (⟨some 16, .load _ _, _, _, _, _⟩ :: _) _ _; refine wpList_val rfl (op_load aggWt rfl rfl (SepL.getBlk (b := nx) (T := 53) ((hS.bring (by repeat (first | exact t0 | apply tS))))).cells rfl) ?_; go_frame)
            | (show wpList _ _ _ (⟨some 19, .indexAddr _ _ _, _, _, _, _⟩ :: _) _ _; refine wpList_val rfl (op_indexAddr slWt rfl (v := lv) (xs := l.map wtC) rfl (k := j) rfl (by exact hS.rd HRL.out) hjr) ?_; go_frame)
            | (show wpList _ _ _ (⟨some 20, .load _ _, _, _, _, _⟩ :: _) _ _; refine wpList_val rfl (op_loadE aggWt rfl (v := lv) (xs := l.map wtC) (k := j) rfl (by exact hS.rd HRL.out) hjr) ?_; rw [HY.out]; go_frame)
            | (go_at_call 39; refine Ret.calls (HC hS) ?_; clear hS; rintro r1 w ⟨rfl, hS⟩)
            | (show wpList _ _ _ (⟨some 22, .binOp _ _ _ _ _, _, _, _, _⟩ :: _) _ _; refine wpList_val rfl (op_ilss rfl rfl rfl HZ.out) ?_; go_frame)
            | (refine fin_mk (by kernel_rfl) ?_)
            )
          go_roundw
          case rel => exact ⟨k + 1, k, by go_num, rfl, hlt, HNX, hS.sel (by repeat (first | exact Sel.refl | refine Sel.take (by repeat (first | exact t0 | apply tS)) ?_ | apply Sel.drop))⟩
          case measure => simp [intOf]; omega
        · have HZ : Hid (decide (cmpN (a.fee * sz b) (b.fee * sz a) < 0) = false) := decide_eq_false (fun h => hless (hzz.1 h))
          have HNX : Hid ((j : Int) = worstK l (k + 1)) := by
            unfold Hid
            rw [worst_next, if_neg (by rw [hw, ea, eb]; rintro (h | h); · omega
                                       · exact hless h), hw]
          generalize cmpN (a.fee * sz b) (b.fee * sz a) = y at *
          clear hzz hless hw HW ha ea hb eb
          go_wp2_with (first
            | (show wpList _ _ _ (⟨_, .indexAddr 44 (.tmp 6) _, _, _, _, _⟩ :: _) _ _; refine wpList_val rfl (op_indexAddr slWt rfl (v := lv) (xs := l.map wtC) rfl (k := k) rfl (by exact hS.rd HRL.out) hkr) ?_; go_frame)
            | (show wpList _ _ _ (⟨some 12, .load _ _, _, _, _, _⟩ :: _) _ _; refine wpList_val rfl (op_loadE aggWt rfl (v := lv) (xs := l.map wtC) (k := k) rfl (by exact hS.rd HRL.out) hkr) ?_; rw [HX.out]; go_frame)
            | (show wpList _ _ _ (⟨some 5, .alloc _, _, _, _, _⟩ :: _) _ _; refine wpS_alloc hS rfl rfl zeroWt (zs := [U 0, I64 0]) rfl ?_; clear hS; intro nx w hS; go_frame)
            | (show wpList _ _ _ (⟨_, .store 53 _ _, _, _, _, _⟩ :: _) _ _; (refine wpS_storeAll (b := nx) aggWt (hS.bring (by repeat (first | exact t0 | apply tS))) rfl rfl rfl (vs := [U a.fee, I64 a.size]) rfl rfl (by simp [U, Value.oneCell']) rfl ?_); clear hS; intro w hS; go_frame)
            )
          refine wp_region_text (by kernel_rfl) (by kernel_rfl) (by repeat (first | exact Clean.body | refine Clean.then ?_ | refine Clean.inBlock ?_)) ?_
          replace hS := hS.drew
          go_wp2_with (first
            | go_big_skip
            | (show wpList _ _ _ (⟨some 14, .binOp _ _ _ _ _, _, _, _, _⟩ :: _) _ _; refine wpList_val rfl (op_ilss rfl rfl rfl HZ0.out) ?_; go_frame)
            | (show wpList _ _ _ (⟨some 16, .load _ _, _, _, _, _⟩ :: _) _ _; refine wpList_val rfl (op_load aggWt rfl rfl (SepL.getBlk (b := nx) (T := 53) ((hS.bring (by repeat (first | exact t0 | apply tS))))).cells rfl) ?_; go_frame)
            | (show wpList _ _ _ (⟨some 19, .indexAddr _ _ _, _, _, _, _⟩ :: _) _ _; refine wpList_val rfl (op_indexAddr slWt rfl (v := lv) (xs := l.map wtC) rfl (k := j) rfl (by exact hS.rd HRL.out) hjr) ?_; go_frame)
            | (show wpList _ _ _ (⟨some 20, .load _ _, _, _, _, _⟩ :: _) _ _; refine wpList_val rfl (op_loadE aggWt rfl (v := lv) (xs := l.map wtC) (k := j) rfl (by exact hS.rd HRL.out) hjr) ?_; rw [HY.out]; go_frame)
            | (go_at_call 39; refine Ret.calls (HC hS) ?_; clear hS; rintro r1 w ⟨rfl, hS⟩)
            | (show wpList _ _ _ (⟨some 22, .binOp _ _ _ _ _, _, _, _, _⟩ :: _) _ _; refine wpList_val rfl (op_ilss rfl rfl rfl HZ.out) ?_; go_frame)
            | (refine fin_mk (by kernel_rfl) ?_)
            )
          go_roundw
          case rel => exact ⟨k + 1, j, by go_num, rfl, hlt, HNX, hS.sel (by repeat (first | exact Sel.refl | refine Sel.take (by repeat (first | exact t0 | apply tS)) ?_ | apply Sel.drop))⟩
          case measure => simp [intOf]; omega
    · have hkn : k = n := by omega
      subst hkn
      go_wp2_with fail
      go_ret
      exact ⟨by rw [← HW.out]; rfl, hS⟩
set_option maxHeartbeats 8000000 in
theorem rworst_s {lv : Value} {l : List Wt} (hS : SepL R base w F) (hl : LIn R base lv l) (hlen : l.length ≤ 1000000) :
    Calls Tryd.prog 23 #[lv] w (Ret fun r w' => r = I64 (worstK l l.length) ∧ SepL R base w' F) := by
  obtain ⟨n, hn⟩ : ∃ n, l.length = n := ⟨_, rfl⟩
  have HNL : Hid ((l.map wtC).length = n) := by unfold Hid; rw [List.length_map, hn]
  have HRL := hide hl.rd
  have HOK := hide hl.ok
  have HN := hide hn
  obtain ⟨z, hz⟩ : ∃ z, worstK l l.length = z := ⟨_, rfl⟩
  have HZ := hide hz
  rw [hz]
  go_enter Tryd.func23, Tryd.ntmps23
  go_wp2_with (first
    | (show wpList _ _ _ (⟨some 8, .call _, _, _, _, _⟩ :: _) _ _; refine wpList_val rfl (op_len slRWt rfl rfl (v := lv) (xs := l.map wtC) rfl (by exact hS.rd HRL.out)) ?_; rw [HNL.out]; go_frame)
    )
  go_loopw [9, 3, 4] (fun kv _ _ wr => ∃ k : Nat, kv = .int .i64 k ∧ k ≤ n ∧ Hid (∀ j : Nat, j < k → leastB l j = false) ∧ SepL R base wr F) (fun kv _ _ _ => n - (intOf kv).toNat)
  case atStart => exact ⟨0, rfl, Nat.zero_le _, fun j h => absurd h (Nat.not_lt_zero _), hS⟩
  case round =>
    clear hS
    obtain ⟨k, rfl, hk, HA, hS⟩ := hrel
    by_cases hlt : k < n
    · have hkL : k < l.length := by omega
      have hkr : k < (l.map wtC).length := by rw [List.length_map]; exact hkL
      obtain ⟨a, ha⟩ : ∃ a, l[k] = a := ⟨_, rfl⟩
      have HX : Hid ((l.map wtC)[k] = [U a.fee, I64 a.size]) := by unfold Hid; rw [List.getElem_map, ha]; rfl
      have hea : wAt l k = a := by rw [wAt_get rfl hkL, ha]
      have HEA := hide hea
      have HAO := hide (HOK.out a (ha ▸ List.getElem_mem hkL))
      clear ha hea
      go_wp2_with (first
        | (show wpList _ _ _ (⟨some 13, .call _, _, _, _, _⟩ :: _) _ _; refine wpList_val rfl (op_len slRWt rfl rfl (v := lv) (xs := l.map wtC) rfl (by exact hS.rd HRL.out)) ?_; rw [HNL.out]; go_frame)
        )
      go_loopw [14, 4] (fun jv tv wr => ∃ (j : Nat) (t : Bool), jv = .int .i64 j ∧ tv = .bool t ∧ j ≤ n ∧ Hid (noneL l k j = t) ∧ SepL R base wr F) (fun jv _ _ => n - (intOf jv).toNat)
      case atStart => exact ⟨0, true, rfl, rfl, Nat.zero_le _, rfl, hS⟩
      case round =>
        clear hS
        obtain ⟨j, t, rfl, rfl, hj, HT, hS⟩ := hrel
        by_cases hlt2 : j < n
        · have hjL : j < l.length := by omega
          have hjr : j < (l.map wtC).length := by rw [List.length_map]; exact hjL
          obtain ⟨b, hb⟩ : ∃ b, l[j] = b := ⟨_, rfl⟩
          have HY : Hid ((l.map wtC)[j] = [U b.fee, I64 b.size]) := by unfold Hid; rw [List.getElem_map, hb]; rfl
          have heb : wAt l j = b := by rw [wAt_get rfl hjL, hb]
          have HBO := hide (HOK.out b (hb ▸ List.getElem_mem hjL))
          obtain ⟨r, hr⟩ : ∃ r, decide (lessW b a) = r := ⟨_, rfl⟩
          have HRR := hide hr
          have HNX : Hid (noneL l k (j + 1) = (t && !r)) := by
            unfold Hid
            rw [noneL_next, HT.out, heb, HEA.out, hr]
          clear hr heb hb
          go_wp2_with (first
            | (show wpList _ _ _ (⟨some 16, .indexAddr _ _ _, _, _, _, _⟩ :: _) _ _; refine wpList_val rfl (op_indexAddr slRWt rfl (v := lv) (xs := l.map wtC) rfl (k := j) rfl (by exact hS.rd HRL.out) hjr) ?_; go_frame)
            | (show wpList _ _ _ (⟨some 17, .load _ _, _, _, _, _⟩ :: _) _ _; refine wpList_val rfl (op_loadE aggRWt rfl (v := lv) (xs := l.map wtC) (k := j) rfl (by exact hS.rd HRL.out) hjr) ?_; rw [HY.out]; go_frame)
            | (show wpList _ _ _ (⟨some 6, .alloc _, _, _, _, _⟩ :: _) _ _; refine wpS_alloc hS rfl rfl zeroRWt (zs := [U 0, I64 0]) rfl ?_; clear hS; intro nx w hS; go_frame)
            | (show wpList _ _ _ (⟨_, .store 55 _ _, _, _, _, _⟩ :: _) _ _; (refine wpS_storeAll (b := nx) aggRWt (hS.bring (by repeat (first | exact t0 | apply tS))) rfl rfl rfl (vs := [U b.fee, I64 b.size]) rfl rfl (by simp [U, Value.oneCell']) rfl ?_); clear hS; intro w hS; go_frame)
            )
          cases t with
          | true =>
            have HNX2 : Hid (noneL l k (j + 1) = !r) := by unfold Hid; rw [HNX.out]; rfl
            clear HNX HT
            refine wp_region_text (by kernel_rfl) (by kernel_rfl) (by repeat (first | exact Clean.body | refine Clean.then ?_ | refine Clean.inBlock ?_)) ?_
            replace hS := hS.drew
            go_wp2_with (first
              | go_big_skip
              | (show wpList _ _ _ (⟨some 20, .load _ _, _, _, _, _⟩ :: _) _ _; refine wpList_val rfl (op_load aggRWt rfl rfl (SepL.getBlk (b := nx) (T := 55) ((hS.bring (by repeat (first | exact t0 | apply tS))))).cells rfl) ?_; go_frame)
              | (show wpList _ _ _ (⟨some 23, .indexAddr _ _ _, _, _, _, _⟩ :: _) _ _; refine wpList_val rfl (op_indexAddr slRWt rfl (v := lv) (xs := l.map wtC) rfl (k := k) rfl (by exact hS.rd HRL.out) hkr) ?_; go_frame)
              | (show wpList _ _ _ (⟨some 24, .load _ _, _, _, _, _⟩ :: _) _ _; refine wpList_val rfl (op_loadE aggRWt rfl (v := lv) (xs := l.map wtC) (k := k) rfl (by exact hS.rd HRL.out) hkr) ?_; rw [HX.out]; go_frame)
              | (go_at_call 25; refine Ret.calls (rless_s hS HBO.out HAO.out HRR) ?_; clear hS; rintro r1 w ⟨rfl, hS⟩)
              | (refine fin_mk (by kernel_rfl) ?_)
              )
            go_roundw
            case rel => exact ⟨j + 1, !r, by go_num, rfl, hlt2, HNX2, hS.sel (by repeat (first | exact Sel.refl | refine Sel.take (by repeat (first | exact t0 | apply tS)) ?_ | apply Sel.drop))⟩
            case measure => simp [intOf]; omega
          | false =>
            have HNX2 : Hid (noneL l k (j + 1) = false) := by unfold Hid; rw [HNX.out]; rfl
            clear HNX HT
            refine wp_region_text (by kernel_rfl) (by kernel_rfl) (by repeat (first | exact Clean.body | refine Clean.then ?_ | refine Clean.inBlock ?_)) ?_
            replace hS := hS.drew
            go_wp2_with (first
              | go_big_skip
              | (refine fin_mk (by kernel_rfl) ?_)
              )
            go_roundw
            case rel => exact ⟨j + 1, false, by go_num, rfl, hlt2, HNX2, hS.sel (by repeat (first | exact Sel.refl | refine Sel.take (by repeat (first | exact t0 | apply tS)) ?_ | apply Sel.drop))⟩
            case measure => simp [intOf]; omega
        · have hjn : j = n := by omega
          have HLB : Hid (leastB l k = t) := by unfold Hid; rw [← noneL_all, HN.out, ← hjn, HT.out]
          clear HT
          cases t with
          | true =>
            have e : (k : Int) = z := by
              rw [← HZ.out, worst_first hkL HLB.out HA.out]
            subst e
            go_wp2_with fail
            go_ret
            exact ⟨rfl, hS⟩
          | false =>
            have HA2 : Hid (∀ j : Nat, j < k + 1 → leastB l j = false) := fun j h => by
              by_cases e : j = k
              · subst e
                exact HLB.out
              · exact HA.out j (by omega)
            clear HA HLB
            go_wp2_with fail
            go_roundw
            case rel => exact ⟨k + 1, by go_num, hlt, HA2, hS⟩
            case measure => simp [intOf]; omega
    · have hkn : k = n := by omega
      have e : z = -1 := by
        by_cases h0 : n = 0
        · rw [← HZ.out, HN.out, h0]
          rfl
        · obtain ⟨i, hi1, hi2⟩ := worst_some (l := l) (by omega)
          rw [HA.out i (by omega)] at hi2
          cases hi2
      subst e
      go_wp2_with fail
      go_ret
      exact ⟨rfl, hS⟩
end
end Go.Proofs.YtieobcaegegboaaDoor
namespace Go.Proofs.YtieobcaegegboaaDoor
open Go Go.RowKit Go.Px Go.Sha Go.Calc
theorem ints_rep (n : Nat) : List.replicate n [I64 0] = ints (List.replicate n 0) := by simp [ints]
theorem fill_next {M : List Int} {n k : Nat} (hl : M.length = n) (h : ∀ j, j < k → lf M j = j) (hk : k < n) : (M.set k (k : Int)).length = n ∧ ∀ j, j < k + 1 → lf (M.set k (k : Int)) j = j := by
  refine ⟨by rw [List.length_set, hl], fun j hj => ?_⟩
  rw [lf_set _ _ _ _ (by omega)]
  by_cases e : j = k
  · rw [if_pos e, e]
  · rw [if_neg e, h j (by omega)]
theorem fill_all {M : List Int} {n : Nat} (hl : M.length = n) (h : ∀ j, j < n → lf M j = j) : M = places n := by
  refine lf_ext (by rw [hl, places_len]) fun i => ?_
  by_cases hi : i < n
  · rw [h i hi, lf_places hi]
  · rw [lf_out (by omega), lf_out (by rw [places_len]; omega)]
section
variable {R : Nat → Prop} {base w : World} {F : List Hp}
set_option maxRecDepth 100000
set_option maxHeartbeats 4000000 in
theorem order_s {lv : Value} {l : List Wt} (hS : SepL R base w F) (hl : LIn R base lv l) (hlen : l.length ≤ 1000000) :
    Calls Tryd.prog 20 #[lv] w (Ret fun r w' => SepL R base w' (.own 3 1 r (ints (ordK l l.length)) :: F)) := by
  obtain ⟨n, hn⟩ : ∃ n, l.length = n := ⟨_, rfl⟩
  have HNL : Hid ((l.map wtC).length = n) := by unfold Hid; rw [List.length_map, hn]
  have HRL := hide hl.rd
  have HV1 := hide (slice_one hl.rd)
  have HLI := hide hl
  have hn2 : n ≤ 1000000 := by omega
  have hnl : n ≤ l.length := by omega
  rw [hn]
  clear hl hn hlen
  go_enter Tryd.func20, Tryd.ntmps20
  go_wp2_with (first
    | (show wpList _ _ _ (⟨some 1, .box _ _, _, _, _, _⟩ :: _) _ _; refine wpS_box1 (v := lv) hS rfl rfl rfl HV1.out.2 ?_; clear hS; intro nb w hS; go_frame)
    | (show wpList _ _ _ (⟨some 5, .load _ _, _, _, _, _⟩ :: _) _ _; refine wpList_val rfl (op_load1S (b := nb) (T := 44) oneWts ((hS.bring (by repeat (first | exact t0 | apply tS)))) rfl rfl rfl) ?_; go_frame)
    | (show wpList _ _ _ (⟨some 6, .call _, _, _, _, _⟩ :: _) _ _; refine wpList_val rfl (op_len slWt rfl rfl (v := lv) (xs := l.map wtC) rfl (by exact hS.rd HRL.out)) ?_; rw [HNL.out]; go_frame)
    | (show wpList _ _ _ (⟨some 7, .makeSlice _ _ _, _, _, _, _⟩ :: _) _ _; refine wpS_make slInt (zs := [I64 0]) (by intro i z h1 h2; have := iInt; rw [h1] at this; simp only [Option.map_some, Option.some.injEq, Prod.mk.injEq] at this; rw [h2] at this; injection this.1 with e; subst e; rfl) hS rfl rfl rfl rfl (Nat.le_refl _) (by omega) (by omega) ?_; clear hS; intro v w hS; rw [ints_rep] at hS; go_frame)
    | (show wpList _ _ _ (⟨some 9, .call _, _, _, _, _⟩ :: _) _ _; refine wpList_val rfl (op_len slInt rfl rfl (v := v) rfl (by exact hS.getOwn.rd)) ?_; rw [ints_len, List.length_replicate]; go_frame)
    )
  go_loopw [10, 4] (fun kv _ wr => ∃ (k : Nat) (M : List Int), kv = .int .i64 k ∧ k ≤ n ∧ Hid (M.length = n ∧ ∀ j, j < k → lf M j = j) ∧ SepL R base wr (.own 3 1 v (ints M) :: .blk nb 44 [lv] :: F)) (fun kv _ _ => n - (intOf kv).toNat)
  case atStart => exact ⟨0, List.replicate n 0, rfl, Nat.zero_le _, ⟨List.length_replicate, fun j h => absurd h (Nat.not_lt_zero _)⟩, hS⟩
  case round =>
    clear hS
    obtain ⟨k, M, rfl, hk, HM, hS⟩ := hrel
    by_cases hlt : k < n
    · have HNX := hide (fill_next HM.out.1 HM.out.2 hlt)
      have hkL : k < (ints M).length := by rw [ints_len, HM.out.1]; exact hlt
      clear HM
      go_wp2_with (first
        | (show wpList _ _ _ (⟨some 16, .indexAddr _ _ _, _, _, _, _⟩ :: _) _ _; refine wpList_val rfl (op_indexAddr slInt rfl (v := v) rfl (k := k) rfl (by exact hS.getOwn.rd) hkL) ?_; go_frame)
        | (show wpList _ _ _ (⟨_, .store 3 _ _, _, _, _, _⟩ :: _) _ _; refine wpS_storeE1 (by kernel_rfl) hS rfl rfl (k := k) rfl (u := I64 k) rfl rfl rfl hkL ?_; clear hS; intro w hS; rw [ints_set] at hS; go_frame)
        )
      go_roundw
      case rel => exact ⟨k + 1, _, by go_num, hlt, HNX, hS⟩
      case measure => simp [intOf]; omega
    · have hkn : k = n := by omega
      have HPL : Hid (M = places n) := fill_all HM.out.1 fun j hj => HM.out.2 j (by omega)
      clear HM
      rw [HPL.out] at hS
      go_wp2_with (first
        | (go_at_call 37; refine Ret.calls (sorts_s hS HLI.out hnl hn2) ?_; clear hS; rintro r1 w ⟨N, hp, ht, hS⟩)
        )
      go_ret
      rw [← order_one l hp ht]
      exact hS.sel (by repeat (first | exact Sel.refl | refine Sel.take (by repeat (first | exact t0 | apply tS)) ?_ | apply Sel.drop))
theorem pos_next {l : List Wt} {P : List Int} {i : Int} {n g : Nat} {a b : Wt} (h : posK l P i n = posK l P i (g + 1)) (h1 : wAt l (lf P g) = b) (h2 : wAt l i = a) : posK l P i n = if lessW b a then posK l P i g else g + 1 := by
  rw [h, posK, h1, h2]
set_option maxHeartbeats 8000000 in
theorem rorder_s {lv : Value} {l : List Wt} (hS : SepL R base w F) (hl : LIn R base lv l) (hlen : l.length ≤ 1000000) :
    Calls Tryd.prog 21 #[lv] w (Ret fun r w' => SepL R base w' (.own 3 1 r (ints (ordK l l.length)) :: F)) := by
  obtain ⟨n, hn⟩ : ∃ n, l.length = n := ⟨_, rfl⟩
  have HNL : Hid ((l.map wtC).length = n) := by unfold Hid; rw [List.length_map, hn]
  have HRL := hide hl.rd
  have HOK := hide hl.ok
  have HN := hide hn
  have hn2 : n ≤ 1000000 := by omega
  have H0 : Hid (ints (ordK l 0) = []) := rfl
  rw [hn]
  clear hl hn hlen
  go_enter Tryd.func21, Tryd.ntmps21
  go_wp2_with (first
    | (show wpList _ _ _ (⟨some 8, .call _, _, _, _, _⟩ :: _) _ _; refine wpList_val rfl (op_len slRWt rfl rfl (v := lv) (xs := l.map wtC) rfl (by exact hS.rd HRL.out)) ?_; rw [HNL.out]; go_frame)
    )
  have hS1 := hS.nilOwn 3 1
  rw [← H0.out] at hS1
  go_loopw [9, 3, 4, 5, 6] (fun kv pv _ _ _ wr => ∃ k : Nat, kv = .int .i64 k ∧ k ≤ n ∧ SepL R base wr (.own 3 1 pv (ints (ordK l k)) :: F)) (fun kv _ _ _ _ _ => n - (intOf kv).toNat)
  case atStart => exact ⟨0, rfl, Nat.zero_le _, hS1⟩
  case round =>
    clear hS hS1 H0
    obtain ⟨k, rfl, hk, hS⟩ := hrel
    by_cases hlt : k < n
    · have hkL : k < l.length := by have := HN.out; omega
      have hkr : k < (l.map wtC).length := by rw [List.length_map]; exact hkL
      obtain ⟨a, ha⟩ : ∃ a, l[k] = a := ⟨_, rfl⟩
      have HX : Hid ((l.map wtC)[k] = [U a.fee, I64 a.size]) := by unfold Hid; rw [List.getElem_map, ha]; rfl
      have HEA : Hid (wAt l (k : Int) = a) := by unfold Hid; rw [wAt_get rfl hkL, ha]
      have HAO := hide (HOK.out a (ha ▸ List.getElem_mem hkL))
      obtain ⟨P, hP⟩ : ∃ P, ordK l k = P := ⟨_, rfl⟩
      have HPL : Hid (P.length = k) := by unfold Hid; rw [← hP, ordK_len]
      have HPP : Hid (∀ x ∈ P, 0 ≤ x ∧ x < (k : Int)) := fun x hx => places_mem.1 ((ordK_perm l k).mem_iff.1 (by rw [hP]; exact hx))
      obtain ⟨f, hf⟩ : ∃ f, posK l P k k = f := ⟨_, rfl⟩
      have HF := hide hf
      have HNX : Hid (ordK l (k + 1) = P.take f ++ (k : Int) :: P.drop f) := by
        unfold Hid
        rw [ordK, hP, HPL.out, hf]
      rw [hP] at hS
      have hfk : f ≤ k := by rw [← hf]; exact (posK_spec l P k k).1
      obtain ⟨pv, hpv⟩ : ∃ pv, u3 = pv := ⟨_, rfl⟩
      subst hpv
      clear ha hf hP
      go_wp2_with (first
        | (show wpList _ _ _ (⟨some 13, .call _, _, _, _, _⟩ :: _) _ _; refine wpList_val rfl (op_len slInt rfl rfl (v := u3) rfl (by exact hS.getOwn.rd)) ?_; rw [ints_len, HPL.out]; go_frame)
        )
      go_loopw [5] (fun qv wr => ∃ q : Nat, qv = .int .i64 q ∧ q ≤ k ∧ Hid (posK l P k k = posK l P k q) ∧ SepL R base wr (.own 3 1 u3 (ints P) :: F)) (fun qv _ => (intOf qv).toNat)
      case atStart => exact ⟨k, rfl, Nat.le_refl _, rfl, hS⟩
      case round =>
        clear hS
        obtain ⟨q, rfl, hq, HQ, hS⟩ := hrel
        have HEND : Hid (f = q → ((ints P).drop 0).take (q - 0) = ints (P.take f) ∧ ((ints P).drop q).take ((ints P).length - q) = ints (P.drop f) ∧ q ≤ (ints P).length) := fun e => by
          subst e
          refine ⟨?_, ?_, ?_⟩
          · rw [List.drop_zero, Nat.sub_zero]
            unfold ints
            rw [List.map_take]
          · rw [List.take_of_length_le (by rw [List.length_drop]; omega)]
            unfold ints
            rw [List.map_drop]
          · rw [ints_len, HPL.out]
            exact hq
        have HL1 : Hid ((ints (P.take f)).length = f) := by
          unfold Hid
          rw [ints_len, List.length_take]
          have := HPL.out
          omega
        have HL2 : Hid ((ints (P.drop f)).length = k - f) := by
          unfold Hid
          rw [ints_len, List.length_drop, HPL.out]
        have HALL : Hid (ints (P.take f) ++ [[I64 k]] ++ ints (P.drop f) = ints (ordK l (k + 1))) := by
          unfold Hid
          rw [HNX.out]
          unfold ints
          rw [List.map_append, List.map_cons, List.append_assoc]
          rfl
        rcases Nat.eq_zero_or_pos q with hq0 | hqp
        · have hfq : f = q := by
            rw [← HF.out, HQ.out, hq0]
            rfl
          have HG : Hid (decide ((0 : Int) < (q : Int)) = false) := decide_eq_false (by omega)
          have HC1 := hide (HEND.out hfq).1
          have HC2 := hide (HEND.out hfq).2.1
          have HC3 := hide (HEND.out hfq).2.2
          clear HEND hfq
          clear hq0 HQ HNX
          go_wp2_with fail
          refine wp_region_text (by kernel_rfl) (by kernel_rfl) (by repeat (first | exact Clean.body | refine Clean.then ?_ | refine Clean.inBlock ?_)) ?_
          replace hS := hS.drew
          go_wp2_with (first
            | go_big_skip
            | (show wpList _ _ _ (⟨some 15, .binOp _ _ _ _ _, _, _, _, _⟩ :: _) _ _; refine wpList_val rfl (op_igtr rfl rfl rfl HG.out) ?_; go_frame)
            | (refine fin_mk (by kernel_rfl) ?_)
            | (show wpList _ _ _ (⟨some 33, .buildSlice _ _ _, _, _, _, _⟩ :: _) _ _; refine wpS_build0 slInt hS rfl rfl ?_; clear hS; intro v33 w hS; go_frame)
            | (show wpList _ _ _ (⟨some 36, .slice _ _ _ _ _, _, _, _, _⟩ :: _) _ _; refine wpList_val rfl (op_cut slInt rfl (v := u3) (xs := ints P) rfl (by exact hS.tail.getOwn.rd) (l := 0) (h := q) (Or.inl ⟨rfl, rfl⟩) (Or.inr rfl) (Nat.zero_le _) HC3.out) ?_; go_frame)
            | (show wpList _ _ _ (⟨some 37, .call _, _, _, _, _⟩ :: _) _ _; refine wpS_append slInt hS rfl rfl rfl rfl (by exact (hS.tail.getOwn.rd.cutV (l := 0) (h := q) (Nat.zero_le _) HC3.out)) (by rw [HC1.out]; exact flat_ints _) (by rw [HC1.out, HL1.out]; simp only [List.length_nil]; omega) (by rw [HC1.out, HL1.out]; simp only [maxLen, List.length_nil]; omega) ?_; clear hS; intro v37 w hS; rw [HC1.out, List.nil_append] at hS; go_frame)
            | (show wpList _ _ _ (⟨some 40, .buildSlice _ _ _, _, _, _, _⟩ :: _) _ _; refine wpS_build11 slInt hS rfl rfl (u := I64 k) rfl rfl ?_; clear hS; intro v40 w hS; go_frame)
            | (show wpList _ _ _ (⟨some 41, .call _, _, _, _, _⟩ :: _) _ _; replace hS := hS.sel (M := .own 3 1 v37 (ints (P.take f)) :: .own 3 1 v40 [[I64 k]] :: .own 3 1 u3 (ints P) :: F) (by repeat (first | exact Sel.refl | refine Sel.take (by repeat (first | exact t0 | apply tS)) ?_ | apply Sel.drop)); refine wpS_append slInt hS rfl rfl rfl rfl (by exact hS.tail.getOwn.rd) (by exact flat_ints [(k : Int)]) (by rw [HL1.out]; simp only [List.length_cons, List.length_nil]; omega) (by rw [HL1.out]; simp only [maxLen, List.length_cons, List.length_nil]; omega) ?_; clear hS; intro v41 w hS; go_frame)
            | (show wpList _ _ _ (⟨some 45, .slice _ _ _ _ _, _, _, _, _⟩ :: _) _ _; replace hS := hS.sel (M := .own 3 1 v41 (ints (P.take f) ++ [[I64 k]]) :: .own 3 1 u3 (ints P) :: F) (by repeat (first | exact Sel.refl | refine Sel.take (by repeat (first | exact t0 | apply tS)) ?_ | apply Sel.drop)); refine wpList_val rfl (op_cut slInt rfl (v := u3) (xs := ints P) rfl (by exact hS.tail.getOwn.rd) (l := q) (h := (ints P).length) (Or.inr rfl) (Or.inl ⟨rfl, rfl⟩) HC3.out (Nat.le_refl _)) ?_; go_frame)
            | (show wpList _ _ _ (⟨some 46, .call _, _, _, _, _⟩ :: _) _ _; refine wpS_append slInt hS rfl rfl rfl rfl (by exact (hS.tail.getOwn.rd.cutV (l := q) (h := (ints P).length) HC3.out (Nat.le_refl _))) (by rw [HC2.out]; exact flat_ints _) (by rw [HC2.out, HL2.out, List.length_append, HL1.out]; simp only [List.length_cons, List.length_nil]; omega) (by rw [HC2.out, HL2.out, List.length_append, HL1.out]; simp only [maxLen, List.length_cons, List.length_nil]; omega) ?_; clear hS; intro v46 w hS; rw [HC2.out, HALL.out] at hS; go_frame)
            )
          go_roundw
          case rel => exact ⟨k + 1, by go_num, hlt, hS.sel (by repeat (first | exact Sel.refl | refine Sel.take (by repeat (first | exact t0 | apply tS)) ?_ | apply Sel.drop))⟩
          case measure => simp [intOf]; omega
        · obtain ⟨g, hg⟩ : ∃ g, q = g + 1 := ⟨q - 1, by omega⟩
          have hgP : g < P.length := by have := HPL.out; omega
          have hgr : g < (ints P).length := by rw [ints_len]; exact hgP
          obtain ⟨y, hy⟩ : ∃ y, P[g] = y := ⟨_, rfl⟩
          have HPG := hide hy
          have hyr := HPP.out y (hy ▸ List.getElem_mem hgP)
          obtain ⟨j, hj⟩ : ∃ j : Nat, y = j := ⟨y.toNat, by omega⟩
          have HJ := hide hj
          have hjL : j < l.length := by omega
          have hjr : j < (l.map wtC).length := by rw [List.length_map]; exact hjL
          obtain ⟨b, hb⟩ : ∃ b, l[j] = b := ⟨_, rfl⟩
          have HY : Hid ((l.map wtC)[j] = [U b.fee, I64 b.size]) := by unfold Hid; rw [List.getElem_map, hb]; rfl
          have heb : wAt l (lf P g) = b := by rw [lf_get hgP, hy, wAt_get hj hjL, hb]
          have HBO := hide (HOK.out b (hb ▸ List.getElem_mem hjL))
          have HG : Hid (decide ((0 : Int) < (q : Int)) = true) := decide_eq_true (by omega)
          have HQG : Hid ((q : Int) - 1 = (g : Nat)) := by unfold Hid; omega
          have hpn := pos_next (by rw [HQ.out, hg]) heb HEA.out
          have hg6 : g ≤ 1000000 := by omega
          have hgq : g < q := by omega
          by_cases hless : lessW b a
          · have HRR : Hid (decide (lessW b a) = true) := decide_eq_true hless
            have HQ2 : Hid (posK l P k k = posK l P k g) := by
              unfold Hid
              rw [hpn, if_pos hless]
            clear hless hpn heb hb hj hy hyr HQ HNX HEND hqp hg
            go_wp2_with fail
            refine wp_region_text (by kernel_rfl) (by kernel_rfl) (by repeat (first | exact Clean.body | refine Clean.then ?_ | refine Clean.inBlock ?_)) ?_
            replace hS := hS.drew
            go_wp2_with (first
              | go_big_skip
              | (show wpList _ _ _ (⟨some 15, .binOp _ _ _ _ _, _, _, _, _⟩ :: _) _ _; refine wpList_val rfl (op_igtr rfl rfl rfl HG.out) ?_; go_frame)
              | (show wpList _ _ _ (⟨some 20, .binOp _ _ _ _ _, _, _, _, _⟩ :: _) _ _; refine wpList_val rfl (op_isubN rfl rfl rfl g HQG.out (by omega)) ?_; go_frame)
              | (show wpList _ _ _ (⟨some 32, .binOp _ _ _ _ _, _, _, _, _⟩ :: _) _ _; refine wpList_val rfl (op_isubN rfl rfl rfl g HQG.out (by omega)) ?_; go_frame)
              | (show wpList _ _ _ (⟨some 21, .indexAddr _ _ _, _, _, _, _⟩ :: _) _ _; refine wpList_val rfl (op_indexAddr slInt rfl (v := u3) (xs := ints P) rfl (k := g) rfl (by exact hS.getOwn.rd) hgr) ?_; go_frame)
              | (show wpList _ _ _ (⟨some 22, .load _ _, _, _, _, _⟩ :: _) _ _; refine wpList_val rfl (op_loadE1 oneInt rfl (v := u3) (k := g) rfl (f := I64) (by exact hS.getOwn.rd) hgP) ?_; rw [HPG.out]; go_frame)
              | (show wpList _ _ _ (⟨some 23, .indexAddr _ _ _, _, _, _, _⟩ :: _) _ _; refine wpList_val rfl (op_indexAddrZ slRWt rfl (v := lv) (xs := l.map wtC) rfl (z := y) rfl (by exact hS.rd HRL.out) j HJ.out hjr) ?_; go_frame)
              | (show wpList _ _ _ (⟨some 24, .load _ _, _, _, _, _⟩ :: _) _ _; refine wpList_val rfl (op_loadE aggRWt rfl (v := lv) (xs := l.map wtC) (k := j) rfl (by exact hS.rd HRL.out) hjr) ?_; rw [HY.out]; go_frame)
              | (show wpList _ _ _ (⟨some 27, .indexAddr _ _ _, _, _, _, _⟩ :: _) _ _; refine wpList_val rfl (op_indexAddr slRWt rfl (v := lv) (xs := l.map wtC) rfl (k := k) rfl (by exact hS.rd HRL.out) hkr) ?_; go_frame)
              | (show wpList _ _ _ (⟨some 28, .load _ _, _, _, _, _⟩ :: _) _ _; refine wpList_val rfl (op_loadE aggRWt rfl (v := lv) (xs := l.map wtC) (k := k) rfl (by exact hS.rd HRL.out) hkr) ?_; rw [HX.out]; go_frame)
              | (go_at_call 25; refine Ret.calls (rless_s hS HBO.out HAO.out HRR) ?_; clear hS; rintro r1 w ⟨rfl, hS⟩)
              | (refine fin_mk (by kernel_rfl) ?_)
              )
            go_roundw
            case rel => exact ⟨g, rfl, by omega, HQ2, hS⟩
            case measure => simp [intOf]; omega
          · have HRR : Hid (decide (lessW b a) = false) := decide_eq_false hless
            have hfq : f = q := by
              rw [← HF.out, hpn, if_neg hless, hg]
            have HC1 := hide (HEND.out hfq).1
            have HC2 := hide (HEND.out hfq).2.1
            have HC3 := hide (HEND.out hfq).2.2
            clear HEND hfq
            clear hless hpn heb hb hj hy hyr HQ HNX hqp hg
            go_wp2_with fail
            refine wp_region_text (by kernel_rfl) (by kernel_rfl) (by repeat (first | exact Clean.body | refine Clean.then ?_ | refine Clean.inBlock ?_)) ?_
            replace hS := hS.drew
            go_wp2_with (first
              | go_big_skip
              | (show wpList _ _ _ (⟨some 15, .binOp _ _ _ _ _, _, _, _, _⟩ :: _) _ _; refine wpList_val rfl (op_igtr rfl rfl rfl HG.out) ?_; go_frame)
              | (show wpList _ _ _ (⟨some 20, .binOp _ _ _ _ _, _, _, _, _⟩ :: _) _ _; refine wpList_val rfl (op_isubN rfl rfl rfl g HQG.out (by omega)) ?_; go_frame)
              | (show wpList _ _ _ (⟨some 21, .indexAddr _ _ _, _, _, _, _⟩ :: _) _ _; refine wpList_val rfl (op_indexAddr slInt rfl (v := u3) (xs := ints P) rfl (k := g) rfl (by exact hS.getOwn.rd) hgr) ?_; go_frame)
              | (show wpList _ _ _ (⟨some 22, .load _ _, _, _, _, _⟩ :: _) _ _; refine wpList_val rfl (op_loadE1 oneInt rfl (v := u3) (k := g) rfl (f := I64) (by exact hS.getOwn.rd) hgP) ?_; rw [HPG.out]; go_frame)
              | (show wpList _ _ _ (⟨some 23, .indexAddr _ _ _, _, _, _, _⟩ :: _) _ _; refine wpList_val rfl (op_indexAddrZ slRWt rfl (v := lv) (xs := l.map wtC) rfl (z := y) rfl (by exact hS.rd HRL.out) j HJ.out hjr) ?_; go_frame)
              | (show wpList _ _ _ (⟨some 24, .load _ _, _, _, _, _⟩ :: _) _ _; refine wpList_val rfl (op_loadE aggRWt rfl (v := lv) (xs := l.map wtC) (k := j) rfl (by exact hS.rd HRL.out) hjr) ?_; rw [HY.out]; go_frame)
              | (show wpList _ _ _ (⟨some 27, .indexAddr _ _ _, _, _, _, _⟩ :: _) _ _; refine wpList_val rfl (op_indexAddr slRWt rfl (v := lv) (xs := l.map wtC) rfl (k := k) rfl (by exact hS.rd HRL.out) hkr) ?_; go_frame)
              | (show wpList _ _ _ (⟨some 28, .load _ _, _, _, _, _⟩ :: _) _ _; refine wpList_val rfl (op_loadE aggRWt rfl (v := lv) (xs := l.map wtC) (k := k) rfl (by exact hS.rd HRL.out) hkr) ?_; rw [HX.out]; go_frame)
              | (go_at_call 25; refine Ret.calls (rless_s hS HBO.out HAO.out HRR) ?_; clear hS; rintro r1 w ⟨rfl, hS⟩)
              | (refine fin_mk (by kernel_rfl) ?_)
              | (show wpList _ _ _ (⟨some 33, .buildSlice _ _ _, _, _, _, _⟩ :: _) _ _; refine wpS_build0 slInt hS rfl rfl ?_; clear hS; intro v33 w hS; go_frame)
              | (show wpList _ _ _ (⟨some 36, .slice _ _ _ _ _, _, _, _, _⟩ :: _) _ _; refine wpList_val rfl (op_cut slInt rfl (v := u3) (xs := ints P) rfl (by exact hS.tail.getOwn.rd) (l := 0) (h := q) (Or.inl ⟨rfl, rfl⟩) (Or.inr rfl) (Nat.zero_le _) HC3.out) ?_; go_frame)
              | (show wpList _ _ _ (⟨some 37, .call _, _, _, _, _⟩ :: _) _ _; refine wpS_append slInt hS rfl rfl rfl rfl (by exact (hS.tail.getOwn.rd.cutV (l := 0) (h := q) (Nat.zero_le _) HC3.out)) (by rw [HC1.out]; exact flat_ints _) (by rw [HC1.out, HL1.out]; simp only [List.length_nil]; omega) (by rw [HC1.out, HL1.out]; simp only [maxLen, List.length_nil]; omega) ?_; clear hS; intro v37 w hS; rw [HC1.out, List.nil_append] at hS; go_frame)
              | (show wpList _ _ _ (⟨some 40, .buildSlice _ _ _, _, _, _, _⟩ :: _) _ _; refine wpS_build11 slInt hS rfl rfl (u := I64 k) rfl rfl ?_; clear hS; intro v40 w hS; go_frame)
              | (show wpList _ _ _ (⟨some 41, .call _, _, _, _, _⟩ :: _) _ _; replace hS := hS.sel (M := .own 3 1 v37 (ints (P.take f)) :: .own 3 1 v40 [[I64 k]] :: .own 3 1 u3 (ints P) :: F) (by repeat (first | exact Sel.refl | refine Sel.take (by repeat (first | exact t0 | apply tS)) ?_ | apply Sel.drop)); refine wpS_append slInt hS rfl rfl rfl rfl (by exact hS.tail.getOwn.rd) (by exact flat_ints [(k : Int)]) (by rw [HL1.out]; simp only [List.length_cons, List.length_nil]; omega) (by rw [HL1.out]; simp only [maxLen, List.length_cons, List.length_nil]; omega) ?_; clear hS; intro v41 w hS; go_frame)
              | (show wpList _ _ _ (⟨some 45, .slice _ _ _ _ _, _, _, _, _⟩ :: _) _ _; replace hS := hS.sel (M := .own 3 1 v41 (ints (P.take f) ++ [[I64 k]]) :: .own 3 1 u3 (ints P) :: F) (by repeat (first | exact Sel.refl | refine Sel.take (by repeat (first | exact t0 | apply tS)) ?_ | apply Sel.drop)); refine wpList_val rfl (op_cut slInt rfl (v := u3) (xs := ints P) rfl (by exact hS.tail.getOwn.rd) (l := q) (h := (ints P).length) (Or.inr rfl) (Or.inl ⟨rfl, rfl⟩) HC3.out (Nat.le_refl _)) ?_; go_frame)
              | (show wpList _ _ _ (⟨some 46, .call _, _, _, _, _⟩ :: _) _ _; refine wpS_append slInt hS rfl rfl rfl rfl (by exact (hS.tail.getOwn.rd.cutV (l := q) (h := (ints P).length) HC3.out (Nat.le_refl _))) (by rw [HC2.out]; exact flat_ints _) (by rw [HC2.out, HL2.out, List.length_append, HL1.out]; simp only [List.length_cons, List.length_nil]; omega) (by rw [HC2.out, HL2.out, List.length_append, HL1.out]; simp only [maxLen, List.length_cons, List.length_nil]; omega) ?_; clear hS; intro v46 w hS; rw [HC2.out, HALL.out] at hS; go_frame)
              )
            go_roundw
            case rel => exact ⟨k + 1, by go_num, hlt, hS.sel (by repeat (first | exact Sel.refl | refine Sel.take (by repeat (first | exact t0 | apply tS)) ?_ | apply Sel.drop))⟩
            case measure => simp [intOf]; omega
    · have hkn : k = n := by omega
      subst hkn
      go_wp2_with fail
      go_ret
      exact hS
end
end Go.Proofs.YtieobcaegegboaaDoor
