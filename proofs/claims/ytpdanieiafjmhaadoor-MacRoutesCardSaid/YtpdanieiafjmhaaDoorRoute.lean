/- The program's way of a source. Conditions: those that stand ahead of each theorem. -/
import Derived.Test.YtpdanieiafjmhaaDoorMAlive
namespace Go.Proofs.YtpdanieiafjmhaaDoor
open Go.RowKit Go.Px Go.Sha
def txAt (e : BitVec 64) (s : Nat) (j : Nat) : Byte := if j < 8 then (e >>> (8 * j)).setWidth 8 else if j = 8 then BitVec.ofNat 8 s else 0#8
theorem txAt_lo {e : BitVec 64} {s j s8 : Nat} (hj : j < 8) (h8 : 8 * j = s8) : (e >>> s8).setWidth 8 = txAt e s j := by
  unfold txAt
  rw [if_pos hj, h8]
theorem txAt_8 {e : BitVec 64} {s : Nat} : BitVec.ofNat 8 s = txAt e s 8 := rfl
theorem txAt_9 {e : BitVec 64} {s : Nat} : BitVec.ofNat 8 0 = txAt e s 9 := rfl
def text (e : BitVec 64) (s : Nat) : List Byte := (List.range 10).map (txAt e s)
theorem text_len (e : BitVec 64) (s : Nat) : (text e s).length = 10 := by simp [text]
theorem text_eq (e : BitVec 64) (s : Nat) : fillTo (txAt e s) 10 10 = text e s := fillTo_all _ _
def routeN (sa : List Byte) (e : BitVec 64) (s n : Nat) : Nat := pickN (hmac sa (text e s)) n
theorem routeN_eq (sa : List Byte) (e : BitVec 64) (s n : Nat) : pickN (hmac sa (text e s)) n = routeN sa e s n := rfl
theorem routeN_lt (sa : List Byte) (e : BitVec 64) (s : Nat) {n : Nat} (hn : 0 < n) : routeN sa e s n < n := pickN_lt _ hn
attribute [irreducible] txAt text routeN
theorem arr10b : ArrTy Tryd.prog 77 5 10 := ArrTy.of (d := .int .u8) (by kernel_rfl) (by kernel_rfl) rfl (by kernel_rfl)
theorem zero10b (w : World) : (zeroValue 77).run Tryd.prog w = .ok (.agg (List.replicate 10 (.int .u8 0)).toArray) w := by kernel_rfl
section
variable {R : Nat → Prop} {base w : World} {F : List Hp}
/-- key and bytes lie in arrays of one's own -/
theorem msum_arr2 {T T1 T2 b1 b2 m1 m2 : Nat} {v : Value} {xs ys : List Byte} (hS : SepL R base w (.own T 1 v [[.slice (some ⟨b2, 0, none⟩) m2 m2]] :: .blk b1 T1 (xs.map B8) :: .blk b2 T2 (ys.map B8) :: F)) (hK : CIn R base 0 (kTab.map W32)) (hF : CIn R base 1 (first.map W32)) (hm1 : xs.length = m1) (hm2 : ys.length = m2) (hl1 : m1 ≤ 1000) (hl2 : m2 ≤ 1000) :
    Calls Tryd.prog 35 #[.slice (some ⟨b1, 0, none⟩) m1 m1, v] w (Ret fun r w' => r = HV (hmac xs ys) ∧ SepL R base w' F) := by
  obtain ⟨R1, h1, h2, h3, h4⟩ := hS.freezeOwn
  obtain ⟨R2, g1, g2, g2', g3, g4⟩ := h1.freezeBlk
  obtain ⟨R3, k1, k2, k2', k3, k4⟩ := g1.freezeBlk
  have hc1 : CIn R2 w b1 (xs.map B8) := ⟨g2.cells, g2'⟩
  have hr1 := CIn.asRd hc1 (by rw [List.length_map]; simp [maxLen]; omega)
  rw [List.length_map, hm1] at hr1
  have hc2 : CIn R3 w b2 (ys.map B8) := ⟨k2.cells, k2'⟩
  have hr2 := CIn.asRd hc2 (by rw [List.length_map]; simp [maxLen]; omega)
  rw [List.length_map, hm2] at hr2
  have h5 := msum_s k1 (kTab_mv (kTab_mv (kTab_mv hK h3) g3) k3) (first_mv (first_mv (first_mv hF h3) g3) k3) (k3 _ _ _ hr1) (by omega) (us := [_]) (ps := [ys]) (Pieces.one (k3 _ _ _ (g3 _ _ _ h2)) hr2) (by rw [one_flat]; omega)
  rw [one_flat] at h5
  refine Ret.calls h5 ?_
  rintro r w' ⟨h6, h7⟩
  exact ⟨h6, (h4 w' _ (g4 w' _ (k4 w' _ h7))).tail.tail.tail⟩
set_option maxRecDepth 100000 in
set_option maxHeartbeats 4000000 in
theorem routeArg_s (hS : SepL R base w F) {sa : List Byte} (e : BitVec 64) (s n : Int) (h : s < 0 ∨ 64 < s ∨ n < 1) :
    Calls Tryd.prog 40 #[.agg (sa.map B8).toArray, W64 e, .int .i64 s, .int .i64 n] w (Ret fun r w' => r = .tuple #[.int .i64 0, .int .i64 2] ∧ SepL R base w' F) := by
  obtain ⟨d1, hd1⟩ : ∃ d, decide (s < 0) = d := ⟨_, rfl⟩
  obtain ⟨d2, hd2⟩ : ∃ d, decide (64 < s) = d := ⟨_, rfl⟩
  obtain ⟨d3, hd3⟩ : ∃ d, decide (n < 1) = d := ⟨_, rfl⟩
  have H1 := hide hd1
  have H2 := hide hd2
  have H3 := hide hd3
  have hor : d1 = true ∨ d2 = true ∨ d3 = true := by
    rw [← hd1, ← hd2, ← hd3]
    simpa using h
  clear hd1 hd2 hd3 h
  cases d1 <;> cases d2 <;> cases d3 <;> first
    | (simp at hor; done)
    | (clear hor
       go_enter Tryd.func40, Tryd.ntmps40
       go_wp2_with (first
         | (show wpList _ _ _ (⟨some 4, .box _ _, _, _, _, _⟩ :: _) _ _; refine wpS_boxA (cs := sa.map B8) hS rfl rfl rfl ?_; clear hS; intro n4 w hS; go_frame)
         | (show wpList _ _ _ (⟨some 13, .binOp _ _ _ _ _, _, _, _, _⟩ :: _) _ _; refine wpList_val rfl (op_ilss rfl rfl rfl H1.out) ?_; go_frame)
         | (show wpList _ _ _ (⟨some 16, .binOp _ _ _ _ _, _, _, _, _⟩ :: _) _ _; refine wpList_val rfl (op_igtr rfl rfl rfl H2.out) ?_; go_frame)
         | (show wpList _ _ _ (⟨some 20, .binOp _ _ _ _ _, _, _, _, _⟩ :: _) _ _; refine wpList_val rfl (op_ilss rfl rfl rfl H3.out) ?_; go_frame)
         )
       exact ret_tmp2 rfl rfl rfl rfl ⟨rfl, hS.sel (by repeat (first | exact Sel.refl | refine Sel.take (by repeat (first | exact t0 | apply tS)) ?_ | apply Sel.drop))⟩)
set_option maxRecDepth 100000 in
set_option maxHeartbeats 4000000 in
theorem route_s (hS : SepL R base w F) (hK : CIn R base 0 (kTab.map W32)) (hF : CIn R base 1 (first.map W32)) {sa : List Byte} (hsa : sa.length = 32) (e : BitVec 64) (s n : Nat) (hs : s ≤ 64) (hn : 1 ≤ n) (hn2 : n ≤ 9223372036854775807) :
    Calls Tryd.prog 40 #[.agg (sa.map B8).toArray, W64 e, .int .i64 s, .int .i64 n] w (Ret fun r w' => r = .tuple #[.int .i64 (routeN sa e s n : Nat), .int .i64 0] ∧ SepL R base w' F) := by
  have H1 : Hid (decide ((s : Int) < 0) = false) := by
    unfold Hid
    rw [decide_eq_false_iff_not]
    omega
  have H2 : Hid (decide ((64 : Int) < (s : Int)) = false) := by
    unfold Hid
    rw [decide_eq_false_iff_not]
    omega
  have H3 : Hid (decide ((n : Int) < 1) = false) := by
    unfold Hid
    rw [decide_eq_false_iff_not]
    omega
  have HSA := hide hsa
  have hRE := routeN_eq sa e s n
  have HT8 := hide (txAt_8 (e := e) (s := s))
  have HT9 := hide (txAt_9 (e := e) (s := s))
  have HTX := hide (text_eq e s)
  have HTL := hide (text_len e s)
  have HF8 : Hid ((fillTo (txAt e s) 10 8).set 8 (txAt e s 8) = fillTo (txAt e s) 10 9) := fillTo_set _ _ _
  have HF9 : Hid ((fillTo (txAt e s) 10 9).set 9 (txAt e s 9) = fillTo (txAt e s) 10 10) := fillTo_set _ _ _
  have hS256 : s / 2 ^ 8 = 0 := by omega
  have HS256 := hide hS256
  have HPK : ∀ {w : World} {F : List Hp}, SepL R base w F → Calls Tryd.prog 39 #[HV (hmac sa (text e s)), .int .i64 n] w (Ret fun r w' => r = .tuple #[.int .i64 (routeN sa e s n : Nat), .int .i64 0] ∧ SepL R base w' F) := fun hs => by
    have h2 := pick_s hs (hmac_len sa (text e s)) n hn hn2
    rw [hRE] at h2
    exact h2
  generalize routeN sa e s n = q at *
  clear hRE hS256
  go_enter Tryd.func40, Tryd.ntmps40
  go_wp2_with (first
    | (show wpList _ _ _ (⟨some 4, .box _ _, _, _, _, _⟩ :: _) _ _; refine wpS_boxA (cs := sa.map B8) hS rfl rfl rfl ?_; clear hS; intro n4 w hS; go_frame)
    | (show wpList _ _ _ (⟨some 13, .binOp _ _ _ _ _, _, _, _, _⟩ :: _) _ _; refine wpList_val rfl (op_ilss rfl rfl rfl H1.out) ?_; go_frame)
    | (show wpList _ _ _ (⟨some 16, .binOp _ _ _ _ _, _, _, _, _⟩ :: _) _ _; refine wpList_val rfl (op_igtr rfl rfl rfl H2.out) ?_; go_frame)
    | (show wpList _ _ _ (⟨some 20, .binOp _ _ _ _ _, _, _, _, _⟩ :: _) _ _; refine wpList_val rfl (op_ilss rfl rfl rfl H3.out) ?_; go_frame)
    | (show wpList _ _ _ (⟨some 10, .alloc _, _, _, _, _⟩ :: _) _ _; refine wpS_alloc hS rfl rfl zero10b (zs := (List.replicate 10 (0 : Byte)).map B8) rfl ?_; clear hS; intro n10 w hS; go_frame)
    )
  rw [← fillTo_zero (txAt e s)] at hS
  go_loopw [22] (fun i wr => ∃ k : Nat, i = .int .i64 k ∧ k ≤ 8 ∧ SepL R base wr (.blk n10 77 ((fillTo (txAt e s) 10 k).map B8) :: .blk n4 34 (sa.map B8) :: F)) (fun i _ => 8 - (intOf i).toNat)
  case atStart => exact ⟨0, rfl, by omega, hS⟩
  case round =>
    clear hS
    obtain ⟨k, rfl, hk, hS⟩ := hrel
    by_cases hlt : k < 8
    · obtain ⟨s8, hs8⟩ : ∃ s, 8 * k = s := ⟨_, rfl⟩
      have HTA := hide (txAt_lo (e := e) (s := s) hlt hs8)
      have hkl : k < (fillTo (txAt e s) 10 k).length := by rw [fillTo_length]; omega
      go_wp2_with (first
        | (show wpList _ _ _ (⟨some 28, .binOp _ _ _ _ _, _, _, _, _⟩ :: _) _ _; refine wpList_val rfl (op_imulN rfl rfl rfl s8 (by omega) (by omega)) ?_; go_frame)
        | (show wpList _ _ _ (⟨some 29, .convert _ _ _, _, _, _, _⟩ :: _) _ _; refine wpList_val rfl (op_i64u64 undInt undUint rfl rfl (by omega)) ?_; go_frame)
        | (show wpList _ _ _ (⟨some 30, .binOp _ _ _ _ _, _, _, _, _⟩ :: _) _ _; refine wpList_val rfl (op_shr64 rfl rfl (c := s8) rfl) ?_; go_frame)
        | (show wpList _ _ _ (⟨some 31, .convert _ _ _, _, _, _, _⟩ :: _) _ _; refine wpList_val rfl (op_64to8 undU64 undU8 rfl rfl) ?_; rw [HTA.out]; go_frame)
        | (show wpList _ _ _ (⟨some 32, .indexAddr _ _ _, _, _, _, _⟩ :: _) _ _; refine wpList_val rfl (op_indexArr arr10b rfl rfl (k := k) rfl (by omega)) ?_; simp only [Nat.zero_add]; go_frame)
        | (show wpList _ _ _ (⟨_, .store _ _ _, _, _, _, _⟩ :: _) _ _; (refine wpS_storeF (f := B8) (us := fillTo (txAt e s) 10 k) sizeU8 (hS.bring (by repeat (first | exact t0 | apply tS))) rfl rfl rfl (v := txAt e s k) rfl rfl rfl hkl ?_); clear hS; intro w hS; rw [fillTo_set] at hS; go_frame)
        )
      go_roundw
      case rel => exact ⟨k + 1, by go_num, by omega, hS⟩
      case measure => simp [intOf]; omega
    · have hk2 : k = 8 := by omega
      subst hk2
      go_wp2_with (first
        | (show wpList _ _ _ (⟨some 35, .convert _ _ _, _, _, _, _⟩ :: _) _ _; refine wpList_val rfl (op_natTo8 undInt undU8 rfl rfl) ?_; rw [HT8.out]; go_frame)
        | (show wpList _ _ _ (⟨some 37, .binOp _ _ _ _ _, _, _, _, _⟩ :: _) _ _; refine wpList_val rfl (op_ishrN rfl rfl (c := 8) rfl (by omega)) ?_; rw [HS256.out]; go_frame)
        | (show wpList _ _ _ (⟨some 38, .convert _ _ _, _, _, _, _⟩ :: _) _ _; refine wpList_val rfl (op_natTo8 (n := 0) undInt undU8 rfl rfl) ?_; rw [HT9.out]; go_frame)
        | (show wpList _ _ _ (⟨some 39, .indexAddr _ _ _, _, _, _, _⟩ :: _) _ _; refine wpList_val rfl (op_indexArrZ arr10b rfl rfl rfl 8 rfl (by omega)) ?_; simp only [Nat.zero_add]; go_frame)
        | (show wpList _ _ _ (⟨some 40, .indexAddr _ _ _, _, _, _, _⟩ :: _) _ _; refine wpList_val rfl (op_indexArrZ arr10b rfl rfl rfl 9 rfl (by omega)) ?_; simp only [Nat.zero_add]; go_frame)
        | (show wpList _ _ _ (⟨_, .store _ (.tmp 39) _, _, _, _, _⟩ :: _) _ _; (refine wpS_storeF (f := B8) (us := fillTo (txAt e s) 10 8) sizeU8 (hS.bring (by repeat (first | exact t0 | apply tS))) rfl rfl rfl (v := txAt e s 8) rfl rfl rfl (by rw [fillTo_length]; omega) ?_); clear hS; intro w hS; rw [HF8.out] at hS; go_frame)
        | (show wpList _ _ _ (⟨_, .store _ (.tmp 40) _, _, _, _, _⟩ :: _) _ _; (refine wpS_storeF (f := B8) (us := fillTo (txAt e s) 10 9) sizeU8 (hS.bring (by repeat (first | exact t0 | apply tS))) rfl rfl rfl (v := txAt e s 9) rfl rfl rfl (by rw [fillTo_length]; omega) ?_); clear hS; intro w hS; rw [HF9.out, HTX.out] at hS; go_frame)
        )
      refine wp_region_text (by kernel_rfl) (by kernel_rfl) (by repeat (first | exact Clean.body | refine Clean.then ?_ | refine Clean.inBlock ?_)) ?_
      replace hS := hS.drew
      go_wp2_with (first
        | (show wpList _ _ _ (⟨some 41, .slice _ _ _ _ _, _, _, _, _⟩ :: _) _ _; refine wpList_val rfl (op_sliceArr arr32b rfl rfl (l := 0) (h := 32) (Or.inl ⟨rfl, rfl⟩) (Or.inl ⟨rfl, rfl⟩) (by omega) (by omega)) ?_; rw [if_neg (by omega)]; go_frame)
        | (show wpList _ _ _ (⟨some 42, .slice _ _ _ _ _, _, _, _, _⟩ :: _) _ _; refine wpList_val rfl (op_sliceArr arr10b rfl rfl (l := 0) (h := 10) (Or.inl ⟨rfl, rfl⟩) (Or.inl ⟨rfl, rfl⟩) (by omega) (by omega)) ?_; rw [if_neg (by omega)]; go_frame)
        | (show wpList _ _ _ (⟨some 43, .buildSlice _ _ _, _, _, _, _⟩ :: _) _ _; refine wpS_build11 slPieces hS rfl rfl rfl rfl ?_; clear hS; intro v43 w hS; go_frame)
        | (go_at_call 35; refine Ret.calls (msum_arr2 (F := F) (hS.sel (by repeat (first | exact Sel.refl | refine Sel.take (by repeat (first | exact t0 | apply tS)) ?_ | apply Sel.drop))) hK hF HSA.out HTL.out (by omega) (by omega)) ?_; clear hS; rintro r w ⟨rfl, hS⟩)
        | (go_at_call 39; refine Ret.calls (HPK hS) ?_; clear hS; rintro r w ⟨rfl, hS⟩)
        )
      refine fin_mk (by kernel_rfl) ?_
      go_wp2_with fail
      exact ret_tmp2 rfl rfl rfl rfl ⟨rfl, hS⟩
end
end Go.Proofs.YtpdanieiafjmhaaDoor
