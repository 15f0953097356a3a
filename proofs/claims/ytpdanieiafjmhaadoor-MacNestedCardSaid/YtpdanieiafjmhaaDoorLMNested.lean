/- A sum under a key is two sums, one in the other: the law returns true. Conditions: those that stand ahead of each theorem. -/
import Derived.Test.YtpdanieiafjmhaaDoorMAlive
namespace Go.Proofs.YtpdanieiafjmhaaDoor
open Go.RowKit Go.Px Go.Sha
theorem blk_rdK {w : World} {b T c k : Nat} {bs : List Byte} (h : Blk w b T (bs.map B8)) (hm : bs.length = c) (hl : c ≤ 1000) (hk : k ≤ c) : Rd 1 w (.slice (some ⟨b, 0, none⟩) k c) (((bs.take k).map B8).map fun u => [u]) := by
  have h2 := blk_rd h hm hl
  have hc : RdIn All w 1 (.slice (some ⟨b, 0, none⟩) c c) (bytes bs) := RdIn.of h2
  have h3 := (RdIn.takeV hc (k := k) (by omega)).rd
  have e : cutV 1 (.slice (some ⟨b, 0, none⟩) c c) 0 k = .slice (some ⟨b, 0, none⟩) k c := by
    simp [cutV, cutAddr, Addr.add]
  rwa [e] at h3
section
variable {R : Nat → Prop} {base w : World} {F : List Hp}
theorem hd2r {a o : Hp} {L M : List Hp} (hS : SepL R base w (o :: L)) (t : Take1 L a M) : SepL R base w (o :: a :: M) := hd2 t hS
theorem hd3r {a o1 o2 : Hp} {L M : List Hp} (hS : SepL R base w (o1 :: o2 :: L)) (t : Take1 L a M) : SepL R base w (o1 :: o2 :: a :: M) :=
  (hS.bring (tS (tS t))).perm ((List.Perm.swap _ _ _).trans (List.Perm.cons _ (.swap _ _ _)))
/-- the sum of an array of one's own, and of bytes of the caller -/
theorem sum_arrB {T T1 b1 m1 : Nat} {v u : Value} {xs ys : List Byte} (hS : SepL R base w (.own T 1 v [[.slice (some ⟨b1, 0, none⟩) m1 m1], [u]] :: .blk b1 T1 (xs.map B8) :: F)) (hK : CIn R base 0 (kTab.map W32)) (hF : CIn R base 1 (first.map W32)) (hm1 : xs.length = m1) (hl1 : m1 ≤ 1000) (hu : RdIn R base 1 u (bytes ys)) (hl2 : ys.length ≤ 1099511627776) :
    Calls Tryd.prog 23 #[v] w (Ret fun r w' => r = HV (sum (xs ++ ys)) ∧ SepL R base w' (.blk b1 T1 (xs.map B8) :: F)) := by
  obtain ⟨R1, h1, h2, h3, h4⟩ := hS.freezeOwn
  obtain ⟨R2, g1, g2, g2', g3, g4⟩ := h1.freezeBlk
  have hc1 : CIn R2 w b1 (xs.map B8) := ⟨g2.cells, g2'⟩
  have hr1 := CIn.asRd hc1 (by rw [List.length_map]; simp [maxLen]; omega)
  rw [List.length_map, hm1] at hr1
  have e : [xs, ys].flatten = xs ++ ys := by simp
  have h5 := sum_s g1 (kTab_mv (kTab_mv hK h3) g3) (first_mv (first_mv hF h3) g3) (us := [_, u]) (ps := [xs, ys]) ⟨g3 _ _ _ h2, rfl, at_two hr1 (g3 _ _ _ (h3 _ _ _ hu))⟩ (by rw [e, List.length_append]; omega)
  rw [e] at h5
  refine Ret.calls h5 ?_
  rintro r w' ⟨h6, h7⟩
  exact ⟨h6, (h4 w' _ (g4 w' _ h7)).tail⟩
/-- the sum under a key that lies in an array of one's own -/
theorem msum_arrK {T T1 b1 k c : Nat} {v u : Value} {xs ys : List Byte} (hS : SepL R base w (.own T 1 v [[u]] :: .blk b1 T1 (xs.map B8) :: F)) (hK : CIn R base 0 (kTab.map W32)) (hF : CIn R base 1 (first.map W32)) (hm1 : xs.length = c) (hl1 : c ≤ 1000) (hk : k ≤ c) (hu : RdIn R base 1 u (bytes ys)) (hl2 : ys.length ≤ 1099511627776) :
    Calls Tryd.prog 35 #[.slice (some ⟨b1, 0, none⟩) k c, v] w (Ret fun r w' => r = HV (hmac (xs.take k) ys) ∧ SepL R base w' (.blk b1 T1 (xs.map B8) :: F)) := by
  obtain ⟨R1, h1, h2, h3, h4⟩ := hS.freezeOwn
  obtain ⟨R2, g1, g2, g2', g3, g4⟩ := h1.freezeBlk
  have hc1 : CIn R2 w b1 (xs.map B8) := ⟨g2.cells, g2'⟩
  have hr1 := CIn.asRd hc1 (by rw [List.length_map]; simp [maxLen]; omega)
  rw [List.length_map, hm1] at hr1
  have hr2 := RdIn.takeV (v := .slice (some ⟨b1, 0, none⟩) c c) (bs := xs) hr1 (k := k) (by omega)
  have e : cutV 1 (.slice (some ⟨b1, 0, none⟩) c c) 0 k = .slice (some ⟨b1, 0, none⟩) k c := by
    simp [cutV, cutAddr, Addr.add]
  rw [e] at hr2
  have h5 := msum_s g1 (kTab_mv (kTab_mv hK h3) g3) (first_mv (first_mv hF h3) g3) hr2 (by rw [List.length_take]; omega) (us := [u]) (ps := [ys]) (Pieces.one (g3 _ _ _ h2) (g3 _ _ _ (h3 _ _ _ hu))) (by rw [one_flat]; omega)
  rw [one_flat] at h5
  refine Ret.calls h5 ?_
  rintro r w' ⟨h6, h7⟩
  exact ⟨h6, (h4 w' _ (g4 w' _ h7)).tail⟩
end
set_option maxRecDepth 100000 in
set_option maxHeartbeats 4000000 in
theorem macNested_w {W : World} (hK : CIn All W 0 (kTab.map W32)) (hF : CIn All W 1 (first.map W32)) (key : List Byte) (hkl : key.length = 64) (z : Byte) {vb : Value} {bs : List Byte} (hb : RdIn All W 1 vb (bytes bs)) :
    Calls Tryd.prog 11 #[.agg (key.map B8).toArray, B8 z, vb] W (Ret fun r w' => r = .bool true ∧ Chg No W w') := by
  have hS := SepL.start W
  have hcb := RdIn.cell1 hb
  obtain ⟨n, hn⟩ : ∃ n, bs.length = n := ⟨_, rfl⟩
  have HN := hide hn
  by_cases hbig : 2000 < n
  · have HD : Hid (decide ((2000 : Int) < (n : Int)) = true) := by
      unfold Hid
      rw [decide_eq_true_iff]
      omega
    clear hbig hn
    go_enter Tryd.func11, Tryd.ntmps11
    go_wp2_with (first
      | (show wpList _ _ _ (⟨some 3, .box _ _, _, _, _, _⟩ :: _) _ _; refine wpS_boxA (cs := key.map B8) hS rfl rfl rfl ?_; clear hS; intro n3 w hS; go_frame)
      | (go_at_call 33; refine Ret.calls (malive_s hS hK hF) ?_; clear hS; rintro r w ⟨rfl, hS⟩)
      | (show wpList _ _ _ (⟨some 15, .call _, _, _, _, _⟩ :: _) _ _; refine wpList_val rfl (op_lenB slBytes rfl rfl rfl (hS.rd hb) HN.out) ?_; go_frame)
      | (show wpList _ _ _ (⟨some 16, .binOp _ _ _ _ _, _, _, _, _⟩ :: _) _ _; refine wpList_val rfl (op_igtr rfl rfl rfl HD.out) ?_; go_frame)
      )
    go_ret
    exact ⟨rfl, hS.chg⟩
  · have HD : Hid (decide ((2000 : Int) < (n : Int)) = false) := by
      unfold Hid
      rw [decide_eq_false_iff_not]
      omega
    have HB2 : Hid (bs.length ≤ 1099511627776) := by
      unfold Hid
      omega
    obtain ⟨k0, hk0⟩ : ∃ k, z.toNat % 65 = k := ⟨_, rfl⟩
    have hk64 : k0 ≤ 64 := by omega
    have HK0 := hide hk0
    have hz := z.isLt
    have HKL := hide hkl
    have HKT : Hid ((key.take k0).length = k0) := by
      unfold Hid
      rw [List.length_take]
      omega
    obtain ⟨P, hP⟩ : ∃ P, padK (key.take k0) = P := ⟨_, rfl⟩
    have hPl : P.length = 64 := by rw [← hP, padK_len]
    have HP : Hid (key.take k0 ++ List.replicate (64 - k0) 0 = P) := by
      unfold Hid
      rw [← hP, padK_short (by rw [HKT.out]; omega), HKT.out]
    have hH := hmac_eq (key.take k0) bs
    rw [hP] at hH
    have HXA := hide (xorTo_all (b := 0x36#8) hPl)
    have HXB := hide (xorTo_all (b := 0x5c#8) hPl)
    have HXL1 : ∀ i, (xorTo 0x36#8 P i).length = 64 := fun i => by rw [xorTo_len, hPl]
    have HXL2 : ∀ i, (xorTo 0x5c#8 P i).length = 64 := fun i => by rw [xorTo_len, hPl]
    have hXI : (xorB 0x36#8 P).length = 64 := by rw [xorB_len, hPl]
    have hXO : (xorB 0x5c#8 P).length = 64 := by rw [xorB_len, hPl]
    clear hbig hn hk0 hkl hP
    go_enter Tryd.func11, Tryd.ntmps11
    go_wp2_with (first
      | (show wpList _ _ _ (⟨some 3, .box _ _, _, _, _, _⟩ :: _) _ _; refine wpS_boxA (cs := key.map B8) hS rfl rfl rfl ?_; clear hS; intro n3 w hS; go_frame)
      | (go_at_call 33; refine Ret.calls (malive_s hS hK hF) ?_; clear hS; rintro r w ⟨rfl, hS⟩)
      | (show wpList _ _ _ (⟨some 15, .call _, _, _, _, _⟩ :: _) _ _; refine wpList_val rfl (op_lenB slBytes rfl rfl rfl (hS.rd hb) HN.out) ?_; go_frame)
      | (show wpList _ _ _ (⟨some 16, .binOp _ _ _ _ _, _, _, _, _⟩ :: _) _ _; refine wpList_val rfl (op_igtr rfl rfl rfl HD.out) ?_; go_frame)
      | (show wpList _ _ _ (⟨some 18, .convert _ _ _, _, _, _, _⟩ :: _) _ _; refine wpList_val rfl (op_8toInt undU8 undInt rfl rfl) ?_; go_frame)
      | (show wpList _ _ _ (⟨some 19, .binOp _ _ _ _ _, _, _, _, _⟩ :: _) _ _; refine wpList_val rfl (op_iremN rfl rfl (b := 65) rfl (by omega)) ?_; rw [HK0.out]; go_frame)
      | (show wpList _ _ _ (⟨some 20, .slice _ _ _ _ _, _, _, _, _⟩ :: _) _ _; refine wpList_val rfl (op_sliceArr arr64b rfl rfl (l := 0) (h := k0) (Or.inl ⟨rfl, rfl⟩) (Or.inr rfl) (by omega) (by omega)) ?_; rw [if_neg (by omega)]; simp only [Nat.sub_zero, Nat.add_zero]; go_frame)
      | (show wpList _ _ _ (⟨some 8, .alloc _, _, _, _, _⟩ :: _) _ _; refine wpS_alloc hS rfl rfl zero64b (zs := (List.replicate 64 (0 : Byte)).map B8) rfl ?_; clear hS; intro n8 w hS; go_frame)
      | (show wpList _ _ _ (⟨some 9, .alloc _, _, _, _, _⟩ :: _) _ _; refine wpS_alloc hS rfl rfl zero64b (zs := (List.replicate 64 (0 : Byte)).map B8) rfl ?_; clear hS; intro n9 w hS; go_frame)
      | (show wpList _ _ _ (⟨some 21, .slice _ _ _ _ _, _, _, _, _⟩ :: _) _ _; refine wpList_val rfl (op_sliceArr arr64b rfl rfl (l := 0) (h := 64) (Or.inl ⟨rfl, rfl⟩) (Or.inl ⟨rfl, rfl⟩) (by omega) (by omega)) ?_; rw [if_neg (by omega)]; simp only [Nat.sub_zero, Nat.add_zero]; go_frame)
      | (show wpList _ _ _ (⟨some 24, .slice _ _ _ _ _, _, _, _, _⟩ :: _) _ _; refine wpList_val rfl (op_sliceArr arr64b rfl rfl (l := 0) (h := 64) (Or.inl ⟨rfl, rfl⟩) (Or.inl ⟨rfl, rfl⟩) (by omega) (by omega)) ?_; rw [if_neg (by omega)]; simp only [Nat.sub_zero, Nat.add_zero]; go_frame)
      | (show wpList _ _ _ (⟨_, .call ⟨.builtin .copy, _, _⟩, _, _, _, _⟩ :: _) _ _; (refine wpS_copyArr (C := (List.replicate 64 (0 : Byte)).map B8) undBytes sizeU8 (hS.bring (by repeat (first | exact t0 | apply tS))) rfl rfl rfl rfl (xs := (key.take k0).map B8) (blk_rdK (b := n3) (T := 24) ((hS.bring (by repeat (first | exact t0 | apply tS))).getBlk) HKL.out (by omega) hk64) (oneB _) (by rw [List.length_map, List.length_replicate]; omega) ?_); clear hS; intro w k' hk' hS; rw [copyPad HKT.out hk64 hk', HP.out] at hS; clear hk'; go_frame)
      )
    have HS0 : SepL All W w [.blk n8 24 ((xorTo 0x36#8 P 0).map B8), .blk n9 24 ((xorTo 0x5c#8 P 0).map B8), .blk n3 24 (key.map B8)] := by
      rw [xorTo_zero, xorTo_zero]
      exact hS.sel (by repeat (first | exact Sel.refl | refine Sel.take (by repeat (first | exact t0 | apply tS)) ?_ | apply Sel.drop))
    clear hS
    go_loopw [27] (fun i wr => ∃ k : Nat, i = .int .i64 k ∧ k ≤ 64 ∧ SepL All W wr [.blk n8 24 ((xorTo 0x36#8 P k).map B8), .blk n9 24 ((xorTo 0x5c#8 P k).map B8), .blk n3 24 (key.map B8)]) (fun i _ => 64 - (intOf i).toNat)
    case atStart => exact ⟨0, rfl, by omega, HS0⟩
    case round =>
      clear HS0
      obtain ⟨k, rfl, hk, hS⟩ := hrel
      by_cases hlt : k < 64
      · have hkK : k < P.length := by omega
        obtain ⟨c, hc⟩ : ∃ c, P[k] = c := ⟨_, rfl⟩
        have HG1 : Hid ((xorTo 0x36#8 P k)[k]? = some c) := by
          unfold Hid
          rw [xorTo_get hkK, List.getElem?_eq_getElem hkK, hc]
        have HG2 : Hid ((xorTo 0x5c#8 P k)[k]? = some c) := by
          unfold Hid
          rw [xorTo_get hkK, List.getElem?_eq_getElem hkK, hc]
        have HT1 := hide (xorTo_set (b := 0x36#8) hkK)
        have HT2 := hide (xorTo_set (b := 0x5c#8) hkK)
        rw [hc] at HT1 HT2
        clear hc
        go_wp2_with (first
          | (show wpList _ _ _ (⟨_, .indexAddr _ _ _, _, _, _, _⟩ :: _) _ _; refine wpList_val rfl (op_indexArr arr64b rfl rfl (k := k) rfl (by omega)) ?_; simp only [Nat.zero_add]; go_frame)
          | (show wpList _ _ _ (⟨some 32, .load _ _, _, _, _, _⟩ :: _) _ _; refine wpList_val rfl (op_load8 oneU8 ((hS.bring (by repeat (first | exact t0 | apply tS)))) rfl rfl HG1.out) ?_; go_frame)
          | (show wpList _ _ _ (⟨some 37, .load _ _, _, _, _, _⟩ :: _) _ _; refine wpList_val rfl (op_load8 oneU8 ((hS.bring (by repeat (first | exact t0 | apply tS)))) rfl rfl HG2.out) ?_; go_frame)
          | (show wpList _ _ _ (⟨some 33, .binOp _ _ _ _ _, _, _, _, _⟩ :: _) _ _; refine wpList_val rfl (op_bin8 (op := .xor) (b := 0x36#8) rfl rfl rfl rfl) ?_; go_frame)
          | (show wpList _ _ _ (⟨some 38, .binOp _ _ _ _ _, _, _, _, _⟩ :: _) _ _; refine wpList_val rfl (op_bin8 (op := .xor) (b := 0x5c#8) rfl rfl rfl rfl) ?_; go_frame)
          | (show wpList _ _ _ (⟨_, .store _ (.tmp 34) _, _, _, _, _⟩ :: _) _ _; (refine wpS_storeF (f := B8) (us := xorTo 0x36#8 P k) sizeU8 (hS.bring (by repeat (first | exact t0 | apply tS))) rfl rfl rfl (v := c ^^^ 0x36#8) rfl rfl rfl (by rw [HXL1]; omega) ?_); clear hS; intro w hS; rw [HT1.out] at hS; go_frame)
          | (show wpList _ _ _ (⟨_, .store _ (.tmp 39) _, _, _, _, _⟩ :: _) _ _; (refine wpS_storeF (f := B8) (us := xorTo 0x5c#8 P k) sizeU8 (hS.bring (by repeat (first | exact t0 | apply tS))) rfl rfl rfl (v := c ^^^ 0x5c#8) rfl rfl rfl (by rw [HXL2]; omega) ?_); clear hS; intro w hS; rw [HT2.out] at hS; go_frame)
          )
        go_roundw
        case rel => exact ⟨k + 1, by go_num, by omega, hS.sel (by repeat (first | exact Sel.refl | refine Sel.take (by repeat (first | exact t0 | apply tS)) ?_ | apply Sel.drop))⟩
        case measure => simp [intOf]; omega
      · have hk2 : k = 64 := by omega
        subst hk2
        rw [HXA.out, HXB.out] at hS
        clear HXA HXB HXL1 HXL2 HP hPl
        generalize xorB 0x36#8 P = XI at *
        generalize xorB 0x5c#8 P = XO at *
        have hsl := sum_len (XI ++ bs)
        obtain ⟨si, hsi⟩ : ∃ s, sum (XI ++ bs) = s := ⟨_, rfl⟩
        rw [hsi] at hsl hH
        have HSIE := hide hsi
        have HHM := hide hH
        have HSI := hide hsl
        have HSI2 : Hid ((si.map B8).length = 32) := by
          unfold Hid
          rw [List.length_map, hsl]
        have HXIL := hide hXI
        have HXOL := hide hXO
        have hcl2 := cells_two (u := .slice (some ⟨n8, 0, none⟩) 64 64) rfl hcb
        have hcs2 := cells_two_size (u := .slice (some ⟨n8, 0, none⟩) 64 64) rfl hcb
        clear hsi hH hsl hXI hXO
        go_wp2_with (first
          | (show wpList _ _ _ (⟨some 41, .slice _ _ _ _ _, _, _, _, _⟩ :: _) _ _; refine wpList_val rfl (op_sliceArr arr64b rfl rfl (l := 0) (h := 64) (Or.inl ⟨rfl, rfl⟩) (Or.inl ⟨rfl, rfl⟩) (by omega) (by omega)) ?_; rw [if_neg (by omega)]; go_frame)
          | (show wpList _ _ _ (⟨some 43, .buildSlice _ _ _, _, _, _, _⟩ :: _) _ _; refine wpS_buildL slPieces hS rfl rfl [.slice (some ⟨n8, 0, none⟩) 64 64, vb] rfl rfl (by omega) (by omega) hcs2 ?_; clear hS; intro v43 w hS; rw [hcl2] at hS; go_frame)
          | (go_at_call 23; (refine Ret.calls (sum_arrB (hd2r (hS.bring (by repeat (first | exact t0 | apply tS))) (by repeat (first | exact t0 | apply tS))) hK hF HXIL.out (by omega) hb HB2.out) ?_); clear hS; rintro r w ⟨rfl, hS⟩; rw [HSIE.out])
          | (show wpList _ _ _ (⟨some 11, .alloc _, _, _, _, _⟩ :: _) _ _; refine wpS_alloc hS rfl rfl zero32b (zs := (List.replicate 32 (0 : Byte)).map B8) rfl ?_; clear hS; intro n11 w hS; go_frame)
          | (show wpList _ _ _ (⟨_, .store 34 _ _, _, _, _, _⟩ :: _) _ _; (refine wpS_storeAll agg32b (hS.bring (by repeat (first | exact t0 | apply tS))) rfl rfl rfl (vs := si.map B8) rfl HSI2.out (B8_one _) (by rw [List.length_map, List.length_replicate]) ?_); clear hS; intro w hS; go_frame)
          )
        clear hcl2 hcs2
        refine wp_region_ord (by kernel_rfl) [] [[0, 1, 4, 5, 2, 3, 6, 7, 8, 9], [0, 1, 4, 5, 2, 6, 3, 7, 8, 9], [0, 1, 4, 5, 6, 2, 3, 7, 8, 9]] (by kernel_rfl) (by kernel_rfl) (fun _ => True) (fun _ _ _ _ => trivial) trivial (by repeat (first | exact Clean.body | refine Clean.then ?_ | refine Clean.inBlock ?_ | refine SegQ.clean ?_ | refine FinC.clean ?_)) ?_
        replace hS := hS.drew
        refine ord_seg (by repeat (first | exact Clean.body | refine Clean.then ?_ | refine Clean.inBlock ?_ | refine SegQ.clean ?_ | refine FinC.clean ?_)) (n := 6) (rest := [[2, 3, 6, 7, 8, 9], [2, 6, 3, 7, 8, 9], [6, 2, 3, 7, 8, 9]]) [0, 1, 4, 5] [⟨_, _, _, _, _, _⟩, ⟨_, _, _, _, _, _⟩, ⟨_, _, _, _, _, _⟩, ⟨_, _, _, _, _, _⟩] rfl (by kernel_rfl) (by simp) _ _ ?_
        go_wp2_with (first
          | (show wpList _ _ _ (⟨some 47, .buildSlice _ _ _, _, _, _, _⟩ :: _) _ _; refine wpS_build11 slPieces hS rfl rfl rfl hcb ?_; clear hS; intro v47 w hS; go_frame)
          | (show wpList _ _ _ (⟨some 49, .slice _ _ _ _ _, _, _, _, _⟩ :: _) _ _; refine wpList_val rfl (op_sliceArr arr64b rfl rfl (l := 0) (h := 64) (Or.inl ⟨rfl, rfl⟩) (Or.inl ⟨rfl, rfl⟩) (by omega) (by omega)) ?_; rw [if_neg (by omega)]; go_frame)
          | (show wpList _ _ _ (⟨some 50, .slice _ _ _ _ _, _, _, _, _⟩ :: _) _ _; refine wpList_val rfl (op_sliceArr arr32b rfl rfl (l := 0) (h := 32) (Or.inl ⟨rfl, rfl⟩) (Or.inl ⟨rfl, rfl⟩) (by omega) (by omega)) ?_; rw [if_neg (by omega)]; go_frame)
          | (show wpList _ _ _ (⟨some 51, .buildSlice _ _ _, _, _, _, _⟩ :: _) _ _; refine wpS_buildL slPieces hS rfl rfl [.slice (some ⟨n9, 0, none⟩) 64 64, .slice (some ⟨n11, 0, none⟩) 32 32] rfl rfl (by omega) (by omega) (by simp [Value.cells]) ?_; clear hS; intro v51 w hS; go_frame)
          | (go_at_call 35; (refine Ret.calls (msum_arrK (hd2r (hS.bring (by repeat (first | exact t0 | apply tS))) (by repeat (first | exact t0 | apply tS))) hK hF HKL.out (by omega) (by omega) hb HB2.out) ?_); clear hS; rintro r w ⟨rfl, hS⟩)
          | (go_at_call 23; (refine Ret.calls (sum_arr2 (hd3r (hd2r (hS.bring (by repeat (first | exact t0 | apply tS))) (by repeat (first | exact t0 | apply tS))) (by repeat (first | exact t0 | apply tS))) hK hF HXOL.out HSI.out (by omega) (by omega)) ?_); clear hS; rintro r w ⟨rfl, hS⟩; rw [HHM.out])
          | (show wpList _ _ _ (⟨_, .binOp .eql 34 _ _ _, _, _, _, _⟩ :: _) _ _; refine wpList_val rfl (op_eqHash rfl rfl rfl (hmac_len _ _) rfl) ?_; go_frame)
          )
        refine segQ_mk trivial ?_
        refine ord_fork (n := 5) (os1 := [[2, 3, 6, 7, 8, 9], [2, 6, 3, 7, 8, 9]]) (os2 := [[6, 2, 3, 7, 8, 9]]) (by decide) ?_ ?_
        · refine ord_seg (by repeat (first | exact Clean.body | refine Clean.then ?_ | refine Clean.inBlock ?_ | refine SegQ.clean ?_ | refine FinC.clean ?_)) (n := 5) (rest := [[3, 6, 7, 8, 9], [6, 3, 7, 8, 9]]) [2] [⟨_, _, _, _, _, _⟩] rfl (by kernel_rfl) (by simp) _ _ ?_
          go_wp2_with (first
            | (show wpList _ _ _ (⟨some 47, .buildSlice _ _ _, _, _, _, _⟩ :: _) _ _; refine wpS_build11 slPieces hS rfl rfl rfl hcb ?_; clear hS; intro v47 w hS; go_frame)
            | (show wpList _ _ _ (⟨some 49, .slice _ _ _ _ _, _, _, _, _⟩ :: _) _ _; refine wpList_val rfl (op_sliceArr arr64b rfl rfl (l := 0) (h := 64) (Or.inl ⟨rfl, rfl⟩) (Or.inl ⟨rfl, rfl⟩) (by omega) (by omega)) ?_; rw [if_neg (by omega)]; go_frame)
            | (show wpList _ _ _ (⟨some 50, .slice _ _ _ _ _, _, _, _, _⟩ :: _) _ _; refine wpList_val rfl (op_sliceArr arr32b rfl rfl (l := 0) (h := 32) (Or.inl ⟨rfl, rfl⟩) (Or.inl ⟨rfl, rfl⟩) (by omega) (by omega)) ?_; rw [if_neg (by omega)]; go_frame)
            | (show wpList _ _ _ (⟨some 51, .buildSlice _ _ _, _, _, _, _⟩ :: _) _ _; refine wpS_buildL slPieces hS rfl rfl [.slice (some ⟨n9, 0, none⟩) 64 64, .slice (some ⟨n11, 0, none⟩) 32 32] rfl rfl (by omega) (by omega) (by simp [Value.cells]) ?_; clear hS; intro v51 w hS; go_frame)
            | (go_at_call 35; (refine Ret.calls (msum_arrK (hd2r (hS.bring (by repeat (first | exact t0 | apply tS))) (by repeat (first | exact t0 | apply tS))) hK hF HKL.out (by omega) (by omega) hb HB2.out) ?_); clear hS; rintro r w ⟨rfl, hS⟩)
            | (go_at_call 23; (refine Ret.calls (sum_arr2 (hd3r (hd2r (hS.bring (by repeat (first | exact t0 | apply tS))) (by repeat (first | exact t0 | apply tS))) (by repeat (first | exact t0 | apply tS))) hK hF HXOL.out HSI.out (by omega) (by omega)) ?_); clear hS; rintro r w ⟨rfl, hS⟩; rw [HHM.out])
            | (show wpList _ _ _ (⟨_, .binOp .eql 34 _ _ _, _, _, _, _⟩ :: _) _ _; refine wpList_val rfl (op_eqHash rfl rfl rfl (hmac_len _ _) rfl) ?_; go_frame)
            )
          refine segQ_mk trivial ?_
          refine ord_fork (n := 4) (os1 := [[3, 6, 7, 8, 9]]) (os2 := [[6, 3, 7, 8, 9]]) (by decide) ?_ ?_
          · refine ord_seg (by repeat (first | exact Clean.body | refine Clean.then ?_ | refine Clean.inBlock ?_ | refine SegQ.clean ?_ | refine FinC.clean ?_)) (n := 4) (rest := [[6, 7, 8, 9]]) [3] [⟨_, _, _, _, _, _⟩] rfl (by kernel_rfl) (by simp) _ _ ?_
            go_wp2_with (first
              | (show wpList _ _ _ (⟨some 47, .buildSlice _ _ _, _, _, _, _⟩ :: _) _ _; refine wpS_build11 slPieces hS rfl rfl rfl hcb ?_; clear hS; intro v47 w hS; go_frame)
              | (show wpList _ _ _ (⟨some 49, .slice _ _ _ _ _, _, _, _, _⟩ :: _) _ _; refine wpList_val rfl (op_sliceArr arr64b rfl rfl (l := 0) (h := 64) (Or.inl ⟨rfl, rfl⟩) (Or.inl ⟨rfl, rfl⟩) (by omega) (by omega)) ?_; rw [if_neg (by omega)]; go_frame)
              | (show wpList _ _ _ (⟨some 50, .slice _ _ _ _ _, _, _, _, _⟩ :: _) _ _; refine wpList_val rfl (op_sliceArr arr32b rfl rfl (l := 0) (h := 32) (Or.inl ⟨rfl, rfl⟩) (Or.inl ⟨rfl, rfl⟩) (by omega) (by omega)) ?_; rw [if_neg (by omega)]; go_frame)
              | (show wpList _ _ _ (⟨some 51, .buildSlice _ _ _, _, _, _, _⟩ :: _) _ _; refine wpS_buildL slPieces hS rfl rfl [.slice (some ⟨n9, 0, none⟩) 64 64, .slice (some ⟨n11, 0, none⟩) 32 32] rfl rfl (by omega) (by omega) (by simp [Value.cells]) ?_; clear hS; intro v51 w hS; go_frame)
              | (go_at_call 35; (refine Ret.calls (msum_arrK (hd2r (hS.bring (by repeat (first | exact t0 | apply tS))) (by repeat (first | exact t0 | apply tS))) hK hF HKL.out (by omega) (by omega) hb HB2.out) ?_); clear hS; rintro r w ⟨rfl, hS⟩)
              | (go_at_call 23; (refine Ret.calls (sum_arr2 (hd3r (hd2r (hS.bring (by repeat (first | exact t0 | apply tS))) (by repeat (first | exact t0 | apply tS))) (by repeat (first | exact t0 | apply tS))) hK hF HXOL.out HSI.out (by omega) (by omega)) ?_); clear hS; rintro r w ⟨rfl, hS⟩; rw [HHM.out])
              | (show wpList _ _ _ (⟨_, .binOp .eql 34 _ _ _, _, _, _, _⟩ :: _) _ _; refine wpList_val rfl (op_eqHash rfl rfl rfl (hmac_len _ _) rfl) ?_; go_frame)
              )
            refine segQ_mk trivial ?_
            refine ord_seg (by repeat (first | exact Clean.body | refine Clean.then ?_ | refine Clean.inBlock ?_ | refine SegQ.clean ?_ | refine FinC.clean ?_)) (n := 2) (rest := [[8, 9]]) [6, 7] [⟨_, _, _, _, _, _⟩, ⟨_, _, _, _, _, _⟩] rfl (by kernel_rfl) (by simp) _ _ ?_
            go_wp2_with (first
              | (show wpList _ _ _ (⟨some 47, .buildSlice _ _ _, _, _, _, _⟩ :: _) _ _; refine wpS_build11 slPieces hS rfl rfl rfl hcb ?_; clear hS; intro v47 w hS; go_frame)
              | (show wpList _ _ _ (⟨some 49, .slice _ _ _ _ _, _, _, _, _⟩ :: _) _ _; refine wpList_val rfl (op_sliceArr arr64b rfl rfl (l := 0) (h := 64) (Or.inl ⟨rfl, rfl⟩) (Or.inl ⟨rfl, rfl⟩) (by omega) (by omega)) ?_; rw [if_neg (by omega)]; go_frame)
              | (show wpList _ _ _ (⟨some 50, .slice _ _ _ _ _, _, _, _, _⟩ :: _) _ _; refine wpList_val rfl (op_sliceArr arr32b rfl rfl (l := 0) (h := 32) (Or.inl ⟨rfl, rfl⟩) (Or.inl ⟨rfl, rfl⟩) (by omega) (by omega)) ?_; rw [if_neg (by omega)]; go_frame)
              | (show wpList _ _ _ (⟨some 51, .buildSlice _ _ _, _, _, _, _⟩ :: _) _ _; refine wpS_buildL slPieces hS rfl rfl [.slice (some ⟨n9, 0, none⟩) 64 64, .slice (some ⟨n11, 0, none⟩) 32 32] rfl rfl (by omega) (by omega) (by simp [Value.cells]) ?_; clear hS; intro v51 w hS; go_frame)
              | (go_at_call 35; (refine Ret.calls (msum_arrK (hd2r (hS.bring (by repeat (first | exact t0 | apply tS))) (by repeat (first | exact t0 | apply tS))) hK hF HKL.out (by omega) (by omega) hb HB2.out) ?_); clear hS; rintro r w ⟨rfl, hS⟩)
              | (go_at_call 23; (refine Ret.calls (sum_arr2 (hd3r (hd2r (hS.bring (by repeat (first | exact t0 | apply tS))) (by repeat (first | exact t0 | apply tS))) (by repeat (first | exact t0 | apply tS))) hK hF HXOL.out HSI.out (by omega) (by omega)) ?_); clear hS; rintro r w ⟨rfl, hS⟩; rw [HHM.out])
              | (show wpList _ _ _ (⟨_, .binOp .eql 34 _ _ _, _, _, _, _⟩ :: _) _ _; refine wpList_val rfl (op_eqHash rfl rfl rfl (hmac_len _ _) rfl) ?_; go_frame)
              )
            refine segQ_mk trivial ?_
            refine ord_seg (by repeat (first | exact Clean.body | refine Clean.then ?_ | refine Clean.inBlock ?_ | refine SegQ.clean ?_ | refine FinC.clean ?_)) (n := 1) (rest := [[9]]) [8] [⟨_, _, _, _, _, _⟩] rfl (by kernel_rfl) (by simp) _ _ ?_
            go_wp2_with (first
              | (show wpList _ _ _ (⟨some 47, .buildSlice _ _ _, _, _, _, _⟩ :: _) _ _; refine wpS_build11 slPieces hS rfl rfl rfl hcb ?_; clear hS; intro v47 w hS; go_frame)
              | (show wpList _ _ _ (⟨some 49, .slice _ _ _ _ _, _, _, _, _⟩ :: _) _ _; refine wpList_val rfl (op_sliceArr arr64b rfl rfl (l := 0) (h := 64) (Or.inl ⟨rfl, rfl⟩) (Or.inl ⟨rfl, rfl⟩) (by omega) (by omega)) ?_; rw [if_neg (by omega)]; go_frame)
              | (show wpList _ _ _ (⟨some 50, .slice _ _ _ _ _, _, _, _, _⟩ :: _) _ _; refine wpList_val rfl (op_sliceArr arr32b rfl rfl (l := 0) (h := 32) (Or.inl ⟨rfl, rfl⟩) (Or.inl ⟨rfl, rfl⟩) (by omega) (by omega)) ?_; rw [if_neg (by omega)]; go_frame)
              | (show wpList _ _ _ (⟨some 51, .buildSlice _ _ _, _, _, _, _⟩ :: _) _ _; refine wpS_buildL slPieces hS rfl rfl [.slice (some ⟨n9, 0, none⟩) 64 64, .slice (some ⟨n11, 0, none⟩) 32 32] rfl rfl (by omega) (by omega) (by simp [Value.cells]) ?_; clear hS; intro v51 w hS; go_frame)
              | (go_at_call 35; (refine Ret.calls (msum_arrK (hd2r (hS.bring (by repeat (first | exact t0 | apply tS))) (by repeat (first | exact t0 | apply tS))) hK hF HKL.out (by omega) (by omega) hb HB2.out) ?_); clear hS; rintro r w ⟨rfl, hS⟩)
              | (go_at_call 23; (refine Ret.calls (sum_arr2 (hd3r (hd2r (hS.bring (by repeat (first | exact t0 | apply tS))) (by repeat (first | exact t0 | apply tS))) (by repeat (first | exact t0 | apply tS))) hK hF HXOL.out HSI.out (by omega) (by omega)) ?_); clear hS; rintro r w ⟨rfl, hS⟩; rw [HHM.out])
              | (show wpList _ _ _ (⟨_, .binOp .eql 34 _ _ _, _, _, _, _⟩ :: _) _ _; refine wpList_val rfl (op_eqHash rfl rfl rfl (hmac_len _ _) rfl) ?_; go_frame)
              )
            refine segQ_mk trivial ?_
            refine ord_seg (by repeat (first | exact Clean.body | refine Clean.then ?_ | refine Clean.inBlock ?_ | refine SegQ.clean ?_ | refine FinC.clean ?_)) (n := 0) (rest := [[]]) [9] [⟨_, _, _, _, _, _⟩] rfl (by kernel_rfl) (by simp) _ _ ?_
            go_wp2_with (first
              | (show wpList _ _ _ (⟨some 47, .buildSlice _ _ _, _, _, _, _⟩ :: _) _ _; refine wpS_build11 slPieces hS rfl rfl rfl hcb ?_; clear hS; intro v47 w hS; go_frame)
              | (show wpList _ _ _ (⟨some 49, .slice _ _ _ _ _, _, _, _, _⟩ :: _) _ _; refine wpList_val rfl (op_sliceArr arr64b rfl rfl (l := 0) (h := 64) (Or.inl ⟨rfl, rfl⟩) (Or.inl ⟨rfl, rfl⟩) (by omega) (by omega)) ?_; rw [if_neg (by omega)]; go_frame)
              | (show wpList _ _ _ (⟨some 50, .slice _ _ _ _ _, _, _, _, _⟩ :: _) _ _; refine wpList_val rfl (op_sliceArr arr32b rfl rfl (l := 0) (h := 32) (Or.inl ⟨rfl, rfl⟩) (Or.inl ⟨rfl, rfl⟩) (by omega) (by omega)) ?_; rw [if_neg (by omega)]; go_frame)
              | (show wpList _ _ _ (⟨some 51, .buildSlice _ _ _, _, _, _, _⟩ :: _) _ _; refine wpS_buildL slPieces hS rfl rfl [.slice (some ⟨n9, 0, none⟩) 64 64, .slice (some ⟨n11, 0, none⟩) 32 32] rfl rfl (by omega) (by omega) (by simp [Value.cells]) ?_; clear hS; intro v51 w hS; go_frame)
              | (go_at_call 35; (refine Ret.calls (msum_arrK (hd2r (hS.bring (by repeat (first | exact t0 | apply tS))) (by repeat (first | exact t0 | apply tS))) hK hF HKL.out (by omega) (by omega) hb HB2.out) ?_); clear hS; rintro r w ⟨rfl, hS⟩)
              | (go_at_call 23; (refine Ret.calls (sum_arr2 (hd3r (hd2r (hS.bring (by repeat (first | exact t0 | apply tS))) (by repeat (first | exact t0 | apply tS))) (by repeat (first | exact t0 | apply tS))) hK hF HXOL.out HSI.out (by omega) (by omega)) ?_); clear hS; rintro r w ⟨rfl, hS⟩; rw [HHM.out])
              | (show wpList _ _ _ (⟨_, .binOp .eql 34 _ _ _, _, _, _, _⟩ :: _) _ _; refine wpList_val rfl (op_eqHash rfl rfl rfl (hmac_len _ _) rfl) ?_; go_frame)
              )
            refine segQ_mk trivial ?_
            refine finC_mk (by kernel_rfl) (by
              intro t ht
              cases ht) ?_
            go_wp2_with fail
            go_ret
            exact ⟨rfl, hS.chg⟩
          · refine ord_seg (by repeat (first | exact Clean.body | refine Clean.then ?_ | refine Clean.inBlock ?_ | refine SegQ.clean ?_ | refine FinC.clean ?_)) (n := 3) (rest := [[7, 8, 9]]) [6, 3] [⟨_, _, _, _, _, _⟩, ⟨_, _, _, _, _, _⟩] rfl (by kernel_rfl) (by simp) _ _ ?_
            go_wp2_with (first
              | (show wpList _ _ _ (⟨some 47, .buildSlice _ _ _, _, _, _, _⟩ :: _) _ _; refine wpS_build11 slPieces hS rfl rfl rfl hcb ?_; clear hS; intro v47 w hS; go_frame)
              | (show wpList _ _ _ (⟨some 49, .slice _ _ _ _ _, _, _, _, _⟩ :: _) _ _; refine wpList_val rfl (op_sliceArr arr64b rfl rfl (l := 0) (h := 64) (Or.inl ⟨rfl, rfl⟩) (Or.inl ⟨rfl, rfl⟩) (by omega) (by omega)) ?_; rw [if_neg (by omega)]; go_frame)
              | (show wpList _ _ _ (⟨some 50, .slice _ _ _ _ _, _, _, _, _⟩ :: _) _ _; refine wpList_val rfl (op_sliceArr arr32b rfl rfl (l := 0) (h := 32) (Or.inl ⟨rfl, rfl⟩) (Or.inl ⟨rfl, rfl⟩) (by omega) (by omega)) ?_; rw [if_neg (by omega)]; go_frame)
              | (show wpList _ _ _ (⟨some 51, .buildSlice _ _ _, _, _, _, _⟩ :: _) _ _; refine wpS_buildL slPieces hS rfl rfl [.slice (some ⟨n9, 0, none⟩) 64 64, .slice (some ⟨n11, 0, none⟩) 32 32] rfl rfl (by omega) (by omega) (by simp [Value.cells]) ?_; clear hS; intro v51 w hS; go_frame)
              | (go_at_call 35; (refine Ret.calls (msum_arrK (hd2r (hS.bring (by repeat (first | exact t0 | apply tS))) (by repeat (first | exact t0 | apply tS))) hK hF HKL.out (by omega) (by omega) hb HB2.out) ?_); clear hS; rintro r w ⟨rfl, hS⟩)
              | (go_at_call 23; (refine Ret.calls (sum_arr2 (hd3r (hd2r (hS.bring (by repeat (first | exact t0 | apply tS))) (by repeat (first | exact t0 | apply tS))) (by repeat (first | exact t0 | apply tS))) hK hF HXOL.out HSI.out (by omega) (by omega)) ?_); clear hS; rintro r w ⟨rfl, hS⟩; rw [HHM.out])
              | (show wpList _ _ _ (⟨_, .binOp .eql 34 _ _ _, _, _, _, _⟩ :: _) _ _; refine wpList_val rfl (op_eqHash rfl rfl rfl (hmac_len _ _) rfl) ?_; go_frame)
              )
            refine segQ_mk trivial ?_
            refine ord_seg (by repeat (first | exact Clean.body | refine Clean.then ?_ | refine Clean.inBlock ?_ | refine SegQ.clean ?_ | refine FinC.clean ?_)) (n := 2) (rest := [[8, 9]]) [7] [⟨_, _, _, _, _, _⟩] rfl (by kernel_rfl) (by simp) _ _ ?_
            go_wp2_with (first
              | (show wpList _ _ _ (⟨some 47, .buildSlice _ _ _, _, _, _, _⟩ :: _) _ _; refine wpS_build11 slPieces hS rfl rfl rfl hcb ?_; clear hS; intro v47 w hS; go_frame)
              | (show wpList _ _ _ (⟨some 49, .slice _ _ _ _ _, _, _, _, _⟩ :: _) _ _; refine wpList_val rfl (op_sliceArr arr64b rfl rfl (l := 0) (h := 64) (Or.inl ⟨rfl, rfl⟩) (Or.inl ⟨rfl, rfl⟩) (by omega) (by omega)) ?_; rw [if_neg (by omega)]; go_frame)
              | (show wpList _ _ _ (⟨some 50, .slice _ _ _ _ _, _, _, _, _⟩ :: _) _ _; refine wpList_val rfl (op_sliceArr arr32b rfl rfl (l := 0) (h := 32) (Or.inl ⟨rfl, rfl⟩) (Or.inl ⟨rfl, rfl⟩) (by omega) (by omega)) ?_; rw [if_neg (by omega)]; go_frame)
              | (show wpList _ _ _ (⟨some 51, .buildSlice _ _ _, _, _, _, _⟩ :: _) _ _; refine wpS_buildL slPieces hS rfl rfl [.slice (some ⟨n9, 0, none⟩) 64 64, .slice (some ⟨n11, 0, none⟩) 32 32] rfl rfl (by omega) (by omega) (by simp [Value.cells]) ?_; clear hS; intro v51 w hS; go_frame)
              | (go_at_call 35; (refine Ret.calls (msum_arrK (hd2r (hS.bring (by repeat (first | exact t0 | apply tS))) (by repeat (first | exact t0 | apply tS))) hK hF HKL.out (by omega) (by omega) hb HB2.out) ?_); clear hS; rintro r w ⟨rfl, hS⟩)
              | (go_at_call 23; (refine Ret.calls (sum_arr2 (hd3r (hd2r (hS.bring (by repeat (first | exact t0 | apply tS))) (by repeat (first | exact t0 | apply tS))) (by repeat (first | exact t0 | apply tS))) hK hF HXOL.out HSI.out (by omega) (by omega)) ?_); clear hS; rintro r w ⟨rfl, hS⟩; rw [HHM.out])
              | (show wpList _ _ _ (⟨_, .binOp .eql 34 _ _ _, _, _, _, _⟩ :: _) _ _; refine wpList_val rfl (op_eqHash rfl rfl rfl (hmac_len _ _) rfl) ?_; go_frame)
              )
            refine segQ_mk trivial ?_
            refine ord_seg (by repeat (first | exact Clean.body | refine Clean.then ?_ | refine Clean.inBlock ?_ | refine SegQ.clean ?_ | refine FinC.clean ?_)) (n := 1) (rest := [[9]]) [8] [⟨_, _, _, _, _, _⟩] rfl (by kernel_rfl) (by simp) _ _ ?_
            go_wp2_with (first
              | (show wpList _ _ _ (⟨some 47, .buildSlice _ _ _, _, _, _, _⟩ :: _) _ _; refine wpS_build11 slPieces hS rfl rfl rfl hcb ?_; clear hS; intro v47 w hS; go_frame)
              | (show wpList _ _ _ (⟨some 49, .slice _ _ _ _ _, _, _, _, _⟩ :: _) _ _; refine wpList_val rfl (op_sliceArr arr64b rfl rfl (l := 0) (h := 64) (Or.inl ⟨rfl, rfl⟩) (Or.inl ⟨rfl, rfl⟩) (by omega) (by omega)) ?_; rw [if_neg (by omega)]; go_frame)
              | (show wpList _ _ _ (⟨some 50, .slice _ _ _ _ _, _, _, _, _⟩ :: _) _ _; refine wpList_val rfl (op_sliceArr arr32b rfl rfl (l := 0) (h := 32) (Or.inl ⟨rfl, rfl⟩) (Or.inl ⟨rfl, rfl⟩) (by omega) (by omega)) ?_; rw [if_neg (by omega)]; go_frame)
              | (show wpList _ _ _ (⟨some 51, .buildSlice _ _ _, _, _, _, _⟩ :: _) _ _; refine wpS_buildL slPieces hS rfl rfl [.slice (some ⟨n9, 0, none⟩) 64 64, .slice (some ⟨n11, 0, none⟩) 32 32] rfl rfl (by omega) (by omega) (by simp [Value.cells]) ?_; clear hS; intro v51 w hS; go_frame)
              | (go_at_call 35; (refine Ret.calls (msum_arrK (hd2r (hS.bring (by repeat (first | exact t0 | apply tS))) (by repeat (first | exact t0 | apply tS))) hK hF HKL.out (by omega) (by omega) hb HB2.out) ?_); clear hS; rintro r w ⟨rfl, hS⟩)
              | (go_at_call 23; (refine Ret.calls (sum_arr2 (hd3r (hd2r (hS.bring (by repeat (first | exact t0 | apply tS))) (by repeat (first | exact t0 | apply tS))) (by repeat (first | exact t0 | apply tS))) hK hF HXOL.out HSI.out (by omega) (by omega)) ?_); clear hS; rintro r w ⟨rfl, hS⟩; rw [HHM.out])
              | (show wpList _ _ _ (⟨_, .binOp .eql 34 _ _ _, _, _, _, _⟩ :: _) _ _; refine wpList_val rfl (op_eqHash rfl rfl rfl (hmac_len _ _) rfl) ?_; go_frame)
              )
            refine segQ_mk trivial ?_
            refine ord_seg (by repeat (first | exact Clean.body | refine Clean.then ?_ | refine Clean.inBlock ?_ | refine SegQ.clean ?_ | refine FinC.clean ?_)) (n := 0) (rest := [[]]) [9] [⟨_, _, _, _, _, _⟩] rfl (by kernel_rfl) (by simp) _ _ ?_
            go_wp2_with (first
              | (show wpList _ _ _ (⟨some 47, .buildSlice _ _ _, _, _, _, _⟩ :: _) _ _; refine wpS_build11 slPieces hS rfl rfl rfl hcb ?_; clear hS; intro v47 w hS; go_frame)
              | (show wpList _ _ _ (⟨some 49, .slice _ _ _ _ _, _, _, _, _⟩ :: _) _ _; refine wpList_val rfl (op_sliceArr arr64b rfl rfl (l := 0) (h := 64) (Or.inl ⟨rfl, rfl⟩) (Or.inl ⟨rfl, rfl⟩) (by omega) (by omega)) ?_; rw [if_neg (by omega)]; go_frame)
              | (show wpList _ _ _ (⟨some 50, .slice _ _ _ _ _, _, _, _, _⟩ :: _) _ _; refine wpList_val rfl (op_sliceArr arr32b rfl rfl (l := 0) (h := 32) (Or.inl ⟨rfl, rfl⟩) (Or.inl ⟨rfl, rfl⟩) (by omega) (by omega)) ?_; rw [if_neg (by omega)]; go_frame)
              | (show wpList _ _ _ (⟨some 51, .buildSlice _ _ _, _, _, _, _⟩ :: _) _ _; refine wpS_buildL slPieces hS rfl rfl [.slice (some ⟨n9, 0, none⟩) 64 64, .slice (some ⟨n11, 0, none⟩) 32 32] rfl rfl (by omega) (by omega) (by simp [Value.cells]) ?_; clear hS; intro v51 w hS; go_frame)
              | (go_at_call 35; (refine Ret.calls (msum_arrK (hd2r (hS.bring (by repeat (first | exact t0 | apply tS))) (by repeat (first | exact t0 | apply tS))) hK hF HKL.out (by omega) (by omega) hb HB2.out) ?_); clear hS; rintro r w ⟨rfl, hS⟩)
              | (go_at_call 23; (refine Ret.calls (sum_arr2 (hd3r (hd2r (hS.bring (by repeat (first | exact t0 | apply tS))) (by repeat (first | exact t0 | apply tS))) (by repeat (first | exact t0 | apply tS))) hK hF HXOL.out HSI.out (by omega) (by omega)) ?_); clear hS; rintro r w ⟨rfl, hS⟩; rw [HHM.out])
              | (show wpList _ _ _ (⟨_, .binOp .eql 34 _ _ _, _, _, _, _⟩ :: _) _ _; refine wpList_val rfl (op_eqHash rfl rfl rfl (hmac_len _ _) rfl) ?_; go_frame)
              )
            refine segQ_mk trivial ?_
            refine finC_mk (by kernel_rfl) (by
              intro t ht
              cases ht) ?_
            go_wp2_with fail
            go_ret
            exact ⟨rfl, hS.chg⟩
        · refine ord_seg (by repeat (first | exact Clean.body | refine Clean.then ?_ | refine Clean.inBlock ?_ | refine SegQ.clean ?_ | refine FinC.clean ?_)) (n := 3) (rest := [[7, 8, 9]]) [6, 2, 3] [⟨_, _, _, _, _, _⟩, ⟨_, _, _, _, _, _⟩, ⟨_, _, _, _, _, _⟩] rfl (by kernel_rfl) (by simp) _ _ ?_
          go_wp2_with (first
            | (show wpList _ _ _ (⟨some 47, .buildSlice _ _ _, _, _, _, _⟩ :: _) _ _; refine wpS_build11 slPieces hS rfl rfl rfl hcb ?_; clear hS; intro v47 w hS; go_frame)
            | (show wpList _ _ _ (⟨some 49, .slice _ _ _ _ _, _, _, _, _⟩ :: _) _ _; refine wpList_val rfl (op_sliceArr arr64b rfl rfl (l := 0) (h := 64) (Or.inl ⟨rfl, rfl⟩) (Or.inl ⟨rfl, rfl⟩) (by omega) (by omega)) ?_; rw [if_neg (by omega)]; go_frame)
            | (show wpList _ _ _ (⟨some 50, .slice _ _ _ _ _, _, _, _, _⟩ :: _) _ _; refine wpList_val rfl (op_sliceArr arr32b rfl rfl (l := 0) (h := 32) (Or.inl ⟨rfl, rfl⟩) (Or.inl ⟨rfl, rfl⟩) (by omega) (by omega)) ?_; rw [if_neg (by omega)]; go_frame)
            | (show wpList _ _ _ (⟨some 51, .buildSlice _ _ _, _, _, _, _⟩ :: _) _ _; refine wpS_buildL slPieces hS rfl rfl [.slice (some ⟨n9, 0, none⟩) 64 64, .slice (some ⟨n11, 0, none⟩) 32 32] rfl rfl (by omega) (by omega) (by simp [Value.cells]) ?_; clear hS; intro v51 w hS; go_frame)
            | (go_at_call 35; (refine Ret.calls (msum_arrK (hd2r (hS.bring (by repeat (first | exact t0 | apply tS))) (by repeat (first | exact t0 | apply tS))) hK hF HKL.out (by omega) (by omega) hb HB2.out) ?_); clear hS; rintro r w ⟨rfl, hS⟩)
            | (go_at_call 23; (refine Ret.calls (sum_arr2 (hd3r (hd2r (hS.bring (by repeat (first | exact t0 | apply tS))) (by repeat (first | exact t0 | apply tS))) (by repeat (first | exact t0 | apply tS))) hK hF HXOL.out HSI.out (by omega) (by omega)) ?_); clear hS; rintro r w ⟨rfl, hS⟩; rw [HHM.out])
            | (show wpList _ _ _ (⟨_, .binOp .eql 34 _ _ _, _, _, _, _⟩ :: _) _ _; refine wpList_val rfl (op_eqHash rfl rfl rfl (hmac_len _ _) rfl) ?_; go_frame)
            )
          refine segQ_mk trivial ?_
          refine ord_seg (by repeat (first | exact Clean.body | refine Clean.then ?_ | refine Clean.inBlock ?_ | refine SegQ.clean ?_ | refine FinC.clean ?_)) (n := 2) (rest := [[8, 9]]) [7] [⟨_, _, _, _, _, _⟩] rfl (by kernel_rfl) (by simp) _ _ ?_
          go_wp2_with (first
            | (show wpList _ _ _ (⟨some 47, .buildSlice _ _ _, _, _, _, _⟩ :: _) _ _; refine wpS_build11 slPieces hS rfl rfl rfl hcb ?_; clear hS; intro v47 w hS; go_frame)
            | (show wpList _ _ _ (⟨some 49, .slice _ _ _ _ _, _, _, _, _⟩ :: _) _ _; refine wpList_val rfl (op_sliceArr arr64b rfl rfl (l := 0) (h := 64) (Or.inl ⟨rfl, rfl⟩) (Or.inl ⟨rfl, rfl⟩) (by omega) (by omega)) ?_; rw [if_neg (by omega)]; go_frame)
            | (show wpList _ _ _ (⟨some 50, .slice _ _ _ _ _, _, _, _, _⟩ :: _) _ _; refine wpList_val rfl (op_sliceArr arr32b rfl rfl (l := 0) (h := 32) (Or.inl ⟨rfl, rfl⟩) (Or.inl ⟨rfl, rfl⟩) (by omega) (by omega)) ?_; rw [if_neg (by omega)]; go_frame)
            | (show wpList _ _ _ (⟨some 51, .buildSlice _ _ _, _, _, _, _⟩ :: _) _ _; refine wpS_buildL slPieces hS rfl rfl [.slice (some ⟨n9, 0, none⟩) 64 64, .slice (some ⟨n11, 0, none⟩) 32 32] rfl rfl (by omega) (by omega) (by simp [Value.cells]) ?_; clear hS; intro v51 w hS; go_frame)
            | (go_at_call 35; (refine Ret.calls (msum_arrK (hd2r (hS.bring (by repeat (first | exact t0 | apply tS))) (by repeat (first | exact t0 | apply tS))) hK hF HKL.out (by omega) (by omega) hb HB2.out) ?_); clear hS; rintro r w ⟨rfl, hS⟩)
            | (go_at_call 23; (refine Ret.calls (sum_arr2 (hd3r (hd2r (hS.bring (by repeat (first | exact t0 | apply tS))) (by repeat (first | exact t0 | apply tS))) (by repeat (first | exact t0 | apply tS))) hK hF HXOL.out HSI.out (by omega) (by omega)) ?_); clear hS; rintro r w ⟨rfl, hS⟩; rw [HHM.out])
            | (show wpList _ _ _ (⟨_, .binOp .eql 34 _ _ _, _, _, _, _⟩ :: _) _ _; refine wpList_val rfl (op_eqHash rfl rfl rfl (hmac_len _ _) rfl) ?_; go_frame)
            )
          refine segQ_mk trivial ?_
          refine ord_seg (by repeat (first | exact Clean.body | refine Clean.then ?_ | refine Clean.inBlock ?_ | refine SegQ.clean ?_ | refine FinC.clean ?_)) (n := 1) (rest := [[9]]) [8] [⟨_, _, _, _, _, _⟩] rfl (by kernel_rfl) (by simp) _ _ ?_
          go_wp2_with (first
            | (show wpList _ _ _ (⟨some 47, .buildSlice _ _ _, _, _, _, _⟩ :: _) _ _; refine wpS_build11 slPieces hS rfl rfl rfl hcb ?_; clear hS; intro v47 w hS; go_frame)
            | (show wpList _ _ _ (⟨some 49, .slice _ _ _ _ _, _, _, _, _⟩ :: _) _ _; refine wpList_val rfl (op_sliceArr arr64b rfl rfl (l := 0) (h := 64) (Or.inl ⟨rfl, rfl⟩) (Or.inl ⟨rfl, rfl⟩) (by omega) (by omega)) ?_; rw [if_neg (by omega)]; go_frame)
            | (show wpList _ _ _ (⟨some 50, .slice _ _ _ _ _, _, _, _, _⟩ :: _) _ _; refine wpList_val rfl (op_sliceArr arr32b rfl rfl (l := 0) (h := 32) (Or.inl ⟨rfl, rfl⟩) (Or.inl ⟨rfl, rfl⟩) (by omega) (by omega)) ?_; rw [if_neg (by omega)]; go_frame)
            | (show wpList _ _ _ (⟨some 51, .buildSlice _ _ _, _, _, _, _⟩ :: _) _ _; refine wpS_buildL slPieces hS rfl rfl [.slice (some ⟨n9, 0, none⟩) 64 64, .slice (some ⟨n11, 0, none⟩) 32 32] rfl rfl (by omega) (by omega) (by simp [Value.cells]) ?_; clear hS; intro v51 w hS; go_frame)
            | (go_at_call 35; (refine Ret.calls (msum_arrK (hd2r (hS.bring (by repeat (first | exact t0 | apply tS))) (by repeat (first | exact t0 | apply tS))) hK hF HKL.out (by omega) (by omega) hb HB2.out) ?_); clear hS; rintro r w ⟨rfl, hS⟩)
            | (go_at_call 23; (refine Ret.calls (sum_arr2 (hd3r (hd2r (hS.bring (by repeat (first | exact t0 | apply tS))) (by repeat (first | exact t0 | apply tS))) (by repeat (first | exact t0 | apply tS))) hK hF HXOL.out HSI.out (by omega) (by omega)) ?_); clear hS; rintro r w ⟨rfl, hS⟩; rw [HHM.out])
            | (show wpList _ _ _ (⟨_, .binOp .eql 34 _ _ _, _, _, _, _⟩ :: _) _ _; refine wpList_val rfl (op_eqHash rfl rfl rfl (hmac_len _ _) rfl) ?_; go_frame)
            )
          refine segQ_mk trivial ?_
          refine ord_seg (by repeat (first | exact Clean.body | refine Clean.then ?_ | refine Clean.inBlock ?_ | refine SegQ.clean ?_ | refine FinC.clean ?_)) (n := 0) (rest := [[]]) [9] [⟨_, _, _, _, _, _⟩] rfl (by kernel_rfl) (by simp) _ _ ?_
          go_wp2_with (first
            | (show wpList _ _ _ (⟨some 47, .buildSlice _ _ _, _, _, _, _⟩ :: _) _ _; refine wpS_build11 slPieces hS rfl rfl rfl hcb ?_; clear hS; intro v47 w hS; go_frame)
            | (show wpList _ _ _ (⟨some 49, .slice _ _ _ _ _, _, _, _, _⟩ :: _) _ _; refine wpList_val rfl (op_sliceArr arr64b rfl rfl (l := 0) (h := 64) (Or.inl ⟨rfl, rfl⟩) (Or.inl ⟨rfl, rfl⟩) (by omega) (by omega)) ?_; rw [if_neg (by omega)]; go_frame)
            | (show wpList _ _ _ (⟨some 50, .slice _ _ _ _ _, _, _, _, _⟩ :: _) _ _; refine wpList_val rfl (op_sliceArr arr32b rfl rfl (l := 0) (h := 32) (Or.inl ⟨rfl, rfl⟩) (Or.inl ⟨rfl, rfl⟩) (by omega) (by omega)) ?_; rw [if_neg (by omega)]; go_frame)
            | (show wpList _ _ _ (⟨some 51, .buildSlice _ _ _, _, _, _, _⟩ :: _) _ _; refine wpS_buildL slPieces hS rfl rfl [.slice (some ⟨n9, 0, none⟩) 64 64, .slice (some ⟨n11, 0, none⟩) 32 32] rfl rfl (by omega) (by omega) (by simp [Value.cells]) ?_; clear hS; intro v51 w hS; go_frame)
            | (go_at_call 35; (refine Ret.calls (msum_arrK (hd2r (hS.bring (by repeat (first | exact t0 | apply tS))) (by repeat (first | exact t0 | apply tS))) hK hF HKL.out (by omega) (by omega) hb HB2.out) ?_); clear hS; rintro r w ⟨rfl, hS⟩)
            | (go_at_call 23; (refine Ret.calls (sum_arr2 (hd3r (hd2r (hS.bring (by repeat (first | exact t0 | apply tS))) (by repeat (first | exact t0 | apply tS))) (by repeat (first | exact t0 | apply tS))) hK hF HXOL.out HSI.out (by omega) (by omega)) ?_); clear hS; rintro r w ⟨rfl, hS⟩; rw [HHM.out])
            | (show wpList _ _ _ (⟨_, .binOp .eql 34 _ _ _, _, _, _, _⟩ :: _) _ _; refine wpList_val rfl (op_eqHash rfl rfl rfl (hmac_len _ _) rfl) ?_; go_frame)
            )
          refine segQ_mk trivial ?_
          refine finC_mk (by kernel_rfl) (by
            intro t ht
            cases ht) ?_
          go_wp2_with fail
          go_ret
          exact ⟨rfl, hS.chg⟩
end Go.Proofs.YtpdanieiafjmhaaDoor
