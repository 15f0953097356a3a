/- A long key is as good as its sum, a short one as good as with noughts behind it: the law returns true. Conditions: those that stand ahead of each theorem. -/
import Derived.Test.YtpdanieiafjmhaaDoorMAlive
import Derived.Test.YtpdanieiafjmhaaDoorZeros
namespace Go.Proofs.YtpdanieiafjmhaaDoor
open Go.RowKit Go.Px Go.Sha
theorem hmac_pad {k1 k2 m : List Byte} (h : padK k1 = padK k2) : hmac k1 m = hmac k2 m := by
  rw [← hmac_eq, ← hmac_eq, h]
theorem padK_sum {key : List Byte} (h : 64 < key.length) : padK (sum key) = padK key := by
  rw [padK_short (by rw [sum_len]; omega), padK_long (by omega), sum_len]
theorem padK_noughts {key : List Byte} {j : Nat} (h : key.length + j ≤ 64) : padK (key ++ List.replicate j 0) = padK key := by
  rw [padK_short (by rw [List.length_append, List.length_replicate]; omega), padK_short (by omega), List.append_assoc, List.replicate_append_replicate, List.length_append, List.length_replicate]
  congr 2
  omega
theorem bytes_noughts (key : List Byte) (j : Nat) : bytes key ++ List.replicate j [Value.int .u8 0] = bytes (key ++ List.replicate j 0) := by
  rw [bytes_app]
  congr 1
  simp [bytes]
  exact Or.inr (by simp [B8])
theorem zeroU8 : ∀ (i : TypeInfo) (y : Value), Tryd.prog.info? 5 = some i → i.zero = some y → y.cells = #[Value.int .u8 0] := by
  intro i y h1 h2
  obtain ⟨i', g1, g2, _, _⟩ := info_parts infoU8
  rw [h1] at g1
  injection g1 with e
  subst e
  rw [h2] at g2
  injection g2 with e
  subst e
  simp [Value.cells]
section
variable {R : Nat → Prop} {base w : World} {F : List Hp}
theorem hd2r {a o : Hp} {L M : List Hp} (hS : SepL R base w (o :: L)) (t : Take1 L a M) : SepL R base w (o :: a :: M) := hd2 t hS
/-- the sum of the caller's bytes under the caller's key -/
theorem msum_rd {T : Nat} {v k u : Value} {xs ys : List Byte} (hS : SepL R base w (.own T 1 v [[u]] :: F)) (hK : CIn R base 0 (kTab.map W32)) (hF : CIn R base 1 (first.map W32)) (hk : RdIn R base 1 k (bytes xs)) (hl1 : xs.length ≤ 1099511627776) (hu : RdIn R base 1 u (bytes ys)) (hl2 : ys.length ≤ 1099511627776) :
    Calls Tryd.prog 35 #[k, v] w (Ret fun r w' => r = HV (hmac xs ys) ∧ SepL R base w' F) := by
  obtain ⟨R1, h1, h2, h3, h4⟩ := hS.freezeOwn
  have h5 := msum_s h1 (kTab_mv hK h3) (first_mv hF h3) (h3 _ _ _ hk) hl1 (us := [u]) (ps := [ys]) (Pieces.one h2 (h3 _ _ _ hu)) (by rw [one_flat]; omega)
  rw [one_flat] at h5
  refine Ret.calls h5 ?_
  rintro r w' ⟨h6, h7⟩
  exact ⟨h6, (h4 w' _ h7).tail⟩
/-- the same under a key of one's own -/
theorem msum_own {T T1 : Nat} {v k u : Value} {xs ys : List Byte} (hS : SepL R base w (.own T 1 v [[u]] :: .own T1 1 k (bytes xs) :: F)) (hK : CIn R base 0 (kTab.map W32)) (hF : CIn R base 1 (first.map W32)) (hl1 : xs.length ≤ 1099511627776) (hu : RdIn R base 1 u (bytes ys)) (hl2 : ys.length ≤ 1099511627776) :
    Calls Tryd.prog 35 #[k, v] w (Ret fun r w' => r = HV (hmac xs ys) ∧ SepL R base w' F) := by
  obtain ⟨R1, h1, h2, h3, h4⟩ := hS.freezeOwn
  obtain ⟨R2, g1, g2, g3, g4⟩ := h1.freezeOwn
  have h5 := msum_s g1 (kTab_mv (kTab_mv hK h3) g3) (first_mv (first_mv hF h3) g3) g2 hl1 (us := [u]) (ps := [ys]) (Pieces.one (g3 _ _ _ h2) (g3 _ _ _ (h3 _ _ _ hu))) (by rw [one_flat]; omega)
  rw [one_flat] at h5
  refine Ret.calls h5 ?_
  rintro r w' ⟨h6, h7⟩
  exact ⟨h6, (h4 w' _ (g4 w' _ h7)).tail.tail⟩
/-- the same under a key that lies in an array of one's own -/
theorem msum_arr {T T1 b1 : Nat} {v u : Value} {xs ys : List Byte} (hS : SepL R base w (.own T 1 v [[u]] :: .blk b1 T1 (xs.map B8) :: F)) (hK : CIn R base 0 (kTab.map W32)) (hF : CIn R base 1 (first.map W32)) (hm1 : xs.length = 32) (hu : RdIn R base 1 u (bytes ys)) (hl2 : ys.length ≤ 1099511627776) :
    Calls Tryd.prog 35 #[.slice (some ⟨b1, 0, none⟩) 32 32, v] w (Ret fun r w' => r = HV (hmac xs ys) ∧ SepL R base w' F) := by
  obtain ⟨R1, h1, h2, h3, h4⟩ := hS.freezeOwn
  obtain ⟨R2, g1, g2, g2', g3, g4⟩ := h1.freezeBlk
  have hc1 : CIn R2 w b1 (xs.map B8) := ⟨g2.cells, g2'⟩
  have hr1 := CIn.asRd hc1 (by rw [List.length_map]; simp [maxLen]; omega)
  rw [List.length_map, hm1] at hr1
  have h5 := msum_s g1 (kTab_mv (kTab_mv hK h3) g3) (first_mv (first_mv hF h3) g3) hr1 (by omega) (us := [u]) (ps := [ys]) (Pieces.one (g3 _ _ _ h2) (g3 _ _ _ (h3 _ _ _ hu))) (by rw [one_flat]; omega)
  rw [one_flat] at h5
  refine Ret.calls h5 ?_
  rintro r w' ⟨h6, h7⟩
  exact ⟨h6, (h4 w' _ (g4 w' _ h7)).tail.tail⟩
end
theorem op_neHash {o : Oper} {ρ : Operand → Value} {w : World} {x y : Operand} {t : TypeId} (ho : o.op = .binOp .neq 34 x y t) {a : List Byte} (hx : ρ x = .agg (a.map B8).toArray) (hy : ρ y = .agg (a.map B8).toArray) (ha : a.length = 32) : (execOp ρ o).run Tryd.prog w = .ok (.value (.bool false)) w := by
  rw [op_neq keyHash ho hx hy (isKey_bytes arrHash undU8 sizeT ha) (isKey_bytes arrHash undU8 sizeT ha), eqv_self]
  rfl
set_option maxRecDepth 100000 in
set_option maxHeartbeats 4000000 in
theorem macLong_w {W : World} (hK : CIn All W 0 (kTab.map W32)) (hF : CIn All W 1 (first.map W32)) {va vb : Value} {key bs : List Byte} (ha : RdIn All W 1 va (bytes key)) (hb : RdIn All W 1 vb (bytes bs)) :
    Calls Tryd.prog 12 #[va, vb] W (Ret fun r w' => r = .bool true ∧ Chg No W w') := by
  have hS := SepL.start W
  have hca := RdIn.cell1 ha
  have hcb := RdIn.cell1 hb
  obtain ⟨m, hm⟩ : ∃ m, key.length = m := ⟨_, rfl⟩
  have HNA := hide hm
  obtain ⟨n, hn⟩ : ∃ n, bs.length = n := ⟨_, rfl⟩
  have HNB := hide hn
  obtain ⟨da, hda⟩ : ∃ d, decide ((2000 : Int) < (m : Int)) = d := ⟨_, rfl⟩
  obtain ⟨db, hdb⟩ : ∃ d, decide ((2000 : Int) < (n : Int)) = d := ⟨_, rfl⟩
  have HDA := hide hda
  have HDB := hide hdb
  rcases da with _ | _
  rotate_left
  · clear hda hdb hm hn
    go_enter Tryd.func12, Tryd.ntmps12
    go_wp2_with (first
      | (go_at_call 33; refine Ret.calls (malive_s hS hK hF) ?_; clear hS; rintro r w ⟨rfl, hS⟩)
      | (show wpList _ _ _ (⟨some 11, .call _, _, _, _, _⟩ :: _) _ _; refine wpList_val rfl (op_lenB slBytes rfl rfl rfl (hS.rd ha) HNA.out) ?_; go_frame)
      | (show wpList _ _ _ (⟨some 12, .binOp _ _ _ _ _, _, _, _, _⟩ :: _) _ _; refine wpList_val rfl (op_igtr rfl rfl rfl HDA.out) ?_; go_frame)
      | (show wpList _ _ _ (⟨some 15, .call _, _, _, _, _⟩ :: _) _ _; refine wpList_val rfl (op_lenB slBytes rfl rfl rfl (hS.rd hb) HNB.out) ?_; go_frame)
      | (show wpList _ _ _ (⟨some 16, .binOp _ _ _ _ _, _, _, _, _⟩ :: _) _ _; refine wpList_val rfl (op_igtr rfl rfl rfl HDB.out) ?_; go_frame)
      )
    go_ret
    exact ⟨rfl, hS.chg⟩
  rcases db with _ | _
  rotate_left
  · clear hda hdb hm hn
    go_enter Tryd.func12, Tryd.ntmps12
    go_wp2_with (first
      | (go_at_call 33; refine Ret.calls (malive_s hS hK hF) ?_; clear hS; rintro r w ⟨rfl, hS⟩)
      | (show wpList _ _ _ (⟨some 11, .call _, _, _, _, _⟩ :: _) _ _; refine wpList_val rfl (op_lenB slBytes rfl rfl rfl (hS.rd ha) HNA.out) ?_; go_frame)
      | (show wpList _ _ _ (⟨some 12, .binOp _ _ _ _ _, _, _, _, _⟩ :: _) _ _; refine wpList_val rfl (op_igtr rfl rfl rfl HDA.out) ?_; go_frame)
      | (show wpList _ _ _ (⟨some 15, .call _, _, _, _, _⟩ :: _) _ _; refine wpList_val rfl (op_lenB slBytes rfl rfl rfl (hS.rd hb) HNB.out) ?_; go_frame)
      | (show wpList _ _ _ (⟨some 16, .binOp _ _ _ _ _, _, _, _, _⟩ :: _) _ _; refine wpList_val rfl (op_igtr rfl rfl rfl HDB.out) ?_; go_frame)
      )
    go_ret
    exact ⟨rfl, hS.chg⟩
  have hm2 : m ≤ 2000 := by
    have := of_decide_eq_false hda
    omega
  have hn2 : n ≤ 2000 := by
    have := of_decide_eq_false hdb
    omega
  clear hda hdb
  have HB1 : Hid (key.length ≤ 1099511627776) := by
    unfold Hid
    omega
  have HB2 : Hid (bs.length ≤ 1099511627776) := by
    unfold Hid
    omega
  have HB3 : Hid (key.length < 4611686018427386000) := by
    unfold Hid
    omega
  obtain ⟨H, hH⟩ : ∃ H, hmac key bs = H := ⟨_, rfl⟩
  have hHL : H.length = 32 := by rw [← hH, hmac_len]
  have HHL := hide hHL
  have HM1 : ∀ {T : Nat} {v : Value} {w : World} {F : List Hp}, SepL All W w (.own T 1 v [[vb]] :: F) → Calls Tryd.prog 35 #[va, v] w (Ret fun r w' => r = HV H ∧ SepL All W w' F) := by
    intro T v w F h
    rw [← hH]
    exact msum_rd h hK hF ha HB1.out hb HB2.out
  by_cases hlong : 64 < m
  · have HDL : Hid (decide ((64 : Int) < (m : Int)) = true) := by
      unfold Hid
      rw [decide_eq_true_iff]
      omega
    have hsl := sum_len key
    have hH2 : hmac (sum key) bs = H := by rw [← hH]; exact hmac_pad (padK_sum (by omega))
    have HSM : ∀ {T : Nat} {v : Value} {w : World} {F : List Hp}, SepL All W w (.own T 1 v [[va]] :: F) → Calls Tryd.prog 23 #[v] w (Ret fun r w' => r = HV (sum key) ∧ SepL All W w' F) := fun h => sum_arg1 h hK hF ha HB3.out
    generalize sum key = si at *
    have HM2 : ∀ (b : Nat) {T T1 : Nat} {v : Value} {w : World} {F : List Hp}, SepL All W w (.own T 1 v [[vb]] :: .blk b T1 (si.map B8) :: F) → Calls Tryd.prog 35 #[.slice (some ⟨b, 0, none⟩) 32 32, v] w (Ret fun r w' => r = HV H ∧ SepL All W w' F) := by
      intro b T T1 v w F h
      rw [← hH2]
      exact msum_arr h hK hF hsl hb HB2.out
    have HSI2 : Hid ((si.map B8).length = 32) := by
      unfold Hid
      rw [List.length_map, hsl]
    clear hm hn hH hH2 hlong hHL
    go_enter Tryd.func12, Tryd.ntmps12
    go_wp2_with (first
      | (go_at_call 33; refine Ret.calls (malive_s hS hK hF) ?_; clear hS; rintro r w ⟨rfl, hS⟩)
      | (show wpList _ _ _ (⟨some 11, .call _, _, _, _, _⟩ :: _) _ _; refine wpList_val rfl (op_lenB slBytes rfl rfl rfl (hS.rd ha) HNA.out) ?_; go_frame)
      | (show wpList _ _ _ (⟨some 12, .binOp _ _ _ _ _, _, _, _, _⟩ :: _) _ _; refine wpList_val rfl (op_igtr rfl rfl rfl HDA.out) ?_; go_frame)
      | (show wpList _ _ _ (⟨some 15, .call _, _, _, _, _⟩ :: _) _ _; refine wpList_val rfl (op_lenB slBytes rfl rfl rfl (hS.rd hb) HNB.out) ?_; go_frame)
      | (show wpList _ _ _ (⟨some 16, .binOp _ _ _ _ _, _, _, _, _⟩ :: _) _ _; refine wpList_val rfl (op_igtr rfl rfl rfl HDB.out) ?_; go_frame)
      | (show wpList _ _ _ (⟨some 19, .call _, _, _, _, _⟩ :: _) _ _; refine wpList_val rfl (op_lenB slBytes rfl rfl rfl (hS.rd ha) HNA.out) ?_; go_frame)
      | (show wpList _ _ _ (⟨some 20, .binOp _ _ _ _ _, _, _, _, _⟩ :: _) _ _; refine wpList_val rfl (op_igtr rfl rfl rfl HDL.out) ?_; go_frame)
      | (show wpList _ _ _ (⟨some 22, .buildSlice _ _ _, _, _, _, _⟩ :: _) _ _; refine wpS_build11 slPieces hS rfl rfl rfl hca ?_; clear hS; intro v22 w hS; go_frame)
      | (go_at_call 23; (refine Ret.calls (HSM (hS.bring (by repeat (first | exact t0 | apply tS)))) ?_); clear hS; rintro r w ⟨rfl, hS⟩)
      | (show wpList _ _ _ (⟨some 5, .alloc _, _, _, _, _⟩ :: _) _ _; refine wpS_alloc hS rfl rfl zero32b (zs := (List.replicate 32 (0 : Byte)).map B8) rfl ?_; clear hS; intro n5 w hS; go_frame)
      | (show wpList _ _ _ (⟨_, .store 34 _ _, _, _, _, _⟩ :: _) _ _; (refine wpS_storeAll agg32b (hS.bring (by repeat (first | exact t0 | apply tS))) rfl rfl rfl (vs := si.map B8) rfl HSI2.out (B8_one _) (by rw [List.length_map, List.length_replicate]) ?_); clear hS; intro w hS; go_frame)
      )
    refine wp_region_ord (by kernel_rfl) [] [[0, 1, 4, 5, 2, 3, 6, 7, 8, 9], [0, 1, 4, 5, 2, 6, 3, 7, 8, 9], [0, 1, 4, 5, 6, 2, 3, 7, 8, 9]] (by kernel_rfl) (by kernel_rfl) (fun _ => True) (fun _ _ _ _ => trivial) trivial (by repeat (first | exact Clean.body | refine Clean.then ?_ | refine Clean.inBlock ?_ | refine SegQ.clean ?_ | refine FinC.clean ?_)) ?_
    replace hS := hS.drew
    refine ord_seg (by repeat (first | exact Clean.body | refine Clean.then ?_ | refine Clean.inBlock ?_ | refine SegQ.clean ?_ | refine FinC.clean ?_)) (n := 6) (rest := [[2, 3, 6, 7, 8, 9], [2, 6, 3, 7, 8, 9], [6, 2, 3, 7, 8, 9]]) [0, 1, 4, 5] [⟨_, _, _, _, _, _⟩, ⟨_, _, _, _, _, _⟩, ⟨_, _, _, _, _, _⟩, ⟨_, _, _, _, _, _⟩] rfl (by kernel_rfl) (by simp) _ _ ?_
    go_wp2_with (first
      | (show wpList _ _ _ (⟨some 26, .buildSlice _ _ _, _, _, _, _⟩ :: _) _ _; refine wpS_build11 slPieces hS rfl rfl rfl hcb ?_; clear hS; intro v26 w hS; go_frame)
      | (show wpList _ _ _ (⟨some 30, .buildSlice _ _ _, _, _, _, _⟩ :: _) _ _; refine wpS_build11 slPieces hS rfl rfl rfl hcb ?_; clear hS; intro v30 w hS; go_frame)
      | (show wpList _ _ _ (⟨some 28, .slice _ _ _ _ _, _, _, _, _⟩ :: _) _ _; refine wpList_val rfl (op_sliceArr arr32b rfl rfl (l := 0) (h := 32) (Or.inl ⟨rfl, rfl⟩) (Or.inl ⟨rfl, rfl⟩) (by omega) (by omega)) ?_; rw [if_neg (by omega)]; go_frame)
      | (go_at_call 35; (refine Ret.calls (HM1 (hS.bring (by repeat (first | exact t0 | apply tS)))) ?_); clear hS; rintro r w ⟨rfl, hS⟩)
      )
    refine segQ_mk trivial ?_
    refine ord_fork (n := 5) (os1 := [[2, 3, 6, 7, 8, 9], [2, 6, 3, 7, 8, 9]]) (os2 := [[6, 2, 3, 7, 8, 9]]) (by decide) ?_ ?_
    · refine ord_seg (by repeat (first | exact Clean.body | refine Clean.then ?_ | refine Clean.inBlock ?_ | refine SegQ.clean ?_ | refine FinC.clean ?_)) (n := 5) (rest := [[3, 6, 7, 8, 9], [6, 3, 7, 8, 9]]) [2] [⟨_, _, _, _, _, _⟩] rfl (by kernel_rfl) (by simp) _ _ ?_
      go_wp2_with (first
        | (show wpList _ _ _ (⟨some 26, .buildSlice _ _ _, _, _, _, _⟩ :: _) _ _; refine wpS_build11 slPieces hS rfl rfl rfl hcb ?_; clear hS; intro v26 w hS; go_frame)
        | (show wpList _ _ _ (⟨some 30, .buildSlice _ _ _, _, _, _, _⟩ :: _) _ _; refine wpS_build11 slPieces hS rfl rfl rfl hcb ?_; clear hS; intro v30 w hS; go_frame)
        | (show wpList _ _ _ (⟨some 28, .slice _ _ _ _ _, _, _, _, _⟩ :: _) _ _; refine wpList_val rfl (op_sliceArr arr32b rfl rfl (l := 0) (h := 32) (Or.inl ⟨rfl, rfl⟩) (Or.inl ⟨rfl, rfl⟩) (by omega) (by omega)) ?_; rw [if_neg (by omega)]; go_frame)
        | (go_at_call 35; (refine Ret.calls (HM1 (hS.bring (by repeat (first | exact t0 | apply tS)))) ?_); clear hS; rintro r w ⟨rfl, hS⟩)
        )
      refine segQ_mk trivial ?_
      refine ord_fork (n := 4) (os1 := [[3, 6, 7, 8, 9]]) (os2 := [[6, 3, 7, 8, 9]]) (by decide) ?_ ?_
      · refine ord_seg (by repeat (first | exact Clean.body | refine Clean.then ?_ | refine Clean.inBlock ?_ | refine SegQ.clean ?_ | refine FinC.clean ?_)) (n := 4) (rest := [[6, 7, 8, 9]]) [3] [⟨_, _, _, _, _, _⟩] rfl (by kernel_rfl) (by simp) _ _ ?_
        go_wp2_with (first
          | (show wpList _ _ _ (⟨some 26, .buildSlice _ _ _, _, _, _, _⟩ :: _) _ _; refine wpS_build11 slPieces hS rfl rfl rfl hcb ?_; clear hS; intro v26 w hS; go_frame)
          | (show wpList _ _ _ (⟨some 30, .buildSlice _ _ _, _, _, _, _⟩ :: _) _ _; refine wpS_build11 slPieces hS rfl rfl rfl hcb ?_; clear hS; intro v30 w hS; go_frame)
          | (show wpList _ _ _ (⟨some 28, .slice _ _ _ _ _, _, _, _, _⟩ :: _) _ _; refine wpList_val rfl (op_sliceArr arr32b rfl rfl (l := 0) (h := 32) (Or.inl ⟨rfl, rfl⟩) (Or.inl ⟨rfl, rfl⟩) (by omega) (by omega)) ?_; rw [if_neg (by omega)]; go_frame)
          | (go_at_call 35; (refine Ret.calls (HM1 (hS.bring (by repeat (first | exact t0 | apply tS)))) ?_); clear hS; rintro r w ⟨rfl, hS⟩)
          )
        refine segQ_mk trivial ?_
        refine ord_seg (by repeat (first | exact Clean.body | refine Clean.then ?_ | refine Clean.inBlock ?_ | refine SegQ.clean ?_ | refine FinC.clean ?_)) (n := 2) (rest := [[8, 9]]) [6, 7] [⟨_, _, _, _, _, _⟩, ⟨_, _, _, _, _, _⟩] rfl (by kernel_rfl) (by simp) _ _ ?_
        go_wp2_with (first
          | (show wpList _ _ _ (⟨some 30, .buildSlice _ _ _, _, _, _, _⟩ :: _) _ _; refine wpS_build11 slPieces hS rfl rfl rfl hcb ?_; clear hS; intro v30 w hS; go_frame)
          | (go_at_call 35; (refine Ret.calls (HM2 n5 (hd2r (hS.bring (by repeat (first | exact t0 | apply tS))) (by repeat (first | exact t0 | apply tS)))) ?_); clear hS; rintro r w ⟨rfl, hS⟩)
          | (show wpList _ _ _ (⟨_, .binOp .eql 34 _ _ _, _, _, _, _⟩ :: _) _ _; refine wpList_val rfl (op_eqHash rfl rfl rfl HHL.out rfl) ?_; go_frame)
          )
        refine segQ_mk trivial ?_
        refine ord_seg (by repeat (first | exact Clean.body | refine Clean.then ?_ | refine Clean.inBlock ?_ | refine SegQ.clean ?_ | refine FinC.clean ?_)) (n := 1) (rest := [[9]]) [8] [⟨_, _, _, _, _, _⟩] rfl (by kernel_rfl) (by simp) _ _ ?_
        go_wp2_with (first
          | (show wpList _ _ _ (⟨some 30, .buildSlice _ _ _, _, _, _, _⟩ :: _) _ _; refine wpS_build11 slPieces hS rfl rfl rfl hcb ?_; clear hS; intro v30 w hS; go_frame)
          | (go_at_call 35; (refine Ret.calls (HM2 n5 (hd2r (hS.bring (by repeat (first | exact t0 | apply tS))) (by repeat (first | exact t0 | apply tS)))) ?_); clear hS; rintro r w ⟨rfl, hS⟩)
          | (show wpList _ _ _ (⟨_, .binOp .eql 34 _ _ _, _, _, _, _⟩ :: _) _ _; refine wpList_val rfl (op_eqHash rfl rfl rfl HHL.out rfl) ?_; go_frame)
          )
        refine segQ_mk trivial ?_
        refine ord_seg (by repeat (first | exact Clean.body | refine Clean.then ?_ | refine Clean.inBlock ?_ | refine SegQ.clean ?_ | refine FinC.clean ?_)) (n := 0) (rest := [[]]) [9] [⟨_, _, _, _, _, _⟩] rfl (by kernel_rfl) (by simp) _ _ ?_
        go_wp2_with (first
          | (show wpList _ _ _ (⟨some 30, .buildSlice _ _ _, _, _, _, _⟩ :: _) _ _; refine wpS_build11 slPieces hS rfl rfl rfl hcb ?_; clear hS; intro v30 w hS; go_frame)
          | (go_at_call 35; (refine Ret.calls (HM2 n5 (hd2r (hS.bring (by repeat (first | exact t0 | apply tS))) (by repeat (first | exact t0 | apply tS)))) ?_); clear hS; rintro r w ⟨rfl, hS⟩)
          | (show wpList _ _ _ (⟨_, .binOp .eql 34 _ _ _, _, _, _, _⟩ :: _) _ _; refine wpList_val rfl (op_eqHash rfl rfl rfl HHL.out rfl) ?_; go_frame)
          )
        refine segQ_mk trivial ?_
        refine finC_mk (by kernel_rfl) (by
          intro t ht
          cases ht) ?_
        go_wp2_with fail
        go_ret
        exact ⟨rfl, hS.chg⟩
      · refine ord_seg (by repeat (first | exact Clean.body | refine Clean.then ?_ | refine Clean.inBlock ?_ | refine SegQ.clean ?_ | refine FinC.clean ?_)) (n := 3) (rest := [[7, 8, 9]]) [6, 3] [⟨_, _, _, _, _, _⟩, ⟨_, _, _, _, _, _⟩] rfl (by kernel_rfl) (by simp) _ _ ?_
        go_wp2_with (first
          | (show wpList _ _ _ (⟨some 26, .buildSlice _ _ _, _, _, _, _⟩ :: _) _ _; refine wpS_build11 slPieces hS rfl rfl rfl hcb ?_; clear hS; intro v26 w hS; go_frame)
          | (show wpList _ _ _ (⟨some 30, .buildSlice _ _ _, _, _, _, _⟩ :: _) _ _; refine wpS_build11 slPieces hS rfl rfl rfl hcb ?_; clear hS; intro v30 w hS; go_frame)
          | (show wpList _ _ _ (⟨some 28, .slice _ _ _ _ _, _, _, _, _⟩ :: _) _ _; refine wpList_val rfl (op_sliceArr arr32b rfl rfl (l := 0) (h := 32) (Or.inl ⟨rfl, rfl⟩) (Or.inl ⟨rfl, rfl⟩) (by omega) (by omega)) ?_; rw [if_neg (by omega)]; go_frame)
          | (go_at_call 35; (refine Ret.calls (HM1 (hS.bring (by repeat (first | exact t0 | apply tS)))) ?_); clear hS; rintro r w ⟨rfl, hS⟩)
          )
        refine segQ_mk trivial ?_
        refine ord_seg (by repeat (first | exact Clean.body | refine Clean.then ?_ | refine Clean.inBlock ?_ | refine SegQ.clean ?_ | refine FinC.clean ?_)) (n := 2) (rest := [[8, 9]]) [7] [⟨_, _, _, _, _, _⟩] rfl (by kernel_rfl) (by simp) _ _ ?_
        go_wp2_with (first
          | (show wpList _ _ _ (⟨some 30, .buildSlice _ _ _, _, _, _, _⟩ :: _) _ _; refine wpS_build11 slPieces hS rfl rfl rfl hcb ?_; clear hS; intro v30 w hS; go_frame)
          | (go_at_call 35; (refine Ret.calls (HM2 n5 (hd2r (hS.bring (by repeat (first | exact t0 | apply tS))) (by repeat (first | exact t0 | apply tS)))) ?_); clear hS; rintro r w ⟨rfl, hS⟩)
          | (show wpList _ _ _ (⟨_, .binOp .eql 34 _ _ _, _, _, _, _⟩ :: _) _ _; refine wpList_val rfl (op_eqHash rfl rfl rfl HHL.out rfl) ?_; go_frame)
          )
        refine segQ_mk trivial ?_
        refine ord_seg (by repeat (first | exact Clean.body | refine Clean.then ?_ | refine Clean.inBlock ?_ | refine SegQ.clean ?_ | refine FinC.clean ?_)) (n := 1) (rest := [[9]]) [8] [⟨_, _, _, _, _, _⟩] rfl (by kernel_rfl) (by simp) _ _ ?_
        go_wp2_with (first
          | (show wpList _ _ _ (⟨some 30, .buildSlice _ _ _, _, _, _, _⟩ :: _) _ _; refine wpS_build11 slPieces hS rfl rfl rfl hcb ?_; clear hS; intro v30 w hS; go_frame)
          | (go_at_call 35; (refine Ret.calls (HM2 n5 (hd2r (hS.bring (by repeat (first | exact t0 | apply tS))) (by repeat (first | exact t0 | apply tS)))) ?_); clear hS; rintro r w ⟨rfl, hS⟩)
          | (show wpList _ _ _ (⟨_, .binOp .eql 34 _ _ _, _, _, _, _⟩ :: _) _ _; refine wpList_val rfl (op_eqHash rfl rfl rfl HHL.out rfl) ?_; go_frame)
          )
        refine segQ_mk trivial ?_
        refine ord_seg (by repeat (first | exact Clean.body | refine Clean.then ?_ | refine Clean.inBlock ?_ | refine SegQ.clean ?_ | refine FinC.clean ?_)) (n := 0) (rest := [[]]) [9] [⟨_, _, _, _, _, _⟩] rfl (by kernel_rfl) (by simp) _ _ ?_
        go_wp2_with (first
          | (show wpList _ _ _ (⟨some 30, .buildSlice _ _ _, _, _, _, _⟩ :: _) _ _; refine wpS_build11 slPieces hS rfl rfl rfl hcb ?_; clear hS; intro v30 w hS; go_frame)
          | (go_at_call 35; (refine Ret.calls (HM2 n5 (hd2r (hS.bring (by repeat (first | exact t0 | apply tS))) (by repeat (first | exact t0 | apply tS)))) ?_); clear hS; rintro r w ⟨rfl, hS⟩)
          | (show wpList _ _ _ (⟨_, .binOp .eql 34 _ _ _, _, _, _, _⟩ :: _) _ _; refine wpList_val rfl (op_eqHash rfl rfl rfl HHL.out rfl) ?_; go_frame)
          )
        refine segQ_mk trivial ?_
        refine finC_mk (by kernel_rfl) (by
          intro t ht
          cases ht) ?_
        go_wp2_with fail
        go_ret
        exact ⟨rfl, hS.chg⟩
    · refine ord_seg (by repeat (first | exact Clean.body | refine Clean.then ?_ | refine Clean.inBlock ?_ | refine SegQ.clean ?_ | refine FinC.clean ?_)) (n := 3) (rest := [[7, 8, 9]]) [6, 2, 3] [⟨_, _, _, _, _, _⟩, ⟨_, _, _, _, _, _⟩, ⟨_, _, _, _, _, _⟩] rfl (by kernel_rfl) (by simp) _ _ ?_
      go_wp2_with (first
        | (show wpList _ _ _ (⟨some 26, .buildSlice _ _ _, _, _, _, _⟩ :: _) _ _; refine wpS_build11 slPieces hS rfl rfl rfl hcb ?_; clear hS; intro v26 w hS; go_frame)
        | (show wpList _ _ _ (⟨some 30, .buildSlice _ _ _, _, _, _, _⟩ :: _) _ _; refine wpS_build11 slPieces hS rfl rfl rfl hcb ?_; clear hS; intro v30 w hS; go_frame)
        | (show wpList _ _ _ (⟨some 28, .slice _ _ _ _ _, _, _, _, _⟩ :: _) _ _; refine wpList_val rfl (op_sliceArr arr32b rfl rfl (l := 0) (h := 32) (Or.inl ⟨rfl, rfl⟩) (Or.inl ⟨rfl, rfl⟩) (by omega) (by omega)) ?_; rw [if_neg (by omega)]; go_frame)
        | (go_at_call 35; (refine Ret.calls (HM1 (hS.bring (by repeat (first | exact t0 | apply tS)))) ?_); clear hS; rintro r w ⟨rfl, hS⟩)
        )
      refine segQ_mk trivial ?_
      refine ord_seg (by repeat (first | exact Clean.body | refine Clean.then ?_ | refine Clean.inBlock ?_ | refine SegQ.clean ?_ | refine FinC.clean ?_)) (n := 2) (rest := [[8, 9]]) [7] [⟨_, _, _, _, _, _⟩] rfl (by kernel_rfl) (by simp) _ _ ?_
      go_wp2_with (first
        | (show wpList _ _ _ (⟨some 30, .buildSlice _ _ _, _, _, _, _⟩ :: _) _ _; refine wpS_build11 slPieces hS rfl rfl rfl hcb ?_; clear hS; intro v30 w hS; go_frame)
        | (go_at_call 35; (refine Ret.calls (HM2 n5 (hd2r (hS.bring (by repeat (first | exact t0 | apply tS))) (by repeat (first | exact t0 | apply tS)))) ?_); clear hS; rintro r w ⟨rfl, hS⟩)
        | (show wpList _ _ _ (⟨_, .binOp .eql 34 _ _ _, _, _, _, _⟩ :: _) _ _; refine wpList_val rfl (op_eqHash rfl rfl rfl HHL.out rfl) ?_; go_frame)
        )
      refine segQ_mk trivial ?_
      refine ord_seg (by repeat (first | exact Clean.body | refine Clean.then ?_ | refine Clean.inBlock ?_ | refine SegQ.clean ?_ | refine FinC.clean ?_)) (n := 1) (rest := [[9]]) [8] [⟨_, _, _, _, _, _⟩] rfl (by kernel_rfl) (by simp) _ _ ?_
      go_wp2_with (first
        | (show wpList _ _ _ (⟨some 30, .buildSlice _ _ _, _, _, _, _⟩ :: _) _ _; refine wpS_build11 slPieces hS rfl rfl rfl hcb ?_; clear hS; intro v30 w hS; go_frame)
        | (go_at_call 35; (refine Ret.calls (HM2 n5 (hd2r (hS.bring (by repeat (first | exact t0 | apply tS))) (by repeat (first | exact t0 | apply tS)))) ?_); clear hS; rintro r w ⟨rfl, hS⟩)
        | (show wpList _ _ _ (⟨_, .binOp .eql 34 _ _ _, _, _, _, _⟩ :: _) _ _; refine wpList_val rfl (op_eqHash rfl rfl rfl HHL.out rfl) ?_; go_frame)
        )
      refine segQ_mk trivial ?_
      refine ord_seg (by repeat (first | exact Clean.body | refine Clean.then ?_ | refine Clean.inBlock ?_ | refine SegQ.clean ?_ | refine FinC.clean ?_)) (n := 0) (rest := [[]]) [9] [⟨_, _, _, _, _, _⟩] rfl (by kernel_rfl) (by simp) _ _ ?_
      go_wp2_with (first
        | (show wpList _ _ _ (⟨some 30, .buildSlice _ _ _, _, _, _, _⟩ :: _) _ _; refine wpS_build11 slPieces hS rfl rfl rfl hcb ?_; clear hS; intro v30 w hS; go_frame)
        | (go_at_call 35; (refine Ret.calls (HM2 n5 (hd2r (hS.bring (by repeat (first | exact t0 | apply tS))) (by repeat (first | exact t0 | apply tS)))) ?_); clear hS; rintro r w ⟨rfl, hS⟩)
        | (show wpList _ _ _ (⟨_, .binOp .eql 34 _ _ _, _, _, _, _⟩ :: _) _ _; refine wpList_val rfl (op_eqHash rfl rfl rfl HHL.out rfl) ?_; go_frame)
        )
      refine segQ_mk trivial ?_
      refine finC_mk (by kernel_rfl) (by
        intro t ht
        cases ht) ?_
      go_wp2_with fail
      go_ret
      exact ⟨rfl, hS.chg⟩
  · have HDL : Hid (decide ((64 : Int) < (m : Int)) = false) := by
      unfold Hid
      rw [decide_eq_false_iff_not]
      omega
    have HFA : Hid (Flat (bytes key)) := flat_bytes key
    have hMO : ∀ j, m + j ≤ 64 → ∀ {T T1 : Nat} {v k : Value} {w : World} {F : List Hp}, SepL All W w (.own T 1 v [[vb]] :: .own T1 1 k (bytes (key ++ List.replicate j 0)) :: F) → Calls Tryd.prog 35 #[k, v] w (Ret fun r w' => r = HV H ∧ SepL All W w' F) := by
      intro j hj T T1 v k w F h
      rw [← hH, ← hmac_pad (padK_noughts (key := key) (j := j) (by omega))]
      exact msum_own h hK hF (by rw [List.length_append, List.length_replicate]; omega) hb HB2.out
    clear hn hH hHL
    go_enter Tryd.func12, Tryd.ntmps12
    go_wp2_with (first
      | (go_at_call 33; refine Ret.calls (malive_s hS hK hF) ?_; clear hS; rintro r w ⟨rfl, hS⟩)
      | (show wpList _ _ _ (⟨some 11, .call _, _, _, _, _⟩ :: _) _ _; refine wpList_val rfl (op_lenB slBytes rfl rfl rfl (hS.rd ha) HNA.out) ?_; go_frame)
      | (show wpList _ _ _ (⟨some 12, .binOp _ _ _ _ _, _, _, _, _⟩ :: _) _ _; refine wpList_val rfl (op_igtr rfl rfl rfl HDA.out) ?_; go_frame)
      | (show wpList _ _ _ (⟨some 15, .call _, _, _, _, _⟩ :: _) _ _; refine wpList_val rfl (op_lenB slBytes rfl rfl rfl (hS.rd hb) HNB.out) ?_; go_frame)
      | (show wpList _ _ _ (⟨some 16, .binOp _ _ _ _ _, _, _, _, _⟩ :: _) _ _; refine wpList_val rfl (op_igtr rfl rfl rfl HDB.out) ?_; go_frame)
      | (show wpList _ _ _ (⟨some 19, .call _, _, _, _, _⟩ :: _) _ _; refine wpList_val rfl (op_lenB slBytes rfl rfl rfl (hS.rd ha) HNA.out) ?_; go_frame)
      | (show wpList _ _ _ (⟨some 20, .binOp _ _ _ _ _, _, _, _, _⟩ :: _) _ _; refine wpList_val rfl (op_igtr rfl rfl rfl HDL.out) ?_; go_frame)
      | (show wpList _ _ _ (⟨some 34, .call _, _, _, _, _⟩ :: _) _ _; refine wpList_val rfl (op_lenB slBytes rfl rfl rfl (hS.rd ha) HNA.out) ?_; go_frame)
      )
    go_loopw [6] (fun i wr => ∃ k : Nat, i = .int .i64 k ∧ m ≤ k ∧ k ≤ 71 ∧ SepL All W wr []) (fun i _ => 71 - (intOf i).toNat)
    case atStart => exact ⟨m, rfl, by omega, by omega, hS⟩
    case round =>
      clear hS
      obtain ⟨k, rfl, hmk, hk, hS⟩ := hrel
      by_cases hle : k ≤ 64
      · have HLE : Hid (decide ((k : Int) ≤ (64 : Int)) = true) := by
          unfold Hid
          rw [decide_eq_true_iff]
          omega
        obtain ⟨j, hj⟩ : ∃ j, k - m = j := ⟨_, rfl⟩
        have hmj : m + j ≤ 64 := by omega
        have HMO : ∀ {T T1 : Nat} {v k : Value} {w : World} {F : List Hp}, SepL All W w (.own T 1 v [[vb]] :: .own T1 1 k (bytes (key ++ List.replicate j 0)) :: F) → Calls Tryd.prog 35 #[k, v] w (Ret fun r w' => r = HV H ∧ SepL All W w' F) := fun h => hMO j hmj h
        have hkj : (k : Int) - (m : Int) = (j : Int) := by omega
        have HBN := hide (bytes_noughts key j)
        have MK : True := trivial
        go_wp2_with (first
          | (show wpList _ _ _ (⟨some 36, .binOp _ _ _ _ _, _, _, _, _⟩ :: _) _ _; refine wpList_val rfl (op_ileq rfl rfl rfl HLE.out) ?_; go_frame)
          | (show wpList _ _ _ (⟨some 39, .buildSlice _ _ _, _, _, _, _⟩ :: _) _ _; refine wpS_build0 slBytes hS rfl rfl ?_; clear hS; intro v39 w hS; go_frame)
          | (show wpList _ _ _ (⟨some 41, .call _, _, _, _, _⟩ :: _) _ _; (refine wpS_append slBytes (hS.bring (by repeat (first | exact t0 | apply tS))) rfl rfl rfl rfl (hS.rd ha) HFA.out (by rw [bytes_len, HNA.out, List.length_nil]; omega) (by rw [bytes_len, HNA.out, List.length_nil]; simp only [maxLen]; omega) ?_); clear hS; intro v41 w hS; rw [List.nil_append] at hS; go_frame)
          | (show wpList _ _ _ (⟨some 44, .call _, _, _, _, _⟩ :: _) _ _; refine wpList_val rfl (op_lenB slBytes rfl rfl rfl (hS.rd ha) HNA.out) ?_; go_frame)
          | (show wpList _ _ _ (⟨some 45, .binOp _ _ _ _ _, _, _, _, _⟩ :: _) _ _; refine wpList_val rfl (op_isubN rfl rfl rfl j hkj (by omega)) ?_; go_frame)
          | (show wpList _ _ _ (⟨some 46, .call _, _, _, _, _⟩ :: _) _ _; (refine wpS_appendZ (k := j) slBytes undInt zeroU8 (hS.bring (by repeat (first | exact t0 | apply tS))) rfl rfl rfl rfl (by rw [bytes_len, HNA.out]; omega) (by rw [bytes_len, HNA.out]; simp only [maxLen]; omega) ?_); clear hS; intro v46 w hS; rw [HBN.out] at hS; go_frame)
          | (show wpList _ _ _ (⟨some 49, .buildSlice _ _ _, _, _, _, _⟩ :: _) _ _; refine wpS_build11 slPieces hS rfl rfl rfl hcb ?_; clear hS; intro v49 w hS; go_frame)
          | (show wpList _ _ _ (⟨some 53, .buildSlice _ _ _, _, _, _, _⟩ :: _) _ _; refine wpS_build11 slPieces hS rfl rfl rfl hcb ?_; clear hS; intro v53 w hS; go_frame)
          | (replace MK := MK; go_at_call 35; (refine Ret.calls (HMO (hd2r (hS.bring (by repeat (first | exact t0 | apply tS))) (by repeat (first | exact t0 | apply tS)))) ?_); clear hS; rintro r w ⟨rfl, hS⟩; clear MK)
          | (go_at_call 35; (refine Ret.calls (HM1 (hS.bring (by repeat (first | exact t0 | apply tS)))) ?_); clear hS; rintro r w ⟨rfl, hS⟩)
          | (show wpList _ _ _ (⟨_, .binOp .neq 34 _ _ _, _, _, _, _⟩ :: _) _ _; refine wpList_val rfl (op_neHash rfl rfl rfl HHL.out) ?_; go_frame)
          | (show wpList _ _ _ (⟨some 38, .binOp _ _ _ _ _, _, _, _, _⟩ :: _) _ _; refine wpList_val rfl (op_iaddN rfl rfl rfl (k + 7) (by omega) (by omega)) ?_; go_frame)
          )
        go_roundw
        case rel => exact ⟨k + 7, by go_num, by omega, by omega, hS.sel (by repeat (first | exact Sel.refl | refine Sel.take (by repeat (first | exact t0 | apply tS)) ?_ | apply Sel.drop))⟩
        case measure => simp [intOf]; omega
      · have HLE : Hid (decide ((k : Int) ≤ (64 : Int)) = false) := by
          unfold Hid
          rw [decide_eq_false_iff_not]
          omega
        go_wp2_with (first
          | (show wpList _ _ _ (⟨some 36, .binOp _ _ _ _ _, _, _, _, _⟩ :: _) _ _; refine wpList_val rfl (op_ileq rfl rfl rfl HLE.out) ?_; go_frame)
          )
        go_ret
        exact ⟨rfl, hS.chg⟩
end Go.Proofs.YtpdanieiafjmhaaDoor
