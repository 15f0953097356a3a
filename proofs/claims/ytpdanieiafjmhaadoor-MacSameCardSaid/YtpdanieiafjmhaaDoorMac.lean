/- The program's sum under a key. Conditions: those that stand ahead of each theorem. -/
import Derived.Test.YtpdanieiafjmhaaDoorPad
namespace Go.Proofs.YtpdanieiafjmhaaDoor
open Go.RowKit Go.Px Go.Sha
def padK (key : List Byte) : List Byte := if key.length ≤ 64 then key ++ List.replicate (64 - key.length) 0 else sum key ++ List.replicate 32 0
theorem padK_len (key : List Byte) : (padK key).length = 64 := by
  unfold padK
  split
  · simp
    omega
  · rw [List.length_append, sum_len]
    rfl
theorem padK_short {key : List Byte} (h : key.length ≤ 64) : padK key = key ++ List.replicate (64 - key.length) 0 := if_pos h
theorem padK_long {key : List Byte} (h : ¬ key.length ≤ 64) : padK key = sum key ++ List.replicate 32 0 := if_neg h
def xorB (b : Byte) (l : List Byte) : List Byte := l.map (· ^^^ b)
theorem xorB_len (b : Byte) (l : List Byte) : (xorB b l).length = l.length := by simp [xorB]
def hmac (key m : List Byte) : List Byte := sum (xorB 0x5c#8 (padK key) ++ sum (xorB 0x36#8 (padK key) ++ m))
theorem hmac_len (key m : List Byte) : (hmac key m).length = 32 := sum_len _
theorem hmac_eq (key m : List Byte) : sum (xorB 0x5c#8 (padK key) ++ sum (xorB 0x36#8 (padK key) ++ m)) = hmac key m := rfl
/-- the first so many bytes are turned -/
def xorTo (b : Byte) (l : List Byte) (i : Nat) : List Byte := xorB b (l.take i) ++ l.drop i
theorem xorTo_zero (b : Byte) (l : List Byte) : xorTo b l 0 = l := rfl
theorem xorTo_all {b : Byte} {l : List Byte} {n : Nat} (h : l.length = n) : xorTo b l n = xorB b l := by
  unfold xorTo
  rw [List.take_of_length_le (by omega), List.drop_eq_nil_of_le (by omega), List.append_nil]
theorem xorTo_len (b : Byte) (l : List Byte) (i : Nat) : (xorTo b l i).length = l.length := by
  simp [xorTo, xorB]
  omega
theorem xorTo_get {b : Byte} {l : List Byte} {i : Nat} (hi : i < l.length) : (xorTo b l i)[i]? = l[i]? := by
  unfold xorTo
  rw [List.getElem?_append_right (by rw [xorB_len, List.length_take]; omega), List.getElem?_drop, xorB_len, List.length_take]
  congr 1
  omega
theorem xorTo_set {b : Byte} {l : List Byte} {i : Nat} (hi : i < l.length) : (xorTo b l i).set i (l[i] ^^^ b) = xorTo b l (i + 1) := by
  unfold xorTo
  have hl : (xorB b (l.take i)).length = i := by rw [xorB_len, List.length_take]; omega
  rw [List.set_append_right _ _ (by omega), hl, Nat.sub_self, List.drop_eq_getElem_cons hi, List.set_cons_zero, List.take_succ_eq_append_getElem hi]
  unfold xorB
  rw [List.map_append, List.append_assoc]
  rfl
attribute [irreducible] padK xorB hmac xorTo
theorem op_load8 {P : Program} {R : Nat → Prop} {base w : World} {L : List Hp} {o : Oper} {ρ : Operand → Value} {t : TypeId} (A : One P t) {us : List Byte} {b : Nat} {T : TypeId} (hS : SepL R base w (.blk b T (us.map B8) :: L)) {x : Operand} (ho : o.op = .load t x) {off : Nat} (hx : ρ x = .pointer (some ⟨b, off, none⟩)) {u : Byte} (hu : us[off]? = some u) :
    (execOp ρ o).run P w = .ok (.value (B8 u)) w := op_load1S A hS ho hx (by rw [List.getElem?_map, hu]; rfl)
theorem blk_rd {w : World} {b T m : Nat} {bs : List Byte} (h : Blk w b T (bs.map B8)) (hm : bs.length = m) (hl : m ≤ 1000) : Rd 1 w (.slice (some ⟨b, 0, none⟩) m m) ((bs.map B8).map fun u => [u]) := by
  subst hm
  have hc : CIn All w b (bs.map B8) := ⟨h.cells, trivial⟩
  have := (CIn.asRd hc (by rw [List.length_map]; simp [maxLen]; omega)).rd
  rwa [List.length_map] at this
theorem copyPad {key : List Byte} {k n m : Nat} (hk : key.length = n) (hm : n ≤ m) (hkk : k = min (key.map B8).length m) : ((List.replicate m (0 : Byte)).map B8).take 0 ++ (key.map B8).take k ++ ((List.replicate m (0 : Byte)).map B8).drop (0 + k) = (key ++ List.replicate (m - n) 0).map B8 := by
  rw [List.length_map] at hkk
  have : k = n := by omega
  subst this
  rw [List.take_zero, List.nil_append, List.take_of_length_le (by rw [List.length_map]; omega), List.map_append, ← List.map_drop, List.drop_replicate, Nat.zero_add]
section
variable {R : Nat → Prop} {base w : World} {F : List Hp}
set_option maxRecDepth 100000 in
set_option maxHeartbeats 4000000 in
theorem pad_s (hS : SepL R base w F) (hK : CIn R base 0 (kTab.map W32)) (hF : CIn R base 1 (first.map W32)) {v : Value} {key : List Byte} (hv : RdIn R base 1 v (bytes key)) (hn0 : key.length ≤ 1099511627776) :
    Calls Tryd.prog 48 #[v] w (Ret fun r w' => r = .agg ((padK key).map B8).toArray ∧ SepL R base w' F) := by
  obtain ⟨n, hn⟩ : ∃ n, key.length = n := ⟨_, rfl⟩
  have HN := hide hn
  have hc := RdIn.cell1 hv
  have HPL : Hid (((padK key).map B8).length = 64) := by
    unfold Hid
    rw [List.length_map, padK_len]
  by_cases hs : n ≤ 64
  · have HD : Hid (decide ((n : Int) ≤ 64) = true) := by
      unfold Hid
      rw [decide_eq_true_iff]
      omega
    have HP : Hid (key ++ List.replicate (64 - n) 0 = padK key) := by
      unfold Hid
      rw [padK_short (by omega), hn]
    go_enter Tryd.func48, Tryd.ntmps48
    go_wp2_with (first
      | (show wpList _ _ _ (⟨some 2, .alloc _, _, _, _, _⟩ :: _) _ _; refine wpS_alloc hS rfl rfl zero64b (zs := (List.replicate 64 (0 : Byte)).map B8) rfl ?_; clear hS; intro n2 w hS; go_frame)
      | (show wpList _ _ _ (⟨some 3, .alloc _, _, _, _, _⟩ :: _) _ _; refine wpS_alloc hS rfl rfl zero64b (zs := (List.replicate 64 (0 : Byte)).map B8) rfl ?_; clear hS; intro n3 w hS; go_frame)
      | (show wpList _ _ _ (⟨some 6, .call _, _, _, _, _⟩ :: _) _ _; refine wpList_val rfl (op_lenB slBytes rfl rfl rfl (hS.rd hv) HN.out) ?_; go_frame)
      | (show wpList _ _ _ (⟨some 7, .binOp _ _ _ _ _, _, _, _, _⟩ :: _) _ _; refine wpList_val rfl (op_ileq rfl rfl rfl HD.out) ?_; go_frame)
      | (show wpList _ _ _ (⟨some 8, .slice _ _ _ _ _, _, _, _, _⟩ :: _) _ _; refine wpList_val rfl (op_sliceArr arr64b rfl rfl (l := 0) (h := 64) (Or.inl ⟨rfl, rfl⟩) (Or.inl ⟨rfl, rfl⟩) (by omega) (by omega)) ?_; rw [if_neg (by omega)]; go_frame)
      | (show wpList _ _ _ (⟨some 10, .call _, _, _, _, _⟩ :: _) _ _; (refine wpS_copyArr undBytes sizeU8 (hS.bring (by repeat (first | exact t0 | apply tS))) rfl rfl rfl rfl (xs := key.map B8) (hS.rd hv) (oneB _) (by rw [List.length_map, List.length_replicate]; omega) ?_); clear hS; intro w k' hk' hS; rw [copyPad HN.out hs hk', HP.out] at hS; clear hk'; go_frame)
      | (show wpList _ _ _ (⟨_, .load _ _, _, _, _, _⟩ :: _) _ _; refine wpList_val rfl (op_load agg64b rfl rfl ((hS.bring (by repeat (first | exact t0 | apply tS))).getBlk.cells) HPL.out) ?_; go_frame)
      | (show wpList _ _ _ (⟨_, .store _ _ _, _, _, _, _⟩ :: _) _ _; (refine wpS_storeAll agg64b (hS.bring (by repeat (first | exact t0 | apply tS))) rfl rfl rfl (vs := (padK key).map B8) rfl HPL.out (oneB _) (by rw [List.length_map, List.length_replicate]) ?_); clear hS; intro w hS; go_frame)
      )
    exact ret_cell (b := n2) agg64b rfl rfl rfl ((hS.bring (by repeat (first | exact t0 | apply tS))).getBlk) HPL.out ⟨rfl, (hS.sel (by repeat (first | exact Sel.refl | refine Sel.take (by repeat (first | exact t0 | apply tS)) ?_ | apply Sel.drop)) : SepL R base _ F)⟩
  · have HD : Hid (decide ((n : Int) ≤ 64) = false) := by
      unfold Hid
      rw [decide_eq_false_iff_not]
      omega
    have HB : Hid (key.length < 4611686018427386000) := by
      unfold Hid
      omega
    have HP : Hid (sum key ++ List.replicate (64 - 32) 0 = padK key) := by
      unfold Hid
      rw [padK_long (by omega)]
    have HSL := hide (sum_len key)
    have HSL2 : Hid (((sum key).map B8).length = 32) := by
      unfold Hid
      rw [List.length_map, sum_len]
    clear hn
    go_enter Tryd.func48, Tryd.ntmps48
    go_wp2_with (first
      | (show wpList _ _ _ (⟨some 2, .alloc _, _, _, _, _⟩ :: _) _ _; refine wpS_alloc hS rfl rfl zero64b (zs := (List.replicate 64 (0 : Byte)).map B8) rfl ?_; clear hS; intro n2 w hS; go_frame)
      | (show wpList _ _ _ (⟨some 3, .alloc _, _, _, _, _⟩ :: _) _ _; refine wpS_alloc hS rfl rfl zero64b (zs := (List.replicate 64 (0 : Byte)).map B8) rfl ?_; clear hS; intro n3 w hS; go_frame)
      | (show wpList _ _ _ (⟨some 4, .alloc _, _, _, _, _⟩ :: _) _ _; refine wpS_alloc hS rfl rfl zero32b (zs := (List.replicate 32 (0 : Byte)).map B8) rfl ?_; clear hS; intro n4 w hS; go_frame)
      | (show wpList _ _ _ (⟨some 6, .call _, _, _, _, _⟩ :: _) _ _; refine wpList_val rfl (op_lenB slBytes rfl rfl rfl (hS.rd hv) HN.out) ?_; go_frame)
      | (show wpList _ _ _ (⟨some 7, .binOp _ _ _ _ _, _, _, _, _⟩ :: _) _ _; refine wpList_val rfl (op_ileq rfl rfl rfl HD.out) ?_; go_frame)
      | (show wpList _ _ _ (⟨some 13, .buildSlice _ _ _, _, _, _, _⟩ :: _) _ _; refine wpS_build11 slPieces hS rfl rfl rfl hc ?_; clear hS; intro v2 w hS; go_frame)
      | (go_at_call 23; refine Ret.calls (sum_arg1 hS hK hF hv HB.out) ?_; clear hS; rintro r w ⟨rfl, hS⟩)
      | (show wpList _ _ _ (⟨_, .store 34 _ _, _, _, _, _⟩ :: _) _ _; (refine wpS_storeAll agg32b (hS.bring (by repeat (first | exact t0 | apply tS))) rfl rfl rfl (vs := (sum key).map B8) rfl HSL2.out (B8_one _) (by rw [List.length_map, List.length_replicate]) ?_); clear hS; intro w hS; go_frame)
      )
    refine wp_region_text (by kernel_rfl) (by kernel_rfl) (by repeat (first | exact Clean.body | refine Clean.then ?_ | refine Clean.inBlock ?_)) ?_
    replace hS := hS.drew
    go_wp2_with (first
      | (show wpList _ _ _ (⟨some 15, .slice _ _ _ _ _, _, _, _, _⟩ :: _) _ _; refine wpList_val rfl (op_sliceArr arr64b rfl rfl (l := 0) (h := 64) (Or.inl ⟨rfl, rfl⟩) (Or.inl ⟨rfl, rfl⟩) (by omega) (by omega)) ?_; rw [if_neg (by omega)]; go_frame)
      | (show wpList _ _ _ (⟨some 16, .slice _ _ _ _ _, _, _, _, _⟩ :: _) _ _; refine wpList_val rfl (op_sliceArr arr32b rfl rfl (l := 0) (h := 32) (Or.inl ⟨rfl, rfl⟩) (Or.inl ⟨rfl, rfl⟩) (by omega) (by omega)) ?_; rw [if_neg (by omega)]; go_frame)
      | (show wpList _ _ _ (⟨some 17, .call _, _, _, _, _⟩ :: _) _ _; (refine wpS_copyArr (C := (List.replicate 64 (0 : Byte)).map B8) (b := n3) undBytes sizeU8 (hS.bring (by repeat (first | exact t0 | apply tS))) rfl rfl rfl rfl (xs := (sum key).map B8) (blk_rd ((hS.bring (by repeat (first | exact t0 | apply tS))).getBlk) HSL.out (by omega)) (oneB _) (by rw [List.length_map, List.length_replicate]; omega) ?_); clear hS; intro w k' hk' hS; rw [copyPad HSL.out (by omega) hk', HP.out] at hS; clear hk'; go_frame)
      )
    refine fin_mk (by kernel_rfl) ?_
    go_wp2_with (first
      | (show wpList _ _ _ (⟨_, .load _ _, _, _, _, _⟩ :: _) _ _; refine wpList_val rfl (op_load agg64b rfl rfl ((hS.bring (by repeat (first | exact t0 | apply tS))).getBlk.cells) HPL.out) ?_; go_frame)
      | (show wpList _ _ _ (⟨_, .store _ _ _, _, _, _, _⟩ :: _) _ _; (refine wpS_storeAll agg64b (hS.bring (by repeat (first | exact t0 | apply tS))) rfl rfl rfl (vs := (padK key).map B8) rfl HPL.out (oneB _) (by rw [List.length_map, List.length_replicate]) ?_); clear hS; intro w hS; go_frame)
      )
    exact ret_cell (b := n2) agg64b rfl rfl rfl ((hS.bring (by repeat (first | exact t0 | apply tS))).getBlk) HPL.out ⟨rfl, (hS.sel (by repeat (first | exact Sel.refl | refine Sel.take (by repeat (first | exact t0 | apply tS)) ?_ | apply Sel.drop)) : SepL R base _ F)⟩
/-- an array of one's own written to a hasher -/
theorem write_arr {p T T' b m : Nat} {h : Hs} {v : Value} {bs : List Byte} (hS : SepL R base w (.own T 1 v [[.slice (some ⟨b, 0, none⟩) m m]] :: .blk b T' (bs.map B8) :: .blk p 70 (cellsH h) :: F)) (hK : CIn R base 0 (kTab.map W32)) (hop : h.op.length = 64) (hm : bs.length = m) (hm2 : m ≤ 1000) (hn : h.n + bs.length < 4611686018427387904) :
    Calls Tryd.prog 21 #[.pointer (some ⟨p, 0, none⟩), v] w (Ret fun r w' => r = .int .i64 0 ∧ SepL R base w' (.blk p 70 (cellsH (absorb h bs)) :: .blk b T' (bs.map B8) :: F)) := by
  obtain ⟨R1, h1, h2, h3, h4⟩ := hS.freezeOwn
  obtain ⟨R2, g1, g2, g2', g3, g4⟩ := h1.freezeBlk
  have hcc : CIn R2 w b (bs.map B8) := ⟨g2.cells, g2'⟩
  have hr := CIn.asRd hcc (by rw [List.length_map]; simp [maxLen]; omega)
  rw [List.length_map, hm] at hr
  have h5 := write_s g1 (kTab_mv (kTab_mv hK h3) g3) hop (Pieces.one (g3 _ _ _ h2) hr) (by rw [one_flat]; exact hn)
  rw [one_flat] at h5
  refine Ret.calls h5 ?_
  rintro r w' ⟨h6, h7⟩
  exact ⟨h6, ((h4 w' _ (g4 w' _ h7)).tail).perm (.swap _ _ _)⟩
/-- the sum of two arrays of one's own -/
theorem sum_arr2 {T T1 T2 b1 b2 m1 m2 : Nat} {v : Value} {xs ys : List Byte} (hS : SepL R base w (.own T 1 v [[.slice (some ⟨b1, 0, none⟩) m1 m1], [.slice (some ⟨b2, 0, none⟩) m2 m2]] :: .blk b1 T1 (xs.map B8) :: .blk b2 T2 (ys.map B8) :: F)) (hK : CIn R base 0 (kTab.map W32)) (hF : CIn R base 1 (first.map W32)) (hm1 : xs.length = m1) (hm2 : ys.length = m2) (hl1 : m1 ≤ 1000) (hl2 : m2 ≤ 1000) :
    Calls Tryd.prog 23 #[v] w (Ret fun r w' => r = HV (sum (xs ++ ys)) ∧ SepL R base w' F) := by
  obtain ⟨R1, h1, h2, h3, h4⟩ := hS.freezeOwn
  obtain ⟨R2, g1, g2, g2', g3, g4⟩ := h1.freezeBlk
  obtain ⟨R3, k1, k2, k2', k3, k4⟩ := g1.freezeBlk
  have hc1 : CIn R2 w b1 (xs.map B8) := ⟨g2.cells, g2'⟩
  have hr1 := CIn.asRd hc1 (by rw [List.length_map]; simp [maxLen]; omega)
  rw [List.length_map, hm1] at hr1
  have hc2 : CIn R3 w b2 (ys.map B8) := ⟨k2.cells, k2'⟩
  have hr2 := CIn.asRd hc2 (by rw [List.length_map]; simp [maxLen]; omega)
  rw [List.length_map, hm2] at hr2
  have e : [xs, ys].flatten = xs ++ ys := by simp
  have h5 := sum_s k1 (kTab_mv (kTab_mv (kTab_mv hK h3) g3) k3) (first_mv (first_mv (first_mv hF h3) g3) k3) (us := [_, _]) (ps := [xs, ys]) ⟨k3 _ _ _ (g3 _ _ _ h2), rfl, at_two (k3 _ _ _ hr1) hr2⟩ (by rw [e, List.length_append]; omega)
  rw [e] at h5
  refine Ret.calls h5 ?_
  rintro r w' ⟨h6, h7⟩
  exact ⟨h6, (h4 w' _ (g4 w' _ (k4 w' _ h7))).tail.tail.tail⟩
set_option maxRecDepth 100000 in
set_option maxHeartbeats 4000000 in
theorem msum_s (hS : SepL R base w F) (hK : CIn R base 0 (kTab.map W32)) (hF : CIn R base 1 (first.map W32)) {v u : Value} {key : List Byte} (hv : RdIn R base 1 v (bytes key)) (hkn : key.length ≤ 1099511627776) {us : List Value} {ps : List (List Byte)} (hp : Pieces R base u us ps) (hpn : ps.flatten.length ≤ 1099511627776) :
    Calls Tryd.prog 35 #[v, u] w (Ret fun r w' => r = HV (hmac key ps.flatten) ∧ SepL R base w' F) := by
  have HPS : ∀ {w : World} {F : List Hp}, SepL R base w F → Calls Tryd.prog 48 #[v] w (Ret fun r w' => r = .agg ((padK key).map B8).toArray ∧ SepL R base w' F) := fun h => pad_s h hK hF hv hkn
  have hH := hmac_eq key ps.flatten
  have hP := padK_len key
  obtain ⟨K, hKK⟩ : ∃ K, padK key = K := ⟨_, rfl⟩
  rw [hKK] at HPS hP hH
  have HP := hide hP
  have HPL : Hid ((K.map B8).length = 64) := by
    unfold Hid
    rw [List.length_map, hP]
  have hXI : (xorB 0x36#8 K).length = 64 := by rw [xorB_len, hP]
  have hXO : (xorB 0x5c#8 K).length = 64 := by rw [xorB_len, hP]
  have HXA := hide (xorTo_all (b := 0x36#8) hP)
  have HXB := hide (xorTo_all (b := 0x5c#8) hP)
  have HXL1 : ∀ i, (xorTo 0x36#8 K i).length = 64 := fun i => by rw [xorTo_len, hP]
  have HXL2 : ∀ i, (xorTo 0x5c#8 K i).length = 64 := fun i => by rw [xorTo_len, hP]
  obtain ⟨fl, hfl⟩ : ∃ f, ps.flatten = f := ⟨_, rfl⟩
  have HWR : ∀ {p : Nat} {h : Hs} {w : World} {F : List Hp}, SepL R base w (.blk p 70 (cellsH h) :: F) → h.op.length = 64 → h.n ≤ 100 → Calls Tryd.prog 21 #[.pointer (some ⟨p, 0, none⟩), u] w (Ret fun r w' => r = .int .i64 0 ∧ SepL R base w' (.blk p 70 (cellsH (absorb h fl)) :: F)) := fun hs h1 h2 => by
    rw [← hfl]
    exact write_s hs hK h1 hp (by omega)
  rw [hfl] at hH hpn ⊢
  clear hp hfl hv hKK
  go_enter Tryd.func35, Tryd.ntmps35
  go_wp2_with (first
    | (show wpList _ _ _ (⟨some 4, .alloc _, _, _, _, _⟩ :: _) _ _; refine wpS_alloc hS rfl rfl zero32b (zs := (List.replicate 32 (0 : Byte)).map B8) rfl ?_; clear hS; intro n4 w hS; go_frame)
    | (show wpList _ _ _ (⟨some 5, .alloc _, _, _, _, _⟩ :: _) _ _; refine wpS_alloc hS rfl rfl zero64b (zs := (List.replicate 64 (0 : Byte)).map B8) rfl ?_; clear hS; intro n5 w hS; go_frame)
    | (show wpList _ _ _ (⟨some 6, .alloc _, _, _, _, _⟩ :: _) _ _; refine wpS_alloc hS rfl rfl zero64b (zs := (List.replicate 64 (0 : Byte)).map B8) rfl ?_; clear hS; intro n6 w hS; go_frame)
    | (go_at_call 48; refine Ret.calls (HPS hS) ?_; clear hS; rintro r w ⟨rfl, hS⟩)
    | (show wpList _ _ _ (⟨_, .store _ _ _, _, _, _, _⟩ :: _) _ _; (refine wpS_storeAll agg64b (hS.bring (by repeat (first | exact t0 | apply tS))) rfl rfl rfl (vs := K.map B8) rfl HPL.out (oneB _) (by rw [List.length_map, List.length_replicate]) ?_); clear hS; intro w hS; go_frame)
    )
  have HS0 : SepL R base w (.blk n5 24 ((xorTo 0x36#8 K 0).map B8) :: .blk n6 24 ((xorTo 0x5c#8 K 0).map B8) :: .blk n4 34 ((List.replicate 32 (0 : Byte)).map B8) :: F) := by
    rw [xorTo_zero, xorTo_zero]
    exact hS.sel (by repeat (first | exact Sel.refl | refine Sel.take (by repeat (first | exact t0 | apply tS)) ?_ | apply Sel.drop))
  clear hS
  go_loopw [15] (fun i wr => ∃ k : Nat, i = .int .i64 k ∧ k ≤ 64 ∧ SepL R base wr (.blk n5 24 ((xorTo 0x36#8 K k).map B8) :: .blk n6 24 ((xorTo 0x5c#8 K k).map B8) :: .blk n4 34 ((List.replicate 32 (0 : Byte)).map B8) :: F)) (fun i _ => 64 - (intOf i).toNat)
  case atStart => exact ⟨0, rfl, by omega, HS0⟩
  case round =>
    clear HS0
    obtain ⟨k, rfl, hk, hS⟩ := hrel
    by_cases hlt : k < 64
    · have hkK : k < K.length := by omega
      obtain ⟨c, hc⟩ : ∃ c, K[k] = c := ⟨_, rfl⟩
      have HG1 : Hid ((xorTo 0x36#8 K k)[k]? = some c) := by
        unfold Hid
        rw [xorTo_get hkK, List.getElem?_eq_getElem hkK, hc]
      have HG2 : Hid ((xorTo 0x5c#8 K k)[k]? = some c) := by
        unfold Hid
        rw [xorTo_get hkK, List.getElem?_eq_getElem hkK, hc]
      have HT1 := hide (xorTo_set (b := 0x36#8) hkK)
      have HT2 := hide (xorTo_set (b := 0x5c#8) hkK)
      rw [hc] at HT1 HT2
      clear hc
      go_wp2_with (first
        | (show wpList _ _ _ (⟨_, .indexAddr _ _ _, _, _, _, _⟩ :: _) _ _; refine wpList_val rfl (op_indexArr arr64b rfl rfl (k := k) rfl (by omega)) ?_; rw [Nat.zero_add]; go_frame)
        | (show wpList _ _ _ (⟨some 20, .load _ _, _, _, _, _⟩ :: _) _ _; refine wpList_val rfl (op_load8 oneU8 ((hS.bring (by repeat (first | exact t0 | apply tS)))) rfl rfl HG1.out) ?_; go_frame)
        | (show wpList _ _ _ (⟨some 25, .load _ _, _, _, _, _⟩ :: _) _ _; refine wpList_val rfl (op_load8 oneU8 ((hS.bring (by repeat (first | exact t0 | apply tS)))) rfl rfl HG2.out) ?_; go_frame)
        | (show wpList _ _ _ (⟨some 21, .binOp _ _ _ _ _, _, _, _, _⟩ :: _) _ _; refine wpList_val rfl (op_bin8 (op := .xor) (b := 0x36#8) rfl rfl rfl rfl) ?_; go_frame)
        | (show wpList _ _ _ (⟨some 26, .binOp _ _ _ _ _, _, _, _, _⟩ :: _) _ _; refine wpList_val rfl (op_bin8 (op := .xor) (b := 0x5c#8) rfl rfl rfl rfl) ?_; go_frame)
        | (show wpList _ _ _ (⟨_, .store _ (.tmp 22) _, _, _, _, _⟩ :: _) _ _; (refine wpS_storeF (f := B8) (us := xorTo 0x36#8 K k) sizeU8 (hS.bring (by repeat (first | exact t0 | apply tS))) rfl rfl rfl (v := c ^^^ 0x36#8) rfl rfl rfl (by rw [HXL1]; omega) ?_); clear hS; intro w hS; rw [HT1.out] at hS; go_frame)
        | (show wpList _ _ _ (⟨_, .store _ (.tmp 27) _, _, _, _, _⟩ :: _) _ _; (refine wpS_storeF (f := B8) (us := xorTo 0x5c#8 K k) sizeU8 (hS.bring (by repeat (first | exact t0 | apply tS))) rfl rfl rfl (v := c ^^^ 0x5c#8) rfl rfl rfl (by rw [HXL2]; omega) ?_); clear hS; intro w hS; rw [HT2.out] at hS; go_frame)
        )
      go_roundw
      case rel => exact ⟨k + 1, by go_num, by omega, hS.sel (by repeat (first | exact Sel.refl | refine Sel.take (by repeat (first | exact t0 | apply tS)) ?_ | apply Sel.drop))⟩
      case measure => simp [intOf]; omega
    · have hk2 : k = 64 := by omega
      subst hk2
      rw [HXA.out, HXB.out] at hS
      clear HXA HXB HXL1 HXL2 HP HPL HPS
      generalize xorB 0x36#8 K = XI at *
      generalize xorB 0x5c#8 K = XO at *
      have h1n : (absorb new XI).n = 64 := by rw [absorb_n, new_n, hXI]
      have h1o : (absorb new XI).op.length = 64 := by rw [absorb_op, new_op]
      have h2e := sum_eq (XI ++ fl)
      rw [absorb_append] at h2e
      obtain ⟨g1, hg1⟩ : ∃ g, absorb new XI = g := ⟨_, rfl⟩
      rw [hg1] at h1n h1o h2e
      have HE1 := hide hg1
      have h2n : (absorb g1 fl).n < 4611686018427387000 := by rw [absorb_n, h1n]; omega
      have h2o : (absorb g1 fl).op.length = 64 := by rw [absorb_op, h1o]
      have hw : new.n + XI.length < 4611686018427387904 := by rw [new_n, hXI]; omega
      obtain ⟨g2, hg2⟩ : ∃ g, absorb g1 fl = g := ⟨_, rfl⟩
      rw [hg2] at h2n h2o h2e
      have HE2 := hide hg2
      have HSE := hide h2e
      have hsl := sum_len (XI ++ fl)
      obtain ⟨si, hsi⟩ : ∃ s, sum (XI ++ fl) = s := ⟨_, rfl⟩
      rw [hsi] at hsl HSE hH
      have HHM := hide hH
      have HSI := hide hsl
      have HSI2 : Hid ((si.map B8).length = 32) := by
        unfold Hid
        rw [List.length_map, hsl]
      have HO0 := hide new_op
      have HXIL := hide hXI
      have HXOL := hide hXO
      have HWB := hide hw
      have HHL : Hid (((hmac key fl).map B8).length = 32) := by
        unfold Hid
        rw [List.length_map, hmac_len]
      clear hg1 hg2 h2e hsl hsi hH hXI hXO hw
      go_wp2_with (first
        | (show wpList _ _ _ (⟨some 9, .alloc _, _, _, _, _⟩ :: _) _ _; refine wpS_alloc hS rfl rfl zero32b (zs := (List.replicate 32 (0 : Byte)).map B8) rfl ?_; clear hS; intro n9 w hS; go_frame)
        | (go_at_call 20; refine Ret.calls (new_s hS hF) ?_; clear hS; rintro r w ⟨p, rfl, hS⟩)
        | (show wpList _ _ _ (⟨some 31, .slice _ _ _ _ _, _, _, _, _⟩ :: _) _ _; refine wpList_val rfl (op_sliceArr arr64b rfl rfl (l := 0) (h := 64) (Or.inl ⟨rfl, rfl⟩) (Or.inl ⟨rfl, rfl⟩) (by omega) (by omega)) ?_; rw [if_neg (by omega)]; go_frame)
        | (show wpList _ _ _ (⟨some 32, .buildSlice _ _ _, _, _, _, _⟩ :: _) _ _; refine wpS_build11 slPieces hS rfl rfl rfl rfl ?_; clear hS; intro v32 w hS; go_frame)
        | (replace HWB := HWB; go_at_call 21; refine Ret.calls (write_arr (F := [.blk n6 24 (XO.map B8), .blk n4 34 ((List.replicate 32 (0 : Byte)).map B8)] ++ F) (hS.sel (by repeat (first | exact Sel.refl | refine Sel.take (by repeat (first | exact t0 | apply tS)) ?_ | apply Sel.drop))) hK HO0.out HXIL.out (by omega) HWB.out) ?_; clear hS; rintro r w ⟨rfl, hS⟩; rw [HE1.out] at hS; clear HWB)
        | (go_at_call 21; refine Ret.calls (HWR hS h1o (by omega)) ?_; clear hS; rintro r w ⟨rfl, hS⟩; rw [HE2.out] at hS)
        | (go_at_call 22; refine Ret.calls (sum_m (h := g2) hS hK h2o h2n) ?_; clear hS; rintro r w ⟨rfl, hS⟩; rw [HSE.out])
        | (show wpList _ _ _ (⟨_, .store 34 _ (.tmp 40), _, _, _, _⟩ :: _) _ _; (refine wpS_storeAll agg32b (hS.bring (by repeat (first | exact t0 | apply tS))) rfl rfl rfl (vs := si.map B8) rfl HSI2.out (B8_one _) (by rw [List.length_map, List.length_replicate]) ?_); clear hS; intro w hS; go_frame)
        )
      refine wp_region_text (by kernel_rfl) (by kernel_rfl) (by repeat (first | exact Clean.body | refine Clean.then ?_ | refine Clean.inBlock ?_)) ?_
      replace hS := hS.drew
      go_wp2_with (first
        | (show wpList _ _ _ (⟨some 42, .slice _ _ _ _ _, _, _, _, _⟩ :: _) _ _; refine wpList_val rfl (op_sliceArr arr64b rfl rfl (l := 0) (h := 64) (Or.inl ⟨rfl, rfl⟩) (Or.inl ⟨rfl, rfl⟩) (by omega) (by omega)) ?_; rw [if_neg (by omega)]; go_frame)
        | (show wpList _ _ _ (⟨some 43, .slice _ _ _ _ _, _, _, _, _⟩ :: _) _ _; refine wpList_val rfl (op_sliceArr arr32b rfl rfl (l := 0) (h := 32) (Or.inl ⟨rfl, rfl⟩) (Or.inl ⟨rfl, rfl⟩) (by omega) (by omega)) ?_; rw [if_neg (by omega)]; go_frame)
        | (show wpList _ _ _ (⟨some 44, .buildSlice _ _ _, _, _, _, _⟩ :: _) _ _; refine wpS_buildL slPieces hS rfl rfl [.slice (some ⟨n6, 0, none⟩) 64 64, .slice (some ⟨n9, 0, none⟩) 32 32] rfl rfl (by omega) (by omega) (by simp [Value.cells]) ?_; clear hS; intro v44 w hS; go_frame)
        | (go_at_call 23; refine Ret.calls (sum_arr2 (F := .blk n4 34 ((List.replicate 32 (0 : Byte)).map B8) :: F) (hS.sel (by repeat (first | exact Sel.refl | refine Sel.take (by repeat (first | exact t0 | apply tS)) ?_ | apply Sel.drop))) hK hF HXOL.out HSI.out (by omega) (by omega)) ?_; clear hS; rintro r w ⟨rfl, hS⟩; rw [HHM.out])
        | (show wpList _ _ _ (⟨_, .store 34 _ (.tmp 45), _, _, _, _⟩ :: _) _ _; (refine wpS_storeAll agg32b (hS.bring (by repeat (first | exact t0 | apply tS))) rfl rfl rfl (vs := (hmac key fl).map B8) rfl HHL.out (B8_one _) (by rw [List.length_map, List.length_replicate]) ?_); clear hS; intro w hS; go_frame)
        )
      refine fin_mk (by kernel_rfl) ?_
      go_wp2_with fail
      exact ret_cell (b := n4) agg32b rfl rfl rfl ((hS.bring (by repeat (first | exact t0 | apply tS))).getBlk) HHL.out ⟨rfl, (hS.sel (by repeat (first | exact Sel.refl | refine Sel.take (by repeat (first | exact t0 | apply tS)) ?_ | apply Sel.drop)) : SepL R base _ F)⟩
end
end Go.Proofs.YtpdanieiafjmhaaDoor
