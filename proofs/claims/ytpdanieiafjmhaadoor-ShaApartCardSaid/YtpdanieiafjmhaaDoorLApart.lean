/- Two hashers are apart, what is written is neither changed nor kept: the law returns true. Conditions: those that stand ahead of each theorem. -/
import Derived.Test.YtpdanieiafjmhaaDoorCheck
import Derived.Test.YtpdanieiafjmhaaDoorCell
namespace Go.Proofs.YtpdanieiafjmhaaDoor
open Go.RowKit Go.Px Go.Sha
/-- the first so many bytes are one more -/
def inc (l : List Byte) (k : Nat) : List Byte := (l.take k).map (· + 1#8) ++ l.drop k
theorem inc_len (l : List Byte) (k : Nat) : (inc l k).length = l.length := by simp [inc]; omega
theorem inc_zero (l : List Byte) : inc l 0 = l := by simp [inc]
theorem inc_get {l : List Byte} {k : Nat} (hk : k < l.length) (h : k < (inc l k).length) : (inc l k)[k] = l[k] := by
  have e : (inc l k)[k]? = some l[k] := by
    unfold inc
    rw [List.getElem?_append_right (by simp; omega)]
    simp [Nat.min_eq_left (Nat.le_of_lt hk)]
  exact Option.some.inj ((List.getElem?_eq_getElem h).symm.trans e)
theorem inc_set {l : List Byte} {k : Nat} (hk : k < l.length) : (inc l k).set k (l[k] + 1#8) = inc l (k + 1) := by
  unfold inc
  have hl : ((l.take k).map (· + 1#8)).length = k := by simp; omega
  rw [List.set_append_right _ _ (by omega), hl, Nat.sub_self, List.drop_eq_getElem_cons hk, List.set_cons_zero, List.take_succ_eq_append_getElem hk, List.map_append]
  simp
theorem inc_over {l : List Byte} {k : Nat} (hk : l.length ≤ k) : inc l (k + 1) = inc l k := by
  unfold inc
  rw [List.take_of_length_le (by omega), List.take_of_length_le hk, List.drop_eq_nil_of_le (by omega), List.drop_eq_nil_of_le hk]
attribute [irreducible] inc
theorem flat_bytes (l : List Byte) : Flat (bytes l) := by
  intro x hx v hv
  simp only [bytes, List.map_map, List.mem_map] at hx
  obtain ⟨b, _, rfl⟩ := hx
  simp only [Function.comp, List.mem_cons, List.not_mem_nil, or_false] at hv
  subst hv
  rfl
theorem bytes_set (l : List Byte) (k : Nat) (x : Byte) : (bytes l).set k [B8 x] = bytes (l.set k x) := by simp [bytes, List.map_set]
theorem B8_add1 (x : Byte) : B8 (x + 1#8) = B8 (x + 1#8) := rfl
theorem bytes_one {l : List Byte} {k : Nat} (hk : k < l.length) : ((bytes l).drop k).take (k + 1 - k) = bytes [l[k]] := by
  rw [show k + 1 - k = 1 by omega, List.drop_eq_getElem_cons (by rw [bytes_len]; exact hk), List.take_succ_cons, List.take_zero]
  simp [bytes]
theorem op_neqB {P : Program} {o : Oper} {w : World} {ρ : Operand → Value} {t t' : TypeId} {x y : Operand} (ho : o.op = .binOp .neq t x y t') {a b : Byte} (hx : ρ x = B8 a) (hy : ρ y = B8 b) (hab : a = b) : (execOp ρ o).run P w = .ok (.value (.bool false)) w := by
  subst hab
  unfold B8 at hx hy
  unfold execOp
  simp only [ho, hx, hy, Sem.run_bind, run_eqGuard_int, Result.andThen_ok, binOp, ne_eq, not_true_eq_false, if_false, Op.intCmp, Sem.run_pure, bne_self_eq_false]
section
variable {R : Nat → Prop} {base w : World} {F : List Hp}
/-- a byte of a slice of one's own, written to a hasher -/
theorem write_mine {p T T' : Nat} {h : Hs} {v x : Value} {l : List Byte} {k : Nat} (hS : SepL R base w (.own T 1 v [[cutV 1 x k (k + 1)]] :: .own T' 1 x (bytes l) :: .blk p 70 (cellsH h) :: F)) (hK : CIn R base 0 (kTab.map W32)) (hop : h.op.length = 64) (hk : k < l.length) (hn : h.n < 4611686018427387000) {c : Byte} (hc : l[k] = c) :
    Calls Tryd.prog 21 #[.pointer (some ⟨p, 0, none⟩), v] w (Ret fun r w' => r = .int .i64 0 ∧ SepL R base w' (.own T' 1 x (bytes l) :: .blk p 70 (cellsH (absorb h [c])) :: F)) := by
  subst hc
  obtain ⟨R1, h1, h2, h3, h4⟩ := hS.freezeOwn
  obtain ⟨R2, g1, g2, g3, g4⟩ := h1.freezeOwn
  have hcut := RdIn.cutV g2 (l := k) (h := k + 1) (by omega) (by rw [bytes_len]; omega)
  rw [bytes_one hk] at hcut
  have h5 := write_s g1 (kTab_mv (kTab_mv hK h3) g3) hop (Pieces.one (g3 _ _ _ h2) hcut) (by rw [one_flat]; simp only [List.length_cons, List.length_nil]; omega)
  rw [one_flat] at h5
  refine Ret.calls h5 ?_
  rintro r w' ⟨h6, h7⟩
  exact ⟨h6, (h4 w' _ (g4 w' _ h7)).tail⟩
theorem cut_cells {T : Nat} {x : Value} {l : List Byte} (hS : SepL R base w (.own T 1 x (bytes l) :: F)) {k : Nat} (hk : k < l.length) : (cutV 1 x k (k + 1)).cells = #[cutV 1 x k (k + 1)] :=
  Rd.cell1 (Rd.cutV hS.getOwn.rd (l := k) (h := k + 1) (by omega) (by rw [bytes_len]; omega))
end
set_option maxRecDepth 100000 in
set_option maxHeartbeats 4000000 in
theorem shaApart_w {W : World} (hK : CIn All W 0 (kTab.map W32)) (hF : CIn All W 1 (first.map W32)) {va vb : Value} {bs cs : List Byte} (ha : RdIn All W 1 va (bytes bs)) (hb : RdIn All W 1 vb (bytes cs)) :
    Calls Tryd.prog 5 #[va, vb] W (Ret fun r w' => r = .bool true ∧ Chg No W w') := by
  have hS := SepL.start W
  have hca := RdIn.cell1 ha
  have hcb := RdIn.cell1 hb
  obtain ⟨n, hn⟩ : ∃ n, bs.length = n := ⟨_, rfl⟩
  obtain ⟨m, hm⟩ : ∃ n, cs.length = n := ⟨_, rfl⟩
  have HNA := hide hn
  have HNB := hide hm
  obtain ⟨da, hda⟩ : ∃ d, decide ((1000 : Int) < (n : Int)) = d := ⟨_, rfl⟩
  obtain ⟨db, hdb⟩ : ∃ d, decide ((1000 : Int) < (m : Int)) = d := ⟨_, rfl⟩
  have HDA := hide hda
  have HDB := hide hdb
  cases da
  · cases db
    · rw [decide_eq_false_iff_not] at hda hdb
      have hn1 : n ≤ 1000 := by omega
      have hm1 : m ≤ 1000 := by omega
      have HA : Hid (bs.length < 4611686018427386000) := by
        unfold Hid
        omega
      have HB : Hid (cs.length < 4611686018427386000) := by
        unfold Hid
        omega
      have HFA : Hid (Flat (bytes bs)) := flat_bytes bs
      have HFB : Hid (Flat (bytes cs)) := flat_bytes cs
      obtain ⟨M, hM⟩ : ∃ M, max n m = M := ⟨_, rfl⟩
      have HM := hide hM
      have MK : True := trivial
      clear hda hdb
      go_enter Tryd.func5, Tryd.ntmps5
      go_wp2_with (first
        | (go_at_call 17; refine Ret.calls (alive_s hS hK hF) ?_; clear hS; rintro r w ⟨rfl, hS⟩)
        | (show wpList _ _ _ (⟨_, .alloc 34, _, _, _, _⟩ :: _) _ _; refine wpS_alloc hS rfl rfl zero32b (zs := (List.replicate 32 (0 : Byte)).map B8) rfl ?_; clear hS; intro nb w hS; go_frame)
        | (show wpList _ _ _ (⟨_, .load 34 _, _, _, _, _⟩ :: _) _ _; refine wpList_val rfl (op_load agg32b rfl rfl ((hS.bring (by repeat (first | exact t0 | apply tS))).getBlk.cells) (by rw [List.length_map]; first | exact sum_len _ | exact twice_len _ | exact sumH_len _)) ?_; go_frame)
        | (show wpList _ _ _ (⟨_, .store 34 _ _, _, _, _, _⟩ :: _) _ _; (refine wpS_storeAll agg32b (hS.bring (by repeat (first | exact t0 | apply tS))) rfl rfl rfl (vs := List.map B8 _) rfl (by rw [List.length_map]; first | exact sum_len _ | exact twice_len _ | exact sumH_len _) (B8_one _) (by rw [List.length_map, List.length_replicate]) ?_); clear hS; intro w hS; go_frame)
        | (show wpList _ _ _ (⟨_, .slice 34 _ none none _, _, _, _, _⟩ :: _) _ _; refine wpList_val rfl (op_sliceArr arr32b rfl rfl (l := 0) (h := 32) (Or.inl ⟨rfl, rfl⟩) (Or.inl ⟨rfl, rfl⟩) (by omega) (by omega)) ?_; rw [if_neg (by omega)]; go_frame)
        | (show wpList _ _ _ (⟨some 17, .call _, _, _, _, _⟩ :: _) _ _; refine wpList_val rfl (op_lenB slBytes rfl rfl rfl (hS.rd ha) HNA.out) ?_; go_frame)
        | (show wpList _ _ _ (⟨some 18, .binOp .gtr _ _ _ _, _, _, _, _⟩ :: _) _ _; refine wpList_val rfl (op_igtr rfl rfl rfl HDA.out) ?_; go_frame)
        | (show wpList _ _ _ (⟨some 21, .call _, _, _, _, _⟩ :: _) _ _; refine wpList_val rfl (op_lenB slBytes rfl rfl rfl (hS.rd hb) HNB.out) ?_; go_frame)
        | (show wpList _ _ _ (⟨some 22, .binOp .gtr _ _ _ _, _, _, _, _⟩ :: _) _ _; refine wpList_val rfl (op_igtr rfl rfl rfl HDB.out) ?_; go_frame)
        | (show wpList _ _ _ (⟨_, .buildSlice _ 0 _, _, _, _, _⟩ :: _) _ _; refine wpS_build0 slBytes hS rfl rfl ?_; clear hS; intro v0 w hS; go_frame)
        | (show wpList _ _ _ (⟨some 26, .call _, _, _, _, _⟩ :: _) _ _; (refine wpS_append slBytes (hS.bring (by repeat (first | exact t0 | apply tS))) rfl rfl rfl rfl (hS.rd ha) HFA.out (by rw [bytes_len, HNA.out, List.length_nil]; omega) (by rw [bytes_len, HNA.out, List.length_nil]; simp only [maxLen]; omega) ?_); clear hS; intro v5 w hS; rw [List.nil_append] at hS; go_frame)
        | (show wpList _ _ _ (⟨some 29, .call _, _, _, _, _⟩ :: _) _ _; (refine wpS_append slBytes (hS.bring (by repeat (first | exact t0 | apply tS))) rfl rfl rfl rfl (hS.rd hb) HFB.out (by rw [bytes_len, HNB.out, List.length_nil]; omega) (by rw [bytes_len, HNB.out, List.length_nil]; simp only [maxLen]; omega) ?_); clear hS; intro v6 w hS; rw [List.nil_append] at hS; go_frame)
        | (replace MK := MK; go_at_call 20; refine Ret.calls (new_s hS hF) ?_; clear hS; rintro r w ⟨p, rfl, hS⟩; clear MK)
        | (go_at_call 20; refine Ret.calls (new_s hS hF) ?_; clear hS; rintro r w ⟨q, rfl, hS⟩)
        | (show wpList _ _ _ (⟨some 33, .call _, _, _, _, _⟩ :: _) _ _; refine wpList_val rfl (op_lenB slBytes rfl rfl rfl ((hS.bring (by repeat (first | exact t0 | apply tS))).getOwn.rd) HNA.out) ?_; go_frame)
        | (show wpList _ _ _ (⟨some 35, .call _, _, _, _, _⟩ :: _) _ _; refine wpList_val rfl (op_lenB slBytes rfl rfl rfl ((hS.bring (by repeat (first | exact t0 | apply tS))).getOwn.rd) HNB.out) ?_; go_frame)
        | (show wpList _ _ _ (⟨_, .call ⟨.builtin .max, _, _⟩, _, _, _, _⟩ :: _) _ _; refine wpList_val rfl (op_maxN rfl rfl rfl) ?_; rw [HM.out]; go_frame)
        )
      go_loopw [37] (fun i wr => ∃ k : Nat, i = .int .i64 k ∧ k ≤ M ∧ SepL All W wr [.own 5 1 v5 (bytes (inc bs k)), .own 5 1 v6 (bytes (inc cs k)), .blk p 70 (cellsH (absorb new (bs.take k))), .blk q 70 (cellsH (absorb new (cs.take k)))]) (fun i _ => M - (intOf i).toNat)
      case atStart => exact ⟨0, rfl, by omega, by rw [inc_zero, inc_zero]; exact hS.sel (by repeat (first | exact Sel.refl | refine Sel.take (by repeat (first | exact t0 | apply tS)) ?_ | apply Sel.drop))⟩
      case round =>
        clear hS
        obtain ⟨k, rfl, hk, hS⟩ := hrel
        have HI1 := hide ((inc_len bs k).trans hn)
        have HI2 := hide ((inc_len cs k).trans hm)
        by_cases hlt : k < M
        · have h1o : (absorb new (bs.take k)).op.length = 64 := by rw [absorb_op, new_op]
          have h2o : (absorb new (cs.take k)).op.length = 64 := by rw [absorb_op, new_op]
          have h1n : (absorb new (bs.take k)).n < 4611686018427387000 := by rw [absorb_n, new_n, List.length_take]; omega
          have h2n : (absorb new (cs.take k)).n < 4611686018427387000 := by rw [absorb_n, new_n, List.length_take]; omega
          by_cases hkn : k < n
          · skip
            have hkb : k < bs.length := by omega
            have hk1 : k < (inc bs k).length := by rw [inc_len]; exact hkb
            have hx1 := cut_cells hS hk1
            have hge := inc_get hkb hk1
            have HG1 := hide hge
            have HT1 := hide (inc_set hkb)
            have HA1 : Hid (absorb (absorb new (bs.take k)) [bs[k]] = absorb new (bs.take (k + 1))) := by
              unfold Hid
              rw [← absorb_append, List.take_succ_eq_append_getElem hkb]
            by_cases hkm : k < m
            · skip
              have hkc : k < cs.length := by omega
              have hk2 : k < (inc cs k).length := by rw [inc_len]; exact hkc
              have hx2 := cut_cells (hS.sel (by repeat (first | exact Sel.refl | refine Sel.take (by repeat (first | exact t0 | apply tS)) ?_ | apply Sel.drop)) : SepL All W _ [.own 5 1 v6 (bytes (inc cs k))]) hk2
              have hge2 := inc_get hkc hk2
              have HG2 := hide hge2
              have HT2 := hide (inc_set hkc)
              have HA2 : Hid (absorb (absorb new (cs.take k)) [cs[k]] = absorb new (cs.take (k + 1))) := by
                unfold Hid
                rw [← absorb_append, List.take_succ_eq_append_getElem hkc]
              have MX : True := trivial
              obtain ⟨g2, hg2⟩ : ∃ g, absorb new (cs.take k) = g := ⟨_, rfl⟩
              rw [hg2] at hS h2o h2n HA2
              clear hg2
              generalize absorb new (bs.take k) = g1 at *
              go_wp2_with (first
                | (show wpList _ _ _ (⟨some 42, .call _, _, _, _, _⟩ :: _) _ _; refine wpList_val rfl (op_lenB slBytes rfl rfl rfl ((hS.bring (by repeat (first | exact t0 | apply tS))).getOwn.rd) HI1.out) ?_; go_frame)
                | (show wpList _ _ _ (⟨some 69, .call _, _, _, _, _⟩ :: _) _ _; refine wpList_val rfl (op_lenB slBytes rfl rfl rfl ((hS.bring (by repeat (first | exact t0 | apply tS))).getOwn.rd) HI2.out) ?_; go_frame)
                | (show wpList _ _ _ (⟨some 48, .binOp _ _ _ _ _, _, _, _, _⟩ :: _) _ _; refine wpList_val rfl (op_iaddN rfl rfl rfl (k + 1) (by omega) (by omega)) ?_; go_frame)
                | (show wpList _ _ _ (⟨some 49, .slice _ _ _ _ _, _, _, _, _⟩ :: _) _ _; refine wpList_val rfl (op_cut slBytes rfl rfl ((hS.bring (by repeat (first | exact t0 | apply tS))).getOwn.rd) (l := k) (h := k + 1) (Or.inr rfl) (Or.inr rfl) (by omega) (by rw [bytes_len, HI1.out]; omega)) ?_; go_frame)
                | (show wpList _ _ _ (⟨some 50, .buildSlice _ _ _, _, _, _, _⟩ :: _) _ _; refine wpS_build11 slPieces hS rfl rfl rfl hx1 ?_; clear hS; intro v2 w hS; go_frame)
                | (show wpList _ _ _ (⟨some 54, .indexAddr _ _ _, _, _, _, _⟩ :: _) _ _; refine wpList_val rfl (op_indexAddr slBytes rfl rfl (k := k) rfl ((hS.bring (by repeat (first | exact t0 | apply tS))).getOwn.rd) (by rw [bytes_len, HI1.out]; omega)) ?_; go_frame)
                | (show wpList _ _ _ (⟨some 55, .load _ _, _, _, _, _⟩ :: _) _ _; refine wpList_val rfl (op_loadBE oneU8 rfl (v := v5) (k := k) rfl ((hS.bring (by repeat (first | exact t0 | apply tS))).getOwn.rd) (by rw [HI1.out]; omega)) ?_; rw [HG1.out]; go_frame)
                | (show wpList _ _ _ (⟨some 58, .indexAddr _ _ _, _, _, _, _⟩ :: _) _ _; refine wpList_val rfl (op_indexAddr slBytes rfl (v := va) rfl (k := k) rfl (hS.rd ha) (by rw [bytes_len, HNA.out]; omega)) ?_; go_frame)
                | (show wpList _ _ _ (⟨some 59, .load _ _, _, _, _, _⟩ :: _) _ _; refine wpList_val rfl (op_loadBE oneU8 rfl (v := va) (k := k) rfl (hS.rd ha) (by rw [HNA.out]; omega)) ?_; go_frame)
                | (show wpList _ _ _ (⟨some 60, .binOp .neq _ _ _ _, _, _, _, _⟩ :: _) _ _; refine wpList_val rfl (op_neqB rfl rfl rfl rfl) ?_; go_frame)
                | (show wpList _ _ _ (⟨some 63, .indexAddr _ _ _, _, _, _, _⟩ :: _) _ _; refine wpList_val rfl (op_indexAddr slBytes rfl rfl (k := k) rfl ((hS.bring (by repeat (first | exact t0 | apply tS))).getOwn.rd) (by rw [bytes_len, HI1.out]; omega)) ?_; go_frame)
                | (show wpList _ _ _ (⟨some 64, .load _ _, _, _, _, _⟩ :: _) _ _; refine wpList_val rfl (op_loadBE oneU8 rfl (v := v5) (k := k) rfl ((hS.bring (by repeat (first | exact t0 | apply tS))).getOwn.rd) (by rw [HI1.out]; omega)) ?_; rw [HG1.out]; go_frame)
                | (show wpList _ _ _ (⟨some 65, .binOp .add _ _ _ _, _, _, _, _⟩ :: _) _ _; refine wpList_val rfl (op_bin8 (op := .add) (b := 1#8) rfl rfl rfl rfl) ?_; go_frame)
                | (show wpList _ _ _ (⟨some 66, .indexAddr _ _ _, _, _, _, _⟩ :: _) _ _; refine wpList_val rfl (op_indexAddr slBytes rfl rfl (k := k) rfl ((hS.bring (by repeat (first | exact t0 | apply tS))).getOwn.rd) (by rw [bytes_len, HI1.out]; omega)) ?_; go_frame)
                | (show wpList _ _ _ (⟨_, .store _ (.tmp 66) _, _, _, _, _⟩ :: _) _ _; (refine wpS_storeE1 sizeU8 (v := v5) (k := k) (hS.bring (by repeat (first | exact t0 | apply tS))) rfl rfl rfl rfl rfl rfl (by rw [bytes_len, HI1.out]; omega) ?_); clear hS; intro w hS; rw [← B8_add1, bytes_set, HT1.out] at hS; go_frame)
                | (show wpList _ _ _ (⟨some 75, .binOp _ _ _ _ _, _, _, _, _⟩ :: _) _ _; refine wpList_val rfl (op_iaddN rfl rfl rfl (k + 1) (by omega) (by omega)) ?_; go_frame)
                | (show wpList _ _ _ (⟨some 76, .slice _ _ _ _ _, _, _, _, _⟩ :: _) _ _; refine wpList_val rfl (op_cut slBytes rfl rfl ((hS.bring (by repeat (first | exact t0 | apply tS))).getOwn.rd) (l := k) (h := k + 1) (Or.inr rfl) (Or.inr rfl) (by omega) (by rw [bytes_len, HI2.out]; omega)) ?_; go_frame)
                | (show wpList _ _ _ (⟨some 77, .buildSlice _ _ _, _, _, _, _⟩ :: _) _ _; refine wpS_build11 slPieces hS rfl rfl rfl hx2 ?_; clear hS; intro v2 w hS; go_frame)
                | (show wpList _ _ _ (⟨some 81, .indexAddr _ _ _, _, _, _, _⟩ :: _) _ _; refine wpList_val rfl (op_indexAddr slBytes rfl rfl (k := k) rfl ((hS.bring (by repeat (first | exact t0 | apply tS))).getOwn.rd) (by rw [bytes_len, HI2.out]; omega)) ?_; go_frame)
                | (show wpList _ _ _ (⟨some 82, .load _ _, _, _, _, _⟩ :: _) _ _; refine wpList_val rfl (op_loadBE oneU8 rfl (v := v6) (k := k) rfl ((hS.bring (by repeat (first | exact t0 | apply tS))).getOwn.rd) (by rw [HI2.out]; omega)) ?_; rw [HG2.out]; go_frame)
                | (show wpList _ _ _ (⟨some 83, .binOp .add _ _ _ _, _, _, _, _⟩ :: _) _ _; refine wpList_val rfl (op_bin8 (op := .add) (b := 1#8) rfl rfl rfl rfl) ?_; go_frame)
                | (show wpList _ _ _ (⟨some 84, .indexAddr _ _ _, _, _, _, _⟩ :: _) _ _; refine wpList_val rfl (op_indexAddr slBytes rfl rfl (k := k) rfl ((hS.bring (by repeat (first | exact t0 | apply tS))).getOwn.rd) (by rw [bytes_len, HI2.out]; omega)) ?_; go_frame)
                | (show wpList _ _ _ (⟨_, .store _ (.tmp 84) _, _, _, _, _⟩ :: _) _ _; (refine wpS_storeE1 sizeU8 (v := v6) (k := k) (hS.bring (by repeat (first | exact t0 | apply tS))) rfl rfl rfl rfl rfl rfl (by rw [bytes_len, HI2.out]; omega) ?_); clear hS; intro w hS; rw [← B8_add1, bytes_set, HT2.out] at hS; go_frame)
                | (refine wp_region_text (by kernel_rfl) (by kernel_rfl) (by repeat (first | exact Clean.body | refine Clean.then ?_ | refine Clean.inBlock ?_)) ?_; replace hS := hS.drew)
                | (refine fin_mk (by kernel_rfl) ?_)
                | (replace MX := MX; go_at_call 21; refine Ret.calls (write_mine (F := [.own 5 1 v6 (bytes (inc cs k)), .blk q 70 (cellsH g2)]) (hS.sel (by repeat (first | exact Sel.refl | refine Sel.take (by repeat (first | exact t0 | apply tS)) ?_ | apply Sel.drop))) hK h1o hk1 h1n hge) ?_; clear hS; rintro r w ⟨rfl, hS⟩; clear MX; rw [HA1.out] at hS)
                | (go_at_call 21; refine Ret.calls (write_mine (F := [.own 5 1 v5 (bytes (inc bs (k + 1))), .blk p 70 (cellsH (absorb new (bs.take (k + 1))))]) (hS.sel (by repeat (first | exact Sel.refl | refine Sel.take (by repeat (first | exact t0 | apply tS)) ?_ | apply Sel.drop))) hK h2o hk2 h2n hge2) ?_; clear hS; rintro r w ⟨rfl, hS⟩; rw [HA2.out] at hS)
                )
              go_roundw
              case rel => exact ⟨k + 1, by go_num, by omega, hS.sel (by repeat (first | exact Sel.refl | refine Sel.take (by repeat (first | exact t0 | apply tS)) ?_ | apply Sel.drop))⟩
              case measure => simp [intOf]; omega
            · skip
              have hie := inc_over (l := cs) (k := k) (by omega)
              have hte : cs.take (k + 1) = cs.take k := by rw [List.take_of_length_le (by omega), List.take_of_length_le (by omega)]
              rw [← hie] at HI2 hS
              rw [← hte] at hS
              clear hie hte h2o h2n
              have MX : True := trivial
              obtain ⟨g2, hg2⟩ : ∃ g, absorb new (cs.take (k + 1)) = g := ⟨_, rfl⟩
              have HG := hide hg2
              rw [hg2] at hS
              clear hg2
              generalize absorb new (bs.take k) = g1 at *
              go_wp2_with (first
                | (show wpList _ _ _ (⟨some 42, .call _, _, _, _, _⟩ :: _) _ _; refine wpList_val rfl (op_lenB slBytes rfl rfl rfl ((hS.bring (by repeat (first | exact t0 | apply tS))).getOwn.rd) HI1.out) ?_; go_frame)
                | (show wpList _ _ _ (⟨some 69, .call _, _, _, _, _⟩ :: _) _ _; refine wpList_val rfl (op_lenB slBytes rfl rfl rfl ((hS.bring (by repeat (first | exact t0 | apply tS))).getOwn.rd) HI2.out) ?_; go_frame)
                | (show wpList _ _ _ (⟨some 48, .binOp _ _ _ _ _, _, _, _, _⟩ :: _) _ _; refine wpList_val rfl (op_iaddN rfl rfl rfl (k + 1) (by omega) (by omega)) ?_; go_frame)
                | (show wpList _ _ _ (⟨some 49, .slice _ _ _ _ _, _, _, _, _⟩ :: _) _ _; refine wpList_val rfl (op_cut slBytes rfl rfl ((hS.bring (by repeat (first | exact t0 | apply tS))).getOwn.rd) (l := k) (h := k + 1) (Or.inr rfl) (Or.inr rfl) (by omega) (by rw [bytes_len, HI1.out]; omega)) ?_; go_frame)
                | (show wpList _ _ _ (⟨some 50, .buildSlice _ _ _, _, _, _, _⟩ :: _) _ _; refine wpS_build11 slPieces hS rfl rfl rfl hx1 ?_; clear hS; intro v2 w hS; go_frame)
                | (show wpList _ _ _ (⟨some 54, .indexAddr _ _ _, _, _, _, _⟩ :: _) _ _; refine wpList_val rfl (op_indexAddr slBytes rfl rfl (k := k) rfl ((hS.bring (by repeat (first | exact t0 | apply tS))).getOwn.rd) (by rw [bytes_len, HI1.out]; omega)) ?_; go_frame)
                | (show wpList _ _ _ (⟨some 55, .load _ _, _, _, _, _⟩ :: _) _ _; refine wpList_val rfl (op_loadBE oneU8 rfl (v := v5) (k := k) rfl ((hS.bring (by repeat (first | exact t0 | apply tS))).getOwn.rd) (by rw [HI1.out]; omega)) ?_; rw [HG1.out]; go_frame)
                | (show wpList _ _ _ (⟨some 58, .indexAddr _ _ _, _, _, _, _⟩ :: _) _ _; refine wpList_val rfl (op_indexAddr slBytes rfl (v := va) rfl (k := k) rfl (hS.rd ha) (by rw [bytes_len, HNA.out]; omega)) ?_; go_frame)
                | (show wpList _ _ _ (⟨some 59, .load _ _, _, _, _, _⟩ :: _) _ _; refine wpList_val rfl (op_loadBE oneU8 rfl (v := va) (k := k) rfl (hS.rd ha) (by rw [HNA.out]; omega)) ?_; go_frame)
                | (show wpList _ _ _ (⟨some 60, .binOp .neq _ _ _ _, _, _, _, _⟩ :: _) _ _; refine wpList_val rfl (op_neqB rfl rfl rfl rfl) ?_; go_frame)
                | (show wpList _ _ _ (⟨some 63, .indexAddr _ _ _, _, _, _, _⟩ :: _) _ _; refine wpList_val rfl (op_indexAddr slBytes rfl rfl (k := k) rfl ((hS.bring (by repeat (first | exact t0 | apply tS))).getOwn.rd) (by rw [bytes_len, HI1.out]; omega)) ?_; go_frame)
                | (show wpList _ _ _ (⟨some 64, .load _ _, _, _, _, _⟩ :: _) _ _; refine wpList_val rfl (op_loadBE oneU8 rfl (v := v5) (k := k) rfl ((hS.bring (by repeat (first | exact t0 | apply tS))).getOwn.rd) (by rw [HI1.out]; omega)) ?_; rw [HG1.out]; go_frame)
                | (show wpList _ _ _ (⟨some 65, .binOp .add _ _ _ _, _, _, _, _⟩ :: _) _ _; refine wpList_val rfl (op_bin8 (op := .add) (b := 1#8) rfl rfl rfl rfl) ?_; go_frame)
                | (show wpList _ _ _ (⟨some 66, .indexAddr _ _ _, _, _, _, _⟩ :: _) _ _; refine wpList_val rfl (op_indexAddr slBytes rfl rfl (k := k) rfl ((hS.bring (by repeat (first | exact t0 | apply tS))).getOwn.rd) (by rw [bytes_len, HI1.out]; omega)) ?_; go_frame)
                | (show wpList _ _ _ (⟨_, .store _ (.tmp 66) _, _, _, _, _⟩ :: _) _ _; (refine wpS_storeE1 sizeU8 (v := v5) (k := k) (hS.bring (by repeat (first | exact t0 | apply tS))) rfl rfl rfl rfl rfl rfl (by rw [bytes_len, HI1.out]; omega) ?_); clear hS; intro w hS; rw [← B8_add1, bytes_set, HT1.out] at hS; go_frame)
                | (show wpList _ _ _ (⟨some 75, .binOp _ _ _ _ _, _, _, _, _⟩ :: _) _ _; refine wpList_val rfl (op_iaddN rfl rfl rfl (k + 1) (by omega) (by omega)) ?_; go_frame)
                | (show wpList _ _ _ (⟨some 76, .slice _ _ _ _ _, _, _, _, _⟩ :: _) _ _; refine wpList_val rfl (op_cut slBytes rfl rfl ((hS.bring (by repeat (first | exact t0 | apply tS))).getOwn.rd) (l := k) (h := k + 1) (Or.inr rfl) (Or.inr rfl) (by omega) (by rw [bytes_len, HI2.out]; omega)) ?_; go_frame)
                | (show wpList _ _ _ (⟨some 77, .buildSlice _ _ _, _, _, _, _⟩ :: _) _ _; refine wpS_build11 slPieces hS rfl rfl rfl hx2 ?_; clear hS; intro v2 w hS; go_frame)
                | (show wpList _ _ _ (⟨some 81, .indexAddr _ _ _, _, _, _, _⟩ :: _) _ _; refine wpList_val rfl (op_indexAddr slBytes rfl rfl (k := k) rfl ((hS.bring (by repeat (first | exact t0 | apply tS))).getOwn.rd) (by rw [bytes_len, HI2.out]; omega)) ?_; go_frame)
                | (show wpList _ _ _ (⟨some 82, .load _ _, _, _, _, _⟩ :: _) _ _; refine wpList_val rfl (op_loadBE oneU8 rfl (v := v6) (k := k) rfl ((hS.bring (by repeat (first | exact t0 | apply tS))).getOwn.rd) (by rw [HI2.out]; omega)) ?_; rw [HG2.out]; go_frame)
                | (show wpList _ _ _ (⟨some 83, .binOp .add _ _ _ _, _, _, _, _⟩ :: _) _ _; refine wpList_val rfl (op_bin8 (op := .add) (b := 1#8) rfl rfl rfl rfl) ?_; go_frame)
                | (show wpList _ _ _ (⟨some 84, .indexAddr _ _ _, _, _, _, _⟩ :: _) _ _; refine wpList_val rfl (op_indexAddr slBytes rfl rfl (k := k) rfl ((hS.bring (by repeat (first | exact t0 | apply tS))).getOwn.rd) (by rw [bytes_len, HI2.out]; omega)) ?_; go_frame)
                | (show wpList _ _ _ (⟨_, .store _ (.tmp 84) _, _, _, _, _⟩ :: _) _ _; (refine wpS_storeE1 sizeU8 (v := v6) (k := k) (hS.bring (by repeat (first | exact t0 | apply tS))) rfl rfl rfl rfl rfl rfl (by rw [bytes_len, HI2.out]; omega) ?_); clear hS; intro w hS; rw [← B8_add1, bytes_set, HT2.out] at hS; go_frame)
                | (refine wp_region_text (by kernel_rfl) (by kernel_rfl) (by repeat (first | exact Clean.body | refine Clean.then ?_ | refine Clean.inBlock ?_)) ?_; replace hS := hS.drew)
                | (refine fin_mk (by kernel_rfl) ?_)
                | (replace MX := MX; go_at_call 21; refine Ret.calls (write_mine (F := [.own 5 1 v6 (bytes (inc cs (k + 1))), .blk q 70 (cellsH g2)]) (hS.sel (by repeat (first | exact Sel.refl | refine Sel.take (by repeat (first | exact t0 | apply tS)) ?_ | apply Sel.drop))) hK h1o hk1 h1n hge) ?_; clear hS; rintro r w ⟨rfl, hS⟩; clear MX; rw [HA1.out] at hS)
                | (go_at_call 21; refine Ret.calls (write_mine (F := [.own 5 1 v5 (bytes (inc bs (k + 1))), .blk p 70 (cellsH (absorb new (bs.take (k + 1))))]) (hS.sel (by repeat (first | exact Sel.refl | refine Sel.take (by repeat (first | exact t0 | apply tS)) ?_ | apply Sel.drop))) hK h2o hk2 h2n hge2) ?_; clear hS; rintro r w ⟨rfl, hS⟩; rw [HA2.out] at hS)
                )
              go_roundw
              case rel => exact ⟨k + 1, by go_num, by omega, by rw [HG.out]; exact hS.sel (by repeat (first | exact Sel.refl | refine Sel.take (by repeat (first | exact t0 | apply tS)) ?_ | apply Sel.drop))⟩
              case measure => simp [intOf]; omega
          · skip
            have hkm : k < m := by omega
            have hkc : k < cs.length := by omega
            have hk2 : k < (inc cs k).length := by rw [inc_len]; exact hkc
            have hx2 := cut_cells (hS.sel (by repeat (first | exact Sel.refl | refine Sel.take (by repeat (first | exact t0 | apply tS)) ?_ | apply Sel.drop)) : SepL All W _ [.own 5 1 v6 (bytes (inc cs k))]) hk2
            have hge2 := inc_get hkc hk2
            have HG2 := hide hge2
            have HT2 := hide (inc_set hkc)
            have HA2 : Hid (absorb (absorb new (cs.take k)) [cs[k]] = absorb new (cs.take (k + 1))) := by
              unfold Hid
              rw [← absorb_append, List.take_succ_eq_append_getElem hkc]
            have hie := inc_over (l := bs) (k := k) (by omega)
            have hte : bs.take (k + 1) = bs.take k := by rw [List.take_of_length_le (by omega), List.take_of_length_le (by omega)]
            rw [← hie] at HI1 hS
            rw [← hte] at hS
            clear hie hte h1o h1n
            generalize absorb new (cs.take k) = g2 at *
            go_wp2_with (first
              | (show wpList _ _ _ (⟨some 42, .call _, _, _, _, _⟩ :: _) _ _; refine wpList_val rfl (op_lenB slBytes rfl rfl rfl ((hS.bring (by repeat (first | exact t0 | apply tS))).getOwn.rd) HI1.out) ?_; go_frame)
              | (show wpList _ _ _ (⟨some 69, .call _, _, _, _, _⟩ :: _) _ _; refine wpList_val rfl (op_lenB slBytes rfl rfl rfl ((hS.bring (by repeat (first | exact t0 | apply tS))).getOwn.rd) HI2.out) ?_; go_frame)
              | (show wpList _ _ _ (⟨some 48, .binOp _ _ _ _ _, _, _, _, _⟩ :: _) _ _; refine wpList_val rfl (op_iaddN rfl rfl rfl (k + 1) (by omega) (by omega)) ?_; go_frame)
              | (show wpList _ _ _ (⟨some 49, .slice _ _ _ _ _, _, _, _, _⟩ :: _) _ _; refine wpList_val rfl (op_cut slBytes rfl rfl ((hS.bring (by repeat (first | exact t0 | apply tS))).getOwn.rd) (l := k) (h := k + 1) (Or.inr rfl) (Or.inr rfl) (by omega) (by rw [bytes_len, HI1.out]; omega)) ?_; go_frame)
              | (show wpList _ _ _ (⟨some 50, .buildSlice _ _ _, _, _, _, _⟩ :: _) _ _; refine wpS_build11 slPieces hS rfl rfl rfl hx1 ?_; clear hS; intro v2 w hS; go_frame)
              | (show wpList _ _ _ (⟨some 54, .indexAddr _ _ _, _, _, _, _⟩ :: _) _ _; refine wpList_val rfl (op_indexAddr slBytes rfl rfl (k := k) rfl ((hS.bring (by repeat (first | exact t0 | apply tS))).getOwn.rd) (by rw [bytes_len, HI1.out]; omega)) ?_; go_frame)
              | (show wpList _ _ _ (⟨some 55, .load _ _, _, _, _, _⟩ :: _) _ _; refine wpList_val rfl (op_loadBE oneU8 rfl (v := v5) (k := k) rfl ((hS.bring (by repeat (first | exact t0 | apply tS))).getOwn.rd) (by rw [HI1.out]; omega)) ?_; rw [HG1.out]; go_frame)
              | (show wpList _ _ _ (⟨some 58, .indexAddr _ _ _, _, _, _, _⟩ :: _) _ _; refine wpList_val rfl (op_indexAddr slBytes rfl (v := va) rfl (k := k) rfl (hS.rd ha) (by rw [bytes_len, HNA.out]; omega)) ?_; go_frame)
              | (show wpList _ _ _ (⟨some 59, .load _ _, _, _, _, _⟩ :: _) _ _; refine wpList_val rfl (op_loadBE oneU8 rfl (v := va) (k := k) rfl (hS.rd ha) (by rw [HNA.out]; omega)) ?_; go_frame)
              | (show wpList _ _ _ (⟨some 60, .binOp .neq _ _ _ _, _, _, _, _⟩ :: _) _ _; refine wpList_val rfl (op_neqB rfl rfl rfl rfl) ?_; go_frame)
              | (show wpList _ _ _ (⟨some 63, .indexAddr _ _ _, _, _, _, _⟩ :: _) _ _; refine wpList_val rfl (op_indexAddr slBytes rfl rfl (k := k) rfl ((hS.bring (by repeat (first | exact t0 | apply tS))).getOwn.rd) (by rw [bytes_len, HI1.out]; omega)) ?_; go_frame)
              | (show wpList _ _ _ (⟨some 64, .load _ _, _, _, _, _⟩ :: _) _ _; refine wpList_val rfl (op_loadBE oneU8 rfl (v := v5) (k := k) rfl ((hS.bring (by repeat (first | exact t0 | apply tS))).getOwn.rd) (by rw [HI1.out]; omega)) ?_; rw [HG1.out]; go_frame)
              | (show wpList _ _ _ (⟨some 65, .binOp .add _ _ _ _, _, _, _, _⟩ :: _) _ _; refine wpList_val rfl (op_bin8 (op := .add) (b := 1#8) rfl rfl rfl rfl) ?_; go_frame)
              | (show wpList _ _ _ (⟨some 66, .indexAddr _ _ _, _, _, _, _⟩ :: _) _ _; refine wpList_val rfl (op_indexAddr slBytes rfl rfl (k := k) rfl ((hS.bring (by repeat (first | exact t0 | apply tS))).getOwn.rd) (by rw [bytes_len, HI1.out]; omega)) ?_; go_frame)
              | (show wpList _ _ _ (⟨_, .store _ (.tmp 66) _, _, _, _, _⟩ :: _) _ _; (refine wpS_storeE1 sizeU8 (v := v5) (k := k) (hS.bring (by repeat (first | exact t0 | apply tS))) rfl rfl rfl rfl rfl rfl (by rw [bytes_len, HI1.out]; omega) ?_); clear hS; intro w hS; rw [← B8_add1, bytes_set, HT1.out] at hS; go_frame)
              | (show wpList _ _ _ (⟨some 75, .binOp _ _ _ _ _, _, _, _, _⟩ :: _) _ _; refine wpList_val rfl (op_iaddN rfl rfl rfl (k + 1) (by omega) (by omega)) ?_; go_frame)
              | (show wpList _ _ _ (⟨some 76, .slice _ _ _ _ _, _, _, _, _⟩ :: _) _ _; refine wpList_val rfl (op_cut slBytes rfl rfl ((hS.bring (by repeat (first | exact t0 | apply tS))).getOwn.rd) (l := k) (h := k + 1) (Or.inr rfl) (Or.inr rfl) (by omega) (by rw [bytes_len, HI2.out]; omega)) ?_; go_frame)
              | (show wpList _ _ _ (⟨some 77, .buildSlice _ _ _, _, _, _, _⟩ :: _) _ _; refine wpS_build11 slPieces hS rfl rfl rfl hx2 ?_; clear hS; intro v2 w hS; go_frame)
              | (show wpList _ _ _ (⟨some 81, .indexAddr _ _ _, _, _, _, _⟩ :: _) _ _; refine wpList_val rfl (op_indexAddr slBytes rfl rfl (k := k) rfl ((hS.bring (by repeat (first | exact t0 | apply tS))).getOwn.rd) (by rw [bytes_len, HI2.out]; omega)) ?_; go_frame)
              | (show wpList _ _ _ (⟨some 82, .load _ _, _, _, _, _⟩ :: _) _ _; refine wpList_val rfl (op_loadBE oneU8 rfl (v := v6) (k := k) rfl ((hS.bring (by repeat (first | exact t0 | apply tS))).getOwn.rd) (by rw [HI2.out]; omega)) ?_; rw [HG2.out]; go_frame)
              | (show wpList _ _ _ (⟨some 83, .binOp .add _ _ _ _, _, _, _, _⟩ :: _) _ _; refine wpList_val rfl (op_bin8 (op := .add) (b := 1#8) rfl rfl rfl rfl) ?_; go_frame)
              | (show wpList _ _ _ (⟨some 84, .indexAddr _ _ _, _, _, _, _⟩ :: _) _ _; refine wpList_val rfl (op_indexAddr slBytes rfl rfl (k := k) rfl ((hS.bring (by repeat (first | exact t0 | apply tS))).getOwn.rd) (by rw [bytes_len, HI2.out]; omega)) ?_; go_frame)
              | (show wpList _ _ _ (⟨_, .store _ (.tmp 84) _, _, _, _, _⟩ :: _) _ _; (refine wpS_storeE1 sizeU8 (v := v6) (k := k) (hS.bring (by repeat (first | exact t0 | apply tS))) rfl rfl rfl rfl rfl rfl (by rw [bytes_len, HI2.out]; omega) ?_); clear hS; intro w hS; rw [← B8_add1, bytes_set, HT2.out] at hS; go_frame)
              | (refine wp_region_text (by kernel_rfl) (by kernel_rfl) (by repeat (first | exact Clean.body | refine Clean.then ?_ | refine Clean.inBlock ?_)) ?_; replace hS := hS.drew)
              | (refine fin_mk (by kernel_rfl) ?_)
              | (replace MX := MX; go_at_call 21; refine Ret.calls (write_mine (F := [.own 5 1 v6 (bytes iy), .blk q 70 (cellsH g2)]) (hS.sel (by repeat (first | exact Sel.refl | refine Sel.take (by repeat (first | exact t0 | apply tS)) ?_ | apply Sel.drop))) hK h1o hk1 h1n hge) ?_; clear hS; rintro r w ⟨rfl, hS⟩; clear MX; rw [HA1.out] at hS)
              | (go_at_call 21; refine Ret.calls (write_mine (F := [.own 5 1 v5 (bytes (inc bs (k + 1))), .blk p 70 (cellsH (absorb new (bs.take (k + 1))))]) (hS.sel (by repeat (first | exact Sel.refl | refine Sel.take (by repeat (first | exact t0 | apply tS)) ?_ | apply Sel.drop))) hK h2o hk2 h2n hge2) ?_; clear hS; rintro r w ⟨rfl, hS⟩; rw [HA2.out] at hS)
              )
            go_roundw
            case rel => exact ⟨k + 1, by go_num, by omega, hS.sel (by repeat (first | exact Sel.refl | refine Sel.take (by repeat (first | exact t0 | apply tS)) ?_ | apply Sel.drop))⟩
            case measure => simp [intOf]; omega
        · have hk2 : k = M := by omega
          subst hk2
          rw [List.take_of_length_le (by omega), List.take_of_length_le (by omega)] at hS
          have h1o : (absorb new bs).op.length = 64 := by rw [absorb_op, new_op]
          have h2o : (absorb new cs).op.length = 64 := by rw [absorb_op, new_op]
          have h1n : (absorb new bs).n < 4611686018427387000 := by rw [absorb_n, new_n]; omega
          have h2n : (absorb new cs).n < 4611686018427387000 := by rw [absorb_n, new_n]; omega
          have HS1 := hide (sum_eq bs)
          have HS2 := hide (sum_eq cs)
          generalize absorb new bs = g1 at *
          generalize absorb new cs = g2 at *
          have MX : True := trivial
          go_wp2_with (first
            | (show wpList _ _ _ (⟨some 10, .alloc _, _, _, _, _⟩ :: _) _ _; refine wpS_alloc hS rfl rfl zero32b (zs := (List.replicate 32 (0 : Byte)).map B8) rfl ?_; clear hS; intro n10 w hS; go_frame)
            | (show wpList _ _ _ (⟨some 12, .alloc _, _, _, _, _⟩ :: _) _ _; refine wpS_alloc hS rfl rfl zero32b (zs := (List.replicate 32 (0 : Byte)).map B8) rfl ?_; clear hS; intro n12 w hS; go_frame)
            | (go_at_call 17; refine Ret.calls (alive_s hS hK hF) ?_; clear hS; rintro r w ⟨rfl, hS⟩)
            | (show wpList _ _ _ (⟨_, .alloc 34, _, _, _, _⟩ :: _) _ _; refine wpS_alloc hS rfl rfl zero32b (zs := (List.replicate 32 (0 : Byte)).map B8) rfl ?_; clear hS; intro nb w hS; go_frame)
            | (show wpList _ _ _ (⟨_, .load 34 _, _, _, _, _⟩ :: _) _ _; refine wpList_val rfl (op_load agg32b rfl rfl ((hS.bring (by repeat (first | exact t0 | apply tS))).getBlk.cells) (by rw [List.length_map]; first | exact sum_len _ | exact twice_len _ | exact sumH_len _)) ?_; go_frame)
            | (show wpList _ _ _ (⟨_, .store 34 _ _, _, _, _, _⟩ :: _) _ _; (refine wpS_storeAll agg32b (hS.bring (by repeat (first | exact t0 | apply tS))) rfl rfl rfl (vs := List.map B8 _) rfl (by rw [List.length_map]; first | exact sum_len _ | exact twice_len _ | exact sumH_len _) (B8_one _) (by rw [List.length_map, List.length_replicate]) ?_); clear hS; intro w hS; go_frame)
            | (show wpList _ _ _ (⟨_, .slice 34 _ none none _, _, _, _, _⟩ :: _) _ _; refine wpList_val rfl (op_sliceArr arr32b rfl rfl (l := 0) (h := 32) (Or.inl ⟨rfl, rfl⟩) (Or.inl ⟨rfl, rfl⟩) (by omega) (by omega)) ?_; rw [if_neg (by omega)]; go_frame)
            | (replace MX := MX; go_at_call 22; (refine Ret.calls (sum_m (h := g1) (hS.bring (by repeat (first | exact t0 | apply tS))) hK h1o h1n) ?_); clear hS; rintro r w ⟨rfl, hS⟩; clear MX)
            | (go_at_call 22; (refine Ret.calls (sum_m (h := g2) (hS.bring (by repeat (first | exact t0 | apply tS))) hK h2o h2n) ?_); clear hS; rintro r w ⟨rfl, hS⟩)
            )
          refine wp_region_ord (by kernel_rfl) [10, 12] [[0, 1, 2, 3, 4, 5, 6, 7, 8, 9, 10, 11, 12, 13, 14, 15, 16, 17, 18, 19, 20]] (by kernel_rfl) (by kernel_rfl) (fun w' => Blk w' n10 34 ((sumH g1).map B8) ∧ Blk w' n12 34 ((sumH g2).map B8)) (Up.and Up.blk Up.blk) ⟨((hS.bring (by repeat (first | exact t0 | apply tS))).getBlk), ((hS.bring (by repeat (first | exact t0 | apply tS))).getBlk)⟩ (by repeat (first | exact Clean.body | refine Clean.then ?_ | refine Clean.inBlock ?_ | refine SegQ.clean ?_ | refine FinC.clean ?_)) ?_
          replace hS := hS.drew
          refine ord_seg (by repeat (first | exact Clean.body | refine Clean.then ?_ | refine Clean.inBlock ?_ | refine SegQ.clean ?_ | refine FinC.clean ?_)) (n := 10) (rest := [[11, 12, 13, 14, 15, 16, 17, 18, 19, 20]]) [0, 1, 2, 3, 4, 5, 6, 7, 8, 9, 10] [⟨_, _, _, _, _, _⟩, ⟨_, _, _, _, _, _⟩, ⟨_, _, _, _, _, _⟩, ⟨_, _, _, _, _, _⟩, ⟨_, _, _, _, _, _⟩, ⟨_, _, _, _, _, _⟩, ⟨_, _, _, _, _, _⟩, ⟨_, _, _, _, _, _⟩, ⟨_, _, _, _, _, _⟩, ⟨_, _, _, _, _, _⟩, ⟨_, _, _, _, _, _⟩] rfl (by kernel_rfl) (by simp) _ _ ?_
          go_wp2_with (first
            | (go_at_call 17; refine Ret.calls (alive_s hS hK hF) ?_; clear hS; rintro r w ⟨rfl, hS⟩)
            | (show wpList _ _ _ (⟨_, .alloc 34, _, _, _, _⟩ :: _) _ _; refine wpS_alloc hS rfl rfl zero32b (zs := (List.replicate 32 (0 : Byte)).map B8) rfl ?_; clear hS; intro nb w hS; go_frame)
            | (show wpList _ _ _ (⟨_, .load 34 _, _, _, _, _⟩ :: _) _ _; refine wpList_val rfl (op_load agg32b rfl rfl ((hS.bring (by repeat (first | exact t0 | apply tS))).getBlk.cells) (by rw [List.length_map]; first | exact sum_len _ | exact twice_len _ | exact sumH_len _)) ?_; go_frame)
            | (show wpList _ _ _ (⟨_, .store 34 _ _, _, _, _, _⟩ :: _) _ _; (refine wpS_storeAll agg32b (hS.bring (by repeat (first | exact t0 | apply tS))) rfl rfl rfl (vs := List.map B8 _) rfl (by rw [List.length_map]; first | exact sum_len _ | exact twice_len _ | exact sumH_len _) (B8_one _) (by rw [List.length_map, List.length_replicate]) ?_); clear hS; intro w hS; go_frame)
            | (show wpList _ _ _ (⟨_, .slice 34 _ none none _, _, _, _, _⟩ :: _) _ _; refine wpList_val rfl (op_sliceArr arr32b rfl rfl (l := 0) (h := 32) (Or.inl ⟨rfl, rfl⟩) (Or.inl ⟨rfl, rfl⟩) (by omega) (by omega)) ?_; rw [if_neg (by omega)]; go_frame)
            | (show wpList _ _ _ (⟨some 105, .buildSlice _ 1 _, _, _, _, _⟩ :: _) _ _; refine wpS_build11 slPieces hS rfl rfl rfl hca ?_; clear hS; intro v2 w hS; go_frame)
            | (show wpList _ _ _ (⟨some 112, .buildSlice _ 1 _, _, _, _, _⟩ :: _) _ _; refine wpS_build11 slPieces hS rfl rfl rfl hcb ?_; clear hS; intro v2 w hS; go_frame)
            | (go_at_call 23; (first | (with_reducible refine Ret.calls (sum_arg1 hS hK hF ha HA.out) ?_) | (with_reducible refine Ret.calls (sum_arg1 hS hK hF hb HB.out) ?_)); clear hS; rintro r w ⟨rfl, hS⟩)
            | (show wpList _ _ _ (⟨_, .binOp .eql 34 _ _ _, _, _, _, _⟩ :: _) _ _; refine wpList_val rfl (op_eqHash rfl rfl rfl (sumH_len _) (by first | exact HS1.out | exact HS2.out)) ?_; go_frame)
            )
          refine segQ_mk ⟨((hS.bring (by repeat (first | exact t0 | apply tS))).getBlk), ((hS.bring (by repeat (first | exact t0 | apply tS))).getBlk)⟩ ?_
          refine ord_seg (by repeat (first | exact Clean.body | refine Clean.then ?_ | refine Clean.inBlock ?_ | refine SegQ.clean ?_ | refine FinC.clean ?_)) (n := 9) (rest := [[12, 13, 14, 15, 16, 17, 18, 19, 20]]) [11] [⟨_, _, _, _, _, _⟩] rfl (by kernel_rfl) (by simp) _ _ ?_
          go_wp2_with (first
            | (go_at_call 17; refine Ret.calls (alive_s hS hK hF) ?_; clear hS; rintro r w ⟨rfl, hS⟩)
            | (show wpList _ _ _ (⟨_, .alloc 34, _, _, _, _⟩ :: _) _ _; refine wpS_alloc hS rfl rfl zero32b (zs := (List.replicate 32 (0 : Byte)).map B8) rfl ?_; clear hS; intro nb w hS; go_frame)
            | (show wpList _ _ _ (⟨_, .load 34 _, _, _, _, _⟩ :: _) _ _; refine wpList_val rfl (op_load agg32b rfl rfl ((hS.bring (by repeat (first | exact t0 | apply tS))).getBlk.cells) (by rw [List.length_map]; first | exact sum_len _ | exact twice_len _ | exact sumH_len _)) ?_; go_frame)
            | (show wpList _ _ _ (⟨_, .store 34 _ _, _, _, _, _⟩ :: _) _ _; (refine wpS_storeAll agg32b (hS.bring (by repeat (first | exact t0 | apply tS))) rfl rfl rfl (vs := List.map B8 _) rfl (by rw [List.length_map]; first | exact sum_len _ | exact twice_len _ | exact sumH_len _) (B8_one _) (by rw [List.length_map, List.length_replicate]) ?_); clear hS; intro w hS; go_frame)
            | (show wpList _ _ _ (⟨_, .slice 34 _ none none _, _, _, _, _⟩ :: _) _ _; refine wpList_val rfl (op_sliceArr arr32b rfl rfl (l := 0) (h := 32) (Or.inl ⟨rfl, rfl⟩) (Or.inl ⟨rfl, rfl⟩) (by omega) (by omega)) ?_; rw [if_neg (by omega)]; go_frame)
            | (show wpList _ _ _ (⟨some 105, .buildSlice _ 1 _, _, _, _, _⟩ :: _) _ _; refine wpS_build11 slPieces hS rfl rfl rfl hca ?_; clear hS; intro v2 w hS; go_frame)
            | (show wpList _ _ _ (⟨some 112, .buildSlice _ 1 _, _, _, _, _⟩ :: _) _ _; refine wpS_build11 slPieces hS rfl rfl rfl hcb ?_; clear hS; intro v2 w hS; go_frame)
            | (go_at_call 23; (first | (with_reducible refine Ret.calls (sum_arg1 hS hK hF ha HA.out) ?_) | (with_reducible refine Ret.calls (sum_arg1 hS hK hF hb HB.out) ?_)); clear hS; rintro r w ⟨rfl, hS⟩)
            | (show wpList _ _ _ (⟨_, .binOp .eql 34 _ _ _, _, _, _, _⟩ :: _) _ _; refine wpList_val rfl (op_eqHash rfl rfl rfl (sumH_len _) (by first | exact HS1.out | exact HS2.out)) ?_; go_frame)
            )
          refine segQ_mk ⟨((hS.bring (by repeat (first | exact t0 | apply tS))).getBlk), ((hS.bring (by repeat (first | exact t0 | apply tS))).getBlk)⟩ ?_
          refine ord_seg (by repeat (first | exact Clean.body | refine Clean.then ?_ | refine Clean.inBlock ?_ | refine SegQ.clean ?_ | refine FinC.clean ?_)) (n := 3) (rest := [[18, 19, 20]]) [12, 13, 14, 15, 16, 17] [⟨_, _, _, _, _, _⟩, ⟨_, _, _, _, _, _⟩, ⟨_, _, _, _, _, _⟩, ⟨_, _, _, _, _, _⟩, ⟨_, _, _, _, _, _⟩, ⟨_, _, _, _, _, _⟩] rfl (by kernel_rfl) (by simp) _ _ ?_
          go_wp2_with (first
            | (go_at_call 17; refine Ret.calls (alive_s hS hK hF) ?_; clear hS; rintro r w ⟨rfl, hS⟩)
            | (show wpList _ _ _ (⟨_, .alloc 34, _, _, _, _⟩ :: _) _ _; refine wpS_alloc hS rfl rfl zero32b (zs := (List.replicate 32 (0 : Byte)).map B8) rfl ?_; clear hS; intro nb w hS; go_frame)
            | (show wpList _ _ _ (⟨_, .load 34 _, _, _, _, _⟩ :: _) _ _; refine wpList_val rfl (op_load agg32b rfl rfl ((hS.bring (by repeat (first | exact t0 | apply tS))).getBlk.cells) (by rw [List.length_map]; first | exact sum_len _ | exact twice_len _ | exact sumH_len _)) ?_; go_frame)
            | (show wpList _ _ _ (⟨_, .store 34 _ _, _, _, _, _⟩ :: _) _ _; (refine wpS_storeAll agg32b (hS.bring (by repeat (first | exact t0 | apply tS))) rfl rfl rfl (vs := List.map B8 _) rfl (by rw [List.length_map]; first | exact sum_len _ | exact twice_len _ | exact sumH_len _) (B8_one _) (by rw [List.length_map, List.length_replicate]) ?_); clear hS; intro w hS; go_frame)
            | (show wpList _ _ _ (⟨_, .slice 34 _ none none _, _, _, _, _⟩ :: _) _ _; refine wpList_val rfl (op_sliceArr arr32b rfl rfl (l := 0) (h := 32) (Or.inl ⟨rfl, rfl⟩) (Or.inl ⟨rfl, rfl⟩) (by omega) (by omega)) ?_; rw [if_neg (by omega)]; go_frame)
            | (show wpList _ _ _ (⟨some 105, .buildSlice _ 1 _, _, _, _, _⟩ :: _) _ _; refine wpS_build11 slPieces hS rfl rfl rfl hca ?_; clear hS; intro v2 w hS; go_frame)
            | (show wpList _ _ _ (⟨some 112, .buildSlice _ 1 _, _, _, _, _⟩ :: _) _ _; refine wpS_build11 slPieces hS rfl rfl rfl hcb ?_; clear hS; intro v2 w hS; go_frame)
            | (go_at_call 23; (first | (with_reducible refine Ret.calls (sum_arg1 hS hK hF ha HA.out) ?_) | (with_reducible refine Ret.calls (sum_arg1 hS hK hF hb HB.out) ?_)); clear hS; rintro r w ⟨rfl, hS⟩)
            | (show wpList _ _ _ (⟨_, .binOp .eql 34 _ _ _, _, _, _, _⟩ :: _) _ _; refine wpList_val rfl (op_eqHash rfl rfl rfl (sumH_len _) (by first | exact HS1.out | exact HS2.out)) ?_; go_frame)
            )
          refine segQ_mk ⟨((hS.bring (by repeat (first | exact t0 | apply tS))).getBlk), ((hS.bring (by repeat (first | exact t0 | apply tS))).getBlk)⟩ ?_
          refine ord_seg (by repeat (first | exact Clean.body | refine Clean.then ?_ | refine Clean.inBlock ?_ | refine SegQ.clean ?_ | refine FinC.clean ?_)) (n := 2) (rest := [[19, 20]]) [18] [⟨_, _, _, _, _, _⟩] rfl (by kernel_rfl) (by simp) _ _ ?_
          go_wp2_with (first
            | (go_at_call 17; refine Ret.calls (alive_s hS hK hF) ?_; clear hS; rintro r w ⟨rfl, hS⟩)
            | (show wpList _ _ _ (⟨_, .alloc 34, _, _, _, _⟩ :: _) _ _; refine wpS_alloc hS rfl rfl zero32b (zs := (List.replicate 32 (0 : Byte)).map B8) rfl ?_; clear hS; intro nb w hS; go_frame)
            | (show wpList _ _ _ (⟨_, .load 34 _, _, _, _, _⟩ :: _) _ _; refine wpList_val rfl (op_load agg32b rfl rfl ((hS.bring (by repeat (first | exact t0 | apply tS))).getBlk.cells) (by rw [List.length_map]; first | exact sum_len _ | exact twice_len _ | exact sumH_len _)) ?_; go_frame)
            | (show wpList _ _ _ (⟨_, .store 34 _ _, _, _, _, _⟩ :: _) _ _; (refine wpS_storeAll agg32b (hS.bring (by repeat (first | exact t0 | apply tS))) rfl rfl rfl (vs := List.map B8 _) rfl (by rw [List.length_map]; first | exact sum_len _ | exact twice_len _ | exact sumH_len _) (B8_one _) (by rw [List.length_map, List.length_replicate]) ?_); clear hS; intro w hS; go_frame)
            | (show wpList _ _ _ (⟨_, .slice 34 _ none none _, _, _, _, _⟩ :: _) _ _; refine wpList_val rfl (op_sliceArr arr32b rfl rfl (l := 0) (h := 32) (Or.inl ⟨rfl, rfl⟩) (Or.inl ⟨rfl, rfl⟩) (by omega) (by omega)) ?_; rw [if_neg (by omega)]; go_frame)
            | (show wpList _ _ _ (⟨some 105, .buildSlice _ 1 _, _, _, _, _⟩ :: _) _ _; refine wpS_build11 slPieces hS rfl rfl rfl hca ?_; clear hS; intro v2 w hS; go_frame)
            | (show wpList _ _ _ (⟨some 112, .buildSlice _ 1 _, _, _, _, _⟩ :: _) _ _; refine wpS_build11 slPieces hS rfl rfl rfl hcb ?_; clear hS; intro v2 w hS; go_frame)
            | (go_at_call 23; (first | (with_reducible refine Ret.calls (sum_arg1 hS hK hF ha HA.out) ?_) | (with_reducible refine Ret.calls (sum_arg1 hS hK hF hb HB.out) ?_)); clear hS; rintro r w ⟨rfl, hS⟩)
            | (show wpList _ _ _ (⟨_, .binOp .eql 34 _ _ _, _, _, _, _⟩ :: _) _ _; refine wpList_val rfl (op_eqHash rfl rfl rfl (sumH_len _) (by first | exact HS1.out | exact HS2.out)) ?_; go_frame)
            )
          refine segQ_mk ⟨((hS.bring (by repeat (first | exact t0 | apply tS))).getBlk), ((hS.bring (by repeat (first | exact t0 | apply tS))).getBlk)⟩ ?_
          refine ord_seg (by repeat (first | exact Clean.body | refine Clean.then ?_ | refine Clean.inBlock ?_ | refine SegQ.clean ?_ | refine FinC.clean ?_)) (n := 0) (rest := [[]]) [19, 20] [⟨_, _, _, _, _, _⟩, ⟨_, _, _, _, _, _⟩] rfl (by kernel_rfl) (by simp) _ _ ?_
          go_wp2_with (first
            | (go_at_call 17; refine Ret.calls (alive_s hS hK hF) ?_; clear hS; rintro r w ⟨rfl, hS⟩)
            | (show wpList _ _ _ (⟨_, .alloc 34, _, _, _, _⟩ :: _) _ _; refine wpS_alloc hS rfl rfl zero32b (zs := (List.replicate 32 (0 : Byte)).map B8) rfl ?_; clear hS; intro nb w hS; go_frame)
            | (show wpList _ _ _ (⟨_, .load 34 _, _, _, _, _⟩ :: _) _ _; refine wpList_val rfl (op_load agg32b rfl rfl ((hS.bring (by repeat (first | exact t0 | apply tS))).getBlk.cells) (by rw [List.length_map]; first | exact sum_len _ | exact twice_len _ | exact sumH_len _)) ?_; go_frame)
            | (show wpList _ _ _ (⟨_, .store 34 _ _, _, _, _, _⟩ :: _) _ _; (refine wpS_storeAll agg32b (hS.bring (by repeat (first | exact t0 | apply tS))) rfl rfl rfl (vs := List.map B8 _) rfl (by rw [List.length_map]; first | exact sum_len _ | exact twice_len _ | exact sumH_len _) (B8_one _) (by rw [List.length_map, List.length_replicate]) ?_); clear hS; intro w hS; go_frame)
            | (show wpList _ _ _ (⟨_, .slice 34 _ none none _, _, _, _, _⟩ :: _) _ _; refine wpList_val rfl (op_sliceArr arr32b rfl rfl (l := 0) (h := 32) (Or.inl ⟨rfl, rfl⟩) (Or.inl ⟨rfl, rfl⟩) (by omega) (by omega)) ?_; rw [if_neg (by omega)]; go_frame)
            | (show wpList _ _ _ (⟨some 105, .buildSlice _ 1 _, _, _, _, _⟩ :: _) _ _; refine wpS_build11 slPieces hS rfl rfl rfl hca ?_; clear hS; intro v2 w hS; go_frame)
            | (show wpList _ _ _ (⟨some 112, .buildSlice _ 1 _, _, _, _, _⟩ :: _) _ _; refine wpS_build11 slPieces hS rfl rfl rfl hcb ?_; clear hS; intro v2 w hS; go_frame)
            | (go_at_call 23; (first | (with_reducible refine Ret.calls (sum_arg1 hS hK hF ha HA.out) ?_) | (with_reducible refine Ret.calls (sum_arg1 hS hK hF hb HB.out) ?_)); clear hS; rintro r w ⟨rfl, hS⟩)
            | (show wpList _ _ _ (⟨_, .binOp .eql 34 _ _ _, _, _, _, _⟩ :: _) _ _; refine wpList_val rfl (op_eqHash rfl rfl rfl (sumH_len _) (by first | exact HS1.out | exact HS2.out)) ?_; go_frame)
            )
          refine segQ_mk ⟨((hS.bring (by repeat (first | exact t0 | apply tS))).getBlk), ((hS.bring (by repeat (first | exact t0 | apply tS))).getBlk)⟩ ?_
          refine finC_mk (by kernel_rfl) (by
            intro t ht
            simp only [List.mem_cons, List.not_mem_nil, or_false] at ht
            rcases ht with rfl | rfl
            · exact stab_blk (b := n10) (fun w h => h.1) _ none
            · exact stab_blk (b := n12) (fun w h => h.2) _ none) ?_
          go_wp2_with fail
          go_ret
          exact ⟨rfl, hS.chg⟩
    · go_enter Tryd.func5, Tryd.ntmps5
      go_wp2_with (first
        | (go_at_call 17; refine Ret.calls (alive_s hS hK hF) ?_; clear hS; rintro r w ⟨rfl, hS⟩)
        | (show wpList _ _ _ (⟨_, .alloc 34, _, _, _, _⟩ :: _) _ _; refine wpS_alloc hS rfl rfl zero32b (zs := (List.replicate 32 (0 : Byte)).map B8) rfl ?_; clear hS; intro nb w hS; go_frame)
        | (show wpList _ _ _ (⟨_, .load 34 _, _, _, _, _⟩ :: _) _ _; refine wpList_val rfl (op_load agg32b rfl rfl ((hS.bring (by repeat (first | exact t0 | apply tS))).getBlk.cells) (by rw [List.length_map]; first | exact sum_len _ | exact twice_len _ | exact sumH_len _)) ?_; go_frame)
        | (show wpList _ _ _ (⟨_, .store 34 _ _, _, _, _, _⟩ :: _) _ _; (refine wpS_storeAll agg32b (hS.bring (by repeat (first | exact t0 | apply tS))) rfl rfl rfl (vs := List.map B8 _) rfl (by rw [List.length_map]; first | exact sum_len _ | exact twice_len _ | exact sumH_len _) (B8_one _) (by rw [List.length_map, List.length_replicate]) ?_); clear hS; intro w hS; go_frame)
        | (show wpList _ _ _ (⟨_, .slice 34 _ none none _, _, _, _, _⟩ :: _) _ _; refine wpList_val rfl (op_sliceArr arr32b rfl rfl (l := 0) (h := 32) (Or.inl ⟨rfl, rfl⟩) (Or.inl ⟨rfl, rfl⟩) (by omega) (by omega)) ?_; rw [if_neg (by omega)]; go_frame)
        | (show wpList _ _ _ (⟨some 17, .call _, _, _, _, _⟩ :: _) _ _; refine wpList_val rfl (op_lenB slBytes rfl rfl rfl (hS.rd ha) HNA.out) ?_; go_frame)
        | (show wpList _ _ _ (⟨some 18, .binOp .gtr _ _ _ _, _, _, _, _⟩ :: _) _ _; refine wpList_val rfl (op_igtr rfl rfl rfl HDA.out) ?_; go_frame)
        | (show wpList _ _ _ (⟨some 21, .call _, _, _, _, _⟩ :: _) _ _; refine wpList_val rfl (op_lenB slBytes rfl rfl rfl (hS.rd hb) HNB.out) ?_; go_frame)
        | (show wpList _ _ _ (⟨some 22, .binOp .gtr _ _ _ _, _, _, _, _⟩ :: _) _ _; refine wpList_val rfl (op_igtr rfl rfl rfl HDB.out) ?_; go_frame)
        )
      go_ret
      exact ⟨rfl, hS.chg⟩
  · go_enter Tryd.func5, Tryd.ntmps5
    go_wp2_with (first
      | (go_at_call 17; refine Ret.calls (alive_s hS hK hF) ?_; clear hS; rintro r w ⟨rfl, hS⟩)
      | (show wpList _ _ _ (⟨_, .alloc 34, _, _, _, _⟩ :: _) _ _; refine wpS_alloc hS rfl rfl zero32b (zs := (List.replicate 32 (0 : Byte)).map B8) rfl ?_; clear hS; intro nb w hS; go_frame)
      | (show wpList _ _ _ (⟨_, .load 34 _, _, _, _, _⟩ :: _) _ _; refine wpList_val rfl (op_load agg32b rfl rfl ((hS.bring (by repeat (first | exact t0 | apply tS))).getBlk.cells) (by rw [List.length_map]; first | exact sum_len _ | exact twice_len _ | exact sumH_len _)) ?_; go_frame)
      | (show wpList _ _ _ (⟨_, .store 34 _ _, _, _, _, _⟩ :: _) _ _; (refine wpS_storeAll agg32b (hS.bring (by repeat (first | exact t0 | apply tS))) rfl rfl rfl (vs := List.map B8 _) rfl (by rw [List.length_map]; first | exact sum_len _ | exact twice_len _ | exact sumH_len _) (B8_one _) (by rw [List.length_map, List.length_replicate]) ?_); clear hS; intro w hS; go_frame)
      | (show wpList _ _ _ (⟨_, .slice 34 _ none none _, _, _, _, _⟩ :: _) _ _; refine wpList_val rfl (op_sliceArr arr32b rfl rfl (l := 0) (h := 32) (Or.inl ⟨rfl, rfl⟩) (Or.inl ⟨rfl, rfl⟩) (by omega) (by omega)) ?_; rw [if_neg (by omega)]; go_frame)
      | (show wpList _ _ _ (⟨some 17, .call _, _, _, _, _⟩ :: _) _ _; refine wpList_val rfl (op_lenB slBytes rfl rfl rfl (hS.rd ha) HNA.out) ?_; go_frame)
      | (show wpList _ _ _ (⟨some 18, .binOp .gtr _ _ _ _, _, _, _, _⟩ :: _) _ _; refine wpList_val rfl (op_igtr rfl rfl rfl HDA.out) ?_; go_frame)
      | (show wpList _ _ _ (⟨some 21, .call _, _, _, _, _⟩ :: _) _ _; refine wpList_val rfl (op_lenB slBytes rfl rfl rfl (hS.rd hb) HNB.out) ?_; go_frame)
      | (show wpList _ _ _ (⟨some 22, .binOp .gtr _ _ _ _, _, _, _, _⟩ :: _) _ _; refine wpList_val rfl (op_igtr rfl rfl rfl HDB.out) ?_; go_frame)
      )
    go_ret
    exact ⟨rfl, hS.chg⟩
end Go.Proofs.YtpdanieiafjmhaaDoor
