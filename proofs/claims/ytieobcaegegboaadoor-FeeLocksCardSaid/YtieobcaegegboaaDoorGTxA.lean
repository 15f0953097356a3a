/- Transactions in memory, and whether they have a form. Conditions: those that stand ahead of each theorem. -/
import Derived.Test.YtieobcaegegboaaDoorGSo
import Derived.Test.YtieobcaegegboaaDoorGSwA
import Derived.Test.YtieobcaegegboaaDoorGShaC
import Derived.Test.YtieobcaegegboaaDoorGCalcB
import Derived.Test.YtieobcaegegboaaDoorGShaB
namespace Go.Proofs.YtieobcaegegboaaDoor
open Go Go.RowKit Go.Px Go.Sha Go.Calc
abbrev N32 (n : Nat) : Value := .int .u32 (n : Int)
def ptC (x : PIn) : List Value := x.tx.map B8 ++ [N32 x.n]
def inC (p : PIn × Value) : List Value := p.1.tx.map B8 ++ [N32 p.1.n, p.2]
def outC (o : POut) : List Value := U o.value :: o.lock.map B8
/-- a transaction in memory: its inputs, each with the value that its key is, and where the inputs and the outputs are -/
structure MT where
  ver : Nat
  L : List (PIn × Value)
  outs : List POut
  iv : Value
  ov : Value
def MT.pt (m : MT) : PTx := ⟨m.ver, m.L.map (·.1), m.outs⟩
def txC (m : MT) : List Value := [N32 m.ver, m.iv, m.ov]
abbrev txV (m : MT) : Value := .agg #[N32 m.ver, m.iv, m.ov]
def IOk (p : PIn × Value) : Prop := p.1.tx.length = 32 ∧ p.1.n < 4294967296
def OOk (o : POut) : Prop := o.value < 18446744073709551616 ∧ o.lock.length = 32
structure OutsIn (R : Nat → Prop) (base : World) (v : Value) (l : List POut) : Prop where
  rd : RdIn R base 33 v (l.map outC)
  ok : ∀ o ∈ l, OOk o
structure TxIn (R : Nat → Prop) (base : World) (m : MT) : Prop where
  ins : RdIn R base 34 m.iv (m.L.map inC)
  key : ∀ p ∈ m.L, RdIn R base 1 p.2 (bytes p.1.key)
  iok : ∀ p ∈ m.L, IOk p
  outs : OutsIn R base m.ov m.outs
theorem OutsIn.mv {R R' : Nat → Prop} {base w : World} {v : Value} {l : List POut} (h : OutsIn R base v l) (f : ∀ n v xs, RdIn R base n v xs → RdIn R' w n v xs) : OutsIn R' w v l := ⟨f _ _ _ h.rd, h.ok⟩
theorem TxIn.mv {R R' : Nat → Prop} {base w : World} {m : MT} (h : TxIn R base m) (f : ∀ n v xs, RdIn R base n v xs → RdIn R' w n v xs) : TxIn R' w m :=
  ⟨f _ _ _ h.ins, fun p hp => f _ _ _ (h.key p hp), h.iok, h.outs.mv f⟩
theorem inC_len {p : PIn × Value} (h : IOk p) : (inC p).length = 34 := by simp [inC, h.1]
theorem outC_len {o : POut} (h : OOk o) : (outC o).length = 33 := by simp [outC, h.2]
theorem inC_key {p : PIn × Value} (h : IOk p) : (inC p)[33]? = some p.2 := by
  unfold inC
  rw [List.getElem?_append_right (by rw [List.length_map, h.1]; omega), List.length_map, h.1]
  rfl
theorem inC_pt {p : PIn × Value} (h : IOk p) : (inC p).take 33 = ptC p.1 := by
  unfold inC ptC
  rw [List.take_append, List.take_of_length_le (by rw [List.length_map, h.1]; omega), List.length_map, h.1]
  rfl
theorem ptC_len {p : PIn × Value} (h : IOk p) : (ptC p.1).length = 33 := by simp [ptC, h.1]
theorem outC_lock {o : POut} : ((outC o).drop 1).take 32 = (o.lock.map B8).take 32 := rfl
theorem inC_one {p : PIn × Value} (h : p.2.oneCell' = true) : ∀ v ∈ inC p, v.oneCell' = true := by
  intro v hv
  unfold inC at hv
  rw [List.mem_append] at hv
  rcases hv with hv | hv
  · exact flat_B8 _ v hv
  · simp only [List.mem_cons, List.not_mem_nil, or_false] at hv
    rcases hv with rfl | rfl
    · rfl
    · exact h
theorem outC_one (o : POut) : ∀ v ∈ outC o, v.oneCell' = true := by
  intro v hv
  unfold outC at hv
  rcases List.mem_cons.1 hv with rfl | hv
  · rfl
  · exact flat_B8 _ v hv
theorem slice_one {R : Nat → Prop} {base : World} {v : Value} {n : Nat} {xs : List (List Value)} (h : RdIn R base n v xs) : v.oneCell' = true ∧ v.cells = #[v] := by
  obtain ⟨A, c, rfl, _⟩ := h.rd.form
  exact ⟨rfl, rfl⟩
theorem rd_small {R : Nat → Prop} {base : World} {n : Nat} {v : Value} {xs : List (List Value)} (h : RdIn R base n v xs) : xs.length ≤ 9223372036854775807 := by
  obtain ⟨A, c, e, h2, h3, _⟩ := h.rd
  simp only [maxLen] at h3
  omega
set_option maxRecDepth 100000
theorem oneIns : One Tryd.prog 23 := One.of Tryd.underlying23 rfl (by kernel_rfl)
theorem oneOuts : One Tryd.prog 24 := One.of Tryd.underlying24 rfl (by kernel_rfl)
theorem aggTx : Agg Tryd.prog 26 3 := Agg.of Tryd.underlying26 rfl (by kernel_rfl)
theorem aggIn : Agg Tryd.prog 39 34 := Agg.of Tryd.underlying39 rfl (by kernel_rfl)
theorem aggOut : Agg Tryd.prog 60 33 := Agg.of Tryd.underlying60 rfl (by kernel_rfl)
theorem aggPt : Agg Tryd.prog 36 33 := Agg.of Tryd.underlying36 rfl (by kernel_rfl)
def zIn : List Value := List.replicate 32 (.int .u8 0) ++ [.int .u32 0, .slice none 0 0]
def zOut : List Value := .int .u64 0 :: List.replicate 32 (.int .u8 0)
theorem zeroIn (w : World) : (zeroValue 39).run Tryd.prog w = .ok (.agg zIn.toArray) w := by kernel_rfl
theorem zeroOut (w : World) : (zeroValue 60).run Tryd.prog w = .ok (.agg zOut.toArray) w := by kernel_rfl
theorem infoIn : (Tryd.prog.info? 39).map (fun i => (i.zero, i.size, i.bytes)) = some (some (.agg zIn.toArray), 34, 64) := by kernel_rfl
theorem slIns : SlTy Tryd.prog 23 39 34 64 where
  ty := by kernel_rfl
  info := by
    obtain ⟨i, h1, h2, h3, h4⟩ := info_parts infoIn
    refine ⟨i, _, h1, h2, h3, by simp [Value.cells, zIn], h4, ?_⟩
    intro v hv
    simp only [Value.cells, zIn, List.mem_append] at hv
    rcases hv with hv | hv
    · rw [List.eq_of_mem_replicate hv]; rfl
    · simp only [List.mem_cons, List.not_mem_nil, or_false] at hv
      rcases hv with rfl | rfl <;> rfl
  pos := by omega
theorem infoOut : (Tryd.prog.info? 60).map (fun i => (i.zero, i.size, i.bytes)) = some (some (.agg zOut.toArray), 33, 40) := by kernel_rfl
theorem slOuts : SlTy Tryd.prog 24 60 33 40 where
  ty := by kernel_rfl
  info := by
    obtain ⟨i, h1, h2, h3, h4⟩ := info_parts infoOut
    refine ⟨i, _, h1, h2, h3, by simp [Value.cells, zOut], h4, ?_⟩
    intro v hv
    simp only [Value.cells, zOut] at hv
    rcases List.mem_cons.1 hv with rfl | hv
    · rfl
    · rw [List.eq_of_mem_replicate hv]; rfl
  pos := by omega
/-! ### plain: what has a form -/
theorem form_bad {m : MT} {k : Nat} (hk : k < m.L.length) (h : ¬ m.L[k].1.key.length ≤ 64) : formB m.pt = false := by
  unfold formB MT.pt
  rw [Bool.and_eq_false_iff]
  left
  rw [List.all_eq_false]
  exact ⟨m.L[k].1, List.mem_map.2 ⟨_, List.getElem_mem hk, rfl⟩, by simpa using h⟩
theorem form_all {m : MT} (h : ∀ j (hj : j < m.L.length), m.L[j].1.key.length ≤ 64) : formB m.pt = (decide (m.L.length ≤ 8) && decide (m.outs.length ≤ 8)) := by
  unfold formB MT.pt
  have e : ((m.L.map (·.1)).all fun x => decide (x.key.length ≤ 64)) = true := by
    rw [List.all_eq_true]
    intro x hx
    obtain ⟨p, hp, rfl⟩ := List.mem_map.1 hx
    obtain ⟨j, hj, rfl⟩ := List.mem_iff_getElem.1 hp
    exact decide_eq_true (h j hj)
  rw [e, Bool.true_and, List.length_map]
theorem form_big {m : MT} (h : 8 < m.L.length ∨ 8 < m.outs.length) : formB m.pt = false := by
  unfold formB MT.pt
  rw [Bool.and_eq_false_iff]
  right
  rw [Bool.and_eq_false_iff, decide_eq_false_iff_not, decide_eq_false_iff_not, List.length_map]
  simp only
  omega
end Go.Proofs.YtieobcaegegboaaDoor
namespace Go.Proofs.YtieobcaegegboaaDoor
open Go Go.RowKit Go.Px Go.Sha Go.Calc
section
variable {R : Nat → Prop} {base w : World} {F : List Hp}
set_option maxRecDepth 100000 in
set_option maxHeartbeats 4000000 in
theorem form_s {m : MT} (hS : SepL R base w F) (ht : TxIn R base m) {b : Bool} (hb : Hid (formB m.pt = b)) :
    Calls Tryd.prog 41 #[txV m] w (Ret fun r w' => r = .bool b ∧ SepL R base w' F) := by
  obtain ⟨n, hn⟩ : ∃ n, m.L.length = n := ⟨_, rfl⟩
  obtain ⟨q, hq⟩ : ∃ q, m.outs.length = q := ⟨_, rfl⟩
  have HNL : Hid ((m.L.map inC).length = n) := by unfold Hid; rw [List.length_map, hn]
  have HNO : Hid ((m.outs.map outC).length = q) := by unfold Hid; rw [List.length_map, hq]
  have hsm := rd_small ht.ins
  rw [List.length_map, hn] at hsm
  have HRI := hide ht.ins
  have HRO := hide ht.outs.rd
  have HKEY := hide ht.key
  have HIOK := hide ht.iok
  go_enter Tryd.func41, Tryd.ntmps41
  go_wp2_with (first
    | (show wpList _ _ _ (⟨some 1, .box _ _, _, _, _, _⟩ :: _) _ _; refine wpS_boxA (cs := [N32 m.ver, m.iv, m.ov]) hS rfl rfl rfl ?_; clear hS; intro n1 w hS; go_frame)
    | (show wpList _ _ _ (⟨_, .load 23 _, _, _, _, _⟩ :: _) _ _; refine wpList_val rfl (op_load1S (b := n1) (T := 26) oneIns ((hS.bring (by repeat (first | exact t0 | apply tS)))) rfl rfl rfl) ?_; go_frame)
    | (show wpList _ _ _ (⟨_, .load 24 _, _, _, _, _⟩ :: _) _ _; refine wpList_val rfl (op_load1S (b := n1) (T := 26) oneOuts ((hS.bring (by repeat (first | exact t0 | apply tS)))) rfl rfl rfl) ?_; go_frame)
    | (show wpList _ _ _ (⟨some 7, .call _, _, _, _, _⟩ :: _) _ _; refine wpList_val rfl (op_len slIns rfl rfl (v := m.iv) (xs := m.L.map inC) rfl (by exact hS.rd HRI.out)) ?_; rw [HNL.out]; go_frame)
    )
  go_loopw [8] (fun iv wr => ∃ k : Nat, iv = .int .i64 k ∧ k ≤ n ∧ Hid (∀ j (hj : j < m.L.length), j < k → m.L[j].1.key.length ≤ 64) ∧ SepL R base wr (.blk n1 26 [N32 m.ver, m.iv, m.ov] :: F)) (fun iv _ => n - (intOf iv).toNat)
  case atStart => exact ⟨0, rfl, Nat.zero_le _, fun j _ h => absurd h (Nat.not_lt_zero _), hS⟩
  case round =>
    clear hS
    obtain ⟨k, rfl, hk, HA, hS⟩ := hrel
    by_cases hlt : k < n
    · have hkL : k < m.L.length := by omega
      have hkr : k < (m.L.map inC).length := by rw [List.length_map]; exact hkL
      obtain ⟨p, hp⟩ : ∃ p, m.L[k] = p := ⟨_, rfl⟩
      have hpm : p ∈ m.L := hp ▸ List.getElem_mem hkL
      have HX : Hid ((m.L.map inC)[k] = inC p) := by unfold Hid; rw [List.getElem_map, hp]
      have hok := HIOK.out p hpm
      have HK := hide (HKEY.out p hpm)
      have HXL : Hid ((inC p).length = 34) := inC_len hok
      have HX1 : Hid (∀ v ∈ inC p, v.oneCell' = true) := inC_one (slice_one HK.out).1
      have HX33 : Hid ((inC p)[33]? = some p.2) := inC_key hok
      obtain ⟨len, hlen⟩ : ∃ l, p.1.key.length = l := ⟨_, rfl⟩
      have HLEN := hide hlen
      clear hok hpm
      by_cases hg : 64 < len
      · have HG : Hid (decide ((64 : Int) < (len : Int)) = true) := decide_eq_true (by omega)
        have HBAD : Hid (b = false) := hb.out.symm.trans (form_bad hkL (by rw [hp, hlen]; omega))
        clear hp hlen
        go_wp2_with (first
          | (show wpList _ _ _ (⟨_, .indexAddr 23 _ _, _, _, _, _⟩ :: _) _ _; refine wpList_val rfl (op_indexAddr slIns rfl (v := m.iv) (xs := m.L.map inC) rfl (k := k) rfl (by exact hS.rd HRI.out) hkr) ?_; go_frame)
          | (show wpList _ _ _ (⟨_, .load 39 _, _, _, _, _⟩ :: _) _ _; refine wpList_val rfl (op_loadE aggIn rfl (v := m.iv) (xs := m.L.map inC) (k := k) rfl (by exact hS.rd HRI.out) hkr) ?_; rw [HX.out]; go_frame)
          | (show wpList _ _ _ (⟨_, .alloc 39, _, _, _, _⟩ :: _) _ _; refine wpS_alloc hS rfl rfl zeroIn (zs := zIn) rfl ?_; clear hS; intro nx w hS; go_frame)
          | (show wpList _ _ _ (⟨_, .store 39 _ _, _, _, _, _⟩ :: _) _ _; (refine wpS_storeAll (b := nx) aggIn (hS.bring (by repeat (first | exact t0 | apply tS))) rfl rfl rfl (vs := inC p) rfl HXL.out HX1.out rfl ?_); clear hS; intro w hS; go_frame)
          | (show wpList _ _ _ (⟨_, .load 37 _, _, _, _, _⟩ :: _) _ _; refine wpList_val rfl (op_load1S (b := nx) (T := 39) oneBytes ((hS.bring (by repeat (first | exact t0 | apply tS)))) rfl rfl HX33.out) ?_; go_frame)
          | (show wpList _ _ _ (⟨some 14, .call _, _, _, _, _⟩ :: _) _ _; refine wpList_val rfl (op_lenB slBytes rfl rfl rfl (by exact hS.rd HK.out) HLEN.out) ?_; go_frame)
          | (show wpList _ _ _ (⟨some 15, .binOp _ _ _ _ _, _, _, _, _⟩ :: _) _ _; refine wpList_val rfl (op_igtr rfl rfl rfl HG.out) ?_; go_frame)
          )
        go_ret
        exact ⟨by rw [HBAD.out]; rfl, hS.sel (by repeat (first | exact Sel.refl | refine Sel.take (by repeat (first | exact t0 | apply tS)) ?_ | apply Sel.drop))⟩
      · have HG : Hid (decide ((64 : Int) < (len : Int)) = false) := decide_eq_false (by omega)
        have HA2 : Hid (∀ j (hj : j < m.L.length), j < k + 1 → m.L[j].1.key.length ≤ 64) := fun j hj h => by
          by_cases e : j = k
          · subst e
            rw [hp, hlen]
            omega
          · exact HA.out j hj (by omega)
        clear hp hlen HA
        go_wp2_with (first
          | (show wpList _ _ _ (⟨_, .indexAddr 23 _ _, _, _, _, _⟩ :: _) _ _; refine wpList_val rfl (op_indexAddr slIns rfl (v := m.iv) (xs := m.L.map inC) rfl (k := k) rfl (by exact hS.rd HRI.out) hkr) ?_; go_frame)
          | (show wpList _ _ _ (⟨_, .load 39 _, _, _, _, _⟩ :: _) _ _; refine wpList_val rfl (op_loadE aggIn rfl (v := m.iv) (xs := m.L.map inC) (k := k) rfl (by exact hS.rd HRI.out) hkr) ?_; rw [HX.out]; go_frame)
          | (show wpList _ _ _ (⟨_, .alloc 39, _, _, _, _⟩ :: _) _ _; refine wpS_alloc hS rfl rfl zeroIn (zs := zIn) rfl ?_; clear hS; intro nx w hS; go_frame)
          | (show wpList _ _ _ (⟨_, .store 39 _ _, _, _, _, _⟩ :: _) _ _; (refine wpS_storeAll (b := nx) aggIn (hS.bring (by repeat (first | exact t0 | apply tS))) rfl rfl rfl (vs := inC p) rfl HXL.out HX1.out rfl ?_); clear hS; intro w hS; go_frame)
          | (show wpList _ _ _ (⟨_, .load 37 _, _, _, _, _⟩ :: _) _ _; refine wpList_val rfl (op_load1S (b := nx) (T := 39) oneBytes ((hS.bring (by repeat (first | exact t0 | apply tS)))) rfl rfl HX33.out) ?_; go_frame)
          | (show wpList _ _ _ (⟨some 14, .call _, _, _, _, _⟩ :: _) _ _; refine wpList_val rfl (op_lenB slBytes rfl rfl rfl (by exact hS.rd HK.out) HLEN.out) ?_; go_frame)
          | (show wpList _ _ _ (⟨some 15, .binOp _ _ _ _ _, _, _, _, _⟩ :: _) _ _; refine wpList_val rfl (op_igtr rfl rfl rfl HG.out) ?_; go_frame)
          )
        go_roundw
        case rel => exact ⟨k + 1, by go_num, hlt, HA2, hS.sel (by repeat (first | exact Sel.refl | refine Sel.take (by repeat (first | exact t0 | apply tS)) ?_ | apply Sel.drop))⟩
        case measure => simp [intOf]; omega
    · have hkn : k = n := by omega
      have e : formB m.pt = (decide (n ≤ 8) && decide (q ≤ 8)) := by
        rw [← hn, ← hq]
        exact form_all fun j hj => HA.out j hj (by omega)
      rw [e] at hb
      by_cases h1 : n ≤ 8
      · have H1 : Hid (decide ((n : Int) ≤ 8) = true) := decide_eq_true (by omega)
        have H2 : Hid (decide ((q : Int) ≤ 8) = b) := by
          rw [← hb.out, decide_eq_true h1, Bool.true_and]
          exact decide_eq_decide.2 (by omega)
        clear hb
        go_wp2_with (first
          | go_big_skip
          | (show wpList _ _ _ (⟨_, .load 23 _, _, _, _, _⟩ :: _) _ _; refine wpList_val rfl (op_load1S (b := n1) (T := 26) oneIns ((hS.bring (by repeat (first | exact t0 | apply tS)))) rfl rfl rfl) ?_; go_frame)
          | (show wpList _ _ _ (⟨_, .load 24 _, _, _, _, _⟩ :: _) _ _; refine wpList_val rfl (op_load1S (b := n1) (T := 26) oneOuts ((hS.bring (by repeat (first | exact t0 | apply tS)))) rfl rfl rfl) ?_; go_frame)
          | (show wpList _ _ _ (⟨some 19, .call _, _, _, _, _⟩ :: _) _ _; refine wpList_val rfl (op_len slIns rfl rfl (v := m.iv) (xs := m.L.map inC) rfl (by exact hS.rd HRI.out)) ?_; rw [HNL.out]; go_frame)
          | (show wpList _ _ _ (⟨some 24, .call _, _, _, _, _⟩ :: _) _ _; refine wpList_val rfl (op_len slOuts rfl rfl (v := m.ov) (xs := m.outs.map outC) rfl (by exact hS.rd HRO.out)) ?_; rw [HNO.out]; go_frame)
          | (show wpList _ _ _ (⟨some 20, .binOp _ _ _ _ _, _, _, _, _⟩ :: _) _ _; refine wpList_val rfl (op_ileq rfl rfl rfl H1.out) ?_; go_frame)
          | (show wpList _ _ _ (⟨some 25, .binOp _ _ _ _ _, _, _, _, _⟩ :: _) _ _; refine wpList_val rfl (op_ileq rfl rfl rfl H2.out) ?_; go_frame)
          )
        go_ret
        exact ⟨rfl, hS.sel (by repeat (first | exact Sel.refl | refine Sel.take (by repeat (first | exact t0 | apply tS)) ?_ | apply Sel.drop))⟩
      · have H1 : Hid (decide ((n : Int) ≤ 8) = false) := decide_eq_false (by omega)
        have e2 : false = b := by rw [← hb.out, decide_eq_false h1, Bool.false_and]
        subst e2
        clear hb
        go_wp2_with (first
          | go_big_skip
          | (show wpList _ _ _ (⟨_, .load 23 _, _, _, _, _⟩ :: _) _ _; refine wpList_val rfl (op_load1S (b := n1) (T := 26) oneIns ((hS.bring (by repeat (first | exact t0 | apply tS)))) rfl rfl rfl) ?_; go_frame)
          | (show wpList _ _ _ (⟨_, .load 24 _, _, _, _, _⟩ :: _) _ _; refine wpList_val rfl (op_load1S (b := n1) (T := 26) oneOuts ((hS.bring (by repeat (first | exact t0 | apply tS)))) rfl rfl rfl) ?_; go_frame)
          | (show wpList _ _ _ (⟨some 19, .call _, _, _, _, _⟩ :: _) _ _; refine wpList_val rfl (op_len slIns rfl rfl (v := m.iv) (xs := m.L.map inC) rfl (by exact hS.rd HRI.out)) ?_; rw [HNL.out]; go_frame)
          | (show wpList _ _ _ (⟨some 20, .binOp _ _ _ _ _, _, _, _, _⟩ :: _) _ _; refine wpList_val rfl (op_ileq rfl rfl rfl H1.out) ?_; go_frame)
          )
        go_ret
        exact ⟨rfl, hS.sel (by repeat (first | exact Sel.refl | refine Sel.take (by repeat (first | exact t0 | apply tS)) ?_ | apply Sel.drop))⟩
set_option maxRecDepth 100000 in
set_option maxHeartbeats 4000000 in
theorem rform_s {m : MT} (hS : SepL R base w F) (ht : TxIn R base m) {b : Bool} (hb : Hid (formB m.pt = b)) :
    Calls Tryd.prog 44 #[txV m] w (Ret fun r w' => r = .bool b ∧ SepL R base w' F) := by
  obtain ⟨n, hn⟩ : ∃ n, m.L.length = n := ⟨_, rfl⟩
  obtain ⟨q, hq⟩ : ∃ q, m.outs.length = q := ⟨_, rfl⟩
  have HNL : Hid ((m.L.map inC).length = n) := by unfold Hid; rw [List.length_map, hn]
  have HNO : Hid ((m.outs.map outC).length = q) := by unfold Hid; rw [List.length_map, hq]
  have hsm := rd_small ht.ins
  rw [List.length_map, hn] at hsm
  have HRI := hide ht.ins
  have HRO := hide ht.outs.rd
  have HKEY := hide ht.key
  have HIOK := hide ht.iok
  by_cases h1 : 8 < n
  · have H1 : Hid (decide ((8 : Int) < (n : Int)) = true) := decide_eq_true (by omega)
    have e : false = b := (form_big (.inl (by omega))).symm.trans hb.out
    subst e
    clear hb hn hq
    go_enter Tryd.func44, Tryd.ntmps44
    go_wp2_with (first
      | go_big_skip
      | (show wpList _ _ _ (⟨some 1, .box _ _, _, _, _, _⟩ :: _) _ _; refine wpS_boxA (cs := [N32 m.ver, m.iv, m.ov]) hS rfl rfl rfl ?_; clear hS; intro n1 w hS; go_frame)
      | (show wpList _ _ _ (⟨_, .load 23 _, _, _, _, _⟩ :: _) _ _; refine wpList_val rfl (op_load1S (b := n1) (T := 26) oneIns ((hS.bring (by repeat (first | exact t0 | apply tS)))) rfl rfl rfl) ?_; go_frame)
      | (show wpList _ _ _ (⟨_, .load 24 _, _, _, _, _⟩ :: _) _ _; refine wpList_val rfl (op_load1S (b := n1) (T := 26) oneOuts ((hS.bring (by repeat (first | exact t0 | apply tS)))) rfl rfl rfl) ?_; go_frame)
      | (show wpList _ _ _ (⟨some 7, .call _, _, _, _, _⟩ :: _) _ _; refine wpList_val rfl (op_len slIns rfl rfl (v := m.iv) (xs := m.L.map inC) rfl (by exact hS.rd HRI.out)) ?_; rw [HNL.out]; go_frame)
      | (show wpList _ _ _ (⟨some 8, .binOp _ _ _ _ _, _, _, _, _⟩ :: _) _ _; refine wpList_val rfl (op_igtr rfl rfl rfl H1.out) ?_; go_frame)
      )
    go_ret
    exact ⟨rfl, hS.sel (by repeat (first | exact Sel.refl | refine Sel.take (by repeat (first | exact t0 | apply tS)) ?_ | apply Sel.drop))⟩
  have H1 : Hid (decide ((8 : Int) < (n : Int)) = false) := decide_eq_false (by omega)
  by_cases h2 : 8 < q
  · have H2 : Hid (decide ((8 : Int) < (q : Int)) = true) := decide_eq_true (by omega)
    have e : false = b := (form_big (.inr (by omega))).symm.trans hb.out
    subst e
    clear hb hn hq
    go_enter Tryd.func44, Tryd.ntmps44
    go_wp2_with (first
      | go_big_skip
      | (show wpList _ _ _ (⟨some 1, .box _ _, _, _, _, _⟩ :: _) _ _; refine wpS_boxA (cs := [N32 m.ver, m.iv, m.ov]) hS rfl rfl rfl ?_; clear hS; intro n1 w hS; go_frame)
      | (show wpList _ _ _ (⟨_, .load 23 _, _, _, _, _⟩ :: _) _ _; refine wpList_val rfl (op_load1S (b := n1) (T := 26) oneIns ((hS.bring (by repeat (first | exact t0 | apply tS)))) rfl rfl rfl) ?_; go_frame)
      | (show wpList _ _ _ (⟨_, .load 24 _, _, _, _, _⟩ :: _) _ _; refine wpList_val rfl (op_load1S (b := n1) (T := 26) oneOuts ((hS.bring (by repeat (first | exact t0 | apply tS)))) rfl rfl rfl) ?_; go_frame)
      | (show wpList _ _ _ (⟨some 7, .call _, _, _, _, _⟩ :: _) _ _; refine wpList_val rfl (op_len slIns rfl rfl (v := m.iv) (xs := m.L.map inC) rfl (by exact hS.rd HRI.out)) ?_; rw [HNL.out]; go_frame)
      | (show wpList _ _ _ (⟨some 12, .call _, _, _, _, _⟩ :: _) _ _; refine wpList_val rfl (op_len slOuts rfl rfl (v := m.ov) (xs := m.outs.map outC) rfl (by exact hS.rd HRO.out)) ?_; rw [HNO.out]; go_frame)
      | (show wpList _ _ _ (⟨some 8, .binOp _ _ _ _ _, _, _, _, _⟩ :: _) _ _; refine wpList_val rfl (op_igtr rfl rfl rfl H1.out) ?_; go_frame)
      | (show wpList _ _ _ (⟨some 13, .binOp _ _ _ _ _, _, _, _, _⟩ :: _) _ _; refine wpList_val rfl (op_igtr rfl rfl rfl H2.out) ?_; go_frame)
      )
    go_ret
    exact ⟨rfl, hS.sel (by repeat (first | exact Sel.refl | refine Sel.take (by repeat (first | exact t0 | apply tS)) ?_ | apply Sel.drop))⟩
  have H2 : Hid (decide ((8 : Int) < (q : Int)) = false) := decide_eq_false (by omega)
  go_enter Tryd.func44, Tryd.ntmps44
  go_wp2_with (first
    | go_big_skip
    | (show wpList _ _ _ (⟨some 1, .box _ _, _, _, _, _⟩ :: _) _ _; refine wpS_boxA (cs := [N32 m.ver, m.iv, m.ov]) hS rfl rfl rfl ?_; clear hS; intro n1 w hS; go_frame)
    | (show wpList _ _ _ (⟨_, .load 23 _, _, _, _, _⟩ :: _) _ _; refine wpList_val rfl (op_load1S (b := n1) (T := 26) oneIns ((hS.bring (by repeat (first | exact t0 | apply tS)))) rfl rfl rfl) ?_; go_frame)
    | (show wpList _ _ _ (⟨_, .load 24 _, _, _, _, _⟩ :: _) _ _; refine wpList_val rfl (op_load1S (b := n1) (T := 26) oneOuts ((hS.bring (by repeat (first | exact t0 | apply tS)))) rfl rfl rfl) ?_; go_frame)
    | (show wpList _ _ _ (⟨some 7, .call _, _, _, _, _⟩ :: _) _ _; refine wpList_val rfl (op_len slIns rfl rfl (v := m.iv) (xs := m.L.map inC) rfl (by exact hS.rd HRI.out)) ?_; rw [HNL.out]; go_frame)
    | (show wpList _ _ _ (⟨some 17, .call _, _, _, _, _⟩ :: _) _ _; refine wpList_val rfl (op_len slIns rfl rfl (v := m.iv) (xs := m.L.map inC) rfl (by exact hS.rd HRI.out)) ?_; rw [HNL.out]; go_frame)
    | (show wpList _ _ _ (⟨some 12, .call _, _, _, _, _⟩ :: _) _ _; refine wpList_val rfl (op_len slOuts rfl rfl (v := m.ov) (xs := m.outs.map outC) rfl (by exact hS.rd HRO.out)) ?_; rw [HNO.out]; go_frame)
    | (show wpList _ _ _ (⟨some 8, .binOp _ _ _ _ _, _, _, _, _⟩ :: _) _ _; refine wpList_val rfl (op_igtr rfl rfl rfl H1.out) ?_; go_frame)
    | (show wpList _ _ _ (⟨some 13, .binOp _ _ _ _ _, _, _, _, _⟩ :: _) _ _; refine wpList_val rfl (op_igtr rfl rfl rfl H2.out) ?_; go_frame)
    )
  go_loopw [18] (fun iv wr => ∃ k : Nat, iv = .int .i64 k ∧ k ≤ n ∧ Hid (∀ j (hj : j < m.L.length), j < k → m.L[j].1.key.length ≤ 64) ∧ SepL R base wr (.blk n1 26 [N32 m.ver, m.iv, m.ov] :: F)) (fun iv _ => n - (intOf iv).toNat)
  case atStart => exact ⟨0, rfl, Nat.zero_le _, fun j _ h => absurd h (Nat.not_lt_zero _), hS⟩
  case round =>
    clear hS
    obtain ⟨k, rfl, hk, HA, hS⟩ := hrel
    by_cases hlt : k < n
    · have hkL : k < m.L.length := by omega
      have hkr : k < (m.L.map inC).length := by rw [List.length_map]; exact hkL
      obtain ⟨p, hp⟩ : ∃ p, m.L[k] = p := ⟨_, rfl⟩
      have hpm : p ∈ m.L := hp ▸ List.getElem_mem hkL
      have HX : Hid ((m.L.map inC)[k] = inC p) := by unfold Hid; rw [List.getElem_map, hp]
      have hok := HIOK.out p hpm
      have HK := hide (HKEY.out p hpm)
      have HXL : Hid ((inC p).length = 34) := inC_len hok
      have HX1 : Hid (∀ v ∈ inC p, v.oneCell' = true) := inC_one (slice_one HK.out).1
      have HX33 : Hid ((inC p)[33]? = some p.2) := inC_key hok
      obtain ⟨len, hlen⟩ : ∃ l, p.1.key.length = l := ⟨_, rfl⟩
      have HLEN := hide hlen
      clear hok hpm
      by_cases hg : 64 < len
      · have HG : Hid (decide ((64 : Int) < (len : Int)) = true) := decide_eq_true (by omega)
        have HBAD : Hid (b = false) := hb.out.symm.trans (form_bad hkL (by rw [hp, hlen]; omega))
        clear hp hlen
        go_wp2_with (first
          | (show wpList _ _ _ (⟨_, .indexAddr 23 _ _, _, _, _, _⟩ :: _) _ _; refine wpList_val rfl (op_indexAddr slIns rfl (v := m.iv) (xs := m.L.map inC) rfl (k := k) rfl (by exact hS.rd HRI.out) hkr) ?_; go_frame)
          | (show wpList _ _ _ (⟨_, .load 39 _, _, _, _, _⟩ :: _) _ _; refine wpList_val rfl (op_loadE aggIn rfl (v := m.iv) (xs := m.L.map inC) (k := k) rfl (by exact hS.rd HRI.out) hkr) ?_; rw [HX.out]; go_frame)
          | (show wpList _ _ _ (⟨_, .alloc 39, _, _, _, _⟩ :: _) _ _; refine wpS_alloc hS rfl rfl zeroIn (zs := zIn) rfl ?_; clear hS; intro nx w hS; go_frame)
          | (show wpList _ _ _ (⟨_, .store 39 _ _, _, _, _, _⟩ :: _) _ _; (refine wpS_storeAll (b := nx) aggIn (hS.bring (by repeat (first | exact t0 | apply tS))) rfl rfl rfl (vs := inC p) rfl HXL.out HX1.out rfl ?_); clear hS; intro w hS; go_frame)
          | (show wpList _ _ _ (⟨_, .load 37 _, _, _, _, _⟩ :: _) _ _; refine wpList_val rfl (op_load1S (b := nx) (T := 39) oneBytes ((hS.bring (by repeat (first | exact t0 | apply tS)))) rfl rfl HX33.out) ?_; go_frame)
          | (show wpList _ _ _ (⟨some 24, .call _, _, _, _, _⟩ :: _) _ _; refine wpList_val rfl (op_lenB slBytes rfl rfl rfl (by exact hS.rd HK.out) HLEN.out) ?_; go_frame)
          | (show wpList _ _ _ (⟨some 25, .binOp _ _ _ _ _, _, _, _, _⟩ :: _) _ _; refine wpList_val rfl (op_igtr rfl rfl rfl HG.out) ?_; go_frame)
          )
        go_ret
        exact ⟨by rw [HBAD.out]; rfl, hS.sel (by repeat (first | exact Sel.refl | refine Sel.take (by repeat (first | exact t0 | apply tS)) ?_ | apply Sel.drop))⟩
      · have HG : Hid (decide ((64 : Int) < (len : Int)) = false) := decide_eq_false (by omega)
        have HA2 : Hid (∀ j (hj : j < m.L.length), j < k + 1 → m.L[j].1.key.length ≤ 64) := fun j hj h => by
          by_cases e : j = k
          · subst e
            rw [hp, hlen]
            omega
          · exact HA.out j hj (by omega)
        clear hp hlen HA
        go_wp2_with (first
          | (show wpList _ _ _ (⟨_, .indexAddr 23 _ _, _, _, _, _⟩ :: _) _ _; refine wpList_val rfl (op_indexAddr slIns rfl (v := m.iv) (xs := m.L.map inC) rfl (k := k) rfl (by exact hS.rd HRI.out) hkr) ?_; go_frame)
          | (show wpList _ _ _ (⟨_, .load 39 _, _, _, _, _⟩ :: _) _ _; refine wpList_val rfl (op_loadE aggIn rfl (v := m.iv) (xs := m.L.map inC) (k := k) rfl (by exact hS.rd HRI.out) hkr) ?_; rw [HX.out]; go_frame)
          | (show wpList _ _ _ (⟨_, .alloc 39, _, _, _, _⟩ :: _) _ _; refine wpS_alloc hS rfl rfl zeroIn (zs := zIn) rfl ?_; clear hS; intro nx w hS; go_frame)
          | (show wpList _ _ _ (⟨_, .store 39 _ _, _, _, _, _⟩ :: _) _ _; (refine wpS_storeAll (b := nx) aggIn (hS.bring (by repeat (first | exact t0 | apply tS))) rfl rfl rfl (vs := inC p) rfl HXL.out HX1.out rfl ?_); clear hS; intro w hS; go_frame)
          | (show wpList _ _ _ (⟨_, .load 37 _, _, _, _, _⟩ :: _) _ _; refine wpList_val rfl (op_load1S (b := nx) (T := 39) oneBytes ((hS.bring (by repeat (first | exact t0 | apply tS)))) rfl rfl HX33.out) ?_; go_frame)
          | (show wpList _ _ _ (⟨some 24, .call _, _, _, _, _⟩ :: _) _ _; refine wpList_val rfl (op_lenB slBytes rfl rfl rfl (by exact hS.rd HK.out) HLEN.out) ?_; go_frame)
          | (show wpList _ _ _ (⟨some 25, .binOp _ _ _ _ _, _, _, _, _⟩ :: _) _ _; refine wpList_val rfl (op_igtr rfl rfl rfl HG.out) ?_; go_frame)
          )
        go_roundw
        case rel => exact ⟨k + 1, by go_num, hlt, HA2, hS.sel (by repeat (first | exact Sel.refl | refine Sel.take (by repeat (first | exact t0 | apply tS)) ?_ | apply Sel.drop))⟩
        case measure => simp [intOf]; omega
    · have hkn : k = n := by omega
      have e : formB m.pt = true := by
        rw [form_all fun j hj => HA.out j hj (by omega), decide_eq_true (by omega), decide_eq_true (by omega), Bool.true_and]
      have e2 : true = b := e.symm.trans hb.out
      subst e2
      go_wp2_with fail
      go_ret
      exact ⟨rfl, hS.sel (by repeat (first | exact Sel.refl | refine Sel.take (by repeat (first | exact t0 | apply tS)) ?_ | apply Sel.drop))⟩
/-- is a transaction greater than is looked at -/
def greatB (t : PTx) (k : Nat) : Bool := decide (100 < t.ins.length) || decide (100 < t.outs.length) || decide (100 < k) || (t.ins.any fun x => decide (1000 < x.key.length))
theorem great_bad {m : MT} {j k : Nat} (hk : k < m.L.length) (h : 1000 < m.L[k].1.key.length) : greatB m.pt j = true := by
  unfold greatB MT.pt
  rw [Bool.or_eq_true]
  right
  rw [List.any_eq_true]
  exact ⟨m.L[k].1, List.mem_map.2 ⟨_, List.getElem_mem hk, rfl⟩, decide_eq_true h⟩
theorem great_all {m : MT} {j : Nat} (h0 : ¬ 100 < m.L.length) (h1 : ¬ 100 < m.outs.length) (h2 : ¬ 100 < j) (h : ∀ j (hj : j < m.L.length), m.L[j].1.key.length ≤ 1000) : greatB m.pt j = false := by
  unfold greatB MT.pt
  rw [Bool.or_eq_false_iff, Bool.or_eq_false_iff, Bool.or_eq_false_iff, List.length_map]
  refine ⟨⟨⟨decide_eq_false h0, decide_eq_false h1⟩, decide_eq_false h2⟩, ?_⟩
  rw [List.any_eq_false]
  intro x hx
  obtain ⟨p, hp, rfl⟩ := List.mem_map.1 hx
  obtain ⟨i, hi, rfl⟩ := List.mem_iff_getElem.1 hp
  have := h i hi
  simpa using this
theorem great_big {m : MT} {j : Nat} (h : 100 < m.L.length ∨ 100 < m.outs.length ∨ 100 < j) : greatB m.pt j = true := by
  unfold greatB MT.pt
  rw [Bool.or_eq_true, Bool.or_eq_true, Bool.or_eq_true, List.length_map, decide_eq_true_eq, decide_eq_true_eq, decide_eq_true_eq]
  left
  show (100 < m.L.length ∨ 100 < m.outs.length) ∨ 100 < j
  omega
set_option maxRecDepth 100000 in
set_option maxHeartbeats 4000000 in
theorem great_s {m : MT} {pv : Value} {prev : List POut} (hS : SepL R base w F) (ht : TxIn R base m) (hpv : RdIn R base 33 pv (prev.map outC)) {b : Bool} (hb : Hid (greatB m.pt prev.length = b)) :
    Calls Tryd.prog 12 #[txV m, pv] w (Ret fun r w' => r = .bool b ∧ SepL R base w' F) := by
  obtain ⟨n, hn⟩ : ∃ n, m.L.length = n := ⟨_, rfl⟩
  obtain ⟨q, hq⟩ : ∃ q, m.outs.length = q := ⟨_, rfl⟩
  have HNL : Hid ((m.L.map inC).length = n) := by unfold Hid; rw [List.length_map, hn]
  have HNO : Hid ((m.outs.map outC).length = q) := by unfold Hid; rw [List.length_map, hq]
  have hsm := rd_small ht.ins
  rw [List.length_map, hn] at hsm
  have HRI := hide ht.ins
  have HRO := hide ht.outs.rd
  have HKEY := hide ht.key
  have HIOK := hide ht.iok
  obtain ⟨z, hz⟩ : ∃ z, prev.length = z := ⟨_, rfl⟩
  have HNP : Hid ((prev.map outC).length = z) := by unfold Hid; rw [List.length_map, hz]
  have HRP := hide hpv
  rw [hz] at hb
  by_cases h1 : 100 < n
  · have H1 : Hid (decide ((100 : Int) < (n : Int)) = true) := decide_eq_true (by omega)
    have e : true = b := (great_big (.inl (by omega))).symm.trans hb.out
    subst e
    clear hb hn hq hz
    go_enter Tryd.func12, Tryd.ntmps12
    go_wp2_with (first
      | go_big_skip
      | (show wpList _ _ _ (⟨some 2, .box _ _, _, _, _, _⟩ :: _) _ _; refine wpS_boxA (cs := [N32 m.ver, m.iv, m.ov]) hS rfl rfl rfl ?_; clear hS; intro n1 w hS; go_frame)
      | (show wpList _ _ _ (⟨_, .load 23 _, _, _, _, _⟩ :: _) _ _; refine wpList_val rfl (op_load1S (b := n1) (T := 26) oneIns ((hS.bring (by repeat (first | exact t0 | apply tS)))) rfl rfl rfl) ?_; go_frame)
      | (show wpList _ _ _ (⟨_, .load 24 _, _, _, _, _⟩ :: _) _ _; refine wpList_val rfl (op_load1S (b := n1) (T := 26) oneOuts ((hS.bring (by repeat (first | exact t0 | apply tS)))) rfl rfl rfl) ?_; go_frame)
      | (show wpList _ _ _ (⟨some 9, .call _, _, _, _, _⟩ :: _) _ _; refine wpList_val rfl (op_len slIns rfl rfl (v := m.iv) (xs := m.L.map inC) rfl (by exact hS.rd HRI.out)) ?_; rw [HNL.out]; go_frame)
      | (show wpList _ _ _ (⟨some 14, .call _, _, _, _, _⟩ :: _) _ _; refine wpList_val rfl (op_len slOuts rfl rfl (v := m.ov) (xs := m.outs.map outC) rfl (by exact hS.rd HRO.out)) ?_; rw [HNO.out]; go_frame)
      | (show wpList _ _ _ (⟨some 19, .call _, _, _, _, _⟩ :: _) _ _; refine wpList_val rfl (op_len slOuts rfl rfl (v := pv) (xs := prev.map outC) rfl (by exact hS.rd HRP.out)) ?_; rw [HNP.out]; go_frame)
      | (show wpList _ _ _ (⟨some 10, .binOp _ _ _ _ _, _, _, _, _⟩ :: _) _ _; refine wpList_val rfl (op_igtr rfl rfl rfl H1.out) ?_; go_frame)
      )
    go_ret
    exact ⟨rfl, hS.sel (by repeat (first | exact Sel.refl | refine Sel.take (by repeat (first | exact t0 | apply tS)) ?_ | apply Sel.drop))⟩
  have H1 : Hid (decide ((100 : Int) < (n : Int)) = false) := decide_eq_false (by omega)
  by_cases h2 : 100 < q
  · have H2 : Hid (decide ((100 : Int) < (q : Int)) = true) := decide_eq_true (by omega)
    have e : true = b := (great_big (.inr (.inl (by omega)))).symm.trans hb.out
    subst e
    clear hb hn hq hz
    go_enter Tryd.func12, Tryd.ntmps12
    go_wp2_with (first
      | go_big_skip
      | (show wpList _ _ _ (⟨some 2, .box _ _, _, _, _, _⟩ :: _) _ _; refine wpS_boxA (cs := [N32 m.ver, m.iv, m.ov]) hS rfl rfl rfl ?_; clear hS; intro n1 w hS; go_frame)
      | (show wpList _ _ _ (⟨_, .load 23 _, _, _, _, _⟩ :: _) _ _; refine wpList_val rfl (op_load1S (b := n1) (T := 26) oneIns ((hS.bring (by repeat (first | exact t0 | apply tS)))) rfl rfl rfl) ?_; go_frame)
      | (show wpList _ _ _ (⟨_, .load 24 _, _, _, _, _⟩ :: _) _ _; refine wpList_val rfl (op_load1S (b := n1) (T := 26) oneOuts ((hS.bring (by repeat (first | exact t0 | apply tS)))) rfl rfl rfl) ?_; go_frame)
      | (show wpList _ _ _ (⟨some 9, .call _, _, _, _, _⟩ :: _) _ _; refine wpList_val rfl (op_len slIns rfl rfl (v := m.iv) (xs := m.L.map inC) rfl (by exact hS.rd HRI.out)) ?_; rw [HNL.out]; go_frame)
      | (show wpList _ _ _ (⟨some 14, .call _, _, _, _, _⟩ :: _) _ _; refine wpList_val rfl (op_len slOuts rfl rfl (v := m.ov) (xs := m.outs.map outC) rfl (by exact hS.rd HRO.out)) ?_; rw [HNO.out]; go_frame)
      | (show wpList _ _ _ (⟨some 19, .call _, _, _, _, _⟩ :: _) _ _; refine wpList_val rfl (op_len slOuts rfl rfl (v := pv) (xs := prev.map outC) rfl (by exact hS.rd HRP.out)) ?_; rw [HNP.out]; go_frame)
      | (show wpList _ _ _ (⟨some 10, .binOp _ _ _ _ _, _, _, _, _⟩ :: _) _ _; refine wpList_val rfl (op_igtr rfl rfl rfl H1.out) ?_; go_frame)
      | (show wpList _ _ _ (⟨some 15, .binOp _ _ _ _ _, _, _, _, _⟩ :: _) _ _; refine wpList_val rfl (op_igtr rfl rfl rfl H2.out) ?_; go_frame)
      )
    go_ret
    exact ⟨rfl, hS.sel (by repeat (first | exact Sel.refl | refine Sel.take (by repeat (first | exact t0 | apply tS)) ?_ | apply Sel.drop))⟩
  have H2 : Hid (decide ((100 : Int) < (q : Int)) = false) := decide_eq_false (by omega)
  by_cases h3 : 100 < z
  · have H3 : Hid (decide ((100 : Int) < (z : Int)) = true) := decide_eq_true (by omega)
    have e : true = b := (great_big (.inr (.inr (by omega)))).symm.trans hb.out
    subst e
    clear hb hn hq hz
    go_enter Tryd.func12, Tryd.ntmps12
    go_wp2_with (first
      | go_big_skip
      | (show wpList _ _ _ (⟨some 2, .box _ _, _, _, _, _⟩ :: _) _ _; refine wpS_boxA (cs := [N32 m.ver, m.iv, m.ov]) hS rfl rfl rfl ?_; clear hS; intro n1 w hS; go_frame)
      | (show wpList _ _ _ (⟨_, .load 23 _, _, _, _, _⟩ :: _) _ _; refine wpList_val rfl (op_load1S (b := n1) (T := 26) oneIns ((hS.bring (by repeat (first | exact t0 | apply tS)))) rfl rfl rfl) ?_; go_frame)
      | (show wpList _ _ _ (⟨_, .load 24 _, _, _, _, _⟩ :: _) _ _; refine wpList_val rfl (op_load1S (b := n1) (T := 26) oneOuts ((hS.bring (by repeat (first | exact t0 | apply tS)))) rfl rfl rfl) ?_; go_frame)
      | (show wpList _ _ _ (⟨some 9, .call _, _, _, _, _⟩ :: _) _ _; refine wpList_val rfl (op_len slIns rfl rfl (v := m.iv) (xs := m.L.map inC) rfl (by exact hS.rd HRI.out)) ?_; rw [HNL.out]; go_frame)
      | (show wpList _ _ _ (⟨some 14, .call _, _, _, _, _⟩ :: _) _ _; refine wpList_val rfl (op_len slOuts rfl rfl (v := m.ov) (xs := m.outs.map outC) rfl (by exact hS.rd HRO.out)) ?_; rw [HNO.out]; go_frame)
      | (show wpList _ _ _ (⟨some 19, .call _, _, _, _, _⟩ :: _) _ _; refine wpList_val rfl (op_len slOuts rfl rfl (v := pv) (xs := prev.map outC) rfl (by exact hS.rd HRP.out)) ?_; rw [HNP.out]; go_frame)
      | (show wpList _ _ _ (⟨some 10, .binOp _ _ _ _ _, _, _, _, _⟩ :: _) _ _; refine wpList_val rfl (op_igtr rfl rfl rfl H1.out) ?_; go_frame)
      | (show wpList _ _ _ (⟨some 15, .binOp _ _ _ _ _, _, _, _, _⟩ :: _) _ _; refine wpList_val rfl (op_igtr rfl rfl rfl H2.out) ?_; go_frame)
      | (show wpList _ _ _ (⟨some 20, .binOp _ _ _ _ _, _, _, _, _⟩ :: _) _ _; refine wpList_val rfl (op_igtr rfl rfl rfl H3.out) ?_; go_frame)
      )
    go_ret
    exact ⟨rfl, hS.sel (by repeat (first | exact Sel.refl | refine Sel.take (by repeat (first | exact t0 | apply tS)) ?_ | apply Sel.drop))⟩
  have H3 : Hid (decide ((100 : Int) < (z : Int)) = false) := decide_eq_false (by omega)
  go_enter Tryd.func12, Tryd.ntmps12
  go_wp2_with (first
    | go_big_skip
    | (show wpList _ _ _ (⟨some 2, .box _ _, _, _, _, _⟩ :: _) _ _; refine wpS_boxA (cs := [N32 m.ver, m.iv, m.ov]) hS rfl rfl rfl ?_; clear hS; intro n1 w hS; go_frame)
    | (show wpList _ _ _ (⟨_, .load 23 _, _, _, _, _⟩ :: _) _ _; refine wpList_val rfl (op_load1S (b := n1) (T := 26) oneIns ((hS.bring (by repeat (first | exact t0 | apply tS)))) rfl rfl rfl) ?_; go_frame)
    | (show wpList _ _ _ (⟨_, .load 24 _, _, _, _, _⟩ :: _) _ _; refine wpList_val rfl (op_load1S (b := n1) (T := 26) oneOuts ((hS.bring (by repeat (first | exact t0 | apply tS)))) rfl rfl rfl) ?_; go_frame)
    | (show wpList _ _ _ (⟨some 9, .call _, _, _, _, _⟩ :: _) _ _; refine wpList_val rfl (op_len slIns rfl rfl (v := m.iv) (xs := m.L.map inC) rfl (by exact hS.rd HRI.out)) ?_; rw [HNL.out]; go_frame)
    | (show wpList _ _ _ (⟨some 24, .call _, _, _, _, _⟩ :: _) _ _; refine wpList_val rfl (op_len slIns rfl rfl (v := m.iv) (xs := m.L.map inC) rfl (by exact hS.rd HRI.out)) ?_; rw [HNL.out]; go_frame)
    | (show wpList _ _ _ (⟨some 14, .call _, _, _, _, _⟩ :: _) _ _; refine wpList_val rfl (op_len slOuts rfl rfl (v := m.ov) (xs := m.outs.map outC) rfl (by exact hS.rd HRO.out)) ?_; rw [HNO.out]; go_frame)
    | (show wpList _ _ _ (⟨some 19, .call _, _, _, _, _⟩ :: _) _ _; refine wpList_val rfl (op_len slOuts rfl rfl (v := pv) (xs := prev.map outC) rfl (by exact hS.rd HRP.out)) ?_; rw [HNP.out]; go_frame)
    | (show wpList _ _ _ (⟨some 10, .binOp _ _ _ _ _, _, _, _, _⟩ :: _) _ _; refine wpList_val rfl (op_igtr rfl rfl rfl H1.out) ?_; go_frame)
    | (show wpList _ _ _ (⟨some 15, .binOp _ _ _ _ _, _, _, _, _⟩ :: _) _ _; refine wpList_val rfl (op_igtr rfl rfl rfl H2.out) ?_; go_frame)
    | (show wpList _ _ _ (⟨some 20, .binOp _ _ _ _ _, _, _, _, _⟩ :: _) _ _; refine wpList_val rfl (op_igtr rfl rfl rfl H3.out) ?_; go_frame)
    )
  go_loopw [25] (fun iv wr => ∃ k : Nat, iv = .int .i64 k ∧ k ≤ n ∧ Hid (∀ j (hj : j < m.L.length), j < k → m.L[j].1.key.length ≤ 1000) ∧ SepL R base wr (.blk n1 26 [N32 m.ver, m.iv, m.ov] :: F)) (fun iv _ => n - (intOf iv).toNat)
  case atStart => exact ⟨0, rfl, Nat.zero_le _, fun j _ h => absurd h (Nat.not_lt_zero _), hS⟩
  case round =>
    clear hS
    obtain ⟨k, rfl, hk, HA, hS⟩ := hrel
    by_cases hlt : k < n
    · have hkL : k < m.L.length := by omega
      have hkr : k < (m.L.map inC).length := by rw [List.length_map]; exact hkL
      obtain ⟨p, hp⟩ : ∃ p, m.L[k] = p := ⟨_, rfl⟩
      have hpm : p ∈ m.L := hp ▸ List.getElem_mem hkL
      have HX : Hid ((m.L.map inC)[k] = inC p) := by unfold Hid; rw [List.getElem_map, hp]
      have hok := HIOK.out p hpm
      have HK := hide (HKEY.out p hpm)
      have HXL : Hid ((inC p).length = 34) := inC_len hok
      have HX1 : Hid (∀ v ∈ inC p, v.oneCell' = true) := inC_one (slice_one HK.out).1
      have HX33 : Hid ((inC p)[33]? = some p.2) := inC_key hok
      obtain ⟨len, hlen⟩ : ∃ l, p.1.key.length = l := ⟨_, rfl⟩
      have HLEN := hide hlen
      clear hok hpm
      by_cases hg : 1000 < len
      · have HG : Hid (decide ((1000 : Int) < (len : Int)) = true) := decide_eq_true (by omega)
        have HBAD : Hid (b = true) := hb.out.symm.trans (great_bad hkL (by rw [hp, hlen]; omega))
        clear hp hlen
        go_wp2_with (first
          | (show wpList _ _ _ (⟨_, .indexAddr 23 _ _, _, _, _, _⟩ :: _) _ _; refine wpList_val rfl (op_indexAddr slIns rfl (v := m.iv) (xs := m.L.map inC) rfl (k := k) rfl (by exact hS.rd HRI.out) hkr) ?_; go_frame)
          | (show wpList _ _ _ (⟨_, .load 39 _, _, _, _, _⟩ :: _) _ _; refine wpList_val rfl (op_loadE aggIn rfl (v := m.iv) (xs := m.L.map inC) (k := k) rfl (by exact hS.rd HRI.out) hkr) ?_; rw [HX.out]; go_frame)
          | (show wpList _ _ _ (⟨_, .alloc 39, _, _, _, _⟩ :: _) _ _; refine wpS_alloc hS rfl rfl zeroIn (zs := zIn) rfl ?_; clear hS; intro nx w hS; go_frame)
          | (show wpList _ _ _ (⟨_, .store 39 _ _, _, _, _, _⟩ :: _) _ _; (refine wpS_storeAll (b := nx) aggIn (hS.bring (by repeat (first | exact t0 | apply tS))) rfl rfl rfl (vs := inC p) rfl HXL.out HX1.out rfl ?_); clear hS; intro w hS; go_frame)
          | (show wpList _ _ _ (⟨_, .load 37 _, _, _, _, _⟩ :: _) _ _; refine wpList_val rfl (op_load1S (b := nx) (T := 39) oneBytes ((hS.bring (by repeat (first | exact t0 | apply tS)))) rfl rfl HX33.out) ?_; go_frame)
          | (show wpList _ _ _ (⟨some 31, .call _, _, _, _, _⟩ :: _) _ _; refine wpList_val rfl (op_lenB slBytes rfl rfl rfl (by exact hS.rd HK.out) HLEN.out) ?_; go_frame)
          | (show wpList _ _ _ (⟨some 32, .binOp _ _ _ _ _, _, _, _, _⟩ :: _) _ _; refine wpList_val rfl (op_igtr rfl rfl rfl HG.out) ?_; go_frame)
          )
        go_ret
        exact ⟨by rw [HBAD.out]; rfl, hS.sel (by repeat (first | exact Sel.refl | refine Sel.take (by repeat (first | exact t0 | apply tS)) ?_ | apply Sel.drop))⟩
      · have HG : Hid (decide ((1000 : Int) < (len : Int)) = false) := decide_eq_false (by omega)
        have HA2 : Hid (∀ j (hj : j < m.L.length), j < k + 1 → m.L[j].1.key.length ≤ 1000) := fun j hj h => by
          by_cases e : j = k
          · subst e
            rw [hp, hlen]
            omega
          · exact HA.out j hj (by omega)
        clear hp hlen HA
        go_wp2_with (first
          | (show wpList _ _ _ (⟨_, .indexAddr 23 _ _, _, _, _, _⟩ :: _) _ _; refine wpList_val rfl (op_indexAddr slIns rfl (v := m.iv) (xs := m.L.map inC) rfl (k := k) rfl (by exact hS.rd HRI.out) hkr) ?_; go_frame)
          | (show wpList _ _ _ (⟨_, .load 39 _, _, _, _, _⟩ :: _) _ _; refine wpList_val rfl (op_loadE aggIn rfl (v := m.iv) (xs := m.L.map inC) (k := k) rfl (by exact hS.rd HRI.out) hkr) ?_; rw [HX.out]; go_frame)
          | (show wpList _ _ _ (⟨_, .alloc 39, _, _, _, _⟩ :: _) _ _; refine wpS_alloc hS rfl rfl zeroIn (zs := zIn) rfl ?_; clear hS; intro nx w hS; go_frame)
          | (show wpList _ _ _ (⟨_, .store 39 _ _, _, _, _, _⟩ :: _) _ _; (refine wpS_storeAll (b := nx) aggIn (hS.bring (by repeat (first | exact t0 | apply tS))) rfl rfl rfl (vs := inC p) rfl HXL.out HX1.out rfl ?_); clear hS; intro w hS; go_frame)
          | (show wpList _ _ _ (⟨_, .load 37 _, _, _, _, _⟩ :: _) _ _; refine wpList_val rfl (op_load1S (b := nx) (T := 39) oneBytes ((hS.bring (by repeat (first | exact t0 | apply tS)))) rfl rfl HX33.out) ?_; go_frame)
          | (show wpList _ _ _ (⟨some 31, .call _, _, _, _, _⟩ :: _) _ _; refine wpList_val rfl (op_lenB slBytes rfl rfl rfl (by exact hS.rd HK.out) HLEN.out) ?_; go_frame)
          | (show wpList _ _ _ (⟨some 32, .binOp _ _ _ _ _, _, _, _, _⟩ :: _) _ _; refine wpList_val rfl (op_igtr rfl rfl rfl HG.out) ?_; go_frame)
          )
        go_roundw
        case rel => exact ⟨k + 1, by go_num, hlt, HA2, hS.sel (by repeat (first | exact Sel.refl | refine Sel.take (by repeat (first | exact t0 | apply tS)) ?_ | apply Sel.drop))⟩
        case measure => simp [intOf]; omega
    · have hkn : k = n := by omega
      have e : greatB m.pt z = false := great_all (by omega) (by omega) h3 fun j hj => HA.out j hj (by omega)
      have e2 : false = b := e.symm.trans hb.out
      subst e2
      go_wp2_with fail
      go_ret
      exact ⟨rfl, hS.sel (by repeat (first | exact Sel.refl | refine Sel.take (by repeat (first | exact t0 | apply tS)) ?_ | apply Sel.drop))⟩
end
end Go.Proofs.YtieobcaegegboaaDoor
namespace Go.Proofs.YtieobcaegegboaaDoor
open Go Go.RowKit Go.Px Go.Sha Go.Calc Go.WideMaps
set_option maxRecDepth 100000
theorem keyPt : Key Tryd.prog 36 where
  law := Maps.Keyed.of_law (deep_law_laid Tryd.laidOut (m := 3) (by omega) (of_decide_eq_true (by kernel_rfl)) (by kernel_rfl) (by kernel_rfl))
  eq := fun w {x y lx ly} hx hy => run_equal_deep w (m := 3) (by omega) (by kernel_rfl) (by kernel_rfl) hx hy
  guard := by kernel_rfl
theorem lits_hash {D : Nat} {l : List Byte} (hl : l.length = 32) : ∃ ls, Tryd.prog.keyLits (D + 2) 34 (l.map B8) = some ls := by
  unfold Program.keyLits
  simp only [arrHash.hu]
  rw [if_pos (by rw [arrHash.size]; simpa using hl)]
  rw [mapM_lits undU8 (f := fun i => ((l.getD i 0).toNat : Int)) (by
    intro i
    have := (l.getD i 0).isLt
    simp [Lit.wf, IntKind.min, IntKind.max, IntKind.signed, IntKind.bits]
    omega) _ (by
    intro i hi
    have hi2 : i < l.length := by rw [hl]; exact List.mem_range.1 hi
    rw [arrHash.one, Nat.mul_one, List.drop_eq_getElem_cons (by simpa using hi2), List.take_succ_cons, List.take_zero, List.getElem_map, List.getD_eq_getElem?_getD, List.getElem?_eq_getElem hi2]
    rfl)]
  exact ⟨_, rfl⟩
theorem lits_u32 {D n : Nat} (hn : n < 4294967296) : Tryd.prog.keyLits (D + 1) 22 [N32 n] = some [.int .u32 n] := by
  have hw : (Lit.int .u32 (n : Int)).wf = true := by
    simp [Lit.wf, IntKind.min, IntKind.max, IntKind.signed, IntKind.bits]
    omega
  simp [Program.keyLits, hw]
theorem cellsPt : Tryd.prog.cellsOf 36 = 33 := by kernel_rfl
theorem typePt : Tryd.prog.keyType 36 = true := by kernel_rfl
theorem cells2Hash : Tryd.prog.cellsOf 34 = 32 := by kernel_rfl
theorem cells2U32 : Tryd.prog.cellsOf 22 = 1 := by kernel_rfl
theorem isKeyPt {x : PIn} (h : x.tx.length = 32) (hn : x.n < 4294967296) : IsKey Tryd.prog 36 (.agg (ptC x).toArray) := by
  obtain ⟨m, hm⟩ : ∃ m, Tryd.prog.types.size = m + 2 := ⟨Tryd.prog.types.size - 2, by kernel_rfl⟩
  obtain ⟨ls, hls⟩ := lits_hash (D := m) h
  have hlen : (ptC x).length = 33 := by simp [ptC, h]
  have e1 : ((ptC x).drop 0).take 32 = x.tx.map B8 := by
    unfold ptC
    rw [List.drop_zero, List.take_append_of_le_length (by simp [h]), List.take_of_length_le (by simp [h])]
  have e2 : ((ptC x).drop 32).take 1 = [N32 x.n] := by
    unfold ptC
    rw [List.drop_append, List.drop_of_length_le (by simp [h]), List.length_map, h, Nat.sub_self, List.nil_append]
    rfl
  unfold IsKey keyOf
  simp only [Tryd.underlying36]
  rw [if_pos (by simp [typePt, Value.formed, Tryd.underlying36, cellsPt, hlen]), hm]
  unfold Program.keyLits
  simp only [Tryd.underlying36, Value.cells]
  rw [if_pos ⟨by simp [cellsPt, hlen], by kernel_rfl⟩]
  simp only [List.mapM_cons, List.mapM_nil, cells2Hash, cells2U32, e1, e2, hls, lits_u32 hn]
  exact ⟨_, rfl⟩
theorem ptC_inj {x y : PIn} (hx : x.tx.length = 32) (hy : y.tx.length = 32) (h : ptC x = ptC y) : ptOf x = ptOf y := by
  unfold ptC at h
  obtain ⟨h1, h2⟩ := List.append_inj h (by simp [hx, hy])
  simp only [List.cons.injEq, and_true] at h2
  injection h2 with _ h2
  unfold ptOf
  rw [map_B8_inj h1, show x.n = y.n by omega]
theorem ptC_of {x y : PIn} (h : ptOf x = ptOf y) : ptC x = ptC y := by
  unfold ptOf at h
  injection h with h1 h2
  unfold ptC
  rw [h1, h2]
theorem ptV_eqv {x y : PIn} (hx : x.tx.length = 32) (hy : y.tx.length = 32) : eqv (.agg (ptC x).toArray) (.agg (ptC y).toArray) = decide (ptOf x = ptOf y) := by
  rw [Bool.eq_iff_iff, eqv_true, decide_eq_true_iff]
  constructor
  · intro h
    injection h with h
    exact ptC_inj hx hy (by simpa using h)
  · intro h
    rw [ptC_of h]
/-! ### a map of which the keys alone are looked at -/
structure KeysAt (P : Program) (k : TypeId) (w : World) (b : Nat) (ks : List Value) (st : Option Nat) : Prop where
  at_ : ∃ es clock, w.heap[b]? = some (.map es clock) ∧ es.toList.map (·.key) = ks ∧ (∀ e ∈ es.toList, e.born < clock) ∧ (∀ e ∈ es.toList, ∃ z, e.val = I64 z) ∧ ∀ s, st = some s → ∃ e ∈ es.toList, e.born = s
  keys : ∀ x ∈ ks, IsKey P k x
  nodup : ks.Nodup
theorem KeysAt.lt {P : Program} {k : TypeId} {w : World} {b : Nat} {ks : List Value} {st : Option Nat} (h : KeysAt P k w b ks st) : b < w.heap.size := by
  obtain ⟨es, c, h, _⟩ := h.at_
  exact (Array.getElem?_eq_some_iff.1 h).1
theorem KeysAt.keep {P : Program} {k : TypeId} {w w' : World} {b : Nat} {ks : List Value} {st : Option Nat} (h : KeysAt P k w b ks st) (he : w'.heap[b]? = w.heap[b]?) : KeysAt P k w' b ks st := by
  obtain ⟨⟨es, c, h1, h2⟩, h3, h4⟩ := h
  exact ⟨⟨es, c, he.trans h1, h2⟩, h3, h4⟩
def Hp.keysAt (P : Program) (k : TypeId) (b : Nat) (ks : List Value) (st : Option Nat) : Hp := ⟨fun w F => KeysAt P k w b ks st ∧ ∀ j, F j ↔ j = b, fun ⟨h, hf⟩ he => ⟨h.keep (he _ ((hf _).2 rfl)), hf⟩⟩
theorem KeysAt.map {P : Program} {k : TypeId} {w : World} {b : Nat} {ks : List Value} {st : Option Nat} (h : KeysAt P k w b ks st) : ∃ M, MapAt P k w b M ∧ M.map (·.1) = ks ∧ ∀ p ∈ M, ∃ z, p.2 = I64 z := by
  obtain ⟨⟨es, c, h1, h2, h3, h4, h5⟩, h6, h7⟩ := h
  have e : (ents es).map (·.1) = ks := by
    unfold ents
    rw [List.map_map, ← h2]
    rfl
  refine ⟨ents es, ⟨⟨es, c, h1, rfl⟩, fun p hp => h6 _ (by rw [← e]; exact List.mem_map.2 ⟨p, hp, rfl⟩), by rw [e]; exact h7⟩, e, fun p hp => ?_⟩
  unfold ents at hp
  obtain ⟨en, he, rfl⟩ := List.mem_map.1 hp
  exact h4 en he
section
variable {P : Program} {t k e : TypeId} {R : Nat → Prop} {base w : World} {L : List Hp}
theorem keys_get {b : Nat} {ks : List Value} {st : Option Nat} (h : SepL R base w (Hp.keysAt P k b ks st :: L)) : KeysAt P k w b ks st := let ⟨_, h1⟩ := h.head; h1.1
theorem keys_upd {b : Nat} {ks ks' : List Value} {st st' : Option Nat} {w' : World} (h : SepL R base w (Hp.keysAt P k b ks st :: L)) (hb : KeysAt P k w' b ks' st') (hc : Chg (fun k => k = b) w w') : SepL R base w' (Hp.keysAt P k b ks' st' :: L) :=
  h.upd fun F ⟨_, hf⟩ => ⟨fun k => k = b, ⟨hb, fun _ => Iff.rfl⟩, hc.mono (fun k _ e => (hf k).2 e), by rintro k rfl; exact ⟨hb.lt, .inl ((hf _).2 rfl)⟩⟩
theorem wpS_makeKeys {t k e : TypeId} {z : Value} (T : MapTy P t k e z) {ops : Array Oper} {rest : List Oper} {o : Oper} {a : Act} {Q : Exit → Act → World → Prop} (hS : SepL R base w L) (hgd : Region.wanted o (yielded ops a.tmps) = true) (ho : o.op = .makeMap t none)
    (hk : ∀ nb w', SepL R base w' (Hp.keysAt P k nb [] none :: L) → wpList P ops Q rest (a.put o.dst (.map (some nb))) w') : wpList P ops Q (o :: rest) a w :=
  wpList_makeMap T hgd ho fun nb w' hle hM hc => hk nb w' (hS.mk1 hc (F' := fun k => k = nb) ⟨by
    obtain ⟨⟨es, c, h1, h2⟩, h3, h4⟩ := hM
    have he : es.toList = [] := by
      unfold ents at h2
      exact List.map_eq_nil_iff.1 h2
    exact ⟨⟨es, c, h1, by rw [he]; rfl, by simp [he], by simp [he], by simp⟩, by simp, by simp⟩, fun _ => Iff.rfl⟩ (by rintro k rfl; exact ⟨hM.lt, hle⟩))
attribute [irreducible] Hp.keysAt
theorem op_lookupK (T : MapTy P t k e (I64 0)) {o : Oper} {ρ : Operand → Value} {m i : Operand} {b : Nat} {ks : List Value} {st : Option Nat} (h : KeysAt P k w b ks st) (ho : o.op = .lookup t m i false) (hm : ρ m = .map (some b)) {x : Value} (hi : ρ i = x) (hx : IsKey P k x) :
    ∃ z, (execOp ρ o).run P w = .ok (.value (I64 z)) w := by
  obtain ⟨M, h1, h2, h3⟩ := h.map
  have hr := op_lookup T ho hm hi h1 hx
  cases hg : mget M x with
  | none => exact ⟨0, by rw [hr, hg]; rfl⟩
  | some v =>
    obtain ⟨z, hz⟩ := h3 _ (mget_mem hg)
    have hz2 : v = I64 z := hz
    subst hz2
    exact ⟨z, by rw [hr, hg]; rfl⟩
theorem op_lenK (T : MapTy P t k e (I64 0)) {o : Oper} {ρ : Operand → Value} {m : Operand} {ts : Array TypeId} {b : Nat} {ks : List Value} {st : Option Nat} (h : KeysAt P k w b ks st) (ho : o.op = .call { callee := .builtin .len, args := #[m], argTypes := ts }) (hts : ts[0]? = some t) (hm : ρ m = .map (some b)) :
    (execOp ρ o).run P w = .ok (.value (.int .i64 ks.length)) w := by
  obtain ⟨M, h1, h2, h3⟩ := h.map
  have hr := op_lenMap T ho hts hm h1
  rwa [← List.length_map (·.1), h2] at hr
/-- the keys, with one more -/
noncomputable def withK (ks : List Value) (x : Value) : List Value := by
  classical exact if x ∈ ks then ks else ks ++ [x]
theorem run_mapEntry (T : MapTy P t k e (I64 0)) {b : Nat} {ks : List Value} {st : Option Nat} (h : KeysAt P k w b ks st) {x : Value} (hx : IsKey P k x) :
    ∃ (v0 : Value) (s : Nat) (o : Obj), (Instr.mapEntry t (.map (some b)) x).run P w = .ok (.tuple #[v0, goInt s]) (setObjAt w b o) ∧ KeysAt P k (setObjAt w b o) b (withK ks x) (some s) := by
  have hlt := h.lt
  obtain ⟨⟨es, c, h1, h2, h3, h4, h5⟩, h6, h7⟩ := h
  obtain ⟨lx, hlx⟩ := hx
  have hc := T.key.law.check w false hlx
  have hst := T.key.law.stays w hlx
  have hke : (ents es).map (·.1) = ks := by
    unfold ents
    rw [List.map_map, ← h2]
    rfl
  rcases run_findKey T.key w (M := ents es) rfl (fun p hp => h6 _ (by rw [← hke]; exact List.mem_map.2 ⟨p, hp, rfl⟩)) (by rw [hke]; exact h7) ⟨lx, hlx⟩ with ⟨_, g2, g3⟩ | ⟨j, en, _, g2, g3, g4⟩
  · have hno : x ∉ ks := fun hm => by
      rw [← hke] at hm
      obtain ⟨p, hp, e⟩ := List.mem_map.1 hm
      exact g3 p hp e
    have hw : withK ks x = ks ++ [x] := by unfold withK; rw [if_neg hno]
    refine ⟨I64 0, c, .map (es.push { key := x, val := I64 0, born := c }) (c + 1), ?_, ⟨⟨_, _, setObjAt_same w b _ hlt, ?_, ?_, ?_, ?_⟩, ?_, ?_⟩⟩
    · simp [Instr.mapEntry, Sem.run_bind, run_underlying T.ty, run_getMap h1, hc, g2, T.zero, run_setMap h1]
    · rw [hw, ← h2]
      simp
    · intro en hen
      simp only [Array.toList_push, List.mem_append, List.mem_singleton] at hen
      rcases hen with hen | rfl
      · exact Nat.lt_succ_of_lt (h3 en hen)
      · exact Nat.lt_succ_self _
    · intro en hen
      simp only [Array.toList_push, List.mem_append, List.mem_singleton] at hen
      rcases hen with hen | rfl
      · exact h4 en hen
      · exact ⟨0, rfl⟩
    · intro s hs
      injection hs with hs
      subst hs
      exact ⟨⟨x, I64 0, c⟩, by simp, rfl⟩
    · rw [hw]
      intro y hy
      rcases List.mem_append.1 hy with hy | hy
      · exact h6 y hy
      · rw [List.mem_singleton.1 hy]
        exact ⟨lx, hlx⟩
    · rw [hw]
      exact List.nodup_append.2 ⟨h7, by simp, fun a ha b hb e => hno (by rw [List.mem_singleton.1 hb] at e; rw [← e]; exact ha)⟩
  · have g3' : es[j]? = some en := by simpa using g3
    have hmem : x ∈ ks := by
      rw [← h2]
      exact List.mem_map.2 ⟨en, List.mem_of_getElem? g3, g4⟩
    have hw : withK ks x = ks := by unfold withK; rw [if_pos hmem]
    have hsame : es.modify j (fun e => { e with key := x }) = es := by
      apply Array.ext'
      apply List.ext_getElem?
      intro i
      simp only [Array.getElem?_toList, Array.getElem?_modify]
      by_cases hij : j = i
      · subst hij
        simp [g3', ← g4]
      · rw [if_neg hij]
    refine ⟨en.val, en.born, .map es c, ?_, ⟨⟨_, _, setObjAt_same w b _ hlt, by rw [hw]; exact h2, h3, h4, ?_⟩, by rw [hw]; exact h6, by rw [hw]; exact h7⟩⟩
    · simp [Instr.mapEntry, Sem.run_bind, run_underlying T.ty, run_getMap h1, hc, g2, g3', g4, hst, run_setMap h1, hsame]
    · intro s hs
      injection hs with hs
      subst hs
      exact ⟨en, List.mem_of_getElem? g3, rfl⟩
theorem run_entryStore {b : Nat} {ks : List Value} {s : Nat} (h : KeysAt P k w b ks (some s)) (z : Int) :
    ∃ o, (Instr.entryStore t (.map (some b)) (goInt s) (I64 z)).run P w = .ok () (setObjAt w b o) ∧ KeysAt P k (setObjAt w b o) b ks none := by
  have hlt := h.lt
  obtain ⟨⟨es, c, h1, h2, h3, h4, h5⟩, h6, h7⟩ := h
  obtain ⟨en, hen, hb⟩ := h5 s rfl
  cases hi : es.findIdx? (fun e => ((e.born : Nat) : Int) == ((s : Nat) : Int)) with
  | none =>
    rw [Array.findIdx?_eq_none_iff] at hi
    have := hi en (by simpa using hen)
    rw [hb] at this
    simp at this
  | some i =>
    refine ⟨.map (es.modify i fun e => { e with val := I64 z }) c, ?_, ⟨⟨_, _, setObjAt_same w b _ hlt, ?_, ?_, ?_, ?_⟩, h6, h7⟩⟩
    · simp [Instr.entryStore, Sem.run_bind, run_getMap h1, asInt, asIntOf, goInt, hi, run_setMap h1]
    · rw [← h2]
      apply List.ext_getElem?
      intro q
      simp only [List.getElem?_map, Array.getElem?_toList, Array.getElem?_modify]
      split <;> cases es[q]? <;> rfl
    · intro e he
      rw [Array.toList_modify] at he
      obtain ⟨q, hq, rfl⟩ := List.mem_iff_getElem.1 he
      rw [List.getElem_modify]
      rw [List.length_modify] at hq
      have g := h3 _ (List.getElem_mem hq)
      split
      · exact g
      · exact g
    · intro e he
      rw [Array.toList_modify] at he
      obtain ⟨q, hq, rfl⟩ := List.mem_iff_getElem.1 he
      rw [List.getElem_modify]
      rw [List.length_modify] at hq
      split
      · exact ⟨z, rfl⟩
      · exact h4 _ (List.getElem_mem hq)
    · intro s hs
      cases hs
theorem wpS_mapEntry (T : MapTy P t k e (I64 0)) {ops : Array Oper} {rest : List Oper} {o : Oper} {a : Act} {Q : Exit → Act → World → Prop} {b : Nat} {ks : List Value} {st : Option Nat} (hS : SepL R base w (Hp.keysAt P k b ks st :: L)) (hgd : Region.wanted o (yielded ops a.tmps) = true)
    {m i : Operand} (ho : o.op = .mapEntry t m i) (hm : a.eval m = .map (some b)) {x : Value} (hi : a.eval i = x) (hx : IsKey P k x)
    (hk : ∀ v0 s w', SepL R base w' (Hp.keysAt P k b (withK ks x) (some s) :: L) → wpList P ops Q rest (a.put o.dst (.tuple #[v0, goInt s])) w') : wpList P ops Q (o :: rest) a w := by
  obtain ⟨v0, s, ob, h1, h2⟩ := run_mapEntry T (keys_get hS) hx
  refine wpList_val hgd ?_ (hk v0 s _ (keys_upd hS h2 (chg_setObjAt w b ob)))
  unfold execOp
  simp [ho, hm, hi, h1]
theorem wpS_entryStore {ops : Array Oper} {rest : List Oper} {o : Oper} {a : Act} {Q : Exit → Act → World → Prop} {b : Nat} {ks : List Value} {s : Nat} (hS : SepL R base w (Hp.keysAt P k b ks (some s) :: L)) (hgd : Region.wanted o (yielded ops a.tmps) = true)
    {m i y : Operand} (ho : o.op = .entryStore t m i y) (hm : a.eval m = .map (some b)) (hi : a.eval i = goInt s) {z : Int} (hy : a.eval y = I64 z)
    (hk : ∀ w', SepL R base w' (Hp.keysAt P k b ks none :: L) → wpList P ops Q rest (a.put o.dst undef) w') : wpList P ops Q (o :: rest) a w := by
  obtain ⟨ob, h1, h2⟩ := run_entryStore (t := t) (keys_get hS) z
  refine wpList_skp hgd ?_ (hk _ (keys_upd hS h2 (chg_setObjAt w b ob)))
  unfold execOp
  simp [ho, hm, hi, hy, h1]
end
theorem mapPt : MapTy Tryd.prog 84 36 3 (I64 0) where
  ty := by kernel_rfl
  key := keyPt
  zero := fun w => by kernel_rfl
end Go.Proofs.YtieobcaegegboaaDoor
