/- How many bytes a transaction has: the program's and the document's answer. Conditions: those that stand ahead of each theorem. -/
import Derived.Test.YtieobcaegegboaaDoorGTxB
import Derived.Test.YtieobcaegegboaaDoorGWfB
namespace Go.Proofs.YtieobcaegegboaaDoor
open Go Go.RowKit Go.Px Go.Sha Go.Calc
def keyS (m : MT) (k : Nat) : Nat := ((m.L.map fun p => p.1.key.length).take k).sum
theorem keyS_next {m : MT} {k : Nat} {p : PIn × Value} (h : ∃ h : k < m.L.length, m.L[k] = p) : keyS m k + p.1.key.length = keyS m (k + 1) := by
  obtain ⟨hk, h⟩ := h
  unfold keyS
  rw [sum_next _ _ (by rw [List.length_map]; exact hk), List.getElem_map, h]
theorem keyS_le {m : MT} (h : ∀ p ∈ m.L, p.1.key.length ≤ 64) : ∀ k, keyS m k ≤ 64 * k
  | 0 => by simp [keyS]
  | k + 1 => by
    by_cases hk : k < m.L.length
    · have h1 := keyS_le h k
      have h2 := keyS_next (m := m) (k := k) (p := m.L[k]) ⟨hk, rfl⟩
      have h3 := h _ (List.getElem_mem hk)
      omega
    · have h1 := keyS_le h k
      have e : keyS m (k + 1) = keyS m k := by
        unfold keyS
        rw [List.take_of_length_le (by rw [List.length_map]; omega), List.take_of_length_le (by rw [List.length_map]; omega)]
      omega
/-- how many bytes a transaction that has a form has -/
def sizeN (m : MT) : Nat := 6 + 37 * m.L.length + 40 * m.outs.length + keyS m m.L.length
theorem form_keys {m : MT} (h : formB m.pt = true) : ∀ p ∈ m.L, p.1.key.length ≤ 64 := by
  unfold formB MT.pt at h
  simp only [Bool.and_eq_true, List.all_eq_true, decide_eq_true_eq, List.mem_map, forall_exists_index, and_imp] at h
  exact fun p hp => h.1 _ p hp rfl
theorem size_bounds {m : MT} (h : formB m.pt = true) : 6 ≤ sizeN m ∧ sizeN m ≤ 1200 := by
  have h1 := form_small h
  have h2 := keyS_le (form_keys h) m.L.length
  unfold sizeN
  omega
theorem quo_next {x k : Nat} : x / 256 ^ k / 256 = x / 256 ^ (k + 1) := by
  rw [Nat.div_div_eq_div_mul, Nat.pow_succ]
theorem op_u64to8 {P : Program} {o : Oper} {w : World} {ρ : Operand → Value} {s d : TypeId} {sd : TypeDesc} (hs : P.underlying s = some sd) (hd : P.underlying d = some (.int .u8)) {x : Operand} (ho : o.op = .convert s d x) {n : Nat} (hx : ρ x = U n) : (execOp ρ o).run P w = .ok (.value (B8 (BitVec.ofNat 8 n))) w := op_natTo8 hs hd ho hx
theorem flat1B (x : Byte) : Flat [[B8 x]] := by
  intro r hr v hv
  rw [List.mem_singleton.1 hr] at hv
  rw [List.mem_singleton.1 hv]
  rfl
/-- bytes of one's own, of which the number alone is looked at -/
def hBy (v : Value) (n : Nat) : Hp := hEx fun bs : {l : List Byte // l.length = n} => [Hp.own 5 1 v (bytes bs.1)]
section
variable {R : Nat → Prop} {base w : World} {F : List Hp}
theorem by_mk {v : Value} {bs : List Byte} {n : Nat} (h : SepL R base w (.own 5 1 v (bytes bs) :: F)) (hl : bs.length = n) : SepL R base w (hBy v n :: F) := SepL.pack (l := fun bs : {l : List Byte // l.length = n} => [Hp.own 5 1 v (bytes bs.1)]) ⟨bs, hl⟩ h
theorem by_open {v : Value} {n : Nat} (h : SepL R base w (hBy v n :: F)) : ∃ bs : List Byte, bs.length = n ∧ SepL R base w (.own 5 1 v (bytes bs) :: F) := by
  obtain ⟨⟨bs, hl⟩, h2⟩ := SepL.unpack h
  exact ⟨bs, hl, h2⟩
attribute [irreducible] hBy
theorem bytes_flat (bs : List Byte) : Flat (bytes bs) := by
  intro x hx v hv
  unfold bytes at hx
  obtain ⟨u, hu, rfl⟩ := List.mem_map.1 hx
  rw [List.mem_singleton.1 hv]
  exact flat_B8 _ u hu
theorem rd_blk {b off n : Nat} {bs : List Byte} (h : Cells w b off (bs.map B8)) (hl : bs.length = n) (hn : n ≤ 1000000) : Rd 1 w (.slice (some ⟨b, off, none⟩) n n) (bytes bs) := by
  refine ⟨some ⟨b, off, none⟩, n, by rw [bytes_len, hl], by rw [bytes_len, hl]; exact Nat.le_refl _, by simp only [maxLen]; omega, ?_, fun _ => ⟨b, off, rfl, ?_⟩⟩
  · intro x hx
    unfold bytes at hx
    obtain ⟨u, _, rfl⟩ := List.mem_map.1 hx
    rfl
  · unfold bytes
    rw [flat1]
    exact h
theorem wpS_appendBy {ops : Array Oper} {rest : List Oper} {o : Oper} {a : Act} {Q : Exit → Act → World → Prop} {sv xv : Value} {n m : Nat} {cs : List Byte} (hS : SepL R base w (hBy sv n :: F)) (hgd : Region.wanted o (yielded ops a.tmps) = true)
    {s x : Operand} (ho : o.op = .call { callee := .builtin .append, args := #[s, x], argTypes := #[37, 37] }) (hs : a.eval s = sv) (hx : a.eval x = xv) (rd : Rd 1 w xv (bytes cs)) (hm : cs.length = m) (hb : n + m ≤ 1000000)
    (hk : ∀ v' w', SepL R base w' (hBy v' (n + m) :: F) → wpList Tryd.prog ops Q rest (a.put o.dst v') w') : wpList Tryd.prog ops Q (o :: rest) a w := by
  obtain ⟨bs, hl, h1⟩ := by_open hS
  refine wpS_append slBytes h1 hgd ho hs hx rd (bytes_flat cs) (by rw [bytes_len, bytes_len, hl, hm]; omega) (by rw [bytes_len, bytes_len, hl, hm]; simp only [maxLen]; omega) fun v' w' h2 => hk v' w' ?_
  rw [← bytes_app] at h2
  exact by_mk h2 (by rw [List.length_append, hl, hm])
theorem wpS_appendBB {ops : Array Oper} {rest : List Oper} {o : Oper} {a : Act} {Q : Exit → Act → World → Prop} {sv xv : Value} {n m : Nat} (hS : SepL R base w (hBy sv n :: hBy xv m :: F)) (hgd : Region.wanted o (yielded ops a.tmps) = true)
    {s x : Operand} (ho : o.op = .call { callee := .builtin .append, args := #[s, x], argTypes := #[37, 37] }) (hs : a.eval s = sv) (hx : a.eval x = xv) (hb : n + m ≤ 1000000)
    (hk : ∀ v' w', SepL R base w' (hBy v' (n + m) :: F) → wpList Tryd.prog ops Q rest (a.put o.dst v') w') : wpList Tryd.prog ops Q (o :: rest) a w := by
  obtain ⟨cs, hm, h1⟩ := by_open hS.tail
  exact wpS_appendBy hS hgd ho hs hx h1.getOwn.rd hm hb fun v' w' h2 => hk v' w' (h2.perm (.swap _ _ _)).tail
theorem op_lenBy {o : Oper} {ρ : Operand → Value} {x : Operand} {ts : Array TypeId} {v : Value} {n : Nat} (hS : SepL R base w (hBy v n :: F)) (ho : o.op = .call { callee := .builtin .len, args := #[x], argTypes := ts }) (hts : ts[0]? = some 37) (hx : ρ x = v) : (execOp ρ o).run Tryd.prog w = .ok (.value (.int .i64 n)) w := by
  obtain ⟨bs, hl, h1⟩ := by_open hS
  exact op_lenB slBytes ho hts hx h1.getOwn.rd hl
theorem op_u32to64 {P : Program} {o : Oper} {ρ : Operand → Value} {s d : TypeId} {sd : TypeDesc} (hs : P.underlying s = some sd) (hd : P.underlying d = some (.int .u64)) {x : Operand} (ho : o.op = .convert s d x) {n : Nat} (hx : ρ x = N32 n) (hb : n < 4294967296) : (execOp ρ o).run P w = .ok (.value (U n)) w := by
  rw [op_convert hs hd ho hx]
  have e : IntKind.u64.wrap (n : Int) = n := by rw [Go.Px.wrap64]; omega
  rw [e]
  rfl
theorem in_tx {p : PIn × Value} (h : IOk p) : (inC p).take 32 = p.1.tx.map B8 := by
  unfold inC
  rw [List.take_append_of_le_length (by rw [List.length_map, h.1]; omega), List.take_of_length_le (by rw [List.length_map, h.1]; omega)]
theorem in_n {p : PIn × Value} (h : IOk p) : (inC p)[32]? = some (N32 p.1.n) := by
  unfold inC
  rw [List.getElem?_append_right (by rw [List.length_map, h.1]; omega), List.length_map, h.1]
  rfl
end
section
variable {R : Nat → Prop} {base w : World} {F : List Hp}
set_option maxRecDepth 100000
set_option maxHeartbeats 4000000 in
theorem size07_s {m : MT} (hS : SepL R base w F) (ht : TxIn R base m) :
    Calls Tryd.prog 28 #[txV m] w (Ret fun r w' => r = .tuple #[I64 ((if formB m.pt then sizeN m else 0 : Nat) : Int), I64 (if formB m.pt then 0 else 5)] ∧ SepL R base w' F) := by
  obtain ⟨n, hn⟩ : ∃ n, m.L.length = n := ⟨_, rfl⟩
  obtain ⟨q, hq⟩ : ∃ q, m.outs.length = q := ⟨_, rfl⟩
  have HNL : Hid ((m.L.map inC).length = n) := by unfold Hid; rw [List.length_map, hn]
  have HNO : Hid ((m.outs.map outC).length = q) := by unfold Hid; rw [List.length_map, hq]
  have HRI := hide ht.ins
  have HRO := hide ht.outs.rd
  have HKEY := hide ht.key
  have HIOK := hide ht.iok
  have HOOK := hide ht.outs.ok
  obtain ⟨b, hb⟩ : ∃ b, formB m.pt = b := ⟨_, rfl⟩
  have HFB := hide hb
  clear hb
  rw [HFB.out]
  cases b with
  | false =>
    go_enter Tryd.func28, Tryd.ntmps28
    go_wp2_with (first
      | (show wpList _ _ _ (⟨some 1, .box _ _, _, _, _, _⟩ :: _) _ _; refine wpS_boxA (cs := [N32 m.ver, m.iv, m.ov]) hS rfl rfl rfl ?_; clear hS; intro n1 w hS; go_frame)
      | (show wpList _ _ _ (⟨_, .load 26 _, _, _, _, _⟩ :: _) _ _; refine wpList_val rfl (op_load aggTx rfl rfl (SepL.getBlk (b := n1) (T := 26) ((hS.bring (by repeat (first | exact t0 | apply tS))))).cells rfl) ?_; go_frame)
      | (go_at_call 41; refine Ret.calls (form_s hS ht HFB) ?_; clear hS; rintro r1 w ⟨rfl, hS⟩)
      )
    go_ret2
    exact ⟨rfl, hS.sel (by repeat (first | exact Sel.refl | refine Sel.take (by repeat (first | exact t0 | apply tS)) ?_ | apply Sel.drop))⟩
  | true =>
    have hsm := form_small HFB.out
    rw [hn, hq] at hsm
    have HK64 := hide (form_keys HFB.out)
    have HSZ : Hid (6 + 37 * n + 40 * q + keyS m n = sizeN m) := by unfold Hid sizeN; rw [hn, hq]
    have HKLE := hide (keyS_le HK64.out)
    have hn8 := hsm.1
    have hq8 := hsm.2
    obtain ⟨x1, hx1⟩ : ∃ x, 37 * n = x := ⟨_, rfl⟩
    obtain ⟨x2, hx2⟩ : ∃ x, 6 + x1 = x := ⟨_, rfl⟩
    obtain ⟨x3, hx3⟩ : ∃ x, 40 * q = x := ⟨_, rfl⟩
    obtain ⟨x4, hx4⟩ : ∃ x, x2 + x3 = x := ⟨_, rfl⟩
    have H1 : Hid ((37 : Int) * (n : Int) = (x1 : Nat)) := by unfold Hid; omega
    have H2 : Hid ((6 : Int) + (x1 : Int) = (x2 : Nat)) := by unfold Hid; omega
    have H3 : Hid ((40 : Int) * (q : Int) = (x3 : Nat)) := by unfold Hid; omega
    have H4 : Hid ((x2 : Int) + (x3 : Int) = (x4 : Nat)) := by unfold Hid; omega
    have HX4 : Hid (x4 = 6 + 37 * n + 40 * q) := by unfold Hid; omega
    have hx4b : x4 ≤ 1000 := by omega
    have hb1 : x1 ≤ 1000 := by omega
    have hb2 : x2 ≤ 1000 := by omega
    have hb3 : x3 ≤ 1000 := by omega
    have HK0 : Hid (keyS m 0 = 0) := rfl
    clear hsm hx1 hx2 hx3 hx4
    go_enter Tryd.func28, Tryd.ntmps28
    go_wp2_with (first
      | (show wpList _ _ _ (⟨some 1, .box _ _, _, _, _, _⟩ :: _) _ _; refine wpS_boxA (cs := [N32 m.ver, m.iv, m.ov]) hS rfl rfl rfl ?_; clear hS; intro n1 w hS; go_frame)
      | (show wpList _ _ _ (⟨_, .load 26 _, _, _, _, _⟩ :: _) _ _; refine wpList_val rfl (op_load aggTx rfl rfl (SepL.getBlk (b := n1) (T := 26) ((hS.bring (by repeat (first | exact t0 | apply tS))))).cells rfl) ?_; go_frame)
      | (go_at_call 41; refine Ret.calls (form_s hS ht HFB) ?_; clear hS; rintro r1 w ⟨rfl, hS⟩)
      | (show wpList _ _ _ (⟨_, .load 23 _, _, _, _, _⟩ :: _) _ _; refine wpList_val rfl (op_load1S (b := n1) (T := 26) oneIns ((hS.bring (by repeat (first | exact t0 | apply tS)))) rfl rfl rfl) ?_; go_frame)
      | (show wpList _ _ _ (⟨_, .load 24 _, _, _, _, _⟩ :: _) _ _; refine wpList_val rfl (op_load1S (b := n1) (T := 26) oneOuts ((hS.bring (by repeat (first | exact t0 | apply tS)))) rfl rfl rfl) ?_; go_frame)
      | (show wpList _ _ _ (⟨some 12, .call _, _, _, _, _⟩ :: _) _ _; refine wpList_val rfl (op_len slIns rfl rfl (v := m.iv) (xs := m.L.map inC) rfl (by exact hS.rd HRI.out)) ?_; rw [HNL.out]; go_frame)
      | (show wpList _ _ _ (⟨some 22, .call _, _, _, _, _⟩ :: _) _ _; refine wpList_val rfl (op_len slIns rfl rfl (v := m.iv) (xs := m.L.map inC) rfl (by exact hS.rd HRI.out)) ?_; rw [HNL.out]; go_frame)
      | (show wpList _ _ _ (⟨some 17, .call _, _, _, _, _⟩ :: _) _ _; refine wpList_val rfl (op_len slOuts rfl rfl (v := m.ov) (xs := m.outs.map outC) rfl (by exact hS.rd HRO.out)) ?_; rw [HNO.out]; go_frame)
      | (show wpList _ _ _ (⟨some 13, .binOp _ _ _ _ _, _, _, _, _⟩ :: _) _ _; refine wpList_val rfl (op_imulN rfl rfl rfl x1 H1.out (by omega)) ?_; go_frame)
      | (show wpList _ _ _ (⟨some 14, .binOp _ _ _ _ _, _, _, _, _⟩ :: _) _ _; refine wpList_val rfl (op_iaddN rfl rfl rfl x2 H2.out (by omega)) ?_; go_frame)
      | (show wpList _ _ _ (⟨some 18, .binOp _ _ _ _ _, _, _, _, _⟩ :: _) _ _; refine wpList_val rfl (op_imulN rfl rfl rfl x3 H3.out (by omega)) ?_; go_frame)
      | (show wpList _ _ _ (⟨some 19, .binOp _ _ _ _ _, _, _, _, _⟩ :: _) _ _; refine wpList_val rfl (op_iaddN rfl rfl rfl x4 H4.out (by omega)) ?_; go_frame)
      )
    go_loopw [23, 4] (fun kv sv wr => ∃ k s : Nat, kv = .int .i64 k ∧ sv = .int .i64 s ∧ k ≤ n ∧ Hid (s = x4 + keyS m k) ∧ SepL R base wr (.blk n1 26 [N32 m.ver, m.iv, m.ov] :: F)) (fun kv _ _ => n - (intOf kv).toNat)
    case atStart => exact ⟨0, x4, rfl, rfl, Nat.zero_le _, by unfold Hid; rw [HK0.out, Nat.add_zero], hS⟩
    case round =>
      clear hS
      obtain ⟨k, s, rfl, rfl, hk, HS, hS⟩ := hrel
      have hs6 : s ≤ 10000 := by
        have h1 := HS.out
        have h2 := HKLE.out k
        omega
      by_cases hlt : k < n
      ·
        have hkL : k < m.L.length := by omega
        have hkr : k < (m.L.map inC).length := by rw [List.length_map]; exact hkL
        obtain ⟨p, hp⟩ : ∃ p, m.L[k] = p := ⟨_, rfl⟩
        have hpm : p ∈ m.L := hp ▸ List.getElem_mem hkL
        have HX : Hid ((m.L.map inC)[k] = inC p) := by unfold Hid; rw [List.getElem_map, hp]
        have hok := HIOK.out p hpm
        have HOK := hide hok
        have HXL : Hid ((inC p).length = 34) := inC_len hok
        have HX1 : Hid (∀ v ∈ inC p, v.oneCell' = true) := inC_one (slice_one (HKEY.out p hpm)).1
        have HPT : Hid ((inC p).take 33 = ptC p.1) := inC_pt hok
        have HPL : Hid ((ptC p.1).length = 33) := ptC_len hok
        have HAT : Hid (∃ h : k < m.L.length, m.L[k] = p) := ⟨hkL, hp⟩
        clear hpm hp
        have hKY := HKEY.out p (HAT.out.2 ▸ List.getElem_mem HAT.out.1)
        have HKY := hide hKY
        have hkl : p.1.key.length ≤ 64 := HK64.out p (HAT.out.2 ▸ List.getElem_mem HAT.out.1)
        have HX33 : Hid ((inC p)[33]? = some p.2) := inC_key hok
        obtain ⟨len, hlen⟩ : ∃ l, p.1.key.length = l := ⟨_, rfl⟩
        have HLEN := hide hlen
        have HSN : Hid (keyS m k + len = keyS m (k + 1)) := by
          unfold Hid
          rw [← hlen]
          exact keyS_next HAT.out
        rw [hlen] at hkl
        clear hlen hKY
        obtain ⟨s2, hs2⟩ : ∃ x, s + len = x := ⟨_, rfl⟩
        have HS2 : Hid ((s : Int) + (len : Int) = (s2 : Nat)) := by unfold Hid; omega
        have HS3 : Hid (s2 = x4 + keyS m (k + 1)) := by
          have h1 := HS.out
          have h2 := HSN.out
          unfold Hid
          omega
        have hs2b : s2 ≤ 20000 := by omega
        clear hs2 HS
        go_wp2_with (first
          | (show wpList _ _ _ (⟨_, .indexAddr 23 _ _, _, _, _, _⟩ :: _) _ _; refine wpList_val rfl (op_indexAddr slIns rfl (v := m.iv) (xs := m.L.map inC) rfl (k := k) rfl (by exact hS.rd HRI.out) hkr) ?_; go_frame)
          | (show wpList _ _ _ (⟨_, .load 39 _, _, _, _, _⟩ :: _) _ _; refine wpList_val rfl (op_loadE aggIn rfl (v := m.iv) (xs := m.L.map inC) (k := k) rfl (by exact hS.rd HRI.out) hkr) ?_; rw [HX.out]; go_frame)
          | (show wpList _ _ _ (⟨_, .alloc 39, _, _, _, _⟩ :: _) _ _; refine wpS_alloc hS rfl rfl zeroIn (zs := zIn) rfl ?_; clear hS; intro nx w hS; go_frame)
          | (show wpList _ _ _ (⟨_, .store 39 _ _, _, _, _, _⟩ :: _) _ _; (refine wpS_storeAll (b := nx) aggIn (hS.bring (by repeat (first | exact t0 | apply tS))) rfl rfl rfl (vs := inC p) rfl HXL.out HX1.out rfl ?_); clear hS; intro w hS; go_frame)
          | (show wpList _ _ _ (⟨_, .load 37 _, _, _, _, _⟩ :: _) _ _; refine wpList_val rfl (op_load1S (b := nx) (T := 39) oneBytes ((hS.bring (by repeat (first | exact t0 | apply tS)))) rfl rfl HX33.out) ?_; go_frame)
          | (show wpList _ _ _ (⟨some 30, .call _, _, _, _, _⟩ :: _) _ _; refine wpList_val rfl (op_lenB slBytes rfl rfl rfl (by exact hS.rd HKY.out) HLEN.out) ?_; go_frame)
          | (show wpList _ _ _ (⟨some 31, .binOp _ _ _ _ _, _, _, _, _⟩ :: _) _ _; refine wpList_val rfl (op_iaddN rfl rfl rfl s2 HS2.out (by omega)) ?_; go_frame)
          )
        go_roundw
        case rel => exact ⟨k + 1, s2, by go_num, rfl, hlt, HS3, hS.sel (by repeat (first | exact Sel.refl | refine Sel.take (by repeat (first | exact t0 | apply tS)) ?_ | apply Sel.drop))⟩
        case measure => simp [intOf]; omega
      · have hkn : k = n := by omega
        have e : s = sizeN m := by
          have h1 := HS.out
          have h2 := HX4.out
          have h3 := HSZ.out
          rw [hkn] at h1
          omega
        go_wp2_with fail
        go_ret2
        exact ⟨rfl, hS.sel (by repeat (first | exact Sel.refl | refine Sel.take (by repeat (first | exact t0 | apply tS)) ?_ | apply Sel.drop))⟩
/-- so many bytes of a number -/
theorem put02_n {x n : Nat} {b4 b8 : Bool} (hS : SepL R base w F) (h1 : ((n : Int) != 1) = true) (h2 : ((n : Int) != 2) = true) (h4 : ((n : Int) != 4) = b4) (h8 : ((n : Int) != 8) = b8) (hb : (b4 && b8) = false) (hx : x < 256 ^ n) (hn8 : n ≤ 8) (hx64 : x < 18446744073709551616) :
    Calls Tryd.prog 64 #[U x, I64 n] w (Ret fun r w' => ∃ (v : Value) (bs : List Byte), r = .tuple #[v, I64 0] ∧ bs.length = n ∧ SepL R base w' (.own 5 1 v (bytes bs) :: F)) := by
  have N1 := hide h1
  have N2 := hide h2
  have N4 := hide h4
  have N8 := hide h8
  have HX : Hid (x / 256 ^ n = 0) := Nat.div_eq_of_lt hx
  have HB0 : Hid (bytes ([] : List Byte) = []) := rfl
  have HX0 : Hid (U (x / 256 ^ 0) = U x) := by unfold Hid; rw [Nat.pow_zero, Nat.div_one]
  have HXL : Hid (∀ k, x / 256 ^ k < 18446744073709551616) := fun k => Nat.lt_of_le_of_lt (Nat.div_le_self _ _) hx64
  clear h1 h2 h4 h8 hx
  have LOOPGO : Hid True := trivial
  cases b4 <;> cases b8 <;> first
    | exact absurd hb (by decide)
    | skip
  all_goals
    clear hb
    go_enter Tryd.func64, Tryd.ntmps64
    go_wp2_with (first
      | go_big_skip
      | (show wpList _ _ _ (⟨some 8, .binOp _ _ _ _ _, _, _, _, _⟩ :: _) _ _; refine wpList_val rfl (op_ineI rfl rfl rfl N1.out) ?_; go_frame)
      | (show wpList _ _ _ (⟨some 11, .binOp _ _ _ _ _, _, _, _, _⟩ :: _) _ _; refine wpList_val rfl (op_ineI rfl rfl rfl N2.out) ?_; go_frame)
      | (show wpList _ _ _ (⟨some 15, .binOp _ _ _ _ _, _, _, _, _⟩ :: _) _ _; refine wpList_val rfl (op_ineI rfl rfl rfl N4.out) ?_; go_frame)
      | (show wpList _ _ _ (⟨some 19, .binOp _ _ _ _ _, _, _, _, _⟩ :: _) _ _; refine wpList_val rfl (op_ineI rfl rfl rfl N8.out) ?_; go_frame)
      )
    have hS1 := hS.nilOwn 5 1
    rw [← HB0.out] at hS1
    go_loopw [22, 0, 6] (fun kv xv v wr => ∃ (k : Nat) (bs : List Byte), kv = .int .i64 k ∧ xv = U (x / 256 ^ k) ∧ k ≤ n ∧ Hid (bs.length = k) ∧ SepL R base wr (.own 5 1 v (bytes bs) :: F)) (fun kv _ _ _ => n - (intOf kv).toNat)
    case atStart => exact ⟨0, [], rfl, HX0.out.symm, Nat.zero_le _, rfl, hS1⟩
    case round =>
      clear hS hS1
      obtain ⟨k, bs, rfl, rfl, hk, HL, hS⟩ := hrel
      by_cases hlt : k < n
      · obtain ⟨y, hy⟩ : ∃ y, x / 256 ^ k = y := ⟨_, rfl⟩
        have HY : Hid (y / 256 = x / 256 ^ (k + 1)) := by unfold Hid; rw [← hy]; exact quo_next
        have hyl : y < 18446744073709551616 := by rw [← hy]; exact HXL.out k
        rw [hy]
        have HB2 : Hid (bytes bs ++ [[B8 (BitVec.ofNat 8 (y % 256))]] = bytes (bs ++ [BitVec.ofNat 8 (y % 256)])) := by
          unfold Hid bytes
          rw [List.map_append, List.map_append]
          rfl
        have HBL : Hid ((bytes bs).length = k) := by unfold Hid; rw [bytes_len]; exact HL.out
        have HL2 : Hid ((bs ++ [BitVec.ofNat 8 (y % 256)]).length = k + 1) := by unfold Hid; rw [List.length_append, HL.out]; rfl
        clear hy
        go_wp2_with (first
          | (show wpList _ _ _ (⟨some 26, .binOp _ _ _ _ _, _, _, _, _⟩ :: _) _ _; refine wpList_val rfl (opU_rem (a := y) (b := 256) rfl rfl rfl (by omega)) ?_; go_frame)
          | (show wpList _ _ _ (⟨some 27, .convert _ _ _, _, _, _, _⟩ :: _) _ _; refine wpList_val rfl (op_u64to8 undU64 undU8 rfl rfl) ?_; go_frame)
          | (show wpList _ _ _ (⟨some 28, .buildSlice _ _ _, _, _, _, _⟩ :: _) _ _; refine wpS_build11 slBytes hS rfl rfl (u := B8 (BitVec.ofNat 8 (y % 256))) rfl rfl ?_; clear hS; intro v28 w hS; go_frame)
          | (show wpList _ _ _ (⟨some 29, .call _, _, _, _, _⟩ :: _) _ _; replace hS := hS.sel (M := .own 5 1 u6 (bytes bs) :: .own 5 1 v28 [[B8 (BitVec.ofNat 8 (y % 256))]] :: F) (by repeat (first | exact Sel.refl | refine Sel.take (by repeat (first | exact t0 | apply tS)) ?_ | apply Sel.drop)); refine wpS_append slBytes hS rfl rfl rfl rfl (by exact hS.tail.getOwn.rd) (by exact flat1B _) (by rw [HBL.out]; simp only [List.length_cons, List.length_nil]; omega) (by rw [HBL.out]; simp only [maxLen, List.length_cons, List.length_nil]; omega) ?_; clear hS; intro v29 w hS; rw [HB2.out] at hS; go_frame)
          | (show wpList _ _ _ (⟨some 31, .binOp _ _ _ _ _, _, _, _, _⟩ :: _) _ _; refine wpList_val rfl (opU_quo (a := y) (b := 256) rfl rfl rfl (by omega) hyl) ?_; rw [HY.out]; go_frame)
          )
        go_roundw
        case rel => exact ⟨k + 1, _, by go_num, rfl, hlt, HL2, hS.sel (by repeat (first | exact Sel.refl | refine Sel.take (by repeat (first | exact t0 | apply tS)) ?_ | apply Sel.drop))⟩
        case measure => simp [intOf]; omega
      · have hkn : k = n := by omega
        subst hkn
        have HG : Hid (decide (0 < x / 256 ^ k) = false) := by
          unfold Hid
          rw [HX.out]
          rfl
        go_wp2_with (first
          | (show wpList _ _ _ (⟨some 34, .binOp _ _ _ _ _, _, _, _, _⟩ :: _) _ _; refine wpList_val rfl (opU_gtr (a := x / 256 ^ k) (b := 0) rfl rfl rfl HG.out) ?_; go_frame)
          )
        go_ret2
        exact ⟨_, bs, rfl, HL.out, hS⟩
theorem put02_s {x n : Nat} (hS : SepL R base w F) (hn : n = 4 ∨ n = 8) (hx : x < 256 ^ n) (hx64 : x < 18446744073709551616) :
    Calls Tryd.prog 64 #[U x, I64 n] w (Ret fun r w' => ∃ v : Value, r = .tuple #[v, I64 0] ∧ SepL R base w' (hBy v n :: F)) := by
  have fin : ∀ {r : Value} {w' : World}, (∃ (v : Value) (bs : List Byte), r = .tuple #[v, I64 0] ∧ bs.length = n ∧ SepL R base w' (.own 5 1 v (bytes bs) :: F)) → ∃ v : Value, r = .tuple #[v, I64 0] ∧ SepL R base w' (hBy v n :: F) := by
    rintro r w' ⟨v, bs, h1, h2, h3⟩
    exact ⟨v, h1, by_mk h3 h2⟩
  rcases hn with rfl | rfl
  · exact Ret.calls (put02_n (n := 4) (b4 := false) (b8 := true) hS rfl rfl rfl rfl rfl hx (by omega) hx64) fun r w' h => fin h
  · exact Ret.calls (put02_n (n := 8) (b4 := true) (b8 := false) hS rfl rfl rfl rfl rfl hx (by omega) hx64) fun r w' h => fin h
theorem num_s {x n : Nat} (hS : SepL R base w F) (hn : n = 4 ∨ n = 8) (hx : x < 256 ^ n) (hx64 : x < 18446744073709551616) :
    Calls Tryd.prog 57 #[U x, I64 n] w (Ret fun r w' => SepL R base w' (hBy r n :: F)) := by
  have HP : Hid (Calls Tryd.prog 64 #[U x, I64 n] w (Ret fun r w' => ∃ v : Value, r = .tuple #[v, I64 0] ∧ SepL R base w' (hBy v n :: F))) := put02_s hS hn hx hx64
  clear hn hx hx64
  go_enter Tryd.func57, Tryd.ntmps57
  go_wp2_with (first
    | (go_at_call 64; refine Ret.calls HP.out ?_; clear hS; rintro r1 w' ⟨v, rfl, hS⟩)
    )
  go_ret
  exact hS
theorem var_s {x : Nat} (hS : SepL R base w F) (hx : x < 253) :
    Calls Tryd.prog 58 #[U x] w (Ret fun r w' => SepL R base w' (hBy r 1 :: F)) := by
  have HL : Hid (decide (x < 253) = true) := decide_eq_true hx
  clear hx
  go_enter Tryd.func58, Tryd.ntmps58
  go_wp2_with (first
    | (show wpList _ _ _ (⟨some 7, .binOp _ _ _ _ _, _, _, _, _⟩ :: _) _ _; refine wpList_val rfl (opU_lss (a := x) (b := 253) rfl rfl rfl HL.out) ?_; go_frame)
    | (show wpList _ _ _ (⟨some 9, .convert _ _ _, _, _, _, _⟩ :: _) _ _; refine wpList_val rfl (op_u64to8 undU64 undU8 rfl rfl) ?_; go_frame)
    | (show wpList _ _ _ (⟨some 10, .buildSlice _ _ _, _, _, _, _⟩ :: _) _ _; refine wpS_build11 slBytes hS rfl rfl (u := B8 (BitVec.ofNat 8 x)) rfl rfl ?_; clear hS; intro v10 w hS; replace hS := by_mk (bs := [BitVec.ofNat 8 x]) hS rfl; go_frame)
    )
  go_ret
  exact hS
set_option maxHeartbeats 8000000 in
theorem put07_s {m : MT} (hS : SepL R base w F) (ht : TxIn R base m) (hf : formB m.pt = true) (hver : m.ver < 4294967296) :
    Calls Tryd.prog 43 #[txV m] w (Ret fun r w' => ∃ v : Value, r = .tuple #[v, I64 0] ∧ SepL R base w' (hBy v (sizeN m) :: F)) := by
  obtain ⟨n, hn⟩ : ∃ n, m.L.length = n := ⟨_, rfl⟩
  obtain ⟨q, hq⟩ : ∃ q, m.outs.length = q := ⟨_, rfl⟩
  have HNL : Hid ((m.L.map inC).length = n) := by unfold Hid; rw [List.length_map, hn]
  have HNO : Hid ((m.outs.map outC).length = q) := by unfold Hid; rw [List.length_map, hq]
  have HRI := hide ht.ins
  have HRO := hide ht.outs.rd
  have HKEY := hide ht.key
  have HIOK := hide ht.iok
  have HOOK := hide ht.outs.ok
  have HFB := hide hf
  have hsm := form_small hf
  rw [hn, hq] at hsm
  have HK64 := hide (form_keys hf)
  have HSZ : Hid (6 + 37 * n + 40 * q + keyS m n = sizeN m) := by unfold Hid sizeN; rw [hn, hq]
  have HKLE := hide (keyS_le HK64.out)
  have hn8 := hsm.1
  have hq8 := hsm.2
  have HK0 : Hid (keyS m 0 = 0) := rfl
  have hv32 : m.ver < 256 ^ 4 := hver
  have HFB2 : Hid (formB m.pt = true) := hf
  clear hsm hf
  go_enter Tryd.func43, Tryd.ntmps43
  go_wp2_with (first
    | (show wpList _ _ _ (⟨some 1, .box _ _, _, _, _, _⟩ :: _) _ _; refine wpS_boxA (cs := [N32 m.ver, m.iv, m.ov]) hS rfl rfl rfl ?_; clear hS; intro n1 w hS; go_frame)
    | (show wpList _ _ _ (⟨_, .load 26 _, _, _, _, _⟩ :: _) _ _; refine wpList_val rfl (op_load aggTx rfl rfl (SepL.getBlk (b := n1) (T := 26) ((hS.bring (by repeat (first | exact t0 | apply tS))))).cells rfl) ?_; go_frame)
    | (go_at_call 44; refine Ret.calls (rform_s hS ht HFB) ?_; clear hS; rintro r1 w ⟨rfl, hS⟩)
    | (show wpList _ _ _ (⟨_, .load 23 _, _, _, _, _⟩ :: _) _ _; refine wpList_val rfl (op_load1S (b := n1) (T := 26) oneIns ((hS.bring (by repeat (first | exact t0 | apply tS)))) rfl rfl rfl) ?_; go_frame)
    | (show wpList _ _ _ (⟨_, .load 24 _, _, _, _, _⟩ :: _) _ _; refine wpList_val rfl (op_load1S (b := n1) (T := 26) oneOuts ((hS.bring (by repeat (first | exact t0 | apply tS)))) rfl rfl rfl) ?_; go_frame)
    | (show wpList _ _ _ (⟨some 13, .load _ _, _, _, _, _⟩ :: _) _ _; refine wpList_val rfl (op_load1S (b := n1) (T := 26) oneU32 ((hS.bring (by repeat (first | exact t0 | apply tS)))) rfl rfl rfl) ?_; go_frame)
    | (show wpList _ _ _ (⟨some 14, .convert _ _ _, _, _, _, _⟩ :: _) _ _; refine wpList_val rfl (op_u32to64 undU32 undU64 rfl rfl hver) ?_; go_frame)
    | (go_at_call 57; refine Ret.calls (num_s (x := m.ver) (n := 4) hS (.inl rfl) hv32 (by omega)) ?_; clear hS; rintro v15 w hS)
    | (show wpList _ _ _ (⟨some 19, .call _, _, _, _, _⟩ :: _) _ _; refine wpList_val rfl (op_len slIns rfl rfl (v := m.iv) (xs := m.L.map inC) rfl (by exact hS.rd HRI.out)) ?_; rw [HNL.out]; go_frame)
    | (show wpList _ _ _ (⟨some 25, .call _, _, _, _, _⟩ :: _) _ _; refine wpList_val rfl (op_len slIns rfl rfl (v := m.iv) (xs := m.L.map inC) rfl (by exact hS.rd HRI.out)) ?_; rw [HNL.out]; go_frame)
    | (show wpList _ _ _ (⟨some 20, .convert _ _ _, _, _, _, _⟩ :: _) _ _; refine wpList_val rfl (op_i64u64 undInt undU64 rfl rfl (by omega)) ?_; go_frame)
    | (go_at_call 58; refine Ret.calls (var_s (x := n) hS (by omega)) ?_; clear hS; rintro v21 w hS)
    | (show wpList _ _ _ (⟨some 22, .call _, _, _, _, _⟩ :: _) _ _; replace hS := hS.sel (M := hBy v15 (4) :: hBy v21 1 :: .blk n1 26 [N32 m.ver, m.iv, m.ov] :: F) (by repeat (first | exact Sel.refl | refine Sel.take (by repeat (first | exact t0 | apply tS)) ?_ | apply Sel.drop)); refine wpS_appendBB hS rfl rfl rfl rfl (by omega) ?_; clear hS; intro v22 w hS; go_frame)
    )
  go_loopw [26, 4] (fun kv bv wr => ∃ k s : Nat, kv = .int .i64 k ∧ k ≤ n ∧ Hid (s = 5 + 37 * k + keyS m k) ∧ SepL R base wr (hBy bv s :: .blk n1 26 [N32 m.ver, m.iv, m.ov] :: F)) (fun kv _ _ => n - (intOf kv).toNat)
  case atStart => exact ⟨0, 4 + 1, rfl, Nat.zero_le _, by unfold Hid; rw [HK0.out], hS⟩
  case round =>
    clear hS
    obtain ⟨k, s, rfl, hk, HS, hS⟩ := hrel
    have hs6 : s ≤ 10000 := by
      have h1 := HS.out
      have h2 := HKLE.out k
      omega
    by_cases hlt : k < n
    ·
      have hkL : k < m.L.length := by omega
      have hkr : k < (m.L.map inC).length := by rw [List.length_map]; exact hkL
      obtain ⟨p, hp⟩ : ∃ p, m.L[k] = p := ⟨_, rfl⟩
      have hpm : p ∈ m.L := hp ▸ List.getElem_mem hkL
      have HX : Hid ((m.L.map inC)[k] = inC p) := by unfold Hid; rw [List.getElem_map, hp]
      have hok := HIOK.out p hpm
      have HOK := hide hok
      have HXL : Hid ((inC p).length = 34) := inC_len hok
      have HX1 : Hid (∀ v ∈ inC p, v.oneCell' = true) := inC_one (slice_one (HKEY.out p hpm)).1
      have HPT : Hid ((inC p).take 33 = ptC p.1) := inC_pt hok
      have HPL : Hid ((ptC p.1).length = 33) := ptC_len hok
      have HAT : Hid (∃ h : k < m.L.length, m.L[k] = p) := ⟨hkL, hp⟩
      clear hpm hp
      have hKY := HKEY.out p (HAT.out.2 ▸ List.getElem_mem HAT.out.1)
      have HKY := hide hKY
      have hkl : p.1.key.length ≤ 64 := HK64.out p (HAT.out.2 ▸ List.getElem_mem HAT.out.1)
      have HX33 : Hid ((inC p)[33]? = some p.2) := inC_key hok
      obtain ⟨len, hlen⟩ : ∃ l, p.1.key.length = l := ⟨_, rfl⟩
      have HLEN := hide hlen
      have HSN : Hid (keyS m k + len = keyS m (k + 1)) := by
        unfold Hid
        rw [← hlen]
        exact keyS_next HAT.out
      rw [hlen] at hkl
      clear hlen
      have HS3 : Hid (s + 32 + 4 + 1 + len = 5 + 37 * (k + 1) + keyS m (k + 1)) := by
        have h1 := HS.out
        have h2 := HSN.out
        unfold Hid
        omega
      have HTX : Hid ((inC p).take 32 = p.1.tx.map B8) := in_tx hok
      have HTL := hide hok.1
      have hn32 := hok.2
      have hn32b : p.1.n < 256 ^ 4 := hok.2
      have HX32 : Hid ((inC p)[32]? = some (N32 p.1.n)) := in_n hok
      clear HS hok HOK
      go_wp2_with (first
        | (show wpList _ _ _ (⟨_, .indexAddr 23 _ _, _, _, _, _⟩ :: _) _ _; refine wpList_val rfl (op_indexAddr slIns rfl (v := m.iv) (xs := m.L.map inC) rfl (k := k) rfl (by exact hS.rd HRI.out) hkr) ?_; go_frame)
        | (show wpList _ _ _ (⟨_, .load 39 _, _, _, _, _⟩ :: _) _ _; refine wpList_val rfl (op_loadE aggIn rfl (v := m.iv) (xs := m.L.map inC) (k := k) rfl (by exact hS.rd HRI.out) hkr) ?_; rw [HX.out]; go_frame)
        | (show wpList _ _ _ (⟨_, .alloc 39, _, _, _, _⟩ :: _) _ _; refine wpS_alloc hS rfl rfl zeroIn (zs := zIn) rfl ?_; clear hS; intro nx w hS; go_frame)
        | (show wpList _ _ _ (⟨_, .store 39 _ _, _, _, _, _⟩ :: _) _ _; (refine wpS_storeAll (b := nx) aggIn (hS.bring (by repeat (first | exact t0 | apply tS))) rfl rfl rfl (vs := inC p) rfl HXL.out HX1.out rfl ?_); clear hS; intro w hS; go_frame)
        | (show wpList _ _ _ (⟨_, .load 37 _, _, _, _, _⟩ :: _) _ _; refine wpList_val rfl (op_load1S (b := nx) (T := 39) oneBytes ((hS.bring (by repeat (first | exact t0 | apply tS)))) rfl rfl HX33.out) ?_; go_frame)
        | (show wpList _ _ _ (⟨some 33, .slice _ _ _ _ _, _, _, _, _⟩ :: _) _ _; refine wpList_val rfl (op_sliceArr arr32b rfl rfl (l := 0) (h := 32) (Or.inl ⟨rfl, rfl⟩) (Or.inl ⟨rfl, rfl⟩) (by omega) (by omega)) ?_; rw [if_neg (by omega)]; go_frame)
        | (show wpList _ _ _ (⟨some 34, .call _, _, _, _, _⟩ :: _) _ _; replace hS := hS.sel (M := hBy u4 (s) :: .blk nx 39 (inC p) :: .blk n1 26 [N32 m.ver, m.iv, m.ov] :: F) (by repeat (first | exact Sel.refl | refine Sel.take (by repeat (first | exact t0 | apply tS)) ?_ | apply Sel.drop)); refine wpS_appendBy hS rfl rfl rfl rfl (by exact rd_blk (blk_take (b := nx) hS.tail.getBlk HTX.out) HTL.out (by omega)) HTL.out (by omega) ?_; clear hS; intro v34 w hS; go_frame)
        | (show wpList _ _ _ (⟨some 38, .load _ _, _, _, _, _⟩ :: _) _ _; refine wpList_val rfl (op_load1S (b := nx) (T := 39) oneU32 ((hS.bring (by repeat (first | exact t0 | apply tS)))) rfl rfl HX32.out) ?_; go_frame)
        | (show wpList _ _ _ (⟨some 39, .convert _ _ _, _, _, _, _⟩ :: _) _ _; refine wpList_val rfl (op_u32to64 undU32 undU64 rfl rfl hn32) ?_; go_frame)
        | (go_at_call 57; refine Ret.calls (num_s (x := p.1.n) (n := 4) hS (.inl rfl) hn32b (by omega)) ?_; clear hS; rintro v40 w hS)
        | (show wpList _ _ _ (⟨some 41, .call _, _, _, _, _⟩ :: _) _ _; replace hS := hS.sel (M := hBy v34 (s + 32) :: hBy v40 4 :: .blk nx 39 (inC p) :: .blk n1 26 [N32 m.ver, m.iv, m.ov] :: F) (by repeat (first | exact Sel.refl | refine Sel.take (by repeat (first | exact t0 | apply tS)) ?_ | apply Sel.drop)); refine wpS_appendBB hS rfl rfl rfl rfl (by omega) ?_; clear hS; intro v41 w hS; go_frame)
        | (show wpList _ _ _ (⟨some 45, .call _, _, _, _, _⟩ :: _) _ _; refine wpList_val rfl (op_lenB slBytes rfl rfl rfl (by exact hS.rd HKY.out) HLEN.out) ?_; go_frame)
        | (show wpList _ _ _ (⟨some 46, .convert _ _ _, _, _, _, _⟩ :: _) _ _; refine wpList_val rfl (op_i64u64 undInt undU64 rfl rfl (by omega)) ?_; go_frame)
        | (go_at_call 58; refine Ret.calls (var_s (x := len) hS (by omega)) ?_; clear hS; rintro v47 w hS)
        | (show wpList _ _ _ (⟨some 48, .call _, _, _, _, _⟩ :: _) _ _; replace hS := hS.sel (M := hBy v41 (s + 32 + 4) :: hBy v47 1 :: .blk nx 39 (inC p) :: .blk n1 26 [N32 m.ver, m.iv, m.ov] :: F) (by repeat (first | exact Sel.refl | refine Sel.take (by repeat (first | exact t0 | apply tS)) ?_ | apply Sel.drop)); refine wpS_appendBB hS rfl rfl rfl rfl (by omega) ?_; clear hS; intro v48 w hS; go_frame)
        | (show wpList _ _ _ (⟨some 52, .call _, _, _, _, _⟩ :: _) _ _; replace hS := hS.sel (M := hBy v48 (s + 32 + 4 + 1) :: .blk nx 39 (inC p) :: .blk n1 26 [N32 m.ver, m.iv, m.ov] :: F) (by repeat (first | exact Sel.refl | refine Sel.take (by repeat (first | exact t0 | apply tS)) ?_ | apply Sel.drop)); refine wpS_appendBy hS rfl rfl rfl rfl (by exact hS.rd HKY.out) HLEN.out (by omega) ?_; clear hS; intro v52 w hS; go_frame)
        )
      go_roundw
      case rel => exact ⟨k + 1, _, by go_num, hlt, HS3, hS.sel (by repeat (first | exact Sel.refl | refine Sel.take (by repeat (first | exact t0 | apply tS)) ?_ | apply Sel.drop))⟩
      case measure => simp [intOf]; omega
    · have hkn : k = n := by omega
      have HS4 : Hid (s + 1 = 6 + 37 * n + 40 * 0 + keyS m n) := by
        have h1 := HS.out
        unfold Hid
        rw [hkn] at h1
        omega
      clear hkn HS
      go_wp2_with (first
        | (show wpList _ _ _ (⟨_, .load 23 _, _, _, _, _⟩ :: _) _ _; refine wpList_val rfl (op_load1S (b := n1) (T := 26) oneIns ((hS.bring (by repeat (first | exact t0 | apply tS)))) rfl rfl rfl) ?_; go_frame)
        | (show wpList _ _ _ (⟨_, .load 24 _, _, _, _, _⟩ :: _) _ _; refine wpList_val rfl (op_load1S (b := n1) (T := 26) oneOuts ((hS.bring (by repeat (first | exact t0 | apply tS)))) rfl rfl rfl) ?_; go_frame)
        | (show wpList _ _ _ (⟨some 57, .call _, _, _, _, _⟩ :: _) _ _; refine wpList_val rfl (op_len slOuts rfl rfl (v := m.ov) (xs := m.outs.map outC) rfl (by exact hS.rd HRO.out)) ?_; rw [HNO.out]; go_frame)
        | (show wpList _ _ _ (⟨some 63, .call _, _, _, _, _⟩ :: _) _ _; refine wpList_val rfl (op_len slOuts rfl rfl (v := m.ov) (xs := m.outs.map outC) rfl (by exact hS.rd HRO.out)) ?_; rw [HNO.out]; go_frame)
        | (show wpList _ _ _ (⟨some 58, .convert _ _ _, _, _, _, _⟩ :: _) _ _; refine wpList_val rfl (op_i64u64 undInt undU64 rfl rfl (by omega)) ?_; go_frame)
        | (go_at_call 58; refine Ret.calls (var_s (x := q) hS (by omega)) ?_; clear hS; rintro v59 w hS)
        | (show wpList _ _ _ (⟨some 60, .call _, _, _, _, _⟩ :: _) _ _; replace hS := hS.sel (M := hBy u4 (s) :: hBy v59 1 :: .blk n1 26 [N32 m.ver, m.iv, m.ov] :: F) (by repeat (first | exact Sel.refl | refine Sel.take (by repeat (first | exact t0 | apply tS)) ?_ | apply Sel.drop)); refine wpS_appendBB hS rfl rfl rfl rfl (by omega) ?_; clear hS; intro v60 w hS; go_frame)
        )
      go_loopw [64, 4] (fun kv bv wr => ∃ k s : Nat, kv = .int .i64 k ∧ k ≤ q ∧ Hid (s = 6 + 37 * n + 40 * k + keyS m n) ∧ SepL R base wr (hBy bv s :: .blk n1 26 [N32 m.ver, m.iv, m.ov] :: F)) (fun kv _ _ => q - (intOf kv).toNat)
      case atStart => exact ⟨0, s + 1, rfl, Nat.zero_le _, HS4, hS⟩
      case round =>
        clear hS HS4
        obtain ⟨k, s, rfl, hk, HS, hS⟩ := hrel
        have hs6 : s ≤ 10000 := by
          have h1 := HS.out
          have h2 := HKLE.out n
          omega
        by_cases hlt : k < q
        ·
          have hkL : k < m.outs.length := by omega
          have hkr : k < (m.outs.map outC).length := by rw [List.length_map]; exact hkL
          obtain ⟨o, ho⟩ : ∃ o, m.outs[k] = o := ⟨_, rfl⟩
          have hom : o ∈ m.outs := ho ▸ List.getElem_mem hkL
          have HX : Hid ((m.outs.map outC)[k] = outC o) := by unfold Hid; rw [List.getElem_map, ho]
          have HXL : Hid ((outC o).length = 33) := outC_len (HOOK.out o hom)
          have hov := (HOOK.out o hom).1
          have HAT : Hid (∃ h : k < m.outs.length, m.outs[k] = o) := ⟨hkL, ho⟩
          obtain ⟨v, hv⟩ : ∃ v, o.value = v := ⟨_, rfl⟩
          have HV := hide hv
          rw [hv] at hov
          clear hom ho hv
          have hoo := HOOK.out o (HAT.out.2 ▸ List.getElem_mem HAT.out.1)
          have HLO : Hid (((outC o).drop 1).take 32 = o.lock.map B8) := out_lock hoo
          have HLL := hide hoo.2
          have hov8 : v < 256 ^ 8 := hov
          have HS3 : Hid (s + 8 + 32 = 6 + 37 * n + 40 * (k + 1) + keyS m n) := by
            have h1 := HS.out
            unfold Hid
            omega
          clear HS hoo
          go_wp2_with (first
            | (show wpList _ _ _ (⟨_, .indexAddr 24 _ _, _, _, _, _⟩ :: _) _ _; refine wpList_val rfl (op_indexAddr slOuts rfl (v := m.ov) (xs := m.outs.map outC) rfl (k := k) rfl (by exact hS.rd HRO.out) hkr) ?_; go_frame)
            | (show wpList _ _ _ (⟨_, .load 60 _, _, _, _, _⟩ :: _) _ _; refine wpList_val rfl (op_loadE aggOut rfl (v := m.ov) (xs := m.outs.map outC) (k := k) rfl (by exact hS.rd HRO.out) hkr) ?_; rw [HX.out]; go_frame)
            | (show wpList _ _ _ (⟨_, .alloc 60, _, _, _, _⟩ :: _) _ _; refine wpS_alloc hS rfl rfl zeroOut (zs := zOut) rfl ?_; clear hS; intro nx w hS; go_frame)
            | (show wpList _ _ _ (⟨_, .store 60 _ _, _, _, _, _⟩ :: _) _ _; (refine wpS_storeAll (b := nx) aggOut (hS.bring (by repeat (first | exact t0 | apply tS))) rfl rfl rfl (vs := outC o) rfl HXL.out (outC_one o) rfl ?_); clear hS; intro w hS; go_frame)
            | (show wpList _ _ _ (⟨_, .load 29 _, _, _, _, _⟩ :: _) _ _; refine wpList_val rfl (op_load1S (b := nx) (T := 60) oneU ((hS.bring (by repeat (first | exact t0 | apply tS)))) rfl rfl rfl) ?_; rw [HV.out]; go_frame)
            | (go_at_call 57; refine Ret.calls (num_s (x := v) (n := 8) hS (.inr rfl) hov8 (by omega)) ?_; clear hS; rintro v71 w hS)
            | (show wpList _ _ _ (⟨some 72, .call _, _, _, _, _⟩ :: _) _ _; replace hS := hS.sel (M := hBy u4 (s) :: hBy v71 8 :: .blk nx 60 (outC o) :: .blk n1 26 [N32 m.ver, m.iv, m.ov] :: F) (by repeat (first | exact Sel.refl | refine Sel.take (by repeat (first | exact t0 | apply tS)) ?_ | apply Sel.drop)); refine wpS_appendBB hS rfl rfl rfl rfl (by omega) ?_; clear hS; intro v72 w hS; go_frame)
            | (show wpList _ _ _ (⟨some 75, .slice _ _ _ _ _, _, _, _, _⟩ :: _) _ _; refine wpList_val rfl (op_sliceArr arr32b rfl rfl (l := 0) (h := 32) (Or.inl ⟨rfl, rfl⟩) (Or.inl ⟨rfl, rfl⟩) (by omega) (by omega)) ?_; rw [if_neg (by omega)]; go_frame)
            | (show wpList _ _ _ (⟨some 76, .call _, _, _, _, _⟩ :: _) _ _; replace hS := hS.sel (M := hBy v72 (s + 8) :: .blk nx 60 (outC o) :: .blk n1 26 [N32 m.ver, m.iv, m.ov] :: F) (by repeat (first | exact Sel.refl | refine Sel.take (by repeat (first | exact t0 | apply tS)) ?_ | apply Sel.drop)); refine wpS_appendBy hS rfl rfl rfl rfl (by exact rd_blk (blk_mid (b := nx) hS.tail.getBlk HLO.out) HLL.out (by omega)) HLL.out (by omega) ?_; clear hS; intro v76 w hS; go_frame)
            )
          go_roundw
          case rel => exact ⟨k + 1, _, by go_num, hlt, HS3, hS.sel (by repeat (first | exact Sel.refl | refine Sel.take (by repeat (first | exact t0 | apply tS)) ?_ | apply Sel.drop))⟩
          case measure => simp [intOf]; omega
        · have hkq : k = q := by omega
          have e : s = sizeN m := by
            have h1 := HS.out
            have h2 := HSZ.out
            rw [hkq] at h1
            omega
          rw [e] at hS
          clear e
          go_wp2_with fail
          go_ret2
          exact ⟨_, rfl, hS.sel (by repeat (first | exact Sel.refl | refine Sel.take (by repeat (first | exact t0 | apply tS)) ?_ | apply Sel.drop))⟩
set_option maxHeartbeats 4000000 in
theorem rsize_s {m : MT} (hS : SepL R base w F) (ht : TxIn R base m) (hf : formB m.pt = true) (hver : m.ver < 4294967296) :
    Calls Tryd.prog 29 #[txV m] w (Ret fun r w' => r = .tuple #[I64 ((sizeN m : Nat) : Int), I64 0] ∧ SepL R base w' F) := by
  have HP : Hid (∀ {w : World} {F : List Hp}, SepL R base w F → Calls Tryd.prog 43 #[txV m] w (Ret fun r w' => ∃ v : Value, r = .tuple #[v, I64 0] ∧ SepL R base w' (hBy v (sizeN m) :: F))) := fun hS => put07_s hS ht hf hver
  generalize sizeN m = z at *
  clear hf hver
  go_enter Tryd.func29, Tryd.ntmps29
  go_wp2_with (first
    | (show wpList _ _ _ (⟨some 1, .box _ _, _, _, _, _⟩ :: _) _ _; refine wpS_boxA (cs := [N32 m.ver, m.iv, m.ov]) hS rfl rfl rfl ?_; clear hS; intro n1 w hS; go_frame)
    | (show wpList _ _ _ (⟨_, .load 26 _, _, _, _, _⟩ :: _) _ _; refine wpList_val rfl (op_load aggTx rfl rfl (SepL.getBlk (b := n1) (T := 26) ((hS.bring (by repeat (first | exact t0 | apply tS))))).cells rfl) ?_; go_frame)
    | (go_at_call 43; refine Ret.calls (HP.out hS) ?_; clear hS; rintro r1 w ⟨vb, rfl, hS⟩)
    | (show wpList _ _ _ (⟨some 12, .call _, _, _, _, _⟩ :: _) _ _; refine wpList_val rfl (op_lenBy (v := vb) (n := z) hS rfl rfl rfl) ?_; go_frame)
    )
  go_ret2
  exact ⟨rfl, hS.sel (by repeat (first | exact Sel.refl | refine Sel.take (by repeat (first | exact t0 | apply tS)) ?_ | apply Sel.drop))⟩
theorem put07_no {m : MT} (hS : SepL R base w F) (ht : TxIn R base m) (hf : formB m.pt = false) :
    Calls Tryd.prog 43 #[txV m] w (Ret fun r w' => r = .tuple #[.slice none 0 0, I64 5] ∧ SepL R base w' F) := by
  have HFB := hide hf
  clear hf
  go_enter Tryd.func43, Tryd.ntmps43
  go_wp2_with (first
    | (show wpList _ _ _ (⟨some 1, .box _ _, _, _, _, _⟩ :: _) _ _; refine wpS_boxA (cs := [N32 m.ver, m.iv, m.ov]) hS rfl rfl rfl ?_; clear hS; intro n1 w hS; go_frame)
    | (show wpList _ _ _ (⟨_, .load 26 _, _, _, _, _⟩ :: _) _ _; refine wpList_val rfl (op_load aggTx rfl rfl (SepL.getBlk (b := n1) (T := 26) ((hS.bring (by repeat (first | exact t0 | apply tS))))).cells rfl) ?_; go_frame)
    | (go_at_call 44; refine Ret.calls (rform_s hS ht HFB) ?_; clear hS; rintro r1 w ⟨rfl, hS⟩)
    )
  go_ret2
  exact ⟨rfl, hS.sel (by repeat (first | exact Sel.refl | refine Sel.take (by repeat (first | exact t0 | apply tS)) ?_ | apply Sel.drop))⟩
theorem rsize_no {m : MT} (hS : SepL R base w F) (ht : TxIn R base m) (hf : formB m.pt = false) :
    Calls Tryd.prog 29 #[txV m] w (Ret fun r w' => r = .tuple #[I64 0, I64 5] ∧ SepL R base w' F) := by
  have HP : Hid (∀ {w : World} {F : List Hp}, SepL R base w F → Calls Tryd.prog 43 #[txV m] w (Ret fun r w' => r = .tuple #[.slice none 0 0, I64 5] ∧ SepL R base w' F)) := fun hS => put07_no hS ht hf
  clear hf
  go_enter Tryd.func29, Tryd.ntmps29
  go_wp2_with (first
    | (show wpList _ _ _ (⟨some 1, .box _ _, _, _, _, _⟩ :: _) _ _; refine wpS_boxA (cs := [N32 m.ver, m.iv, m.ov]) hS rfl rfl rfl ?_; clear hS; intro n1 w hS; go_frame)
    | (show wpList _ _ _ (⟨_, .load 26 _, _, _, _, _⟩ :: _) _ _; refine wpList_val rfl (op_load aggTx rfl rfl (SepL.getBlk (b := n1) (T := 26) ((hS.bring (by repeat (first | exact t0 | apply tS))))).cells rfl) ?_; go_frame)
    | (go_at_call 43; refine Ret.calls (HP.out hS) ?_; clear hS; rintro r1 w ⟨rfl, hS⟩)
    | (show wpList _ _ _ (⟨some 12, .call _, _, _, _, _⟩ :: _) _ _; refine wpList_val rfl (op_lenB slBytes (bs := []) (n := 0) rfl rfl rfl Rd.nil rfl) ?_; go_frame)
    )
  go_ret2
  exact ⟨rfl, hS.sel (by repeat (first | exact Sel.refl | refine Sel.take (by repeat (first | exact t0 | apply tS)) ?_ | apply Sel.drop))⟩
end
end Go.Proofs.YtieobcaegegboaaDoor
