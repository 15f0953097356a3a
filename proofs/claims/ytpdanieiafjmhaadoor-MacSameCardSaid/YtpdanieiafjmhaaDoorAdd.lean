/- A hasher in memory: a new one, and bytes that are added to it. Conditions: those that stand ahead of each theorem. -/
import Derived.Test.YtpdanieiafjmhaaDoorBlock
namespace Go.Proofs.YtpdanieiafjmhaaDoor
open Go.RowKit Go.Px Go.Sha
def cellsH (h : Hs) : List Value := h.st.list.map W32 ++ h.op.map B8 ++ [N64 h.n]
theorem agg70 : Agg Tryd.prog 70 73 := Agg.of (d := .struct ((match Tryd.prog.underlying 70 with | some (.struct fs) => fs | _ => #[]))) (by kernel_rfl) rfl (by kernel_rfl)
theorem buildH (w : World) : (Instr.build 70 #[(0, .agg (first.map W32).toArray)]).run Tryd.prog w = .ok (.agg (cellsH new).toArray) w := by kernel_rfl
theorem st_len (s : St) : (s.list.map W32).length = 8 := rfl
theorem cells_after (s : St) (op ch : List Byte) (n m at_ : Nat) (h64 : op.length = 64) (hc : at_ + ch.length ≤ 64) :
    ((cellsH ⟨s, op, n⟩).take (8 + at_) ++ ch.map B8 ++ (cellsH ⟨s, op, n⟩).drop (8 + at_ + ch.length)).set 72 (N64 m) = s.list.map W32 ++ (op.take at_ ++ ch ++ op.drop (at_ + ch.length)).map B8 ++ [N64 m] := by
  have hs := st_len s
  have e1 : (cellsH ⟨s, op, n⟩).take (8 + at_) = s.list.map W32 ++ (op.take at_).map B8 := by
    show (s.list.map W32 ++ op.map B8 ++ [N64 n]).take (8 + at_) = _
    rw [List.append_assoc, List.take_append, hs, List.take_of_length_le (by omega), show 8 + at_ - 8 = at_ by omega, List.take_append_of_le_length (by simp; omega), List.map_take]
  have e2 : (cellsH ⟨s, op, n⟩).drop (8 + at_ + ch.length) = (op.drop (at_ + ch.length)).map B8 ++ [N64 n] := by
    show (s.list.map W32 ++ op.map B8 ++ [N64 n]).drop (8 + at_ + ch.length) = _
    rw [List.append_assoc, List.drop_append, hs, List.drop_eq_nil_of_le (by omega), List.nil_append, show 8 + at_ + ch.length - 8 = at_ + ch.length by omega, List.drop_append_of_le_length (by simp; omega), List.map_drop]
  rw [e1, e2, ← List.append_assoc, List.set_append_right _ _ (by simp [hs]; omega)]
  have e3 : 72 - (s.list.map W32 ++ (op.take at_).map B8 ++ ch.map B8 ++ (op.drop (at_ + ch.length)).map B8).length = 0 := by
    simp [hs]
    omega
  rw [e3]
  simp
theorem cells_copy (g : Hs) (rest : List Byte) (k at_ : Nat) (h64 : g.op.length = 64) (_ : k ≤ rest.length) (hc : at_ + k ≤ 64) :
    (cellsH g).take (8 + at_) ++ (rest.map B8).take k ++ (cellsH g).drop (8 + at_ + k) = cellsH ⟨g.st, g.op.take at_ ++ rest.take k ++ g.op.drop (at_ + k), g.n⟩ := by
  have hs := st_len g.st
  have e1 : (cellsH g).take (8 + at_) = g.st.list.map W32 ++ (g.op.take at_).map B8 := by
    show (g.st.list.map W32 ++ g.op.map B8 ++ [N64 g.n]).take (8 + at_) = _
    rw [List.append_assoc, List.take_append, hs, List.take_of_length_le (by omega), show 8 + at_ - 8 = at_ by omega, List.take_append_of_le_length (by simp; omega), List.map_take]
  have e2 : (cellsH g).drop (8 + at_ + k) = (g.op.drop (at_ + k)).map B8 ++ [N64 g.n] := by
    show (g.st.list.map W32 ++ g.op.map B8 ++ [N64 g.n]).drop (8 + at_ + k) = _
    rw [List.append_assoc, List.drop_append, hs, List.drop_eq_nil_of_le (by omega), List.nil_append, show 8 + at_ + k - 8 = at_ + k by omega, List.drop_append_of_le_length (by simp; omega), List.map_drop]
  rw [e1, e2]
  simp [cellsH, List.map_take]
theorem le_of_eq_le {a b c : Nat} (h : a = b) (h2 : c ≤ b) : c ≤ a := by omega
theorem cellsH_set (g : Hs) (m : Nat) (h64 : g.op.length = 64) : (cellsH g).set 72 (N64 m) = cellsH ⟨g.st, g.op, m⟩ := by
  unfold cellsH
  rw [List.set_append_right _ _ (by simp [h64, St.list])]
  simp [h64, St.list]
theorem cellsH_st (g : Hs) (t : St) : (cellsH g).take 0 ++ t.list.map W32 ++ (cellsH g).drop (0 + 8) = cellsH ⟨t, g.op, g.n⟩ := by
  simp [cellsH, St.list]
theorem op_loadSt {P : Program} {R : Nat → Prop} {base w : World} {L : List Hp} {o : Oper} {ρ : Operand → Value} {t p : Nat} (A : Agg P t 8) {T : TypeId} {g : Hs} (hS : SepL R base w (.blk p T (cellsH g) :: L)) {x : Operand} (ho : o.op = .load t x) (hx : ρ x = .pointer (some ⟨p, 0, none⟩)) :
    (execOp ρ o).run P w = .ok (.value (ST g.st)) w := by
  have hc := hS.getBlk.cells.sub 0 8
  have e : ((cellsH g).drop 0).take 8 = g.st.list.map W32 := by simp [cellsH, St.list]
  rw [e] at hc
  exact op_load A ho hx hc rfl
theorem op_loadOp {P : Program} {R : Nat → Prop} {base w : World} {L : List Hp} {o : Oper} {ρ : Operand → Value} {t p : Nat} (A : Agg P t 64) {T : TypeId} {g : Hs} (hS : SepL R base w (.blk p T (cellsH g) :: L)) (h64 : g.op.length = 64) {x : Operand} (ho : o.op = .load t x) (hx : ρ x = .pointer (some ⟨p, 8, none⟩)) :
    (execOp ρ o).run P w = .ok (.value (.agg (g.op.map B8).toArray)) w := by
  have hc := hS.getBlk.cells.sub 8 64
  have e : ((cellsH g).drop 8).take 64 = g.op.map B8 := by
    show ((g.st.list.map W32 ++ g.op.map B8 ++ [N64 g.n]).drop 8).take 64 = _
    rw [List.append_assoc, List.drop_append, st_len, List.drop_eq_nil_of_le (by rw [st_len]; omega), List.nil_append, Nat.sub_self, List.drop_zero, List.take_append_of_le_length (by simp [h64]), List.take_of_length_le (by simp [h64])]
  rw [e] at hc
  exact op_load A ho hx hc (by simp [h64])
/-- a slice of bytes, a part of it left -/
def slLen : Value → Nat
  | .slice _ n _ => n
  | _ => 0
theorem RdIn.slLen {R : Nat → Prop} {base : World} {n : Nat} {v : Value} {xs : List (List Value)} (h : RdIn R base n v xs) : slLen v = xs.length := by
  obtain ⟨A, c, rfl, _⟩ := h.rd.form
  rfl
def bytes (bs : List Byte) : List (List Value) := (bs.map B8).map fun u => [u]
theorem bytes_len (bs : List Byte) : (bytes bs).length = bs.length := by simp [bytes]
theorem RdIn.dropV {R : Nat → Prop} {base : World} {v : Value} {bs : List Byte} (h : RdIn R base 1 v (bytes bs)) {k : Nat} (hk : k ≤ bs.length) : RdIn R base 1 (cutV 1 v k (bytes bs).length) (bytes (bs.drop k)) := by
  have := h.cutV (l := k) (h := (bytes bs).length) (by rw [bytes_len]; exact hk) (Nat.le_refl _)
  rw [List.take_of_length_le (by simp)] at this
  simpa [bytes, List.map_drop] using this
theorem op_lenB {P : Program} {o : Oper} {w : World} {ρ : Operand → Value} {t e n' : Nat} (T : SlTy P t e 1 n') {x : Operand} {ts : Array TypeId} (ho : o.op = .call { callee := .builtin .len, args := #[x], argTypes := ts }) (hts : ts[0]? = some t) {v : Value} (hx : ρ x = v) {bs : List Byte} (hr : Rd 1 w v (bytes bs)) {n : Nat} (hn : bs.length = n) :
    (execOp ρ o).run P w = .ok (.value (.int .i64 n)) w := by
  have := op_len T ho hts hx hr
  rwa [bytes_len, hn] at this
theorem cellsH_len {h : Hs} (ho : h.op.length = 64) : (cellsH h).length = 73 := by simp [cellsH, ho, St.list]
theorem cellsH_n {h : Hs} (ho : h.op.length = 64) : (cellsH h)[72]? = some (N64 h.n) := by
  unfold cellsH
  rw [List.getElem?_append_right (by simp [ho, St.list])]
  simp [ho, St.list]
theorem opK {op rest : List Byte} {r k at_ : Nat} (h64 : op.length = 64) (hr : rest.length = r) (hk : k ≤ r) (h3 : at_ + k ≤ 64) : (op.take at_ ++ rest.take k ++ op.drop (at_ + k)).length = 64 := by
  simp
  omega
theorem fed {g : Hs} {rest : List Byte} {k at_ : Nat} (h64 : g.op.length = 64) (hat : g.n % 64 = at_) (hk0 : 0 < k) (hk : k ≤ rest.length) (h3 : at_ + k ≤ 64) :
    absorb g (rest.take k) = ⟨if (g.n + k) % 64 = 0 then compress g.st (g.op.take at_ ++ rest.take k ++ g.op.drop (at_ + k)) else g.st, g.op.take at_ ++ rest.take k ++ g.op.drop (at_ + k), g.n + k⟩ := by
  have hl : (rest.take k).length = k := by simp; omega
  rw [absorb_chunk _ _ h64 (by rw [hl, hat]; exact h3) (by intro h; rw [h] at hl; simp at hl; omega), hl, hat]
theorem W32_one (s : St) : ∀ v ∈ s.list.map W32, v.oneCell' = true := by
  intro v hv
  simp only [List.mem_map] at hv
  obtain ⟨x, _, rfl⟩ := hv
  rfl
theorem cellsH_n' (st : St) {op : List Byte} {n : Nat} (ho : op.length = 64) : (cellsH ⟨st, op, n⟩)[72]? = some (N64 n) := cellsH_n (h := ⟨st, op, n⟩) ho
section
variable {R : Nat → Prop} {base w : World} {F : List Hp}
theorem copied {p T k k' r at_ : Nat} {g : Hs} {rest : List Byte} (hS : SepL R base w (.blk p T ((cellsH g).take (8 + at_) ++ (rest.map B8).take k' ++ (cellsH g).drop (8 + at_ + k')) :: F)) (hk' : k' = min (rest.map B8).length (64 - at_)) (hk : k = min r (64 - at_)) (hr : rest.length = r) (h64 : g.op.length = 64) (hat2 : at_ < 64) {op2 : List Byte} (ho : op2 = g.op.take at_ ++ rest.take k ++ g.op.drop (at_ + k)) :
    k = k' ∧ SepL R base w (.blk p T (cellsH ⟨g.st, op2, g.n⟩) :: F) := by
  subst ho
  rw [List.length_map, hr] at hk'
  rw [cells_copy g rest k' at_ h64 (by omega) (by omega)] at hS
  have e : k = k' := by omega
  subst e
  exact ⟨rfl, hS⟩
set_option maxRecDepth 100000 in
theorem new_s (hS : SepL R base w F) (hF : CIn R base 1 (first.map W32)) : Calls Tryd.prog 20 #[] w (Ret fun r w' => ∃ p, r = .pointer (some ⟨p, 0, none⟩) ∧ SepL R base w' (.blk p 70 (cellsH new) :: F)) := by
  go_enter Tryd.func20, Tryd.ntmps20
  go_wp2_with (first
    | (show wpList _ _ _ (⟨_, .load 23 _, _, _, _, _⟩ :: _) _ _; refine wpList_val rfl (op_loadCA agg8w hS hF rfl rfl rfl) ?_; go_frame)
    | (show wpList _ _ _ (⟨_, .build _ _, _, _, _, _⟩ :: _) _ _; refine wpList_val rfl (op_build (ps := #[(0, .agg (first.map W32).toArray)]) rfl rfl buildH _) ?_; go_frame)
    | (show wpList _ _ _ (⟨_, .box _ _, _, _, _, _⟩ :: _) _ _; refine wpS_boxA (cs := cellsH new) hS rfl rfl rfl ?_; clear hS; intro np w hS; go_frame)
    )
  go_ret
  exact ⟨_, rfl, hS⟩
set_option maxRecDepth 100000 in
set_option maxHeartbeats 4000000 in
theorem add_s {p : Nat} {h : Hs} (hS : SepL R base w (.blk p 70 (cellsH h) :: F)) (hK : CIn R base 0 (kTab.map W32)) (hop : h.op.length = 64) {v : Value} {bs : List Byte} (hv : RdIn R base 1 v (bytes bs)) (hn : h.n + bs.length < 4611686018427387904) :
    Calls Tryd.prog 47 #[.pointer (some ⟨p, 0, none⟩), v] w (Ret fun _ w' => SepL R base w' (.blk p 70 (cellsH (absorb h bs)) :: F)) := by
  go_enter Tryd.func47, Tryd.ntmps47
  go_wp2_with fail
  go_loopw [1] (fun u wr => ∃ j : Nat, j ≤ bs.length ∧ RdIn R base 1 u (bytes (bs.drop j)) ∧ SepL R base wr (.blk p 70 (cellsH (absorb h (bs.take j))) :: F)) (fun u _ => slLen u)
  case atStart => exact ⟨0, by omega, hv, hS⟩
  case round =>
    clear hS hv
    obtain ⟨j, hj, hv, hS⟩ := hrel
    have hg1 := absorb_op (bs.take j) h
    have hg2 := absorb_n (bs.take j) h
    rw [List.length_take, Nat.min_eq_left hj] at hg2
    by_cases hlt : j < bs.length
    · have hop' : (absorb h (bs.take j)).op.length = 64 := by rw [hg1, hop]
      have hrl : (bs.drop j).length = bs.length - j := by simp
      have hsp : ∀ k, absorb h (bs.take (j + k)) = absorb (absorb h (bs.take j)) ((bs.drop j).take k) := fun k => by rw [← absorb_append, ← List.take_add]
      have hdd : ∀ k, (bs.drop j).drop k = bs.drop (j + k) := fun k => by rw [List.drop_drop]
      generalize absorb h (bs.take j) = g at *
      generalize bs.drop j = rest at *
      have hcl := hide (cellsH_len hop')
      have hcn := hide (cellsH_n hop')
      have HSP := hide hsp
      have HDD := hide hdd
      have HRL := hide hrl
      have HOP := hide hop'
      obtain ⟨r, hr⟩ : ∃ r, rest.length = r := ⟨_, rfl⟩
      have HR := hide hr
      obtain ⟨at_, hat⟩ : ∃ a, g.n % 64 = a := ⟨_, rfl⟩
      have hat2 : at_ < 64 := by omega
      have hr0 : 0 < r := by omega
      have hgn : g.n ≤ 4611686018427387904 := by omega
      have HAT := hide hat
      obtain ⟨k, hkk⟩ : ∃ k, k = min r (64 - at_) := ⟨_, rfl⟩
      have hk1 : 0 < k := by omega
      have hk2 : k ≤ r := by omega
      have hk3 : at_ + k ≤ 64 := by omega
      have HKK := hide hkk
      obtain ⟨op2, ho2⟩ : ∃ o, o = g.op.take at_ ++ rest.take k ++ g.op.drop (at_ + k) := ⟨_, rfl⟩
      have hop2 : op2.length = 64 := by rw [ho2]; exact opK HOP.out HR.out hk2 hk3
      have HO2 := hide ho2
      have HL := hide (cellsH_len (h := ⟨g.st, op2, g.n + k⟩) hop2)
      have HN := hide (cellsH_n' g.st (n := g.n) hop2)
      have HN2 := hide (cellsH_n' g.st (n := g.n + k) hop2)
      have HOPK := hide hop2
      have hfed := fed (g := g) (rest := rest) HOP.out HAT.out hk1 (le_of_eq_le HR.out hk2) hk3
      rw [← ho2] at hfed
      have HFED := hide hfed
      clear hfed hop2 ho2
      obtain ⟨b, hb⟩ : ∃ b, ((g.n + k) % 64 == 0) = b := ⟨_, rfl⟩
      have HB := hide hb
      have hm64 : (g.n + k) % 64 < 18446744073709551616 := by omega
      clear hsp hdd hrl hr hop' hg1 hg2 hat hkk hb
      cases b
      · go_wp2_with (first
          | (show wpList _ _ _ (⟨_, .call ⟨.builtin .len, _, _⟩, _, _, _, _⟩ :: _) _ _; refine wpList_val rfl (op_lenB slBytes rfl rfl rfl (hS.rd hv) HR.out) ?_; go_frame)
          | (show wpList _ _ _ (⟨_, .load 42 _, _, _, _, _⟩ :: _) _ _; refine wpList_val rfl (op_load1S oneU64 ((hS.bring (by repeat (first | exact t0 | apply tS)))) rfl rfl hcn.out) ?_; go_frame)
          | (show wpList _ _ _ (⟨_, .binOp .and 42 _ _ _, _, _, _, _⟩ :: _) _ _; refine wpList_val rfl (op_N64and63 rfl rfl rfl) ?_; first | rw [HAT.out] | skip; go_frame)
          | (show wpList _ _ _ (⟨_, .convert 42 3 _, _, _, _, _⟩ :: _) _ _; refine wpList_val rfl (op_N64int undU64 undInt rfl rfl (by omega)) ?_; go_frame)
          | (show wpList _ _ _ (⟨_, .slice 24 _ _ none _, _, _, _, _⟩ :: _) _ _; refine wpList_val rfl (op_sliceArr arr64b rfl rfl (l := at_) (h := 64) (Or.inr rfl) (Or.inl ⟨rfl, rfl⟩) (by omega) (by omega)) ?_; rw [if_neg (by omega)]; go_frame)
          | (show wpList _ _ _ (⟨_, .call ⟨.builtin .copy, _, _⟩, _, _, _, _⟩ :: _) _ _; refine wpS_copyArr undBytes sizeU8 ((hS.bring (by repeat (first | exact t0 | apply tS)))) rfl rfl rfl rfl (hS.rd hv) (oneB _) (by rw [hcl.out]; omega) ?_; clear hS; intro w k' hk hS; obtain ⟨e, hS2⟩ := copied hS hk HKK.out HR.out HOP.out hat2 HO2.out; clear hS hk; subst e; have hS := hS2; clear hS2; go_frame)
          | (show wpList _ _ _ (⟨_, .slice 28 _ _ none _, _, _, _, _⟩ :: _) _ _; refine wpList_val rfl (op_cut slBytes (v := u1) rfl rfl (hS.rd hv) (l := k) (h := _) (Or.inr rfl) (Or.inl ⟨rfl, rfl⟩) (by rw [bytes_len, HR.out]; omega) (Nat.le_refl _)) ?_; go_frame)
          | (show wpList _ _ _ (⟨_, .load 42 _, _, _, _, _⟩ :: _) _ _; refine wpList_val rfl (op_load1S oneU64 ((hS.bring (by repeat (first | exact t0 | apply tS)))) rfl rfl HN.out) ?_; go_frame)
          | (show wpList _ _ _ (⟨_, .load 42 _, _, _, _, _⟩ :: _) _ _; refine wpList_val rfl (op_load1S oneU64 ((hS.bring (by repeat (first | exact t0 | apply tS)))) rfl rfl HN2.out) ?_; go_frame)
          | (show wpList _ _ _ (⟨_, .convert 3 42 _, _, _, _, _⟩ :: _) _ _; refine wpList_val rfl (op_natN64 undInt undU64 rfl rfl) ?_; go_frame)
          | (show wpList _ _ _ (⟨_, .binOp .add 42 _ _ _, _, _, _, _⟩ :: _) _ _; refine wpList_val rfl (op_N64add rfl rfl rfl) ?_; go_frame)
          | (show wpList _ _ _ (⟨_, .store 42 _ _, _, _, _, _⟩ :: _) _ _; (refine wpS_store1 sizeU64 (hS.bring (by repeat (first | exact t0 | apply tS))) rfl rfl rfl rfl rfl rfl (by rw [cellsH_len HOPK.out]; omega) ?_); clear hS; intro w hS; rw [cellsH_set _ _ HOPK.out] at hS; go_frame)
          | (refine wp_region_text (by kernel_rfl) (by kernel_rfl) (by repeat (first | exact Clean.body | refine Clean.then ?_ | refine Clean.inBlock ?_)) ?_; replace hS := hS.drew)
          | (refine fin_mk (by kernel_rfl) ?_)
          | (show wpList _ _ _ (⟨_, .binOp .eql 42 _ _ _, _, _, _, _⟩ :: _) _ _; refine wpList_val rfl (op_N64eq rfl rfl hm64 (c := 0) rfl) ?_; rw [HB.out]; go_frame)
          | (show wpList _ _ _ (⟨_, .load 23 _, _, _, _, _⟩ :: _) _ _; refine wpList_val rfl (op_loadSt agg8w ((hS.bring (by repeat (first | exact t0 | apply tS)))) rfl rfl) ?_; go_frame)
          | (show wpList _ _ _ (⟨_, .load 24 _, _, _, _, _⟩ :: _) _ _; refine wpList_val rfl (op_loadOp agg64b ((hS.bring (by repeat (first | exact t0 | apply tS)))) HOPK.out rfl rfl) ?_; go_frame)
          | (go_at_call 18; refine Ret.calls (block_s hS hK g.st op2 HOPK.out) ?_; clear hS; rintro r w ⟨rfl, hS⟩)
          | (show wpList _ _ _ (⟨_, .store 23 _ _, _, _, _, _⟩ :: _) _ _; (refine wpS_storeN agg8w (hS.bring (by repeat (first | exact t0 | apply tS))) rfl rfl rfl rfl rfl (W32_one _) (by rw [HL.out]; omega) ?_); clear hS; intro w hS; rw [cellsH_st] at hS; go_frame)
          )
        go_roundw
        case rel => exact ⟨j + k, by have := HR.out; have := HRL.out; omega, by rw [← HDD.out k]; exact RdIn.dropV hv (le_of_eq_le HR.out hk2), by rw [HSP.out k, HFED.out, if_neg (by simpa using HB.out)]; exact hS⟩
        case measure => rw [RdIn.slLen (RdIn.dropV hv (le_of_eq_le HR.out hk2)), RdIn.slLen hv, bytes_len, bytes_len, List.length_drop]; have := HR.out; omega
      · go_wp2_with (first
          | (show wpList _ _ _ (⟨_, .call ⟨.builtin .len, _, _⟩, _, _, _, _⟩ :: _) _ _; refine wpList_val rfl (op_lenB slBytes rfl rfl rfl (hS.rd hv) HR.out) ?_; go_frame)
          | (show wpList _ _ _ (⟨_, .load 42 _, _, _, _, _⟩ :: _) _ _; refine wpList_val rfl (op_load1S oneU64 ((hS.bring (by repeat (first | exact t0 | apply tS)))) rfl rfl hcn.out) ?_; go_frame)
          | (show wpList _ _ _ (⟨_, .binOp .and 42 _ _ _, _, _, _, _⟩ :: _) _ _; refine wpList_val rfl (op_N64and63 rfl rfl rfl) ?_; first | rw [HAT.out] | skip; go_frame)
          | (show wpList _ _ _ (⟨_, .convert 42 3 _, _, _, _, _⟩ :: _) _ _; refine wpList_val rfl (op_N64int undU64 undInt rfl rfl (by omega)) ?_; go_frame)
          | (show wpList _ _ _ (⟨_, .slice 24 _ _ none _, _, _, _, _⟩ :: _) _ _; refine wpList_val rfl (op_sliceArr arr64b rfl rfl (l := at_) (h := 64) (Or.inr rfl) (Or.inl ⟨rfl, rfl⟩) (by omega) (by omega)) ?_; rw [if_neg (by omega)]; go_frame)
          | (show wpList _ _ _ (⟨_, .call ⟨.builtin .copy, _, _⟩, _, _, _, _⟩ :: _) _ _; refine wpS_copyArr undBytes sizeU8 ((hS.bring (by repeat (first | exact t0 | apply tS)))) rfl rfl rfl rfl (hS.rd hv) (oneB _) (by rw [hcl.out]; omega) ?_; clear hS; intro w k' hk hS; obtain ⟨e, hS2⟩ := copied hS hk HKK.out HR.out HOP.out hat2 HO2.out; clear hS hk; subst e; have hS := hS2; clear hS2; go_frame)
          | (show wpList _ _ _ (⟨_, .slice 28 _ _ none _, _, _, _, _⟩ :: _) _ _; refine wpList_val rfl (op_cut slBytes (v := u1) rfl rfl (hS.rd hv) (l := k) (h := _) (Or.inr rfl) (Or.inl ⟨rfl, rfl⟩) (by rw [bytes_len, HR.out]; omega) (Nat.le_refl _)) ?_; go_frame)
          | (show wpList _ _ _ (⟨_, .load 42 _, _, _, _, _⟩ :: _) _ _; refine wpList_val rfl (op_load1S oneU64 ((hS.bring (by repeat (first | exact t0 | apply tS)))) rfl rfl HN.out) ?_; go_frame)
          | (show wpList _ _ _ (⟨_, .load 42 _, _, _, _, _⟩ :: _) _ _; refine wpList_val rfl (op_load1S oneU64 ((hS.bring (by repeat (first | exact t0 | apply tS)))) rfl rfl HN2.out) ?_; go_frame)
          | (show wpList _ _ _ (⟨_, .convert 3 42 _, _, _, _, _⟩ :: _) _ _; refine wpList_val rfl (op_natN64 undInt undU64 rfl rfl) ?_; go_frame)
          | (show wpList _ _ _ (⟨_, .binOp .add 42 _ _ _, _, _, _, _⟩ :: _) _ _; refine wpList_val rfl (op_N64add rfl rfl rfl) ?_; go_frame)
          | (show wpList _ _ _ (⟨_, .store 42 _ _, _, _, _, _⟩ :: _) _ _; (refine wpS_store1 sizeU64 (hS.bring (by repeat (first | exact t0 | apply tS))) rfl rfl rfl rfl rfl rfl (by rw [cellsH_len HOPK.out]; omega) ?_); clear hS; intro w hS; rw [cellsH_set _ _ HOPK.out] at hS; go_frame)
          | (refine wp_region_text (by kernel_rfl) (by kernel_rfl) (by repeat (first | exact Clean.body | refine Clean.then ?_ | refine Clean.inBlock ?_)) ?_; replace hS := hS.drew)
          | (refine fin_mk (by kernel_rfl) ?_)
          | (show wpList _ _ _ (⟨_, .binOp .eql 42 _ _ _, _, _, _, _⟩ :: _) _ _; refine wpList_val rfl (op_N64eq rfl rfl hm64 (c := 0) rfl) ?_; rw [HB.out]; go_frame)
          | (show wpList _ _ _ (⟨_, .load 23 _, _, _, _, _⟩ :: _) _ _; refine wpList_val rfl (op_loadSt agg8w ((hS.bring (by repeat (first | exact t0 | apply tS)))) rfl rfl) ?_; go_frame)
          | (show wpList _ _ _ (⟨_, .load 24 _, _, _, _, _⟩ :: _) _ _; refine wpList_val rfl (op_loadOp agg64b ((hS.bring (by repeat (first | exact t0 | apply tS)))) HOPK.out rfl rfl) ?_; go_frame)
          | (go_at_call 18; refine Ret.calls (block_s hS hK g.st op2 HOPK.out) ?_; clear hS; rintro r w ⟨rfl, hS⟩)
          | (show wpList _ _ _ (⟨_, .store 23 _ _, _, _, _, _⟩ :: _) _ _; (refine wpS_storeN agg8w (hS.bring (by repeat (first | exact t0 | apply tS))) rfl rfl rfl rfl rfl (W32_one _) (by rw [HL.out]; omega) ?_); clear hS; intro w hS; rw [cellsH_st] at hS; go_frame)
          )
        go_roundw
        case rel => exact ⟨j + k, by have := HR.out; have := HRL.out; omega, by rw [← HDD.out k]; exact RdIn.dropV hv (le_of_eq_le HR.out hk2), by rw [HSP.out k, HFED.out, if_pos (by simpa using HB.out)]; exact hS⟩
        case measure => rw [RdIn.slLen (RdIn.dropV hv (le_of_eq_le HR.out hk2)), RdIn.slLen hv, bytes_len, bytes_len, List.length_drop]; have := HR.out; omega
    · have hj2 : j = bs.length := by omega
      subst hj2
      rw [List.take_length] at hS
      rw [List.drop_length] at hv
      clear hg1 hg2
      go_wp2_with (first
        | (show wpList _ _ _ (⟨_, .call ⟨.builtin .len, _, _⟩, _, _, _, _⟩ :: _) _ _; refine wpList_val rfl (op_lenB slBytes rfl rfl rfl (hS.rd hv) (n := 0) rfl) ?_; go_frame)
        )
      refine bodyPost_end (results_none rfl _ _ _) rfl ?_
      exact hS
end
end Go.Proofs.YtpdanieiafjmhaaDoor
