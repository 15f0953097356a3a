/- Bytes taken, sums of pieces, and what padded bytes are. Conditions: those that stand ahead of each theorem. -/
import Derived.Test.YtieobcaegegboaaDoorGShaA
import Derived.Test.YtieobcaegegboaaDoorInts
import Derived.Test.YtieobcaegegboaaDoorKeys
import Derived.WideKeyArr2
import Derived.Test.YtieobcaegegboaaDoorInts2
namespace Go.Proofs.YtieobcaegegboaaDoor
open Go.RowKit Go.Px Go.Sha
def cellsH (h : Hs) : List Value := h.st.list.map W32 ++ h.op.map B8 ++ [N64 h.n]
theorem agg70 : Agg Tryd.prog 109 73 := Agg.of (d := .struct ((match Tryd.prog.underlying 109 with | some (.struct fs) => fs | _ => #[]))) (by kernel_rfl) rfl (by kernel_rfl)
theorem buildH (w : World) : (Instr.build 109 #[(0, .agg (first.map W32).toArray)]).run Tryd.prog w = .ok (.agg (cellsH new).toArray) w := by kernel_rfl
theorem st_len (s : St) : (s.list.map W32).length = 8 := rfl
theorem cells_after (s : St) (op ch : List Byte) (n m at_ : Nat) (h64 : op.length = 64) (hc : at_ + ch.length ≤ 64) :
    ((cellsH ⟨s, op, n⟩).take (8 + at_) ++ ch.map B8 ++ (cellsH ⟨s, op, n⟩).drop (8 + at_ + ch.length)).set 72 (N64 m) = s.list.map W32 ++ (op.take at_ ++ ch ++ op.drop (at_ + ch.length)).map B8 ++ [N64 m] := by
  have hs := st_len s
  have e1 : (cellsH ⟨s, op, n⟩).take (8 + at_) = s.list.map W32 ++ (op.take at_).map B8 := by
    show (s.list.map W32 ++ op.map B8 ++ [N64 n]).take (8 + at_) = _
    rw [List.append_assoc, List.take_append, hs, List.take_of_length_le (by omega), show 8 + at_ - 8 = at_ by omega, List.take_append_of_le_length (by simp; omega), List.map_take]
  have e2 : (cellsH ⟨s, op, n⟩).drop (8 + at_ + ch.length) = (op.drop (at_ + ch.length)).map B8 ++ [N64 n] := by
    show (s.list.map W32 ++ op.map B8 ++ [N64 n]).drop (8 + at_ + ch.length) = _
    rw [List.append_assoc, List.drop_append, hs, List.drop_eq_nil_of_le (by omega), List.nil_append, show 8 + at_ + ch.length - 8 = at_ + ch.length by omega, List.drop_append_of_le_length (by simp; omega), List.map_drop]
  rw [e1, e2, ← List.append_assoc, List.set_append_right _ _ (by simp [hs]; omega)]
  have e3 : 72 - (s.list.map W32 ++ (op.take at_).map B8 ++ ch.map B8 ++ (op.drop (at_ + ch.length)).map B8).length = 0 := by
    simp [hs]
    omega
  rw [e3]
  simp
theorem cells_copy (g : Hs) (rest : List Byte) (k at_ : Nat) (h64 : g.op.length = 64) (_ : k ≤ rest.length) (hc : at_ + k ≤ 64) :
    (cellsH g).take (8 + at_) ++ (rest.map B8).take k ++ (cellsH g).drop (8 + at_ + k) = cellsH ⟨g.st, g.op.take at_ ++ rest.take k ++ g.op.drop (at_ + k), g.n⟩ := by
  have hs := st_len g.st
  have e1 : (cellsH g).take (8 + at_) = g.st.list.map W32 ++ (g.op.take at_).map B8 := by
    show (g.st.list.map W32 ++ g.op.map B8 ++ [N64 g.n]).take (8 + at_) = _
    rw [List.append_assoc, List.take_append, hs, List.take_of_length_le (by omega), show 8 + at_ - 8 = at_ by omega, List.take_append_of_le_length (by simp; omega), List.map_take]
  have e2 : (cellsH g).drop (8 + at_ + k) = (g.op.drop (at_ + k)).map B8 ++ [N64 g.n] := by
    show (g.st.list.map W32 ++ g.op.map B8 ++ [N64 g.n]).drop (8 + at_ + k) = _
    rw [List.append_assoc, List.drop_append, hs, List.drop_eq_nil_of_le (by omega), List.nil_append, show 8 + at_ + k - 8 = at_ + k by omega, List.drop_append_of_le_length (by simp; omega), List.map_drop]
  rw [e1, e2]
  simp [cellsH, List.map_take]
theorem le_of_eq_le {a b c : Nat} (h : a = b) (h2 : c ≤ b) : c ≤ a := by omega
theorem cellsH_set (g : Hs) (m : Nat) (h64 : g.op.length = 64) : (cellsH g).set 72 (N64 m) = cellsH ⟨g.st, g.op, m⟩ := by
  unfold cellsH
  rw [List.set_append_right _ _ (by simp [h64, St.list])]
  simp [h64, St.list]
theorem cellsH_st (g : Hs) (t : St) : (cellsH g).take 0 ++ t.list.map W32 ++ (cellsH g).drop (0 + 8) = cellsH ⟨t, g.op, g.n⟩ := by
  simp [cellsH, St.list]
theorem op_loadSt {P : Program} {R : Nat → Prop} {base w : World} {L : List Hp} {o : Oper} {ρ : Operand → Value} {t p : Nat} (A : Agg P t 8) {T : TypeId} {g : Hs} (hS : SepL R base w (.blk p T (cellsH g) :: L)) {x : Operand} (ho : o.op = .load t x) (hx : ρ x = .pointer (some ⟨p, 0, none⟩)) :
    (execOp ρ o).run P w = .ok (.value (ST g.st)) w := by
  have hc := hS.getBlk.cells.sub 0 8
  have e : ((cellsH g).drop 0).take 8 = g.st.list.map W32 := by simp [cellsH, St.list]
  rw [e] at hc
  exact op_load A ho hx hc rfl
theorem op_loadOp {P : Program} {R : Nat → Prop} {base w : World} {L : List Hp} {o : Oper} {ρ : Operand → Value} {t p : Nat} (A : Agg P t 64) {T : TypeId} {g : Hs} (hS : SepL R base w (.blk p T (cellsH g) :: L)) (h64 : g.op.length = 64) {x : Operand} (ho : o.op = .load t x) (hx : ρ x = .pointer (some ⟨p, 8, none⟩)) :
    (execOp ρ o).run P w = .ok (.value (.agg (g.op.map B8).toArray)) w := by
  have hc := hS.getBlk.cells.sub 8 64
  have e : ((cellsH g).drop 8).take 64 = g.op.map B8 := by
    show ((g.st.list.map W32 ++ g.op.map B8 ++ [N64 g.n]).drop 8).take 64 = _
    rw [List.append_assoc, List.drop_append, st_len, List.drop_eq_nil_of_le (by rw [st_len]; omega), List.nil_append, Nat.sub_self, List.drop_zero, List.take_append_of_le_length (by simp [h64]), List.take_of_length_le (by simp [h64])]
  rw [e] at hc
  exact op_load A ho hx hc (by simp [h64])
/-- a slice of bytes, a part of it left -/
def slLen : Value → Nat
  | .slice _ n _ => n
  | _ => 0
theorem RdIn.slLen {R : Nat → Prop} {base : World} {n : Nat} {v : Value} {xs : List (List Value)} (h : RdIn R base n v xs) : slLen v = xs.length := by
  obtain ⟨A, c, rfl, _⟩ := h.rd.form
  rfl
def bytes (bs : List Byte) : List (List Value) := (bs.map B8).map fun u => [u]
theorem bytes_len (bs : List Byte) : (bytes bs).length = bs.length := by simp [bytes]
theorem RdIn.dropV {R : Nat → Prop} {base : World} {v : Value} {bs : List Byte} (h : RdIn R base 1 v (bytes bs)) {k : Nat} (hk : k ≤ bs.length) : RdIn R base 1 (cutV 1 v k (bytes bs).length) (bytes (bs.drop k)) := by
  have := h.cutV (l := k) (h := (bytes bs).length) (by rw [bytes_len]; exact hk) (Nat.le_refl _)
  rw [List.take_of_length_le (by simp)] at this
  simpa [bytes, List.map_drop] using this
theorem op_lenB {P : Program} {o : Oper} {w : World} {ρ : Operand → Value} {t e n' : Nat} (T : SlTy P t e 1 n') {x : Operand} {ts : Array TypeId} (ho : o.op = .call { callee := .builtin .len, args := #[x], argTypes := ts }) (hts : ts[0]? = some t) {v : Value} (hx : ρ x = v) {bs : List Byte} (hr : Rd 1 w v (bytes bs)) {n : Nat} (hn : bs.length = n) :
    (execOp ρ o).run P w = .ok (.value (.int .i64 n)) w := by
  have := op_len T ho hts hx hr
  rwa [bytes_len, hn] at this
theorem cellsH_len {h : Hs} (ho : h.op.length = 64) : (cellsH h).length = 73 := by simp [cellsH, ho, St.list]
theorem cellsH_n {h : Hs} (ho : h.op.length = 64) : (cellsH h)[72]? = some (N64 h.n) := by
  unfold cellsH
  rw [List.getElem?_append_right (by simp [ho, St.list])]
  simp [ho, St.list]
theorem opK {op rest : List Byte} {r k at_ : Nat} (h64 : op.length = 64) (hr : rest.length = r) (hk : k ≤ r) (h3 : at_ + k ≤ 64) : (op.take at_ ++ rest.take k ++ op.drop (at_ + k)).length = 64 := by
  simp
  omega
theorem fed {g : Hs} {rest : List Byte} {k at_ : Nat} (h64 : g.op.length = 64) (hat : g.n % 64 = at_) (hk0 : 0 < k) (hk : k ≤ rest.length) (h3 : at_ + k ≤ 64) :
    absorb g (rest.take k) = ⟨if (g.n + k) % 64 = 0 then compress g.st (g.op.take at_ ++ rest.take k ++ g.op.drop (at_ + k)) else g.st, g.op.take at_ ++ rest.take k ++ g.op.drop (at_ + k), g.n + k⟩ := by
  have hl : (rest.take k).length = k := by simp; omega
  rw [absorb_chunk _ _ h64 (by rw [hl, hat]; exact h3) (by intro h; rw [h] at hl; simp at hl; omega), hl, hat]
theorem W32_one (s : St) : ∀ v ∈ s.list.map W32, v.oneCell' = true := by
  intro v hv
  simp only [List.mem_map] at hv
  obtain ⟨x, _, rfl⟩ := hv
  rfl
theorem cellsH_n' (st : St) {op : List Byte} {n : Nat} (ho : op.length = 64) : (cellsH ⟨st, op, n⟩)[72]? = some (N64 n) := cellsH_n (h := ⟨st, op, n⟩) ho
section
variable {R : Nat → Prop} {base w : World} {F : List Hp}
theorem copied {p T k k' r at_ : Nat} {g : Hs} {rest : List Byte} (hS : SepL R base w (.blk p T ((cellsH g).take (8 + at_) ++ (rest.map B8).take k' ++ (cellsH g).drop (8 + at_ + k')) :: F)) (hk' : k' = min (rest.map B8).length (64 - at_)) (hk : k = min r (64 - at_)) (hr : rest.length = r) (h64 : g.op.length = 64) (hat2 : at_ < 64) {op2 : List Byte} (ho : op2 = g.op.take at_ ++ rest.take k ++ g.op.drop (at_ + k)) :
    k = k' ∧ SepL R base w (.blk p T (cellsH ⟨g.st, op2, g.n⟩) :: F) := by
  subst ho
  rw [List.length_map, hr] at hk'
  rw [cells_copy g rest k' at_ h64 (by omega) (by omega)] at hS
  have e : k = k' := by omega
  subst e
  exact ⟨rfl, hS⟩
set_option maxRecDepth 100000 in
theorem new_s (hS : SepL R base w F) (hF : CIn R base 0 (first.map W32)) : Calls Tryd.prog 45 #[] w (Ret fun r w' => ∃ p, r = .pointer (some ⟨p, 0, none⟩) ∧ SepL R base w' (.blk p 109 (cellsH new) :: F)) := by
  go_enter Tryd.func45, Tryd.ntmps45
  go_wp2_with (first
    | (show wpList _ _ _ (⟨_, .load 74 _, _, _, _, _⟩ :: _) _ _; refine wpList_val rfl (op_loadCA agg8w hS hF rfl rfl rfl) ?_; go_frame)
    | (show wpList _ _ _ (⟨_, .build _ _, _, _, _, _⟩ :: _) _ _; refine wpList_val rfl (op_build (ps := #[(0, .agg (first.map W32).toArray)]) rfl rfl buildH _) ?_; go_frame)
    | (show wpList _ _ _ (⟨_, .box _ _, _, _, _, _⟩ :: _) _ _; refine wpS_boxA (cs := cellsH new) hS rfl rfl rfl ?_; clear hS; intro np w hS; go_frame)
    )
  go_ret
  exact ⟨_, rfl, hS⟩
set_option maxRecDepth 100000 in
set_option maxHeartbeats 4000000 in
theorem add_s {p : Nat} {h : Hs} (hS : SepL R base w (.blk p 109 (cellsH h) :: F)) (hK : CIn R base 3 (kTab.map W32)) (hop : h.op.length = 64) {v : Value} {bs : List Byte} (hv : RdIn R base 1 v (bytes bs)) (hn : h.n + bs.length < 4611686018427387904) :
    Calls Tryd.prog 59 #[.pointer (some ⟨p, 0, none⟩), v] w (Ret fun _ w' => SepL R base w' (.blk p 109 (cellsH (absorb h bs)) :: F)) := by
  go_enter Tryd.func59, Tryd.ntmps59
  go_wp2_with fail
  go_loopw [1] (fun u wr => ∃ j : Nat, j ≤ bs.length ∧ RdIn R base 1 u (bytes (bs.drop j)) ∧ SepL R base wr (.blk p 109 (cellsH (absorb h (bs.take j))) :: F)) (fun u _ => slLen u)
  case atStart => exact ⟨0, by omega, hv, hS⟩
  case round =>
    clear hS hv
    obtain ⟨j, hj, hv, hS⟩ := hrel
    have hg1 := absorb_op (bs.take j) h
    have hg2 := absorb_n (bs.take j) h
    rw [List.length_take, Nat.min_eq_left hj] at hg2
    by_cases hlt : j < bs.length
    · have hop' : (absorb h (bs.take j)).op.length = 64 := by rw [hg1, hop]
      have hrl : (bs.drop j).length = bs.length - j := by simp
      have hsp : ∀ k, absorb h (bs.take (j + k)) = absorb (absorb h (bs.take j)) ((bs.drop j).take k) := fun k => by rw [← absorb_append, ← List.take_add]
      have hdd : ∀ k, (bs.drop j).drop k = bs.drop (j + k) := fun k => by rw [List.drop_drop]
      generalize absorb h (bs.take j) = g at *
      generalize bs.drop j = rest at *
      have hcl := hide (cellsH_len hop')
      have hcn := hide (cellsH_n hop')
      have HSP := hide hsp
      have HDD := hide hdd
      have HRL := hide hrl
      have HOP := hide hop'
      obtain ⟨r, hr⟩ : ∃ r, rest.length = r := ⟨_, rfl⟩
      have HR := hide hr
      obtain ⟨at_, hat⟩ : ∃ a, g.n % 64 = a := ⟨_, rfl⟩
      have hat2 : at_ < 64 := by omega
      have hr0 : 0 < r := by omega
      have hgn : g.n ≤ 4611686018427387904 := by omega
      have HAT := hide hat
      obtain ⟨k, hkk⟩ : ∃ k, k = min r (64 - at_) := ⟨_, rfl⟩
      have hk1 : 0 < k := by omega
      have hk2 : k ≤ r := by omega
      have hk3 : at_ + k ≤ 64 := by omega
      have HKK := hide hkk
      obtain ⟨op2, ho2⟩ : ∃ o, o = g.op.take at_ ++ rest.take k ++ g.op.drop (at_ + k) := ⟨_, rfl⟩
      have hop2 : op2.length = 64 := by rw [ho2]; exact opK HOP.out HR.out hk2 hk3
      have HO2 := hide ho2
      have HL := hide (cellsH_len (h := ⟨g.st, op2, g.n + k⟩) hop2)
      have HN := hide (cellsH_n' g.st (n := g.n) hop2)
      have HN2 := hide (cellsH_n' g.st (n := g.n + k) hop2)
      have HOPK := hide hop2
      have hfed := fed (g := g) (rest := rest) HOP.out HAT.out hk1 (le_of_eq_le HR.out hk2) hk3
      rw [← ho2] at hfed
      have HFED := hide hfed
      clear hfed hop2 ho2
      obtain ⟨b, hb⟩ : ∃ b, ((g.n + k) % 64 == 0) = b := ⟨_, rfl⟩
      have HB := hide hb
      have hm64 : (g.n + k) % 64 < 18446744073709551616 := by omega
      clear hsp hdd hrl hr hop' hg1 hg2 hat hkk hb
      cases b
      · go_wp2_with (first
          | (show wpList _ _ _ (⟨_, .call ⟨.builtin .len, _, _⟩, _, _, _, _⟩ :: _) _ _; refine wpList_val rfl (op_lenB slBytes rfl rfl rfl (hS.rd hv) HR.out) ?_; go_frame)
          | (show wpList _ _ _ (⟨_, .load 29 _, _, _, _, _⟩ :: _) _ _; refine wpList_val rfl (op_load1S oneU64 ((hS.bring (by repeat (first | exact t0 | apply tS)))) rfl rfl hcn.out) ?_; go_frame)
          | (show wpList _ _ _ (⟨_, .binOp .and 29 _ _ _, _, _, _, _⟩ :: _) _ _; refine wpList_val rfl (op_N64and63 rfl rfl rfl) ?_; first | rw [HAT.out] | skip; go_frame)
          | (show wpList _ _ _ (⟨_, .convert 29 3 _, _, _, _, _⟩ :: _) _ _; refine wpList_val rfl (op_N64int undU64 undInt rfl rfl (by omega)) ?_; go_frame)
          | (show wpList _ _ _ (⟨_, .slice 76 _ _ none _, _, _, _, _⟩ :: _) _ _; refine wpList_val rfl (op_sliceArr arr64b rfl rfl (l := at_) (h := 64) (Or.inr rfl) (Or.inl ⟨rfl, rfl⟩) (by omega) (by omega)) ?_; rw [if_neg (by omega)]; go_frame)
          | (show wpList _ _ _ (⟨_, .call ⟨.builtin .copy, _, _⟩, _, _, _, _⟩ :: _) _ _; refine wpS_copyArr undBytes sizeU8 ((hS.bring (by repeat (first | exact t0 | apply tS)))) rfl rfl rfl rfl (hS.rd hv) (oneB _) (by rw [hcl.out]; omega) ?_; clear hS; intro w k' hk hS; obtain ⟨e, hS2⟩ := copied hS hk HKK.out HR.out HOP.out hat2 HO2.out; clear hS hk; subst e; have hS := hS2; clear hS2; go_frame)
          | (show wpList _ _ _ (⟨_, .slice 37 _ _ none _, _, _, _, _⟩ :: _) _ _; refine wpList_val rfl (op_cut slBytes (v := u1) rfl rfl (hS.rd hv) (l := k) (h := _) (Or.inr rfl) (Or.inl ⟨rfl, rfl⟩) (by rw [bytes_len, HR.out]; omega) (Nat.le_refl _)) ?_; go_frame)
          | (show wpList _ _ _ (⟨_, .load 29 _, _, _, _, _⟩ :: _) _ _; refine wpList_val rfl (op_load1S oneU64 ((hS.bring (by repeat (first | exact t0 | apply tS)))) rfl rfl HN.out) ?_; go_frame)
          | (show wpList _ _ _ (⟨_, .load 29 _, _, _, _, _⟩ :: _) _ _; refine wpList_val rfl (op_load1S oneU64 ((hS.bring (by repeat (first | exact t0 | apply tS)))) rfl rfl HN2.out) ?_; go_frame)
          | (show wpList _ _ _ (⟨_, .convert 3 29 _, _, _, _, _⟩ :: _) _ _; refine wpList_val rfl (op_natN64 undInt undU64 rfl rfl) ?_; go_frame)
          | (show wpList _ _ _ (⟨_, .binOp .add 29 _ _ _, _, _, _, _⟩ :: _) _ _; refine wpList_val rfl (op_N64add rfl rfl rfl) ?_; go_frame)
          | (show wpList _ _ _ (⟨_, .store 29 _ _, _, _, _, _⟩ :: _) _ _; (refine wpS_store1 sizeU64 (hS.bring (by repeat (first | exact t0 | apply tS))) rfl rfl rfl rfl rfl rfl (by rw [cellsH_len HOPK.out]; omega) ?_); clear hS; intro w hS; rw [cellsH_set _ _ HOPK.out] at hS; go_frame)
          | (refine wp_region_text (by kernel_rfl) (by kernel_rfl) (by repeat (first | exact Clean.body | refine Clean.then ?_ | refine Clean.inBlock ?_)) ?_; replace hS := hS.drew)
          | (refine fin_mk (by kernel_rfl) ?_)
          | (show wpList _ _ _ (⟨_, .binOp .eql 29 _ _ _, _, _, _, _⟩ :: _) _ _; refine wpList_val rfl (op_N64eq rfl rfl hm64 (c := 0) rfl) ?_; rw [HB.out]; go_frame)
          | (show wpList _ _ _ (⟨_, .load 74 _, _, _, _, _⟩ :: _) _ _; refine wpList_val rfl (op_loadSt agg8w ((hS.bring (by repeat (first | exact t0 | apply tS)))) rfl rfl) ?_; go_frame)
          | (show wpList _ _ _ (⟨_, .load 76 _, _, _, _, _⟩ :: _) _ _; refine wpList_val rfl (op_loadOp agg64b ((hS.bring (by repeat (first | exact t0 | apply tS)))) HOPK.out rfl rfl) ?_; go_frame)
          | (go_at_call 66; refine Ret.calls (block_s hS hK g.st op2 HOPK.out) ?_; clear hS; rintro r w ⟨rfl, hS⟩)
          | (show wpList _ _ _ (⟨_, .store 74 _ _, _, _, _, _⟩ :: _) _ _; (refine wpS_storeN agg8w (hS.bring (by repeat (first | exact t0 | apply tS))) rfl rfl rfl rfl rfl (W32_one _) (by rw [HL.out]; omega) ?_); clear hS; intro w hS; rw [cellsH_st] at hS; go_frame)
          )
        go_roundw
        case rel => exact ⟨j + k, by have := HR.out; have := HRL.out; omega, by rw [← HDD.out k]; exact RdIn.dropV hv (le_of_eq_le HR.out hk2), by rw [HSP.out k, HFED.out, if_neg (by simpa using HB.out)]; exact hS⟩
        case measure => rw [RdIn.slLen (RdIn.dropV hv (le_of_eq_le HR.out hk2)), RdIn.slLen hv, bytes_len, bytes_len, List.length_drop]; have := HR.out; omega
      · go_wp2_with (first
          | (show wpList _ _ _ (⟨_, .call ⟨.builtin .len, _, _⟩, _, _, _, _⟩ :: _) _ _; refine wpList_val rfl (op_lenB slBytes rfl rfl rfl (hS.rd hv) HR.out) ?_; go_frame)
          | (show wpList _ _ _ (⟨_, .load 29 _, _, _, _, _⟩ :: _) _ _; refine wpList_val rfl (op_load1S oneU64 ((hS.bring (by repeat (first | exact t0 | apply tS)))) rfl rfl hcn.out) ?_; go_frame)
          | (show wpList _ _ _ (⟨_, .binOp .and 29 _ _ _, _, _, _, _⟩ :: _) _ _; refine wpList_val rfl (op_N64and63 rfl rfl rfl) ?_; first | rw [HAT.out] | skip; go_frame)
          | (show wpList _ _ _ (⟨_, .convert 29 3 _, _, _, _, _⟩ :: _) _ _; refine wpList_val rfl (op_N64int undU64 undInt rfl rfl (by omega)) ?_; go_frame)
          | (show wpList _ _ _ (⟨_, .slice 76 _ _ none _, _, _, _, _⟩ :: _) _ _; refine wpList_val rfl (op_sliceArr arr64b rfl rfl (l := at_) (h := 64) (Or.inr rfl) (Or.inl ⟨rfl, rfl⟩) (by omega) (by omega)) ?_; rw [if_neg (by omega)]; go_frame)
          | (show wpList _ _ _ (⟨_, .call ⟨.builtin .copy, _, _⟩, _, _, _, _⟩ :: _) _ _; refine wpS_copyArr undBytes sizeU8 ((hS.bring (by repeat (first | exact t0 | apply tS)))) rfl rfl rfl rfl (hS.rd hv) (oneB _) (by rw [hcl.out]; omega) ?_; clear hS; intro w k' hk hS; obtain ⟨e, hS2⟩ := copied hS hk HKK.out HR.out HOP.out hat2 HO2.out; clear hS hk; subst e; have hS := hS2; clear hS2; go_frame)
          | (show wpList _ _ _ (⟨_, .slice 37 _ _ none _, _, _, _, _⟩ :: _) _ _; refine wpList_val rfl (op_cut slBytes (v := u1) rfl rfl (hS.rd hv) (l := k) (h := _) (Or.inr rfl) (Or.inl ⟨rfl, rfl⟩) (by rw [bytes_len, HR.out]; omega) (Nat.le_refl _)) ?_; go_frame)
          | (show wpList _ _ _ (⟨_, .load 29 _, _, _, _, _⟩ :: _) _ _; refine wpList_val rfl (op_load1S oneU64 ((hS.bring (by repeat (first | exact t0 | apply tS)))) rfl rfl HN.out) ?_; go_frame)
          | (show wpList _ _ _ (⟨_, .load 29 _, _, _, _, _⟩ :: _) _ _; refine wpList_val rfl (op_load1S oneU64 ((hS.bring (by repeat (first | exact t0 | apply tS)))) rfl rfl HN2.out) ?_; go_frame)
          | (show wpList _ _ _ (⟨_, .convert 3 29 _, _, _, _, _⟩ :: _) _ _; refine wpList_val rfl (op_natN64 undInt undU64 rfl rfl) ?_; go_frame)
          | (show wpList _ _ _ (⟨_, .binOp .add 29 _ _ _, _, _, _, _⟩ :: _) _ _; refine wpList_val rfl (op_N64add rfl rfl rfl) ?_; go_frame)
          | (show wpList _ _ _ (⟨_, .store 29 _ _, _, _, _, _⟩ :: _) _ _; (refine wpS_store1 sizeU64 (hS.bring (by repeat (first | exact t0 | apply tS))) rfl rfl rfl rfl rfl rfl (by rw [cellsH_len HOPK.out]; omega) ?_); clear hS; intro w hS; rw [cellsH_set _ _ HOPK.out] at hS; go_frame)
          | (refine wp_region_text (by kernel_rfl) (by kernel_rfl) (by repeat (first | exact Clean.body | refine Clean.then ?_ | refine Clean.inBlock ?_)) ?_; replace hS := hS.drew)
          | (refine fin_mk (by kernel_rfl) ?_)
          | (show wpList _ _ _ (⟨_, .binOp .eql 29 _ _ _, _, _, _, _⟩ :: _) _ _; refine wpList_val rfl (op_N64eq rfl rfl hm64 (c := 0) rfl) ?_; rw [HB.out]; go_frame)
          | (show wpList _ _ _ (⟨_, .load 74 _, _, _, _, _⟩ :: _) _ _; refine wpList_val rfl (op_loadSt agg8w ((hS.bring (by repeat (first | exact t0 | apply tS)))) rfl rfl) ?_; go_frame)
          | (show wpList _ _ _ (⟨_, .load 76 _, _, _, _, _⟩ :: _) _ _; refine wpList_val rfl (op_loadOp agg64b ((hS.bring (by repeat (first | exact t0 | apply tS)))) HOPK.out rfl rfl) ?_; go_frame)
          | (go_at_call 66; refine Ret.calls (block_s hS hK g.st op2 HOPK.out) ?_; clear hS; rintro r w ⟨rfl, hS⟩)
          | (show wpList _ _ _ (⟨_, .store 74 _ _, _, _, _, _⟩ :: _) _ _; (refine wpS_storeN agg8w (hS.bring (by repeat (first | exact t0 | apply tS))) rfl rfl rfl rfl rfl (W32_one _) (by rw [HL.out]; omega) ?_); clear hS; intro w hS; rw [cellsH_st] at hS; go_frame)
          )
        go_roundw
        case rel => exact ⟨j + k, by have := HR.out; have := HRL.out; omega, by rw [← HDD.out k]; exact RdIn.dropV hv (le_of_eq_le HR.out hk2), by rw [HSP.out k, HFED.out, if_pos (by simpa using HB.out)]; exact hS⟩
        case measure => rw [RdIn.slLen (RdIn.dropV hv (le_of_eq_le HR.out hk2)), RdIn.slLen hv, bytes_len, bytes_len, List.length_drop]; have := HR.out; omega
    · have hj2 : j = bs.length := by omega
      subst hj2
      rw [List.take_length] at hS
      rw [List.drop_length] at hv
      clear hg1 hg2
      go_wp2_with (first
        | (show wpList _ _ _ (⟨_, .call ⟨.builtin .len, _, _⟩, _, _, _, _⟩ :: _) _ _; refine wpList_val rfl (op_lenB slBytes rfl rfl rfl (hS.rd hv) (n := 0) rfl) ?_; go_frame)
        )
      refine bodyPost_end (results_none rfl _ _ _) rfl ?_
      exact hS
end
end Go.Proofs.YtieobcaegegboaaDoor
namespace Go.Proofs.YtieobcaegegboaaDoor
open Go.RowKit Go.Px Go.Sha
theorem CIn.asRd {R : Nat → Prop} {base : World} {b : Nat} {cs : List Value} (h : CIn R base b cs) (hl : cs.length ≤ maxLen) : RdIn R base 1 (.slice (some ⟨b, 0, none⟩) cs.length cs.length) (cs.map fun u => [u]) := by
  refine ⟨⟨_, cs.length, by rw [List.length_map], by simp, hl, ?_, fun _ => ⟨b, 0, rfl, ?_⟩⟩, fun _ k hk => by cases hk; exact h.ro⟩
  · intro q hq
    obtain ⟨x, _, rfl⟩ := List.mem_map.1 hq
    rfl
  · rw [flat1]
    exact h.c
theorem CIn.mv {R R' : Nat → Prop} {base w : World} {b : Nat} {cs : List Value} (h : CIn R base b cs) (hl : cs.length ≤ maxLen) (hne : cs ≠ []) (f : ∀ n v xs, RdIn R base n v xs → RdIn R' w n v xs) : CIn R' w b cs := by
  have h2 := f _ _ _ (CIn.asRd h hl)
  have hne2 : (cs.map fun u => [u]) ≠ [] := by simpa using hne
  refine ⟨?_, h2.ro hne2 b rfl⟩
  obtain ⟨A, c, e, h3, h4, h5, h6⟩ := h2.rd
  obtain ⟨b', off, rfl, hc⟩ := h6 hne2
  injection e with e1 e2 e3
  injection e1 with e1
  injection e1 with e4 e5 e6
  subst e4 e5
  rwa [flat1] at hc
theorem kTab_mv {R R' : Nat → Prop} {base w : World} (h : CIn R base 3 (kTab.map W32)) (f : ∀ n v xs, RdIn R base n v xs → RdIn R' w n v xs) : CIn R' w 3 (kTab.map W32) := CIn.mv h (by simp [kTab, maxLen]) (by simp [kTab]) f
theorem first_mv {R R' : Nat → Prop} {base w : World} (h : CIn R base 0 (first.map W32)) (f : ∀ n v xs, RdIn R base n v xs → RdIn R' w n v xs) : CIn R' w 0 (first.map W32) := CIn.mv h (by simp [first, maxLen]) (by simp [first]) f
/-- pieces of bytes that are only read -/
structure Pieces (R : Nat → Prop) (base : World) (v : Value) (us : List Value) (ps : List (List Byte)) : Prop where
  rd : RdIn R base 1 v (us.map fun u => [u])
  len : us.length = ps.length
  at_ : ∀ i (h : i < us.length) (h' : i < ps.length), RdIn R base 1 us[i] (bytes ps[i])
theorem Pieces.mv {R R' : Nat → Prop} {base w : World} {v : Value} {us : List Value} {ps : List (List Byte)} (h : Pieces R base v us ps) (f : ∀ n v xs, RdIn R base n v xs → RdIn R' w n v xs) : Pieces R' w v us ps :=
  ⟨f _ _ _ h.rd, h.len, fun i h1 h2 => f _ _ _ (h.at_ i h1 h2)⟩
theorem Pieces.one {R : Nat → Prop} {base : World} {v u : Value} {bs : List Byte} (h : RdIn R base 1 v [[u]]) (hu : RdIn R base 1 u (bytes bs)) : Pieces R base v [u] [bs] :=
  ⟨h, rfl, fun i h1 h2 => by
    have : i = 0 := by simpa using h1
    subst this
    exact hu⟩
theorem Pieces.small {R : Nat → Prop} {base : World} {v : Value} {us : List Value} {ps : List (List Byte)} (h : Pieces R base v us ps) : us.length ≤ 9223372036854775807 := by
  obtain ⟨A, c, e, h2, h3, _⟩ := h.rd.rd
  rw [List.length_map] at h2
  simp only [maxLen] at h3
  omega
theorem sum_take_le (ps : List (List Byte)) (k : Nat) : (ps.take k).flatten.length ≤ ps.flatten.length := by
  conv => rhs; rw [← List.take_append_drop k ps, List.flatten_append, List.length_append]
  omega
theorem sum_take_one {ps : List (List Byte)} {k : Nat} (hk : k < ps.length) : (ps.take (k + 1)).flatten = (ps.take k).flatten ++ ps[k] := by
  rw [List.take_succ_eq_append_getElem hk, List.flatten_append]
  simp
theorem op_lenU {P : Program} {o : Oper} {w : World} {ρ : Operand → Value} {t e n' : Nat} (T : SlTy P t e 1 n') {x : Operand} {ts : Array TypeId} (ho : o.op = .call { callee := .builtin .len, args := #[x], argTypes := ts }) (hts : ts[0]? = some t) {v : Value} (hx : ρ x = v) {us : List Value} (hr : Rd 1 w v (us.map fun u => [u])) {n : Nat} (hn : us.length = n) :
    (execOp ρ o).run P w = .ok (.value (.int .i64 n)) w := by
  have := op_len T ho hts hx hr
  rwa [List.length_map, hn] at this
section
variable {R : Nat → Prop} {base w : World} {F : List Hp}
theorem add_own {p T : Nat} {h : Hs} {v : Value} {bs : List Byte} (hS : SepL R base w (.own T 1 v (bytes bs) :: .blk p 109 (cellsH h) :: F)) (hK : CIn R base 3 (kTab.map W32)) (hop : h.op.length = 64) (hn : h.n + bs.length < 4611686018427387904) :
    Calls Tryd.prog 59 #[.pointer (some ⟨p, 0, none⟩), v] w (Ret fun _ w' => SepL R base w' (.own T 1 v (bytes bs) :: .blk p 109 (cellsH (absorb h bs)) :: F)) := by
  obtain ⟨R', h1, h2, h3, h4⟩ := hS.freezeOwn
  refine Ret.calls (add_s h1 (kTab_mv hK h3) hop h2 hn) ?_
  intro r w' h5
  exact h4 w' _ h5
theorem add_blk {p T b : Nat} {h : Hs} {bs : List Byte} (hS : SepL R base w (.blk b T (bs.map B8) :: .blk p 109 (cellsH h) :: F)) (hK : CIn R base 3 (kTab.map W32)) (hop : h.op.length = 64) (hn : h.n + bs.length < 4611686018427387904) (hl : bs.length ≤ 1000) {m m' : Nat} (hm : bs.length = m) (hm' : m' = m) :
    Calls Tryd.prog 59 #[.pointer (some ⟨p, 0, none⟩), .slice (some ⟨b, 0, none⟩) m m'] w (Ret fun _ w' => SepL R base w' (.blk b T (bs.map B8) :: .blk p 109 (cellsH (absorb h bs)) :: F)) := by
  subst hm'
  obtain ⟨R', h1, h2, h2', h3, h4⟩ := hS.freezeBlk
  have hc : CIn R' w b (bs.map B8) := ⟨h2.cells, h2'⟩
  have hr := CIn.asRd hc (by rw [List.length_map]; simp [maxLen]; omega)
  rw [List.length_map, hm] at hr
  refine Ret.calls (add_s h1 (kTab_mv hK h3) hop hr hn) ?_
  intro r w' h5
  exact h4 w' _ h5
set_option maxRecDepth 100000 in
theorem write_s {p : Nat} {h : Hs} (hS : SepL R base w (.blk p 109 (cellsH h) :: F)) (hK : CIn R base 3 (kTab.map W32)) (hop : h.op.length = 64) {v : Value} {us : List Value} {ps : List (List Byte)} (hv : Pieces R base v us ps) (hn : h.n + ps.flatten.length < 4611686018427387904) :
    Calls Tryd.prog 46 #[.pointer (some ⟨p, 0, none⟩), v] w (Ret fun r w' => r = .int .i64 0 ∧ SepL R base w' (.blk p 109 (cellsH (absorb h ps.flatten)) :: F)) := by
  have hsm := hv.small
  obtain ⟨n, hnn⟩ : ∃ n, us.length = n := ⟨_, rfl⟩
  go_enter Tryd.func46, Tryd.ntmps46
  go_wp2_with (first
    | (show wpList _ _ _ (⟨_, .call ⟨.builtin .len, _, _⟩, _, _, _, _⟩ :: _) _ _; refine wpList_val rfl (op_lenU slPieces rfl rfl rfl (hS.rd hv.rd) hnn) ?_; go_frame)
    )
  go_loopw [11] (fun i wr => ∃ k : Nat, i = .int .i64 k ∧ k ≤ n ∧ SepL R base wr (.blk p 109 (cellsH (absorb h (ps.take k).flatten)) :: F)) (fun i _ => n - (intOf i).toNat)
  case atStart => exact ⟨0, rfl, by omega, hS⟩
  case round =>
    clear hS
    obtain ⟨k, rfl, hk, hS⟩ := hrel
    by_cases hlt : k < n
    · have hku : k < us.length := by omega
      have hkp : k < ps.length := by rw [← hv.len]; omega
      have hop' : (absorb h (ps.take k).flatten).op.length = 64 := by rw [absorb_op, hop]
      have hn' : (absorb h (ps.take k).flatten).n + ps[k].length < 4611686018427387904 := by
        have := sum_take_le ps (k + 1)
        rw [sum_take_one hkp, List.length_append] at this
        rw [absorb_n]
        omega
      have HST : Hid (absorb (absorb h (ps.take k).flatten) ps[k] = absorb h (ps.take (k + 1)).flatten) := by
        unfold Hid
        rw [sum_take_one hkp, absorb_append]
      generalize absorb h (ps.take k).flatten = g at *
      have hp := hv.at_ k hku hkp
      generalize ps[k] = pk at *
      go_wp2_with (first
        | (show wpList _ _ _ (⟨_, .indexAddr _ _ _, _, _, _, _⟩ :: _) _ _; refine wpList_val rfl (op_indexAddr slPieces rfl (v := v) rfl rfl (hS.rd hv.rd) (by rw [List.length_map]; exact hku)) ?_; go_frame)
        | (show wpList _ _ _ (⟨_, .load _ _, _, _, _, _⟩ :: _) _ _; refine wpList_val rfl (op_loadE1 oneBytes rfl (v := v) (k := k) rfl (f := fun u => u) (hS.rd hv.rd) hku) ?_; go_frame)
        | (go_at_call 59; refine Ret.calls (add_s hS hK hop' hp hn') ?_; clear hS; rintro r w hS)
        )
      go_roundw
      case rel => exact ⟨k + 1, by go_num, by omega, by rw [← HST.out]; exact hS⟩
      case measure => simp [intOf]; omega
    · have hk2 : k = n := by omega
      subst hk2
      have e : ps.take us.length = ps := by rw [hv.len, List.take_length]
      rw [← hnn, e] at hS
      go_wp2_with fail
      go_ret
      exact ⟨rfl, hS⟩
end
end Go.Proofs.YtieobcaegegboaaDoor
namespace Go.Proofs.YtieobcaegegboaaDoor
open Go.RowKit Go.Px Go.Sha
/-- so many of a row's values are written, the rest are noughts -/
def fillTo (f : Nat → Byte) (n i : Nat) : List Byte := (List.range n).map fun j => if j < i then f j else 0
theorem fillTo_length (f : Nat → Byte) (n i : Nat) : (fillTo f n i).length = n := by simp [fillTo]
theorem fillTo_zero (f : Nat → Byte) (n : Nat) : fillTo f n 0 = List.replicate n 0 := by
  apply List.ext_getElem
  · simp [fillTo]
  · intro j h1 h2
    simp [fillTo]
theorem fillTo_all (f : Nat → Byte) (n : Nat) : fillTo f n n = (List.range n).map f := by
  apply List.map_congr_left
  intro j hj
  rw [if_pos (List.mem_range.1 hj)]
theorem fillTo_set (f : Nat → Byte) (n i : Nat) : (fillTo f n i).set i (f i) = fillTo f n (i + 1) := by
  apply List.ext_getElem
  · simp [fillTo]
  · intro j h1 h2
    rw [List.getElem_set]
    simp only [fillTo, List.getElem_map, List.getElem_range]
    by_cases e : i = j
    · subst e
      rw [if_pos rfl, if_pos (by omega)]
    · rw [if_neg e]
      by_cases h : j < i
      · rw [if_pos h, if_pos (by omega)]
      · rw [if_neg h, if_neg (by omega)]
attribute [irreducible] fillTo
def szAt (n i : Nat) : Byte := (bitsOf n >>> (56 - 8 * i)).setWidth 8
def dgAt (s : St) (j : Nat) : Byte := (s.list.getD (j / 4) 0 >>> (24 - 8 * (j % 4))).setWidth 8
theorem dgAt_at (s : St) {k m : Nat} (hm : m < 4) (hk : k < s.list.length) : dgAt s (4 * k + m) = (s.list[k] >>> (24 - 8 * m)).setWidth 8 := by
  unfold dgAt
  rw [show (4 * k + m) / 4 = k by omega, show (4 * k + m) % 4 = m by omega, List.getD_eq_getElem?_getD, List.getElem?_eq_getElem hk]
  rfl
theorem dg_all (s : St) : (List.range 32).map (dgAt s) = digest s := rfl
theorem sz_all (n : Nat) : (List.range 8).map (szAt n) = be8 (bitsOf n) := rfl
theorem st_list_len (s : St) : s.list.length = 8 := rfl
theorem szAt_eq (n k : Nat) : (BitVec.ofNat 64 n <<< 3 >>> (56 - 8 * k)).setWidth 8 = szAt n k := rfl
attribute [irreducible] szAt dgAt
def zH : List Value := List.replicate 8 (Value.int .u32 0) ++ List.replicate 64 (Value.int .u8 0) ++ [Value.int .u64 0]
theorem zeroHasher (w : World) : (zeroValue 109).run Tryd.prog w = .ok (.agg zH.toArray) w := by kernel_rfl
theorem agg8b : Agg Tryd.prog 111 8 := Agg.of (d := .array 8 5) (by kernel_rfl) rfl (by kernel_rfl)
theorem cellsH_one (h : Hs) : ∀ v ∈ cellsH h, v.oneCell' = true := by
  intro v hv
  unfold cellsH at hv
  simp only [List.mem_append, List.mem_map, List.mem_cons, List.not_mem_nil, or_false] at hv
  rcases hv with (⟨x, _, rfl⟩ | ⟨x, _, rfl⟩) | rfl <;> rfl
theorem b80 : [[Value.int .u8 128]] = bytes [0x80#8] := rfl
theorem b00 : [[Value.int .u8 0]] = bytes [0x00#8] := rfl
theorem B8_one (us : List Byte) : ∀ v ∈ us.map B8, v.oneCell' = true := by
  intro v hv
  obtain ⟨x, _, rfl⟩ := List.mem_map.1 hv
  rfl
/-- results of which the first lies in memory -/
theorem ret_cell2 {P : Program} {fn : Func} {R : Value → World → Prop} {a : Act} {w : World} {t T T' s : Nat} {n b : Nat} {cs : List Value} {u : Value} (A : Agg P T n) (hr : fn.results = #[.cell t T, .tmp s]) (hd : a.defers = []) (ha : a.tmps.getD t undef = .pointer (some ⟨b, 0, none⟩)) (hu : a.tmps.getD s undef = u) (hB : Blk w b T' cs) (hn : cs.length = n) (h : R (.tuple #[.agg cs.toArray, u]) w) : bodyPost P fn (Ret R) .ret a w := by
  refine bodyPost_ret (v := .tuple #[.agg cs.toArray, u]) ?_ hd h
  have hl := run_loadVar_cells A hB.cells hn
  have ha' : a.tmps[t]?.getD undef = .pointer (some ⟨b, 0, none⟩) := by simpa using ha
  have hu' : a.tmps[s]?.getD undef = u := by simpa using hu
  simp [results, hr, asAddr, ha', hu', hl]
def natAt (w : World) (b off : Nat) : Nat := match w.cell? ⟨b, off, none⟩ with
  | some (.int _ z) => z.toNat
  | _ => 0
theorem natAt_of {R : Nat → Prop} {base w : World} {F : List Hp} {p T : Nat} {h : Hs} (hS : SepL R base w (.blk p T (cellsH h) :: F)) (ho : h.op.length = 64) (hn : h.n < 18446744073709551616) : natAt w p 72 = h.n := by
  have hc := hS.getBlk.cell 72
  rw [cellsH_n ho, N64_int hn] at hc
  unfold natAt
  rw [hc]
  rfl
section
variable {R : Nat → Prop} {base w : World} {F : List Hp}
set_option maxRecDepth 100000 in
set_option maxHeartbeats 4000000 in
theorem sum_m {p : Nat} {h : Hs} (hS : SepL R base w (.blk p 109 (cellsH h) :: F)) (hK : CIn R base 3 (kTab.map W32)) (hop : h.op.length = 64) (hn : h.n < 4611686018427387000) :
    Calls Tryd.prog 47 #[.pointer (some ⟨p, 0, none⟩)] w (Ret fun r w' => r = .tuple #[.agg ((sumH h).map B8).toArray, .int .i64 0] ∧ SepL R base w' (.blk p 109 (cellsH h) :: F)) := by
  have HL := hide (cellsH_len hop)
  have HOP := hide hop
  go_enter Tryd.func47, Tryd.ntmps47
  go_wp2_with (first
    | (refine wp_region_text (by kernel_rfl) (by kernel_rfl) (by repeat (first | exact Clean.body | refine Clean.then ?_ | refine Clean.inBlock ?_)) ?_; replace hS := hS.drew)
    | (refine fin_mk (by kernel_rfl) ?_)
    | (show wpList _ _ _ (⟨_, .alloc 34, _, _, _, _⟩ :: _) _ _; refine wpS_alloc hS rfl rfl zero32b (zs := (List.replicate 32 (0 : Byte)).map B8) rfl ?_; clear hS; intro nr w hS; go_frame)
    | (show wpList _ _ _ (⟨_, .load 109 _, _, _, _, _⟩ :: _) _ _; refine wpList_val rfl (op_load agg70 rfl rfl ((hS.bring (by repeat (first | exact t0 | apply tS))).getBlk.cells) HL.out) ?_; go_frame)
    | (show wpList _ _ _ (⟨_, .alloc 109, _, _, _, _⟩ :: _) _ _; refine wpS_alloc hS rfl rfl zeroHasher (zs := zH) rfl ?_; clear hS; intro ne w hS; go_frame)
    | (show wpList _ _ _ (⟨_, .store 109 _ _, _, _, _, _⟩ :: _) _ _; refine wpS_storeAll agg70 hS rfl rfl rfl (vs := cellsH h) rfl HL.out (cellsH_one h) rfl ?_; clear hS; intro w hS; go_frame)
    | (show wpList _ _ _ (⟨_, .buildSlice _ _ _, _, _, _, _⟩ :: _) _ _; refine wpS_build11 slBytes hS rfl rfl rfl rfl ?_; clear hS; intro v1 w hS; rw [b80] at hS; go_frame)
    | (go_at_call 59; refine Ret.calls (add_own hS hK HOP.out (by simp only [List.length_cons, List.length_nil]; omega)) ?_; clear hS; rintro r w hS; replace hS := hS.tail)
    )
  have hl64 : lack (h.n + 1) < 64 := by unfold lack; omega
  generalize hg0 : absorb h [128#8] = g0 at *
  have hg0n : g0.n = h.n + 1 := by rw [← hg0, absorb_n]; rfl
  have hg0o : g0.op.length = 64 := by rw [← hg0, absorb_op, hop]
  go_loopw [23] (fun _ wr => ∃ j : Nat, j ≤ lack (h.n + 1) ∧ SepL R base wr (.blk ne 109 (cellsH (absorb g0 (List.replicate j 0))) :: .blk nr 34 ((List.replicate 32 (0 : Byte)).map B8) :: .blk p 109 (cellsH h) :: F)) (fun _ wr => lack (natAt wr ne 72))
  case atStart => exact ⟨0, by omega, hS⟩
  case round =>
    clear hS
    obtain ⟨j, hj, hS⟩ := hrel
    have hgn : (absorb g0 (List.replicate j 0)).n = h.n + 1 + j := by rw [absorb_n, hg0n, List.length_replicate]
    have hgo : (absorb g0 (List.replicate j 0)).op.length = 64 := by rw [absorb_op, hg0o]
    have HR1 : Hid (absorb (absorb g0 (List.replicate j 0)) [0#8] = absorb g0 (List.replicate (j + 1) 0)) := by
      unfold Hid
      rw [← absorb_append, List.replicate_succ']
      rfl
    obtain ⟨g, hg⟩ : ∃ g, absorb g0 (List.replicate j 0) = g := ⟨_, rfl⟩
    have HG := hide hg
    rw [hg] at hS hgn hgo
    rw [hg] at HR1
    clear hg
    have HM := hide (natAt_of hS hgo (by omega))
    have HGN := hide hgn
    have HGO := hide hgo
    have hcn := hide (cellsH_n hgo)
    have hjl := hide hj
    have hl : lack (h.n + 1) = (120 - (h.n + 1) % 64) % 64 := rfl
    by_cases hc : g.n % 64 = 56
    · have HC : Hid ((g.n % 64 != 56) = false) := by
        unfold Hid
        rw [hc]
        rfl
      have hm64 : g.n % 64 < 18446744073709551616 := by omega
      have hjj : j = lack (h.n + 1) := by omega
      clear hc hl
      go_wp2_with (first
        | (show wpList _ _ _ (⟨_, .load 29 _, _, _, _, _⟩ :: _) _ _; refine wpList_val rfl (op_load1S oneU64 ((hS.bring (by repeat (first | exact t0 | apply tS)))) rfl rfl hcn.out) ?_; go_frame)
        | (show wpList _ _ _ (⟨_, .binOp .and 29 _ _ _, _, _, _, _⟩ :: _) _ _; refine wpList_val rfl (op_N64and63 rfl rfl rfl) ?_; go_frame)
        | (show wpList _ _ _ (⟨_, .binOp .neq 29 _ _ _, _, _, _, _⟩ :: _) _ _; refine wpList_val rfl (op_N64ne rfl rfl hm64 (c := 56) rfl) ?_; rw [HC.out]; go_frame)
        | (show wpList _ _ _ (⟨_, .alloc 111, _, _, _, _⟩ :: _) _ _; refine wpS_alloc hS rfl rfl zero8b (zs := (List.replicate 8 (0 : Byte)).map B8) rfl ?_; clear hS; intro nz w hS; go_frame)
        )
      rw [← fillTo_zero (szAt h.n)] at hS
      have HCN := hide (cellsH_n HOP.out)
      go_loopw [25] (fun i wr => ∃ k : Nat, i = .int .i64 k ∧ k ≤ 8 ∧ SepL R base wr (.blk nz 111 ((fillTo (szAt h.n) 8 k).map B8) :: .blk ne 109 (cellsH g) :: .blk nr 34 ((List.replicate 32 (0 : Byte)).map B8) :: .blk p 109 (cellsH h) :: F)) (fun i _ => 8 - (intOf i).toNat)
      case atStart => exact ⟨0, rfl, by omega, hS⟩
      case round =>
        clear hS
        obtain ⟨k, rfl, hk, hS⟩ := hrel
        by_cases hlt : k < 8
        · have HSZ := hide (szAt_eq h.n k)
          have hkl : k < (fillTo (szAt h.n) 8 k).length := by rw [fillTo_length]; exact hlt
          go_wp2_with (first
            | (show wpList _ _ _ (⟨_, .load 29 _, _, _, _, _⟩ :: _) _ _; refine wpList_val rfl (op_load1S oneU64 ((hS.bring (by repeat (first | exact t0 | apply tS)))) rfl rfl HCN.out) ?_; go_frame)
            | (show wpList _ _ _ (⟨_, .binOp .shl 29 _ _ _, _, _, _, _⟩ :: _) _ _; refine wpList_val rfl (op_shl64 rfl rfl (c := 3) rfl) ?_; go_frame)
            | (show wpList _ _ _ (⟨_, .binOp .mul 3 _ _ _, _, _, _, _⟩ :: _) _ _; refine wpList_val rfl (op_imulN rfl rfl rfl (8 * k) (by omega) (by omega)) ?_; go_frame)
            | (show wpList _ _ _ (⟨_, .binOp .sub 3 _ _ _, _, _, _, _⟩ :: _) _ _; refine wpList_val rfl (op_isubN rfl rfl rfl (56 - 8 * k) (by omega) (by omega)) ?_; go_frame)
            | (show wpList _ _ _ (⟨_, .convert 3 73 _, _, _, _, _⟩ :: _) _ _; refine wpList_val rfl (op_i64u64 undInt undUint rfl rfl (by omega)) ?_; go_frame)
            | (show wpList _ _ _ (⟨_, .binOp .shr 29 _ _ _, _, _, _, _⟩ :: _) _ _; refine wpList_val rfl (op_shr64 rfl rfl (c := 56 - 8 * k) rfl) ?_; go_frame)
            | (show wpList _ _ _ (⟨_, .convert 29 5 _, _, _, _, _⟩ :: _) _ _; refine wpList_val rfl (op_64to8 undU64 undU8 rfl rfl) ?_; rw [HSZ.out]; go_frame)
            | (show wpList _ _ _ (⟨_, .indexAddr 111 _ _, _, _, _, _⟩ :: _) _ _; refine wpList_val rfl (op_indexArr arr8b rfl rfl (k := k) rfl (by omega)) ?_; rw [Nat.zero_add]; go_frame)
            | (show wpList _ _ _ (⟨_, .store 5 _ _, _, _, _, _⟩ :: _) _ _; (refine wpS_storeF (f := B8) sizeU8 (hS.bring (by repeat (first | exact t0 | apply tS))) rfl rfl rfl (v := szAt h.n k) rfl rfl rfl hkl ?_); clear hS; intro w hS; rw [fillTo_set] at hS; go_frame)
            )
          go_roundw
          case rel => exact ⟨k + 1, by go_num, by omega, hS⟩
          case measure => simp [intOf]; omega
        · have hk2 : k = 8 := by omega
          subst hk2
          rw [fillTo_all, sz_all] at hS
          have HLN := hide (be8_length (bitsOf h.n))
          have HFIN : Hid (digest (absorb g (be8 (bitsOf h.n))).st = sumH h) := by
            unfold Hid
            rw [← HG.out, hjj, ← hg0, ← absorb_append, ← absorb_append, sumH_eq]
            rfl
          go_wp2_with (first
            | (show wpList _ _ _ (⟨_, .slice _ _ none none _, _, _, _, _⟩ :: _) _ _; refine wpList_val rfl (op_sliceArr arr8b rfl rfl (l := 0) (h := 8) (Or.inl ⟨rfl, rfl⟩) (Or.inl ⟨rfl, rfl⟩) (by omega) (by omega)) ?_; rw [if_neg (by omega)]; go_frame)
            | (go_at_call 59; refine Ret.calls (add_blk hS hK HGO.out (by rw [HLN.out]; omega) (by rw [HLN.out]; omega) HLN.out rfl) ?_; clear hS; rintro r w hS)
            | (show wpList _ _ _ (⟨_, .alloc 34, _, _, _, _⟩ :: _) _ _; refine wpS_alloc hS rfl rfl zero32b (zs := (List.replicate 32 (0 : Byte)).map B8) rfl ?_; clear hS; intro no w hS; go_frame)
            | (show wpList _ _ _ (⟨_, .load 74 _, _, _, _, _⟩ :: _) _ _; refine wpList_val rfl (op_loadSt agg8w ((hS.bring (by repeat (first | exact t0 | apply tS)))) rfl rfl) ?_; go_frame)
            )
          generalize hge : absorb g (be8 (bitsOf h.n)) = ge at *
          rw [show (List.replicate 32 (0 : Byte)).map B8 = (fillTo (dgAt ge.st) 32 0).map B8 by rw [fillTo_zero]] at hS
          go_loopw [46] (fun i wr => ∃ k : Nat, i = .int .i64 k ∧ k ≤ 8 ∧ SepL R base wr (.blk no 34 ((fillTo (dgAt ge.st) 32 (4 * k)).map B8) :: .blk nr 34 ((fillTo (dgAt ge.st) 32 0).map B8) :: .blk p 109 (cellsH h) :: F)) (fun i _ => 8 - (intOf i).toNat)
          case atStart => exact ⟨0, rfl, by omega, hS.sel (by repeat (first | exact Sel.refl | refine Sel.take (by repeat (first | exact t0 | apply tS)) ?_ | apply Sel.drop))⟩
          case round =>
            clear hS
            obtain ⟨k, rfl, hk, hS⟩ := hrel
            by_cases hlt : k < 8
            · have hks : k < ge.st.list.length := by rw [st_list_len]; exact hlt
              go_wp2_with (first
                | (show wpList _ _ _ (⟨_, .index 74 _ _, _, _, _, _⟩ :: _) _ _; refine wpList_val rfl (op_indexV arr8w rfl (f := W32) (us := ge.st.list) rfl (st_list_len _) rfl hks) ?_; go_frame)
                )
              go_loopw [50] (fun i wr => ∃ m : Nat, i = .int .i64 m ∧ m ≤ 4 ∧ SepL R base wr (.blk no 34 ((fillTo (dgAt ge.st) 32 (4 * k + m)).map B8) :: .blk nr 34 ((fillTo (dgAt ge.st) 32 0).map B8) :: .blk p 109 (cellsH h) :: F)) (fun i _ => 4 - (intOf i).toNat)
              case atStart => exact ⟨0, rfl, by omega, hS⟩
              case round =>
                clear hS
                obtain ⟨m, rfl, hm, hS⟩ := hrel
                by_cases hlm : m < 4
                · have HDG := hide (dgAt_at ge.st hlm hks)
                  have hml : 4 * k + m < (fillTo (dgAt ge.st) 32 (4 * k + m)).length := by rw [fillTo_length]; omega
                  go_wp2_with (first
                    | (show wpList _ _ _ (⟨_, .binOp .mul 3 (.const _) (.tmp 53) _, _, _, _, _⟩ :: _) _ _; refine wpList_val rfl (op_imulN rfl rfl rfl (4 * k) (by omega) (by omega)) ?_; go_frame)
                    | (show wpList _ _ _ (⟨_, .binOp .mul 3 (.const _) (.tmp 58) _, _, _, _, _⟩ :: _) _ _; refine wpList_val rfl (op_imulN rfl rfl rfl (8 * m) (by omega) (by omega)) ?_; go_frame)
                    | (show wpList _ _ _ (⟨_, .binOp .add 3 (.tmp 54) (.tmp 55) _, _, _, _, _⟩ :: _) _ _; refine wpList_val rfl (op_iaddN rfl rfl rfl (4 * k + m) (by omega) (by omega)) ?_; go_frame)
                    | (show wpList _ _ _ (⟨_, .binOp .sub 3 _ _ _, _, _, _, _⟩ :: _) _ _; refine wpList_val rfl (op_isubN rfl rfl rfl (24 - 8 * m) (by omega) (by omega)) ?_; go_frame)
                    | (show wpList _ _ _ (⟨_, .convert 3 73 _, _, _, _, _⟩ :: _) _ _; refine wpList_val rfl (op_i64u64 undInt undUint rfl rfl (by omega)) ?_; go_frame)
                    | (show wpList _ _ _ (⟨_, .binOp .shr 22 _ _ _, _, _, _, _⟩ :: _) _ _; refine wpList_val rfl (op_shr32 rfl rfl (c := 24 - 8 * m) rfl) ?_; go_frame)
                    | (show wpList _ _ _ (⟨_, .convert 22 5 _, _, _, _, _⟩ :: _) _ _; refine wpList_val rfl (op_32to8 undU32 undU8 rfl rfl) ?_; rw [← HDG.out]; go_frame)
                    | (show wpList _ _ _ (⟨_, .indexAddr 34 _ _, _, _, _, _⟩ :: _) _ _; refine wpList_val rfl (op_indexArr arr32b rfl rfl (k := 4 * k + m) rfl (by omega)) ?_; rw [Nat.zero_add]; go_frame)
                    | (show wpList _ _ _ (⟨_, .store 5 _ _, _, _, _, _⟩ :: _) _ _; (refine wpS_storeF (f := B8) sizeU8 (hS.bring (by repeat (first | exact t0 | apply tS))) rfl rfl rfl (v := dgAt ge.st (4 * k + m)) rfl rfl rfl hml ?_); clear hS; intro w hS; rw [fillTo_set] at hS; go_frame)
                    )
                  go_roundw
                  case rel => exact ⟨m + 1, by go_num, by omega, hS⟩
                  case measure => simp [intOf]; omega
                · have hm2 : m = 4 := by omega
                  subst hm2
                  go_wp2_with fail
                  go_roundw
                  case rel => exact ⟨k + 1, by go_num, by omega, by rw [show 4 * (k + 1) = 4 * k + 4 by omega]; exact hS⟩
                  case measure => simp [intOf]; omega
            · have hk2 : k = 8 := by omega
              subst hk2
              rw [show 4 * 8 = 32 from rfl, fillTo_all, dg_all, HFIN.out] at hS
              have HSL : Hid (((sumH h).map B8).length = 32) := by
                unfold Hid
                rw [List.length_map, ← HFIN.out]
                rfl
              go_wp2_with (first
                | (show wpList _ _ _ (⟨_, .load 34 _, _, _, _, _⟩ :: _) _ _; refine wpList_val rfl (op_load agg32b rfl rfl ((hS.bring (by repeat (first | exact t0 | apply tS))).getBlk.cells) HSL.out) ?_; go_frame)
                | (show wpList _ _ _ (⟨_, .store 34 _ _, _, _, _, _⟩ :: _) _ _; (refine wpS_storeAll agg32b (hS.bring (by repeat (first | exact t0 | apply tS))) rfl rfl rfl (vs := (sumH h).map B8) rfl HSL.out (B8_one _) (by rw [List.length_map, fillTo_length]) ?_); clear hS; intro w hS; go_frame)
                )
              exact ret_cell2 (b := nr) agg32b rfl rfl rfl rfl ((hS.bring (by repeat (first | exact t0 | apply tS))).getBlk) HSL.out ⟨rfl, hS.sel (by repeat (first | exact Sel.refl | refine Sel.take (by repeat (first | exact t0 | apply tS)) ?_ | apply Sel.drop))⟩
    · have HC : Hid ((g.n % 64 != 56) = true) := by
        unfold Hid
        simpa using hc
      have hm64 : g.n % 64 < 18446744073709551616 := by omega
      have hjj : j < lack (h.n + 1) := by omega
      clear hc hl
      go_wp2_with (first
        | (show wpList _ _ _ (⟨_, .load 29 _, _, _, _, _⟩ :: _) _ _; refine wpList_val rfl (op_load1S oneU64 ((hS.bring (by repeat (first | exact t0 | apply tS)))) rfl rfl hcn.out) ?_; go_frame)
        | (show wpList _ _ _ (⟨_, .binOp .and 29 _ _ _, _, _, _, _⟩ :: _) _ _; refine wpList_val rfl (op_N64and63 rfl rfl rfl) ?_; go_frame)
        | (show wpList _ _ _ (⟨_, .binOp .neq 29 _ _ _, _, _, _, _⟩ :: _) _ _; refine wpList_val rfl (op_N64ne rfl rfl hm64 (c := 56) rfl) ?_; rw [HC.out]; go_frame)
        | (show wpList _ _ _ (⟨_, .buildSlice _ _ _, _, _, _, _⟩ :: _) _ _; refine wpS_build11 slBytes hS rfl rfl rfl rfl ?_; clear hS; intro v2 w hS; rw [b00] at hS; go_frame)
        | (go_at_call 59; refine Ret.calls (add_own hS hK HGO.out (by simp only [List.length_cons, List.length_nil]; omega)) ?_; clear hS; rintro r w hS; replace hS := hS.tail)
        )
      rw [HR1.out] at hS
      go_roundw
      case rel => exact ⟨j + 1, by omega, hS⟩
      case measure =>
        rw [HM.out, natAt_of hS (by rw [absorb_op, hg0o]) (by rw [absorb_n, hg0n, List.length_replicate]; omega), absorb_n, hg0n, List.length_replicate, HGN.out]
        unfold lack at *
        omega
end
end Go.Proofs.YtieobcaegegboaaDoor
namespace Go.Proofs.YtieobcaegegboaaDoor
open Go.RowKit Go.Px Go.Sha
theorem HV_eq (l : List Byte) : HV l = .agg (l.map B8).toArray := rfl
section
variable {R : Nat → Prop} {base w : World} {F : List Hp}
set_option maxRecDepth 100000 in
set_option maxHeartbeats 4000000 in
theorem sum_s (hS : SepL R base w F) (hK : CIn R base 3 (kTab.map W32)) (hF : CIn R base 0 (first.map W32)) {v : Value} {us : List Value} {ps : List (List Byte)} (hv : Pieces R base v us ps) (hn : ps.flatten.length < 4611686018427386000) :
    Calls Tryd.prog 32 #[v] w (Ret fun r w' => r = HV (sum ps.flatten) ∧ SepL R base w' F) := by
  have hgo : (absorb new ps.flatten).op.length = 64 := by rw [absorb_op]; rfl
  have hgn : (absorb new ps.flatten).n = ps.flatten.length := by rw [absorb_n, new_n, Nat.zero_add]
  have HE := hide (sum_eq ps.flatten)
  have HW : Hid (new.n + ps.flatten.length < 4611686018427387904) := by
    unfold Hid
    rw [new_n]
    omega
  have HN : Hid ((absorb new ps.flatten).n < 4611686018427387000) := by
    unfold Hid
    rw [hgn]
    omega
  have HGO := hide hgo
  have HSL := hide (show ((sumH (absorb new ps.flatten)).map B8).length = 32 by rw [List.length_map, sumH_len])
  clear hgo hgn
  obtain ⟨fl, hfl⟩ : ∃ fl, ps.flatten = fl := ⟨_, rfl⟩
  have hwr : ∀ {p : Nat} {w : World} {F : List Hp}, SepL R base w (.blk p 109 (cellsH new) :: F) → Calls Tryd.prog 46 #[.pointer (some ⟨p, 0, none⟩), v] w (Ret fun r w' => r = .int .i64 0 ∧ SepL R base w' (.blk p 109 (cellsH (absorb new fl)) :: F)) := fun h => by
    rw [← hfl]
    exact write_s h hK new_op hv HW.out
  rw [hfl] at HE HN HGO HSL ⊢
  clear hfl HW hv
  go_enter Tryd.func32, Tryd.ntmps32
  go_wp2_with (first
    | (refine wp_region_text (by kernel_rfl) (by kernel_rfl) (by repeat (first | exact Clean.body | refine Clean.then ?_ | refine Clean.inBlock ?_)) ?_; replace hS := hS.drew)
    | (refine fin_mk (by kernel_rfl) ?_)
    | (show wpList _ _ _ (⟨_, .alloc 34, _, _, _, _⟩ :: _) _ _; refine wpS_alloc hS rfl rfl zero32b (zs := (List.replicate 32 (0 : Byte)).map B8) rfl ?_; clear hS; intro nb w hS; go_frame)
    | (go_at_call 45; refine Ret.calls (new_s hS hF) ?_; clear hS; rintro r w ⟨p, rfl, hS⟩)
    | (go_at_call 46; refine Ret.calls (hwr hS) ?_; clear hS; rintro r w ⟨rfl, hS⟩)
    | (go_at_call 47; (refine Ret.calls (sum_m (hS.bring (by repeat (first | exact t0 | apply tS))) hK HGO.out HN.out) ?_); clear hS; rintro r w ⟨rfl, hS⟩)
    | (show wpList _ _ _ (⟨_, .load 34 _, _, _, _, _⟩ :: _) _ _; refine wpList_val rfl (op_load agg32b rfl rfl ((hS.bring (by repeat (first | exact t0 | apply tS))).getBlk.cells) HSL.out) ?_; go_frame)
    | (show wpList _ _ _ (⟨_, .store 34 _ _, _, _, _, _⟩ :: _) _ _; (refine wpS_storeAll agg32b (hS.bring (by repeat (first | exact t0 | apply tS))) rfl rfl rfl (vs := (sumH (absorb new fl)).map B8) rfl HSL.out (B8_one _) (by rw [List.length_map, List.length_replicate]) ?_); clear hS; intro w hS; go_frame)
    )
  exact ret_cell agg32b rfl rfl rfl ((hS.bring (by repeat (first | exact t0 | apply tS))).getBlk) HSL.out ⟨by rw [HE.out]; rfl, (hS.sel (by repeat (first | exact Sel.refl | refine Sel.take (by repeat (first | exact t0 | apply tS)) ?_ | apply Sel.drop)) : SepL R base _ F)⟩
theorem one_flat (bs : List Byte) : [bs].flatten = bs := by simp
/-- the pieces' list is one's own, the pieces are the caller's -/
theorem pieces_own {T : Nat} {v : Value} {us : List Value} {ps : List (List Byte)} (hS : SepL R base w (.own T 1 v (us.map fun u => [u]) :: F)) (hl : us.length = ps.length) (hu : ∀ i (h : i < us.length) (h' : i < ps.length), RdIn R base 1 us[i] (bytes ps[i])) {f : FuncId} {V : Value → Prop}
    (hc : ∀ R', SepL R' w w F → Pieces R' w v us ps → (∀ n v xs, RdIn R base n v xs → RdIn R' w n v xs) → Calls Tryd.prog f #[v] w (Ret fun r w' => V r ∧ SepL R' w w' F)) :
    Calls Tryd.prog f #[v] w (Ret fun r w' => V r ∧ SepL R base w' F) := by
  obtain ⟨R', h1, h2, h3, h4⟩ := hS.freezeOwn
  refine Ret.calls (hc R' h1 ⟨h2, hl, fun i g1 g2 => h3 _ _ _ (hu i g1 g2)⟩ h3) ?_
  rintro r w' ⟨h5, h6⟩
  exact ⟨h5, (h4 w' _ h6).tail⟩
theorem sum_arg {T : Nat} {v : Value} {us : List Value} {ps : List (List Byte)} (hS : SepL R base w (.own T 1 v (us.map fun u => [u]) :: F)) (hK : CIn R base 3 (kTab.map W32)) (hF : CIn R base 0 (first.map W32)) (hl : us.length = ps.length) (hu : ∀ i (h : i < us.length) (h' : i < ps.length), RdIn R base 1 us[i] (bytes ps[i])) (hn : ps.flatten.length < 4611686018427386000) :
    Calls Tryd.prog 32 #[v] w (Ret fun r w' => r = HV (sum ps.flatten) ∧ SepL R base w' F) :=
  pieces_own hS hl hu fun _ h1 h2 h3 => sum_s h1 (kTab_mv hK h3) (first_mv hF h3) h2 hn
/-- the pieces' list is one's own, its one piece is an array of one's own -/
theorem piece_blk {T T' b m : Nat} {v : Value} {bs : List Byte} (hS : SepL R base w (.own T 1 v [[.slice (some ⟨b, 0, none⟩) m m]] :: .blk b T' (bs.map B8) :: F)) (hm : bs.length = m) (hm2 : m ≤ 1000) {f : FuncId} {V : Value → Prop}
    (hc : ∀ R', SepL R' w w F → Pieces R' w v [.slice (some ⟨b, 0, none⟩) m m] [bs] → (∀ n v xs, RdIn R base n v xs → RdIn R' w n v xs) → Calls Tryd.prog f #[v] w (Ret fun r w' => V r ∧ SepL R' w w' F)) :
    Calls Tryd.prog f #[v] w (Ret fun r w' => V r ∧ SepL R base w' (.blk b T' (bs.map B8) :: F)) := by
  obtain ⟨R1, h1, h2, h3, h4⟩ := hS.freezeOwn
  obtain ⟨R2, g1, g2, g2', g3, g4⟩ := h1.freezeBlk
  have hcc : CIn R2 w b (bs.map B8) := ⟨g2.cells, g2'⟩
  have hr := CIn.asRd hcc (by rw [List.length_map]; simp [maxLen]; omega)
  rw [List.length_map, hm] at hr
  refine Ret.calls (hc R2 g1 (Pieces.one (g3 _ _ _ h2) hr) (fun n v xs h => g3 _ _ _ (h3 _ _ _ h))) ?_
  rintro r w' ⟨h5, h6⟩
  exact ⟨h5, (h4 w' _ (g4 w' _ h6)).tail⟩
theorem sum_blk {T T' b m : Nat} {v : Value} {bs : List Byte} (hS : SepL R base w (.own T 1 v [[.slice (some ⟨b, 0, none⟩) m m]] :: .blk b T' (bs.map B8) :: F)) (hK : CIn R base 3 (kTab.map W32)) (hF : CIn R base 0 (first.map W32)) (hm : bs.length = m) (hm2 : m ≤ 1000) :
    Calls Tryd.prog 32 #[v] w (Ret fun r w' => r = HV (sum bs) ∧ SepL R base w' (.blk b T' (bs.map B8) :: F)) :=
  piece_blk hS hm hm2 fun _ h1 h2 h3 => by
    have := sum_s h1 (kTab_mv hK h3) (first_mv hF h3) h2 (by rw [one_flat]; omega)
    rwa [one_flat] at this
end
end Go.Proofs.YtieobcaegegboaaDoor
namespace Go.Proofs.YtieobcaegegboaaDoor
open Go.RowKit Go.Px Go.Sha Go.WideMaps
theorem keyHash : Key Tryd.prog 34 where
  law := Maps.Keyed.of_law (deep_law_laid Tryd.laidOut (m := 2) (by omega) (of_decide_eq_true (by kernel_rfl)) (by kernel_rfl) (by kernel_rfl))
  eq := fun w {x y lx ly} hx hy => run_equal_deep w (m := 2) (by omega) (by kernel_rfl) (by kernel_rfl) hx hy
  guard := by kernel_rfl
theorem sizeT : ∃ m, Tryd.prog.types.size = m + 1 := ⟨Tryd.prog.types.size - 1, by kernel_rfl⟩
theorem arrHash : ArrKey Tryd.prog 34 5 32 := ⟨by kernel_rfl, by kernel_rfl, by kernel_rfl, by kernel_rfl⟩
theorem op_eqHash {o : Oper} {ρ : Operand → Value} {w : World} {x y : Operand} {t : TypeId} (ho : o.op = .binOp .eql 34 x y t) {a b : List Byte} (hx : ρ x = .agg (a.map B8).toArray) (hy : ρ y = .agg (b.map B8).toArray) (ha : a.length = 32) (hb : a = b) : (execOp ρ o).run Tryd.prog w = .ok (.value (.bool true)) w := by
  subst hb
  rw [op_eql keyHash ho hx hy (isKey_bytes arrHash undU8 sizeT ha) (isKey_bytes arrHash undU8 sizeT ha), eqv_self]
end Go.Proofs.YtieobcaegegboaaDoor
namespace Go.Proofs.YtieobcaegegboaaDoor
open Go.RowKit Go.Px Go.Sha
theorem op_loadB {P : Program} {R : Nat → Prop} {base w : World} {L : List Hp} {o : Oper} {ρ : Operand → Value} {t : TypeId} (A : One P t) {us : List Byte} {b : Nat} {T : TypeId} (hS : SepL R base w (.blk b T (us.map B8) :: L)) {x : Operand} (ho : o.op = .load t x) {off : Nat} (hx : ρ x = .pointer (some ⟨b, off, none⟩)) (hk : off < us.length) :
    (execOp ρ o).run P w = .ok (.value (B8 (us.getD off 0))) w := by
  rw [List.getD_eq_getElem?_getD, List.getElem?_eq_getElem hk]
  exact op_loadF A hS ho hx hk
theorem op_loadBE {P : Program} {o : Oper} {w : World} {ρ : Operand → Value} {t : TypeId} (A : One P t) {x : Operand} (ho : o.op = .load t x) {v : Value} {k : Nat} (hx : ρ x = elAt 1 v k) {bs : List Byte} (hr : Rd 1 w v (bytes bs)) (hk : k < bs.length) : (execOp ρ o).run P w = .ok (.value (B8 bs[k])) w := by
  have e : bytes bs = bs.map fun u => [B8 u] := by simp [bytes]
  rw [e] at hr
  exact op_loadE1 A ho hx (f := B8) hr hk
theorem le4_eq (l : List Byte) : (l.getD 0 0).setWidth 32 ||| (l.getD 1 0).setWidth 32 <<< 8 ||| (l.getD 2 0).setWidth 32 <<< 16 ||| (l.getD 3 0).setWidth 32 <<< 24 = le4 l := rfl
section
variable {R : Nat → Prop} {base w : World} {F : List Hp}
/-- the part wanted is brought behind the head -/
theorem hd2 {a o : Hp} {L M : List Hp} (t : Take1 L a M) (hS : SepL R base w (o :: L)) : SepL R base w (o :: a :: M) := (hS.bring (tS t)).perm (.swap _ _ _)
theorem at_one {u : Value} {bs : List Byte} (hu : RdIn R base 1 u (bytes bs)) : ∀ i (_ : i < [u].length) (_ : i < [bs].length), RdIn R base 1 [u][i] (bytes [bs][i]) := fun i h h' => by
  have : i = 0 := by simpa using h
  subst this
  exact hu
theorem at_two {u v : Value} {bs cs : List Byte} (hu : RdIn R base 1 u (bytes bs)) (hv : RdIn R base 1 v (bytes cs)) : ∀ i (_ : i < [u, v].length) (_ : i < [bs, cs].length), RdIn R base 1 [u, v][i] (bytes [bs, cs][i]) := fun i h h' => by
  match i, h with
  | 0, _ => exact hu
  | 1, _ => exact hv
theorem sum_arg1 {T : Nat} {v u : Value} {bs : List Byte} (hS : SepL R base w (.own T 1 v [[u]] :: F)) (hK : CIn R base 3 (kTab.map W32)) (hF : CIn R base 0 (first.map W32)) (hu : RdIn R base 1 u (bytes bs)) (hn : bs.length < 4611686018427386000) :
    Calls Tryd.prog 32 #[v] w (Ret fun r w' => r = HV (sum bs) ∧ SepL R base w' F) := by
  have h := sum_arg (us := [u]) (ps := [bs]) hS hK hF rfl (at_one hu) (by rw [one_flat]; exact hn)
  rwa [one_flat] at h
theorem sum_arg2 {T : Nat} {v u1 u2 : Value} {bs cs : List Byte} (hS : SepL R base w (.own T 1 v [[u1], [u2]] :: F)) (hK : CIn R base 3 (kTab.map W32)) (hF : CIn R base 0 (first.map W32)) (hu : RdIn R base 1 u1 (bytes bs)) (hu2 : RdIn R base 1 u2 (bytes cs)) (hn : bs.length + cs.length < 4611686018427386000) :
    Calls Tryd.prog 32 #[v] w (Ret fun r w' => r = HV (sum (bs ++ cs)) ∧ SepL R base w' F) := by
  have e : [bs, cs].flatten = bs ++ cs := by simp
  have h := sum_arg (us := [u1, u2]) (ps := [bs, cs]) hS hK hF rfl (at_two hu hu2) (by rw [e, List.length_append]; exact hn)
  rwa [e] at h
/-- bytes written to a hasher -/
theorem write_own {p T : Nat} {h : Hs} {v : Value} {us : List Value} {ps : List (List Byte)} (hS : SepL R base w (.own T 1 v (us.map fun u => [u]) :: .blk p 109 (cellsH h) :: F)) (hK : CIn R base 3 (kTab.map W32)) (hop : h.op.length = 64) (hl : us.length = ps.length) (hu : ∀ i (h : i < us.length) (h' : i < ps.length), RdIn R base 1 us[i] (bytes ps[i])) (hn : h.n + ps.flatten.length < 4611686018427387904) :
    Calls Tryd.prog 46 #[.pointer (some ⟨p, 0, none⟩), v] w (Ret fun r w' => r = .int .i64 0 ∧ SepL R base w' (.blk p 109 (cellsH (absorb h ps.flatten)) :: F)) := by
  obtain ⟨R', h1, h2, h3, h4⟩ := hS.freezeOwn
  refine Ret.calls (write_s h1 (kTab_mv hK h3) hop ⟨h2, hl, fun i g1 g2 => h3 _ _ _ (hu i g1 g2)⟩ hn) ?_
  rintro r w' ⟨h5, h6⟩
  exact ⟨h5, (h4 w' _ h6).tail⟩
theorem write_one {p T : Nat} {h : Hs} {v u : Value} {bs : List Byte} (hS : SepL R base w (.own T 1 v [[u]] :: .blk p 109 (cellsH h) :: F)) (hK : CIn R base 3 (kTab.map W32)) (hop : h.op.length = 64) (hu : RdIn R base 1 u (bytes bs)) (hn : h.n + bs.length < 4611686018427387904) :
    Calls Tryd.prog 46 #[.pointer (some ⟨p, 0, none⟩), v] w (Ret fun r w' => r = .int .i64 0 ∧ SepL R base w' (.blk p 109 (cellsH (absorb h bs)) :: F)) := by
  have h := write_own (us := [u]) (ps := [bs]) hS hK hop rfl (at_one hu) (by rw [one_flat]; exact hn)
  rwa [one_flat] at h
end
end Go.Proofs.YtieobcaegegboaaDoor
namespace Go.Proofs.YtieobcaegegboaaDoor
open Go.RowKit Go.Px Go.Sha
theorem bytes_app (a b : List Byte) : bytes (a ++ b) = bytes a ++ bytes b := by simp [bytes]
theorem flat_bytes (l : List Byte) : Flat (bytes l) := by
  intro x hx v hv
  simp only [bytes, List.map_map, List.mem_map] at hx
  obtain ⟨b, _, rfl⟩ := hx
  simp only [Function.comp, List.mem_cons, List.not_mem_nil, or_false] at hv
  subst hv
  rfl
theorem RdIn.takeV {R : Nat → Prop} {base : World} {v : Value} {bs : List Byte} (h : RdIn R base 1 v (bytes bs)) {k : Nat} (hk : k ≤ bs.length) : RdIn R base 1 (cutV 1 v 0 k) (bytes (bs.take k)) := by
  have := h.cutV (l := 0) (h := k) (Nat.zero_le _) (by rw [bytes_len]; exact hk)
  simpa [bytes, List.map_take] using this
/-- so far padded -/
def padTo (m : List Byte) (j : Nat) : List Byte := m ++ 0x80#8 :: List.replicate j 0
theorem padTo_zero (m : List Byte) : m ++ [0x80#8] = padTo m 0 := rfl
theorem padTo_succ (m : List Byte) (j : Nat) : padTo m j ++ [0x00#8] = padTo m (j + 1) := by
  unfold padTo
  rw [List.append_assoc, List.cons_append, List.replicate_succ']
  rfl
theorem padTo_len (m : List Byte) (j : Nat) : (padTo m j).length = m.length + 1 + j := by
  simp [padTo]
  omega
theorem padTo_all (m : List Byte) : padTo m (lack (m.length + 1)) ++ be8 (bitsOf m.length) = padded m := by
  unfold padTo padded padding
  simp
attribute [irreducible] padTo
theorem padded_len2 (m : List Byte) : (padded m).length = m.length + 1 + lack (m.length + 1) + 8 := by
  rw [← padTo_all, List.length_append, padTo_len, be8_length]
theorem be8_small {n : Nat} (h : n ≤ 4000) : be8 (bitsOf n) = [0#8, 0#8, 0#8, 0#8, 0#8, BitVec.ofNat 8 (8 * n / 2 ^ 16), BitVec.ofNat 8 (8 * n / 2 ^ 8), BitVec.ofNat 8 (8 * n)] := by
  have e : ∀ c : Nat, (bitsOf n >>> c).setWidth 8 = BitVec.ofNat 8 (8 * n / 2 ^ c) := fun c => by
    apply BitVec.eq_of_toNat_eq
    unfold bitsOf
    rw [BitVec.toNat_setWidth, BitVec.toNat_ushiftRight, BitVec.toNat_shiftLeft, BitVec.toNat_ofNat, BitVec.toNat_ofNat, Nat.shiftRight_eq_div_pow, Nat.shiftLeft_eq]
    have e1 : n % 2 ^ 64 = n := Nat.mod_eq_of_lt (by omega)
    have e2 : n * 2 ^ 3 % 2 ^ 64 = 8 * n := by omega
    rw [e1, e2]
  have z2 : ∀ c : Nat, 24 ≤ c → BitVec.ofNat 8 (8 * n / 2 ^ c) = 0#8 := fun c hc => by
    have : 8 * n / 2 ^ c = 0 := by
      apply Nat.div_eq_of_lt
      have : 2 ^ 24 ≤ 2 ^ c := Nat.pow_le_pow_right (by omega) hc
      omega
    rw [this]
  unfold be8
  rw [show List.range 8 = [0, 1, 2, 3, 4, 5, 6, 7] from rfl]
  simp only [List.map_cons, List.map_nil, e]
  rw [z2 (56 - 8 * 0) (by omega), z2 (56 - 8 * 1) (by omega), z2 (56 - 8 * 2) (by omega), z2 (56 - 8 * 3) (by omega), z2 (56 - 8 * 4) (by omega)]
  simp
/-- four bytes of a word make the word -/
theorem word_be (x : Word) : ((x >>> 24).setWidth 8).setWidth 32 <<< 24 ||| ((x >>> 16).setWidth 8).setWidth 32 <<< 16 ||| ((x >>> 8).setWidth 8).setWidth 32 <<< 8 ||| (x.setWidth 8).setWidth 32 = x := by
  apply BitVec.eq_of_getLsbD_eq
  intro i hi
  simp only [BitVec.getLsbD_or, BitVec.getLsbD_shiftLeft, BitVec.getLsbD_setWidth, BitVec.getLsbD_ushiftRight, hi, decide_true, Bool.true_and]
  by_cases h1 : i < 8
  · simp [h1, show i < 16 by omega, show i < 24 by omega]
  · by_cases h2 : i < 16
    · simp [h1, h2, show i < 24 by omega, show i - 8 < 8 by omega, show i - 8 < 32 by omega, show 8 + (i - 8) = i by omega]
    · by_cases h3 : i < 24
      · simp [h1, h2, h3, show ¬ i - 8 < 8 by omega, show i - 16 < 8 by omega, show i - 16 < 32 by omega, show 16 + (i - 16) = i by omega]
      · simp [h1, h2, h3, show ¬ i - 8 < 8 by omega, show ¬ i - 16 < 8 by omega, show i - 24 < 8 by omega, show i - 24 < 32 by omega, show 24 + (i - 24) = i by omega]
theorem word_be2 (x : Word) : ((x >>> (24 - 8 * 0)).setWidth 8).setWidth 32 <<< 24 ||| ((x >>> (24 - 8 * 1)).setWidth 8).setWidth 32 <<< 16 ||| ((x >>> (24 - 8 * 2)).setWidth 8).setWidth 32 <<< 8 ||| ((x >>> (24 - 8 * 3)).setWidth 8).setWidth 32 = x := by
  have h : x >>> (24 - 8 * 3) = x := by
    apply BitVec.eq_of_toNat_eq
    simp
  rw [h]
  exact word_be x
theorem digest_getD (s : St) {j : Nat} (h : j < 32) : (digest s).getD j 0 = dgAt s j := by
  rw [← dg_all, List.getD_eq_getElem?_getD, List.getElem?_map, List.getElem?_range h]
  rfl
theorem digest_word (s : St) {k : Nat} (hk : k < s.list.length) : ((digest s).getD (4 * k) 0).setWidth 32 <<< 24 ||| ((digest s).getD (4 * k + 1) 0).setWidth 32 <<< 16 ||| ((digest s).getD (4 * k + 2) 0).setWidth 32 <<< 8 ||| ((digest s).getD (4 * k + 3) 0).setWidth 32 = s.list[k] := by
  have h8 : k < 8 := by rwa [st_list_len] at hk
  rw [digest_getD s (by omega), digest_getD s (by omega), digest_getD s (by omega), digest_getD s (by omega), dgAt_at s (m := 1) (by omega) hk, dgAt_at s (m := 2) (by omega) hk, dgAt_at s (m := 3) (by omega) hk]
  have e0 := dgAt_at s (m := 0) (k := k) (by omega) hk
  rw [Nat.add_zero] at e0
  rw [e0]
  exact word_be2 s.list[k]
theorem blocks_zero (s : St) (b : List Byte) : blocks s b 0 = s := rfl
theorem blocks_succ (s : St) (b : List Byte) (k : Nat) : compress (blocks s b k) ((b.drop (64 * k)).take 64) = blocks s b (k + 1) := rfl
theorem cut_rd {w : World} {v : Value} {l ch : List Byte} (h : Rd 1 w v (bytes l)) {a b : Nat} (h1 : a ≤ b) (h2 : b ≤ l.length) (hc : (l.drop a).take (b - a) = ch) : Rd 1 w (cutV 1 v a b) ((ch.map B8).map fun u => [u]) := by
  have := Rd.cutV h (l := a) (h := b) h1 (by rw [bytes_len]; exact h2)
  subst hc
  simpa [bytes, List.map_drop, List.map_take] using this
theorem copied64 {C xs : List Value} {k : Nat} (hx : xs.length = 64) (hC : C.length = 64) (hk : k = min xs.length 64) : C.take 0 ++ xs.take k ++ C.drop (0 + k) = xs := by
  have : k = 64 := by omega
  subst this
  rw [List.take_zero, List.nil_append, List.take_of_length_le (l := xs) (by omega), List.drop_eq_nil_of_le (by omega), List.append_nil]
section
variable {R : Nat → Prop} {base w : World} {F : List Hp}
theorem build_first (w : World) : (Instr.build 74 ((first.map W32).zipIdx.map fun x => (x.2, x.1)).toArray).run Tryd.prog w = .ok (.agg (first.map W32).toArray) w := by kernel_rfl
set_option maxRecDepth 100000 in
theorem rfirst_s (hS : SepL R base w F) : Calls Tryd.prog 33 #[] w (Ret fun r w' => r = ST firstSt ∧ SepL R base w' F) := by
  go_enter Tryd.func33, Tryd.ntmps33
  go_wp2_with (first
    | (show wpList _ _ _ (⟨_, .alloc 74, _, _, _, _⟩ :: _) _ _; refine wpS_alloc hS rfl rfl zero8w (zs := (List.replicate 8 (0 : Word)).map W32) rfl ?_; clear hS; intro nr w hS; go_frame)
    | (show wpList _ _ _ (⟨_, .build _ _, _, _, _, _⟩ :: _) _ _; refine wpList_val rfl (op_build (ps := ((first.map W32).zipIdx.map fun x => (x.2, x.1)).toArray) rfl rfl build_first _) ?_; go_frame)
    | (show wpList _ _ _ (⟨_, .store 74 _ _, _, _, _, _⟩ :: _) _ _; (refine wpS_storeAll agg8w (hS.bring (by repeat (first | exact t0 | apply tS))) rfl rfl rfl (vs := firstSt.list.map W32) rfl rfl (oneW _) rfl ?_); clear hS; intro w hS; go_frame)
    )
  exact ret_cell (b := nr) agg8w rfl rfl rfl ((hS.bring (by repeat (first | exact t0 | apply tS))).getBlk) rfl ⟨rfl, hS.sel (by repeat (first | exact Sel.refl | refine Sel.take (by repeat (first | exact t0 | apply tS)) ?_ | apply Sel.drop))⟩
end
end Go.Proofs.YtieobcaegegboaaDoor
