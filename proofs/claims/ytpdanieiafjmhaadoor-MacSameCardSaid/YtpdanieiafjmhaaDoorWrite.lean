/- Bytes that a hasher takes piece by piece; bytes in memory of one's own handed to it. Conditions: those that stand ahead of each theorem. -/
import Derived.Test.YtpdanieiafjmhaaDoorAdd
namespace Go.Proofs.YtpdanieiafjmhaaDoor
open Go.RowKit Go.Px Go.Sha
theorem CIn.asRd {R : Nat → Prop} {base : World} {b : Nat} {cs : List Value} (h : CIn R base b cs) (hl : cs.length ≤ maxLen) : RdIn R base 1 (.slice (some ⟨b, 0, none⟩) cs.length cs.length) (cs.map fun u => [u]) := by
  refine ⟨⟨_, cs.length, by rw [List.length_map], by simp, hl, ?_, fun _ => ⟨b, 0, rfl, ?_⟩⟩, fun _ k hk => by cases hk; exact h.ro⟩
  · intro q hq
    obtain ⟨x, _, rfl⟩ := List.mem_map.1 hq
    rfl
  · rw [flat1]
    exact h.c
theorem CIn.mv {R R' : Nat → Prop} {base w : World} {b : Nat} {cs : List Value} (h : CIn R base b cs) (hl : cs.length ≤ maxLen) (hne : cs ≠ []) (f : ∀ n v xs, RdIn R base n v xs → RdIn R' w n v xs) : CIn R' w b cs := by
  have h2 := f _ _ _ (CIn.asRd h hl)
  have hne2 : (cs.map fun u => [u]) ≠ [] := by simpa using hne
  refine ⟨?_, h2.ro hne2 b rfl⟩
  obtain ⟨A, c, e, h3, h4, h5, h6⟩ := h2.rd
  obtain ⟨b', off, rfl, hc⟩ := h6 hne2
  injection e with e1 e2 e3
  injection e1 with e1
  injection e1 with e4 e5 e6
  subst e4 e5
  rwa [flat1] at hc
theorem kTab_mv {R R' : Nat → Prop} {base w : World} (h : CIn R base 0 (kTab.map W32)) (f : ∀ n v xs, RdIn R base n v xs → RdIn R' w n v xs) : CIn R' w 0 (kTab.map W32) := CIn.mv h (by simp [kTab, maxLen]) (by simp [kTab]) f
theorem first_mv {R R' : Nat → Prop} {base w : World} (h : CIn R base 1 (first.map W32)) (f : ∀ n v xs, RdIn R base n v xs → RdIn R' w n v xs) : CIn R' w 1 (first.map W32) := CIn.mv h (by simp [first, maxLen]) (by simp [first]) f
/-- pieces of bytes that are only read -/
structure Pieces (R : Nat → Prop) (base : World) (v : Value) (us : List Value) (ps : List (List Byte)) : Prop where
  rd : RdIn R base 1 v (us.map fun u => [u])
  len : us.length = ps.length
  at_ : ∀ i (h : i < us.length) (h' : i < ps.length), RdIn R base 1 us[i] (bytes ps[i])
theorem Pieces.mv {R R' : Nat → Prop} {base w : World} {v : Value} {us : List Value} {ps : List (List Byte)} (h : Pieces R base v us ps) (f : ∀ n v xs, RdIn R base n v xs → RdIn R' w n v xs) : Pieces R' w v us ps :=
  ⟨f _ _ _ h.rd, h.len, fun i h1 h2 => f _ _ _ (h.at_ i h1 h2)⟩
theorem Pieces.one {R : Nat → Prop} {base : World} {v u : Value} {bs : List Byte} (h : RdIn R base 1 v [[u]]) (hu : RdIn R base 1 u (bytes bs)) : Pieces R base v [u] [bs] :=
  ⟨h, rfl, fun i h1 h2 => by
    have : i = 0 := by simpa using h1
    subst this
    exact hu⟩
theorem Pieces.small {R : Nat → Prop} {base : World} {v : Value} {us : List Value} {ps : List (List Byte)} (h : Pieces R base v us ps) : us.length ≤ 9223372036854775807 := by
  obtain ⟨A, c, e, h2, h3, _⟩ := h.rd.rd
  rw [List.length_map] at h2
  simp only [maxLen] at h3
  omega
theorem sum_take_le (ps : List (List Byte)) (k : Nat) : (ps.take k).flatten.length ≤ ps.flatten.length := by
  conv => rhs; rw [← List.take_append_drop k ps, List.flatten_append, List.length_append]
  omega
theorem sum_take_one {ps : List (List Byte)} {k : Nat} (hk : k < ps.length) : (ps.take (k + 1)).flatten = (ps.take k).flatten ++ ps[k] := by
  rw [List.take_succ_eq_append_getElem hk, List.flatten_append]
  simp
theorem op_lenU {P : Program} {o : Oper} {w : World} {ρ : Operand → Value} {t e n' : Nat} (T : SlTy P t e 1 n') {x : Operand} {ts : Array TypeId} (ho : o.op = .call { callee := .builtin .len, args := #[x], argTypes := ts }) (hts : ts[0]? = some t) {v : Value} (hx : ρ x = v) {us : List Value} (hr : Rd 1 w v (us.map fun u => [u])) {n : Nat} (hn : us.length = n) :
    (execOp ρ o).run P w = .ok (.value (.int .i64 n)) w := by
  have := op_len T ho hts hx hr
  rwa [List.length_map, hn] at this
section
variable {R : Nat → Prop} {base w : World} {F : List Hp}
theorem add_own {p T : Nat} {h : Hs} {v : Value} {bs : List Byte} (hS : SepL R base w (.own T 1 v (bytes bs) :: .blk p 70 (cellsH h) :: F)) (hK : CIn R base 0 (kTab.map W32)) (hop : h.op.length = 64) (hn : h.n + bs.length < 4611686018427387904) :
    Calls Tryd.prog 47 #[.pointer (some ⟨p, 0, none⟩), v] w (Ret fun _ w' => SepL R base w' (.own T 1 v (bytes bs) :: .blk p 70 (cellsH (absorb h bs)) :: F)) := by
  obtain ⟨R', h1, h2, h3, h4⟩ := hS.freezeOwn
  refine Ret.calls (add_s h1 (kTab_mv hK h3) hop h2 hn) ?_
  intro r w' h5
  exact h4 w' _ h5
theorem add_blk {p T b : Nat} {h : Hs} {bs : List Byte} (hS : SepL R base w (.blk b T (bs.map B8) :: .blk p 70 (cellsH h) :: F)) (hK : CIn R base 0 (kTab.map W32)) (hop : h.op.length = 64) (hn : h.n + bs.length < 4611686018427387904) (hl : bs.length ≤ 1000) {m m' : Nat} (hm : bs.length = m) (hm' : m' = m) :
    Calls Tryd.prog 47 #[.pointer (some ⟨p, 0, none⟩), .slice (some ⟨b, 0, none⟩) m m'] w (Ret fun _ w' => SepL R base w' (.blk b T (bs.map B8) :: .blk p 70 (cellsH (absorb h bs)) :: F)) := by
  subst hm'
  obtain ⟨R', h1, h2, h2', h3, h4⟩ := hS.freezeBlk
  have hc : CIn R' w b (bs.map B8) := ⟨h2.cells, h2'⟩
  have hr := CIn.asRd hc (by rw [List.length_map]; simp [maxLen]; omega)
  rw [List.length_map, hm] at hr
  refine Ret.calls (add_s h1 (kTab_mv hK h3) hop hr hn) ?_
  intro r w' h5
  exact h4 w' _ h5
set_option maxRecDepth 100000 in
theorem write_s {p : Nat} {h : Hs} (hS : SepL R base w (.blk p 70 (cellsH h) :: F)) (hK : CIn R base 0 (kTab.map W32)) (hop : h.op.length = 64) {v : Value} {us : List Value} {ps : List (List Byte)} (hv : Pieces R base v us ps) (hn : h.n + ps.flatten.length < 4611686018427387904) :
    Calls Tryd.prog 21 #[.pointer (some ⟨p, 0, none⟩), v] w (Ret fun r w' => r = .int .i64 0 ∧ SepL R base w' (.blk p 70 (cellsH (absorb h ps.flatten)) :: F)) := by
  have hsm := hv.small
  obtain ⟨n, hnn⟩ : ∃ n, us.length = n := ⟨_, rfl⟩
  go_enter Tryd.func21, Tryd.ntmps21
  go_wp2_with (first
    | (show wpList _ _ _ (⟨_, .call ⟨.builtin .len, _, _⟩, _, _, _, _⟩ :: _) _ _; refine wpList_val rfl (op_lenU slPieces rfl rfl rfl (hS.rd hv.rd) hnn) ?_; go_frame)
    )
  go_loopw [11] (fun i wr => ∃ k : Nat, i = .int .i64 k ∧ k ≤ n ∧ SepL R base wr (.blk p 70 (cellsH (absorb h (ps.take k).flatten)) :: F)) (fun i _ => n - (intOf i).toNat)
  case atStart => exact ⟨0, rfl, by omega, hS⟩
  case round =>
    clear hS
    obtain ⟨k, rfl, hk, hS⟩ := hrel
    by_cases hlt : k < n
    · have hku : k < us.length := by omega
      have hkp : k < ps.length := by rw [← hv.len]; omega
      have hop' : (absorb h (ps.take k).flatten).op.length = 64 := by rw [absorb_op, hop]
      have hn' : (absorb h (ps.take k).flatten).n + ps[k].length < 4611686018427387904 := by
        have := sum_take_le ps (k + 1)
        rw [sum_take_one hkp, List.length_append] at this
        rw [absorb_n]
        omega
      have HST : Hid (absorb (absorb h (ps.take k).flatten) ps[k] = absorb h (ps.take (k + 1)).flatten) := by
        unfold Hid
        rw [sum_take_one hkp, absorb_append]
      generalize absorb h (ps.take k).flatten = g at *
      have hp := hv.at_ k hku hkp
      generalize ps[k] = pk at *
      go_wp2_with (first
        | (show wpList _ _ _ (⟨_, .indexAddr _ _ _, _, _, _, _⟩ :: _) _ _; refine wpList_val rfl (op_indexAddr slPieces rfl (v := v) rfl rfl (hS.rd hv.rd) (by rw [List.length_map]; exact hku)) ?_; go_frame)
        | (show wpList _ _ _ (⟨_, .load _ _, _, _, _, _⟩ :: _) _ _; refine wpList_val rfl (op_loadE1 oneBytes rfl (v := v) (k := k) rfl (f := fun u => u) (hS.rd hv.rd) hku) ?_; go_frame)
        | (go_at_call 47; refine Ret.calls (add_s hS hK hop' hp hn') ?_; clear hS; rintro r w hS)
        )
      go_roundw
      case rel => exact ⟨k + 1, by go_num, by omega, by rw [← HST.out]; exact hS⟩
      case measure => simp [intOf]; omega
    · have hk2 : k = n := by omega
      subst hk2
      have e : ps.take us.length = ps := by rw [hv.len, List.take_length]
      rw [← hnn, e] at hS
      go_wp2_with fail
      go_ret
      exact ⟨rfl, hS⟩
end
end Go.Proofs.YtpdanieiafjmhaaDoor
