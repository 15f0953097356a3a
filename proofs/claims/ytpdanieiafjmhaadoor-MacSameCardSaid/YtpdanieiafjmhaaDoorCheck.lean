/- Sums of given pieces, and the check of bytes. Conditions: those that stand ahead of each theorem. -/
import Derived.Test.YtpdanieiafjmhaaDoorAlive
namespace Go.Proofs.YtpdanieiafjmhaaDoor
open Go.RowKit Go.Px Go.Sha
theorem op_loadB {P : Program} {R : Nat → Prop} {base w : World} {L : List Hp} {o : Oper} {ρ : Operand → Value} {t : TypeId} (A : One P t) {us : List Byte} {b : Nat} {T : TypeId} (hS : SepL R base w (.blk b T (us.map B8) :: L)) {x : Operand} (ho : o.op = .load t x) {off : Nat} (hx : ρ x = .pointer (some ⟨b, off, none⟩)) (hk : off < us.length) :
    (execOp ρ o).run P w = .ok (.value (B8 (us.getD off 0))) w := by
  rw [List.getD_eq_getElem?_getD, List.getElem?_eq_getElem hk]
  exact op_loadF A hS ho hx hk
theorem op_loadBE {P : Program} {o : Oper} {w : World} {ρ : Operand → Value} {t : TypeId} (A : One P t) {x : Operand} (ho : o.op = .load t x) {v : Value} {k : Nat} (hx : ρ x = elAt 1 v k) {bs : List Byte} (hr : Rd 1 w v (bytes bs)) (hk : k < bs.length) : (execOp ρ o).run P w = .ok (.value (B8 bs[k])) w := by
  have e : bytes bs = bs.map fun u => [B8 u] := by simp [bytes]
  rw [e] at hr
  exact op_loadE1 A ho hx (f := B8) hr hk
theorem le4_eq (l : List Byte) : (l.getD 0 0).setWidth 32 ||| (l.getD 1 0).setWidth 32 <<< 8 ||| (l.getD 2 0).setWidth 32 <<< 16 ||| (l.getD 3 0).setWidth 32 <<< 24 = le4 l := rfl
section
variable {R : Nat → Prop} {base w : World} {F : List Hp}
/-- the part wanted is brought behind the head -/
theorem hd2 {a o : Hp} {L M : List Hp} (t : Take1 L a M) (hS : SepL R base w (o :: L)) : SepL R base w (o :: a :: M) := (hS.bring (tS t)).perm (.swap _ _ _)
theorem at_one {u : Value} {bs : List Byte} (hu : RdIn R base 1 u (bytes bs)) : ∀ i (_ : i < [u].length) (_ : i < [bs].length), RdIn R base 1 [u][i] (bytes [bs][i]) := fun i h h' => by
  have : i = 0 := by simpa using h
  subst this
  exact hu
theorem at_two {u v : Value} {bs cs : List Byte} (hu : RdIn R base 1 u (bytes bs)) (hv : RdIn R base 1 v (bytes cs)) : ∀ i (_ : i < [u, v].length) (_ : i < [bs, cs].length), RdIn R base 1 [u, v][i] (bytes [bs, cs][i]) := fun i h h' => by
  match i, h with
  | 0, _ => exact hu
  | 1, _ => exact hv
theorem sum_arg1 {T : Nat} {v u : Value} {bs : List Byte} (hS : SepL R base w (.own T 1 v [[u]] :: F)) (hK : CIn R base 0 (kTab.map W32)) (hF : CIn R base 1 (first.map W32)) (hu : RdIn R base 1 u (bytes bs)) (hn : bs.length < 4611686018427386000) :
    Calls Tryd.prog 23 #[v] w (Ret fun r w' => r = HV (sum bs) ∧ SepL R base w' F) := by
  have h := sum_arg (us := [u]) (ps := [bs]) hS hK hF rfl (at_one hu) (by rw [one_flat]; exact hn)
  rwa [one_flat] at h
theorem sum_arg2 {T : Nat} {v u1 u2 : Value} {bs cs : List Byte} (hS : SepL R base w (.own T 1 v [[u1], [u2]] :: F)) (hK : CIn R base 0 (kTab.map W32)) (hF : CIn R base 1 (first.map W32)) (hu : RdIn R base 1 u1 (bytes bs)) (hu2 : RdIn R base 1 u2 (bytes cs)) (hn : bs.length + cs.length < 4611686018427386000) :
    Calls Tryd.prog 23 #[v] w (Ret fun r w' => r = HV (sum (bs ++ cs)) ∧ SepL R base w' F) := by
  have e : [bs, cs].flatten = bs ++ cs := by simp
  have h := sum_arg (us := [u1, u2]) (ps := [bs, cs]) hS hK hF rfl (at_two hu hu2) (by rw [e, List.length_append]; exact hn)
  rwa [e] at h
theorem twice_arg1 {T : Nat} {v u : Value} {bs : List Byte} (hS : SepL R base w (.own T 1 v [[u]] :: F)) (hK : CIn R base 0 (kTab.map W32)) (hF : CIn R base 1 (first.map W32)) (hu : RdIn R base 1 u (bytes bs)) (hn : bs.length < 4611686018427386000) :
    Calls Tryd.prog 29 #[v] w (Ret fun r w' => r = HV (twice bs) ∧ SepL R base w' F) := by
  have h := pieces_own (us := [u]) (ps := [bs]) (f := 29) (V := fun r => r = HV (twice [bs].flatten)) hS rfl (at_one hu) fun _ h1 h2 h3 => twice_s h1 (kTab_mv hK h3) (first_mv hF h3) h2 (by rw [one_flat]; exact hn)
  rwa [one_flat] at h
/-- bytes written to a hasher -/
theorem write_own {p T : Nat} {h : Hs} {v : Value} {us : List Value} {ps : List (List Byte)} (hS : SepL R base w (.own T 1 v (us.map fun u => [u]) :: .blk p 70 (cellsH h) :: F)) (hK : CIn R base 0 (kTab.map W32)) (hop : h.op.length = 64) (hl : us.length = ps.length) (hu : ∀ i (h : i < us.length) (h' : i < ps.length), RdIn R base 1 us[i] (bytes ps[i])) (hn : h.n + ps.flatten.length < 4611686018427387904) :
    Calls Tryd.prog 21 #[.pointer (some ⟨p, 0, none⟩), v] w (Ret fun r w' => r = .int .i64 0 ∧ SepL R base w' (.blk p 70 (cellsH (absorb h ps.flatten)) :: F)) := by
  obtain ⟨R', h1, h2, h3, h4⟩ := hS.freezeOwn
  refine Ret.calls (write_s h1 (kTab_mv hK h3) hop ⟨h2, hl, fun i g1 g2 => h3 _ _ _ (hu i g1 g2)⟩ hn) ?_
  rintro r w' ⟨h5, h6⟩
  exact ⟨h5, (h4 w' _ h6).tail⟩
theorem write_one {p T : Nat} {h : Hs} {v u : Value} {bs : List Byte} (hS : SepL R base w (.own T 1 v [[u]] :: .blk p 70 (cellsH h) :: F)) (hK : CIn R base 0 (kTab.map W32)) (hop : h.op.length = 64) (hu : RdIn R base 1 u (bytes bs)) (hn : h.n + bs.length < 4611686018427387904) :
    Calls Tryd.prog 21 #[.pointer (some ⟨p, 0, none⟩), v] w (Ret fun r w' => r = .int .i64 0 ∧ SepL R base w' (.blk p 70 (cellsH (absorb h bs)) :: F)) := by
  have h := write_own (us := [u]) (ps := [bs]) hS hK hop rfl (at_one hu) (by rw [one_flat]; exact hn)
  rwa [one_flat] at h
set_option maxRecDepth 100000 in
set_option maxHeartbeats 4000000 in
theorem check_s (hS : SepL R base w F) (hK : CIn R base 0 (kTab.map W32)) (hF : CIn R base 1 (first.map W32)) {u : Value} {bs : List Byte} (hu : RdIn R base 1 u (bytes bs)) (hn : bs.length < 4611686018427386000) :
    Calls Tryd.prog 31 #[u] w (Ret fun r w' => r = W32 (le4 (twice bs)) ∧ SepL R base w' F) := by
  have hl := twice_len bs
  have HTL := hide (show ((twice bs).map B8).length = 32 by rw [List.length_map, hl])
  have hc := RdIn.cell1 hu
  have HTW : ∀ {T : Nat} {v : Value} {w : World} {F : List Hp}, SepL R base w (.own T 1 v [[u]] :: F) → Calls Tryd.prog 29 #[v] w (Ret fun r w' => r = HV (twice bs) ∧ SepL R base w' F) := fun h => twice_arg1 h hK hF hu hn
  generalize twice bs = tw at *
  have HL0 := hide hl
  go_enter Tryd.func31, Tryd.ntmps31
  go_wp2_with (first
    | (refine wp_region_text (by kernel_rfl) (by kernel_rfl) (by repeat (first | exact Clean.body | refine Clean.then ?_ | refine Clean.inBlock ?_)) ?_; replace hS := hS.drew)
    | (refine fin_mk (by kernel_rfl) ?_)
    | (show wpList _ _ _ (⟨_, .alloc 34, _, _, _, _⟩ :: _) _ _; refine wpS_alloc hS rfl rfl zero32b (zs := (List.replicate 32 (0 : Byte)).map B8) rfl ?_; clear hS; intro nb w hS; go_frame)
    | (show wpList _ _ _ (⟨_, .buildSlice 44 _ _, _, _, _, _⟩ :: _) _ _; refine wpS_build11 slPieces hS rfl rfl rfl hc ?_; clear hS; intro v2 w hS; go_frame)
    | (go_at_call 29; refine Ret.calls (HTW hS) ?_; clear hS; rintro r w ⟨rfl, hS⟩)
    | (show wpList _ _ _ (⟨_, .store 34 _ _, _, _, _, _⟩ :: _) _ _; (refine wpS_storeAll agg32b (hS.bring (by repeat (first | exact t0 | apply tS))) rfl rfl rfl (vs := tw.map B8) rfl HTL.out (B8_one _) (by rw [List.length_map, List.length_replicate]) ?_); clear hS; intro w hS; go_frame)
    | (show wpList _ _ _ (⟨_, .indexAddr 34 _ _, _, _, _, _⟩ :: _) _ _; (first | (refine wpList_val rfl (op_indexArrZ arr32b rfl rfl rfl 0 rfl (by omega)) ?_) | (refine wpList_val rfl (op_indexArrZ arr32b rfl rfl rfl 1 rfl (by omega)) ?_) | (refine wpList_val rfl (op_indexArrZ arr32b rfl rfl rfl 2 rfl (by omega)) ?_) | (refine wpList_val rfl (op_indexArrZ arr32b rfl rfl rfl 3 rfl (by omega)) ?_)); rw [Nat.zero_add]; go_frame)
    | (show wpList _ _ _ (⟨_, .load 5 _, _, _, _, _⟩ :: _) _ _; refine wpList_val rfl (op_loadB oneU8 ((hS.bring (by repeat (first | exact t0 | apply tS)))) rfl rfl (by rw [HL0.out]; omega)) ?_; go_frame)
    | (show wpList _ _ _ (⟨_, .convert 5 22 _, _, _, _, _⟩ :: _) _ _; refine wpList_val rfl (op_8to32 undU8 undU32 rfl rfl) ?_; go_frame)
    | (show wpList _ _ _ (⟨_, .binOp .shl 22 _ (.const (.int _ 8)) _, _, _, _, _⟩ :: _) _ _; refine wpList_val rfl (op_shl32 rfl rfl (c := 8) rfl) ?_; go_frame)
    | (show wpList _ _ _ (⟨_, .binOp .shl 22 _ (.const (.int _ 16)) _, _, _, _, _⟩ :: _) _ _; refine wpList_val rfl (op_shl32 rfl rfl (c := 16) rfl) ?_; go_frame)
    | (show wpList _ _ _ (⟨_, .binOp .shl 22 _ (.const (.int _ 24)) _, _, _, _, _⟩ :: _) _ _; refine wpList_val rfl (op_shl32 rfl rfl (c := 24) rfl) ?_; go_frame)
    | (show wpList _ _ _ (⟨_, .binOp .or 22 _ _ _, _, _, _, _⟩ :: _) _ _; refine wpList_val rfl (op_bin32 rfl rfl rfl rfl) ?_; go_frame)
    )
  go_ret
  exact ⟨rfl, hS.sel (by repeat (first | exact Sel.refl | refine Sel.take (by repeat (first | exact t0 | apply tS)) ?_ | apply Sel.drop))⟩
end
end Go.Proofs.YtpdanieiafjmhaaDoor
