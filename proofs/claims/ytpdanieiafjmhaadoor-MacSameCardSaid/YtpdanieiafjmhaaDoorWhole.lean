/- The program's sums of pieces, twice, the check, and how many bytes a hasher has. Conditions: those that stand ahead of each theorem. -/
import Derived.Test.YtpdanieiafjmhaaDoorSum
namespace Go.Proofs.YtpdanieiafjmhaaDoor
open Go.RowKit Go.Px Go.Sha
/-- bytes as one value -/
def HV (l : List Byte) : Value := .agg (l.map B8).toArray
theorem HV_eq (l : List Byte) : HV l = .agg (l.map B8).toArray := rfl
section
variable {R : Nat → Prop} {base w : World} {F : List Hp}
set_option maxRecDepth 100000 in
theorem len_s {p : Nat} {h : Hs} (hS : SepL R base w (.blk p 70 (cellsH h) :: F)) (hop : h.op.length = 64) :
    Calls Tryd.prog 25 #[.pointer (some ⟨p, 0, none⟩)] w (Ret fun r w' => r = N64 h.n ∧ SepL R base w' (.blk p 70 (cellsH h) :: F)) := by
  have hcn := hide (cellsH_n hop)
  go_enter Tryd.func25, Tryd.ntmps25
  go_wp2_with (first
    | (refine wp_region_text (by kernel_rfl) (by kernel_rfl) (by repeat (first | exact Clean.body | refine Clean.then ?_ | refine Clean.inBlock ?_)) ?_; replace hS := hS.drew)
    | (refine fin_mk (by kernel_rfl) ?_)
    | (show wpList _ _ _ (⟨_, .load 42 _, _, _, _, _⟩ :: _) _ _; refine wpList_val rfl (op_load1S oneU64 ((hS.bring (by repeat (first | exact t0 | apply tS)))) rfl rfl hcn.out) ?_; go_frame)
    )
  go_ret
  exact ⟨rfl, hS⟩
set_option maxRecDepth 100000 in
set_option maxHeartbeats 4000000 in
theorem sum_s (hS : SepL R base w F) (hK : CIn R base 0 (kTab.map W32)) (hF : CIn R base 1 (first.map W32)) {v : Value} {us : List Value} {ps : List (List Byte)} (hv : Pieces R base v us ps) (hn : ps.flatten.length < 4611686018427386000) :
    Calls Tryd.prog 23 #[v] w (Ret fun r w' => r = HV (sum ps.flatten) ∧ SepL R base w' F) := by
  have hgo : (absorb new ps.flatten).op.length = 64 := by rw [absorb_op]; rfl
  have hgn : (absorb new ps.flatten).n = ps.flatten.length := by rw [absorb_n, new_n, Nat.zero_add]
  have HE := hide (sum_eq ps.flatten)
  have HW : Hid (new.n + ps.flatten.length < 4611686018427387904) := by
    unfold Hid
    rw [new_n]
    omega
  have HN : Hid ((absorb new ps.flatten).n < 4611686018427387000) := by
    unfold Hid
    rw [hgn]
    omega
  have HGO := hide hgo
  have HSL := hide (show ((sumH (absorb new ps.flatten)).map B8).length = 32 by rw [List.length_map, sumH_len])
  clear hgo hgn
  obtain ⟨fl, hfl⟩ : ∃ fl, ps.flatten = fl := ⟨_, rfl⟩
  have hwr : ∀ {p : Nat} {w : World} {F : List Hp}, SepL R base w (.blk p 70 (cellsH new) :: F) → Calls Tryd.prog 21 #[.pointer (some ⟨p, 0, none⟩), v] w (Ret fun r w' => r = .int .i64 0 ∧ SepL R base w' (.blk p 70 (cellsH (absorb new fl)) :: F)) := fun h => by
    rw [← hfl]
    exact write_s h hK new_op hv HW.out
  rw [hfl] at HE HN HGO HSL ⊢
  clear hfl HW hv
  go_enter Tryd.func23, Tryd.ntmps23
  go_wp2_with (first
    | (refine wp_region_text (by kernel_rfl) (by kernel_rfl) (by repeat (first | exact Clean.body | refine Clean.then ?_ | refine Clean.inBlock ?_)) ?_; replace hS := hS.drew)
    | (refine fin_mk (by kernel_rfl) ?_)
    | (show wpList _ _ _ (⟨_, .alloc 34, _, _, _, _⟩ :: _) _ _; refine wpS_alloc hS rfl rfl zero32b (zs := (List.replicate 32 (0 : Byte)).map B8) rfl ?_; clear hS; intro nb w hS; go_frame)
    | (go_at_call 20; refine Ret.calls (new_s hS hF) ?_; clear hS; rintro r w ⟨p, rfl, hS⟩)
    | (go_at_call 21; refine Ret.calls (hwr hS) ?_; clear hS; rintro r w ⟨rfl, hS⟩)
    | (go_at_call 22; (refine Ret.calls (sum_m (hS.bring (by repeat (first | exact t0 | apply tS))) hK HGO.out HN.out) ?_); clear hS; rintro r w ⟨rfl, hS⟩)
    | (show wpList _ _ _ (⟨_, .load 34 _, _, _, _, _⟩ :: _) _ _; refine wpList_val rfl (op_load agg32b rfl rfl ((hS.bring (by repeat (first | exact t0 | apply tS))).getBlk.cells) HSL.out) ?_; go_frame)
    | (show wpList _ _ _ (⟨_, .store 34 _ _, _, _, _, _⟩ :: _) _ _; (refine wpS_storeAll agg32b (hS.bring (by repeat (first | exact t0 | apply tS))) rfl rfl rfl (vs := (sumH (absorb new fl)).map B8) rfl HSL.out (B8_one _) (by rw [List.length_map, List.length_replicate]) ?_); clear hS; intro w hS; go_frame)
    )
  exact ret_cell agg32b rfl rfl rfl ((hS.bring (by repeat (first | exact t0 | apply tS))).getBlk) HSL.out ⟨by rw [HE.out]; rfl, (hS.sel (by repeat (first | exact Sel.refl | refine Sel.take (by repeat (first | exact t0 | apply tS)) ?_ | apply Sel.drop)) : SepL R base _ F)⟩
theorem one_flat (bs : List Byte) : [bs].flatten = bs := by simp
/-- the pieces' list is one's own, the pieces are the caller's -/
theorem pieces_own {T : Nat} {v : Value} {us : List Value} {ps : List (List Byte)} (hS : SepL R base w (.own T 1 v (us.map fun u => [u]) :: F)) (hl : us.length = ps.length) (hu : ∀ i (h : i < us.length) (h' : i < ps.length), RdIn R base 1 us[i] (bytes ps[i])) {f : FuncId} {V : Value → Prop}
    (hc : ∀ R', SepL R' w w F → Pieces R' w v us ps → (∀ n v xs, RdIn R base n v xs → RdIn R' w n v xs) → Calls Tryd.prog f #[v] w (Ret fun r w' => V r ∧ SepL R' w w' F)) :
    Calls Tryd.prog f #[v] w (Ret fun r w' => V r ∧ SepL R base w' F) := by
  obtain ⟨R', h1, h2, h3, h4⟩ := hS.freezeOwn
  refine Ret.calls (hc R' h1 ⟨h2, hl, fun i g1 g2 => h3 _ _ _ (hu i g1 g2)⟩ h3) ?_
  rintro r w' ⟨h5, h6⟩
  exact ⟨h5, (h4 w' _ h6).tail⟩
theorem sum_arg {T : Nat} {v : Value} {us : List Value} {ps : List (List Byte)} (hS : SepL R base w (.own T 1 v (us.map fun u => [u]) :: F)) (hK : CIn R base 0 (kTab.map W32)) (hF : CIn R base 1 (first.map W32)) (hl : us.length = ps.length) (hu : ∀ i (h : i < us.length) (h' : i < ps.length), RdIn R base 1 us[i] (bytes ps[i])) (hn : ps.flatten.length < 4611686018427386000) :
    Calls Tryd.prog 23 #[v] w (Ret fun r w' => r = HV (sum ps.flatten) ∧ SepL R base w' F) :=
  pieces_own hS hl hu fun _ h1 h2 h3 => sum_s h1 (kTab_mv hK h3) (first_mv hF h3) h2 hn
/-- the pieces' list is one's own, its one piece is an array of one's own -/
theorem piece_blk {T T' b m : Nat} {v : Value} {bs : List Byte} (hS : SepL R base w (.own T 1 v [[.slice (some ⟨b, 0, none⟩) m m]] :: .blk b T' (bs.map B8) :: F)) (hm : bs.length = m) (hm2 : m ≤ 1000) {f : FuncId} {V : Value → Prop}
    (hc : ∀ R', SepL R' w w F → Pieces R' w v [.slice (some ⟨b, 0, none⟩) m m] [bs] → (∀ n v xs, RdIn R base n v xs → RdIn R' w n v xs) → Calls Tryd.prog f #[v] w (Ret fun r w' => V r ∧ SepL R' w w' F)) :
    Calls Tryd.prog f #[v] w (Ret fun r w' => V r ∧ SepL R base w' (.blk b T' (bs.map B8) :: F)) := by
  obtain ⟨R1, h1, h2, h3, h4⟩ := hS.freezeOwn
  obtain ⟨R2, g1, g2, g2', g3, g4⟩ := h1.freezeBlk
  have hcc : CIn R2 w b (bs.map B8) := ⟨g2.cells, g2'⟩
  have hr := CIn.asRd hcc (by rw [List.length_map]; simp [maxLen]; omega)
  rw [List.length_map, hm] at hr
  refine Ret.calls (hc R2 g1 (Pieces.one (g3 _ _ _ h2) hr) (fun n v xs h => g3 _ _ _ (h3 _ _ _ h))) ?_
  rintro r w' ⟨h5, h6⟩
  exact ⟨h5, (h4 w' _ (g4 w' _ h6)).tail⟩
theorem sum_blk {T T' b m : Nat} {v : Value} {bs : List Byte} (hS : SepL R base w (.own T 1 v [[.slice (some ⟨b, 0, none⟩) m m]] :: .blk b T' (bs.map B8) :: F)) (hK : CIn R base 0 (kTab.map W32)) (hF : CIn R base 1 (first.map W32)) (hm : bs.length = m) (hm2 : m ≤ 1000) :
    Calls Tryd.prog 23 #[v] w (Ret fun r w' => r = HV (sum bs) ∧ SepL R base w' (.blk b T' (bs.map B8) :: F)) :=
  piece_blk hS hm hm2 fun _ h1 h2 h3 => by
    have := sum_s h1 (kTab_mv hK h3) (first_mv hF h3) h2 (by rw [one_flat]; omega)
    rwa [one_flat] at this
set_option maxRecDepth 100000 in
set_option maxHeartbeats 4000000 in
theorem twice_s (hS : SepL R base w F) (hK : CIn R base 0 (kTab.map W32)) (hF : CIn R base 1 (first.map W32)) {v : Value} {us : List Value} {ps : List (List Byte)} (hv : Pieces R base v us ps) (hn : ps.flatten.length < 4611686018427386000) :
    Calls Tryd.prog 29 #[v] w (Ret fun r w' => r = HV (twice ps.flatten) ∧ SepL R base w' F) := by
  have HSM : ∀ {w : World} {F : List Hp}, SepL R base w F → Calls Tryd.prog 23 #[v] w (Ret fun r w' => r = HV (sum ps.flatten) ∧ SepL R base w' F) := fun h => sum_s h hK hF hv hn
  obtain ⟨m, hm⟩ : ∃ m, sum ps.flatten = m := ⟨_, rfl⟩
  have hml : m.length = 32 := by rw [← hm, sum_len]
  have HML := hide (show (m.map B8).length = 32 by rw [List.length_map, hml])
  have HML2 := hide hml
  have HTL := hide (show ((sum m).map B8).length = 32 by rw [List.length_map, sum_len])
  rw [twice_eq]
  rw [hm] at HSM ⊢
  clear hm hv hml
  go_enter Tryd.func29, Tryd.ntmps29
  go_wp2_with (first
    | (refine wp_region_text (by kernel_rfl) (by kernel_rfl) (by repeat (first | exact Clean.body | refine Clean.then ?_ | refine Clean.inBlock ?_)) ?_; replace hS := hS.drew)
    | (refine fin_mk (by kernel_rfl) ?_)
    | (show wpList _ _ _ (⟨_, .alloc 34, _, _, _, _⟩ :: _) _ _; refine wpS_alloc hS rfl rfl zero32b (zs := (List.replicate 32 (0 : Byte)).map B8) rfl ?_; clear hS; intro nb w hS; go_frame)
    | (go_at_call 23; (with_reducible refine Ret.calls (HSM hS) ?_); clear hS; rintro r w ⟨rfl, hS⟩)
    | (show wpList _ _ _ (⟨_, .store 34 _ _, _, _, _, _⟩ :: _) _ _; (refine wpS_storeAll agg32b (hS.bring (by repeat (first | exact t0 | apply tS))) rfl rfl rfl (vs := m.map B8) rfl HML.out (B8_one _) (by rw [List.length_map, List.length_replicate]) ?_); clear hS; intro w hS; go_frame)
    | (show wpList _ _ _ (⟨_, .slice _ _ none none _, _, _, _, _⟩ :: _) _ _; refine wpList_val rfl (op_sliceArr arr32b rfl rfl (l := 0) (h := 32) (Or.inl ⟨rfl, rfl⟩) (Or.inl ⟨rfl, rfl⟩) (by omega) (by omega)) ?_; rw [if_neg (by omega)]; go_frame)
    | (show wpList _ _ _ (⟨_, .buildSlice _ _ _, _, _, _, _⟩ :: _) _ _; refine wpS_build11 slPieces hS rfl rfl rfl rfl ?_; clear hS; intro v2 w hS; go_frame)
    | (go_at_call 23; refine Ret.calls (sum_blk hS hK hF HML2.out (by omega)) ?_; clear hS; rintro r w ⟨rfl, hS⟩)
    | (show wpList _ _ _ (⟨_, .store 34 _ _, _, _, _, _⟩ :: _) _ _; (refine wpS_storeAll agg32b (hS.bring (by repeat (first | exact t0 | apply tS))) rfl rfl rfl (vs := (sum m).map B8) rfl HTL.out (B8_one _) (by rw [List.length_map, List.length_replicate]) ?_); clear hS; intro w hS; go_frame)
    )
  exact ret_cell agg32b rfl rfl rfl ((hS.bring (by repeat (first | exact t0 | apply tS))).getBlk) HTL.out ⟨rfl, (hS.sel (by repeat (first | exact Sel.refl | refine Sel.take (by repeat (first | exact t0 | apply tS)) ?_ | apply Sel.drop)) : SepL R base _ F)⟩
end
end Go.Proofs.YtpdanieiafjmhaaDoor
