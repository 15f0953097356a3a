/- The document's sums. Conditions: those that stand ahead of each theorem. -/
import Derived.Test.YtieobcaegegboaaDoorGShaB
namespace Go.Proofs.YtieobcaegegboaaDoor
open Go.RowKit Go.Px Go.Sha
/-- so many words of a schedule, noughts behind them -/
def wfill (S : List Word) (k : Nat) : List Word := S.take k ++ List.replicate (64 - k) 0
def gw (S : List Word) (j : Nat) : Word := S.getD j 0
theorem gw_eq (S : List Word) (j : Nat) : S.getD j 0 = gw S j := rfl
theorem wfill_len {S : List Word} (hS : S.length = 64) {k : Nat} (hk : k ≤ 64) : (wfill S k).length = 64 := by
  simp [wfill]
  omega
theorem wfill_get {S : List Word} (hS : S.length = 64) {k j : Nat} (hk : k ≤ 64) (hj : j < k) : (wfill S k)[j]? = some (gw S j) := by
  unfold wfill gw
  rw [List.getElem?_append_left (by rw [List.length_take]; omega), List.getElem?_take_of_lt hj, List.getD_eq_getElem?_getD, List.getElem?_eq_getElem (by omega)]
  rfl
theorem wfill_set {S : List Word} (hS : S.length = 64) {k : Nat} (hk : k < 64) : (wfill S k).set k (gw S k) = wfill S (k + 1) := by
  unfold wfill gw
  have hl : (S.take k).length = k := by rw [List.length_take]; omega
  rw [List.set_append_right _ _ (by omega), hl, Nat.sub_self, show 64 - k = (64 - (k + 1)) + 1 by omega, List.replicate_succ, List.set_cons_zero, List.take_succ_eq_append_getElem (by omega), List.append_assoc, List.getD_eq_getElem?_getD, List.getElem?_eq_getElem (by omega)]
  rfl
theorem wfill_zero (S : List Word) : wfill S 0 = List.replicate 64 0 := rfl
attribute [irreducible] wfill gw
theorem sched_len (bs : List Byte) : (sched bs).length = 64 := by
  rw [← sched_eq, schedL_length, words_length]
theorem sched_word (bs : List Byte) {k : Nat} (hk : k < 16) : (sched bs).getD k 0 = word4 bs k := by
  rw [← sched_lo bs hk, ← sched_first, List.getD_eq_getElem?_getD]
  unfold words
  rw [List.getElem?_map, List.getElem?_range hk]
  rfl
theorem sched_next (bs : List Byte) {t a2 a7 a15 a16 : Nat} (h1 : 16 ≤ t) (h2 : t < 64) (e2 : a2 + 2 = t) (e7 : a7 + 7 = t) (e15 : a15 + 15 = t) (e16 : a16 + 16 = t) :
    sig1 ((sched bs).getD a2 0) + (sched bs).getD a7 0 + sig0 ((sched bs).getD a15 0) + (sched bs).getD a16 0 = (sched bs).getD t 0 := by
  rw [← sched_eq]
  have h := schedL_next (words bs) (t - 16) (words_length bs) 48 (by omega)
  rw [show 16 + (t - 16) = t by omega, show 14 + (t - 16) = a2 by omega, show 9 + (t - 16) = a7 by omega, show 1 + (t - 16) = a15 by omega, show t - 16 = a16 by omega] at h
  exact h.symm
theorem op_loadW {P : Program} {R : Nat → Prop} {base w : World} {L : List Hp} {o : Oper} {ρ : Operand → Value} {t : TypeId} (A : One P t) {us : List Word} {b : Nat} {T : TypeId} (hS : SepL R base w (.blk b T (us.map W32) :: L)) {x : Operand} (ho : o.op = .load t x) {off : Nat} (hx : ρ x = .pointer (some ⟨b, off, none⟩)) {u : Word} (hu : us[off]? = some u) :
    (execOp ρ o).run P w = .ok (.value (W32 u)) w := op_load1S A hS ho hx (by rw [List.getElem?_map, hu]; rfl)
/-- the first so many of one list, the rest of the other -/
def mix (a b : List Word) (i : Nat) : List Word := a.take i ++ b.drop i
theorem mix_len {a b : List Word} (ha : a.length = 8) (hb : b.length = 8) {i : Nat} (hi : i ≤ 8) : (mix a b i).length = 8 := by
  simp [mix]
  omega
theorem mix_get {a b : List Word} (ha : a.length = 8) {i : Nat} (hi : i < 8) : (mix a b i)[i]? = b[i]? := by
  unfold mix
  rw [List.getElem?_append_right (by rw [List.length_take]; omega), List.getElem?_drop, List.length_take]
  congr 1
  omega
theorem mix_set {a b : List Word} (ha : a.length = 8) (hb : b.length = 8) {i : Nat} (hi : i < a.length) : (mix a b i).set i a[i] = mix a b (i + 1) := by
  unfold mix
  have hl : (a.take i).length = i := by rw [List.length_take]; omega
  rw [List.set_append_right _ _ (by omega), hl, Nat.sub_self, List.drop_eq_getElem_cons (l := b) (by omega), List.set_cons_zero, List.take_succ_eq_append_getElem hi, List.append_assoc]
  rfl
theorem mix_zero (a b : List Word) : mix a b 0 = b := rfl
theorem mix_all {a b : List Word} (ha : a.length = 8) (hb : b.length = 8) : mix a b 8 = a := by
  unfold mix
  rw [List.take_of_length_le (by omega), List.drop_eq_nil_of_le (by omega), List.append_nil]
attribute [irreducible] mix
theorem addSt_at (s v : St) {i : Nat} (hi : i < 8) : ∃ x y, s.list[i]? = some x ∧ v.list[i]? = some y ∧ (addSt s v).list[i]? = some (x + y) := by
  match i, hi with
  | 0, _ => exact ⟨_, _, rfl, rfl, rfl⟩
  | 1, _ => exact ⟨_, _, rfl, rfl, rfl⟩
  | 2, _ => exact ⟨_, _, rfl, rfl, rfl⟩
  | 3, _ => exact ⟨_, _, rfl, rfl, rfl⟩
  | 4, _ => exact ⟨_, _, rfl, rfl, rfl⟩
  | 5, _ => exact ⟨_, _, rfl, rfl, rfl⟩
  | 6, _ => exact ⟨_, _, rfl, rfl, rfl⟩
  | 7, _ => exact ⟨_, _, rfl, rfl, rfl⟩
set_option maxRecDepth 100000 in
theorem rturn_s (x : Word) (c : Nat) (hc : c ≤ 32) (w : World) : Calls Tryd.prog 49 #[W32 x, .int .u64 c] w (Ret fun r w' => r = W32 (ror x c) ∧ w' = w) := by
  go_enter Tryd.func49, Tryd.ntmps49
  go_wp2_with (first
    | (show wpList _ _ _ (⟨some 7, .binOp _ _ _ _ _, _, _, _, _⟩ :: _) _ _; refine wpList_val rfl (op_shr32 rfl rfl (c := c) rfl) ?_; go_frame)
    | (show wpList _ _ _ (⟨some 10, .binOp _ _ _ _ _, _, _, _, _⟩ :: _) _ _; refine wpList_val rfl (op_usubN (a := 32) rfl rfl rfl (32 - c) (by omega) (by omega)) ?_; go_frame)
    | (show wpList _ _ _ (⟨some 11, .binOp _ _ _ _ _, _, _, _, _⟩ :: _) _ _; refine wpList_val rfl (op_shl32 rfl rfl (c := 32 - c) rfl) ?_; go_frame)
    | (show wpList _ _ _ (⟨some 12, .binOp _ _ _ _ _, _, _, _, _⟩ :: _) _ _; refine wpList_val rfl (op_bin32 rfl rfl rfl rfl) ?_; go_frame)
    )
  go_ret
  exact ⟨rfl, rfl⟩
theorem rt_17 {w : World} (x : Word) : Calls Tryd.prog 49 #[W32 x, .int .u64 17] w (Ret fun r w' => r = W32 (ror x 17) ∧ w' = w) := rturn_s x 17 (by omega) w
theorem rt_19 {w : World} (x : Word) : Calls Tryd.prog 49 #[W32 x, .int .u64 19] w (Ret fun r w' => r = W32 (ror x 19) ∧ w' = w) := rturn_s x 19 (by omega) w
theorem rt_7 {w : World} (x : Word) : Calls Tryd.prog 49 #[W32 x, .int .u64 7] w (Ret fun r w' => r = W32 (ror x 7) ∧ w' = w) := rturn_s x 7 (by omega) w
theorem rt_18 {w : World} (x : Word) : Calls Tryd.prog 49 #[W32 x, .int .u64 18] w (Ret fun r w' => r = W32 (ror x 18) ∧ w' = w) := rturn_s x 18 (by omega) w
theorem rt_6 {w : World} (x : Word) : Calls Tryd.prog 49 #[W32 x, .int .u64 6] w (Ret fun r w' => r = W32 (ror x 6) ∧ w' = w) := rturn_s x 6 (by omega) w
theorem rt_11 {w : World} (x : Word) : Calls Tryd.prog 49 #[W32 x, .int .u64 11] w (Ret fun r w' => r = W32 (ror x 11) ∧ w' = w) := rturn_s x 11 (by omega) w
theorem rt_25 {w : World} (x : Word) : Calls Tryd.prog 49 #[W32 x, .int .u64 25] w (Ret fun r w' => r = W32 (ror x 25) ∧ w' = w) := rturn_s x 25 (by omega) w
theorem rt_2 {w : World} (x : Word) : Calls Tryd.prog 49 #[W32 x, .int .u64 2] w (Ret fun r w' => r = W32 (ror x 2) ∧ w' = w) := rturn_s x 2 (by omega) w
theorem rt_13 {w : World} (x : Word) : Calls Tryd.prog 49 #[W32 x, .int .u64 13] w (Ret fun r w' => r = W32 (ror x 13) ∧ w' = w) := rturn_s x 13 (by omega) w
theorem rt_22 {w : World} (x : Word) : Calls Tryd.prog 49 #[W32 x, .int .u64 22] w (Ret fun r w' => r = W32 (ror x 22) ∧ w' = w) := rturn_s x 22 (by omega) w
section
variable {R : Nat → Prop} {base w : World} {F : List Hp}
theorem build_consts (w : World) : (Instr.build 95 ((kTab.map W32).zipIdx.map fun x => (x.2, x.1)).toArray).run Tryd.prog w = .ok (.agg (kTab.map W32).toArray) w := by kernel_rfl
set_option maxRecDepth 100000 in
theorem rconst_s (hS : SepL R base w F) : Calls Tryd.prog 48 #[] w (Ret fun r w' => r = .agg (kTab.map W32).toArray ∧ SepL R base w' F) := by
  go_enter Tryd.func48, Tryd.ntmps48
  go_wp2_with (first
    | (show wpList _ _ _ (⟨_, .alloc _, _, _, _, _⟩ :: _) _ _; refine wpS_alloc hS rfl rfl zero64w (zs := (List.replicate 64 (0 : Word)).map W32) rfl ?_; clear hS; intro nr w hS; go_frame)
    | (show wpList _ _ _ (⟨_, .build _ _, _, _, _, _⟩ :: _) _ _; refine wpList_val rfl (op_build (ps := ((kTab.map W32).zipIdx.map fun x => (x.2, x.1)).toArray) rfl rfl build_consts _) ?_; go_frame)
    | (show wpList _ _ _ (⟨_, .store _ _ _, _, _, _, _⟩ :: _) _ _; (refine wpS_storeAll agg64w (hS.bring (by repeat (first | exact t0 | apply tS))) rfl rfl rfl (vs := kTab.map W32) rfl rfl (oneW _) rfl ?_); clear hS; intro w hS; go_frame)
    )
  exact ret_cell (b := nr) agg64w rfl rfl rfl ((hS.bring (by repeat (first | exact t0 | apply tS))).getBlk) rfl ⟨rfl, hS.sel (by repeat (first | exact Sel.refl | refine Sel.take (by repeat (first | exact t0 | apply tS)) ?_ | apply Sel.drop))⟩
set_option maxRecDepth 100000 in
set_option maxHeartbeats 4000000 in
theorem rblock_s (hS : SepL R base w F) (s : St) (bs : List Byte) (hb : bs.length = 64) :
    Calls Tryd.prog 34 #[ST s, .agg (bs.map B8).toArray] w (Ret fun r w' => r = ST (compress s bs) ∧ SepL R base w' F) := by
  have HB := hide hb
  have HSL := hide (sched_len bs)
  have HSW : ∀ k, k < 16 → word4 bs k = gw (sched bs) k := fun k hk => (sched_word bs hk).symm.trans (gw_eq _ _)
  have HSN : ∀ {t a2 a7 a15 a16 : Nat} (_ : 16 ≤ t) (_ : t < 64) (_ : a2 + 2 = t) (_ : a7 + 7 = t) (_ : a15 + 15 = t) (_ : a16 + 16 = t), sig1 (gw (sched bs) a2) + gw (sched bs) a7 + sig0 (gw (sched bs) a15) + gw (sched bs) a16 = gw (sched bs) t := fun h1 h2 h3 h4 h5 h6 => by
    have h := sched_next bs h1 h2 h3 h4 h5 h6
    simp only [gw_eq] at h
    exact h
  have HRS : ∀ k, rounds (sched bs) s (k + 1) = round (rounds (sched bs) s k) (gw kTab k) (gw (sched bs) k) := fun _ => by
    rw [← gw_eq, ← gw_eq]
    rfl
  have HR0 : rounds (sched bs) s 0 = s := rfl
  have HCE := hide (compress_eq s bs)
  have HW4 : ∀ k, (bs.getD (4 * k) 0).setWidth 32 <<< 24 ||| (bs.getD (4 * k + 1) 0).setWidth 32 <<< 16 ||| (bs.getD (4 * k + 2) 0).setWidth 32 <<< 8 ||| (bs.getD (4 * k + 3) 0).setWidth 32 = word4 bs k := fun _ => rfl
  generalize compress s bs = cs at *
  generalize rounds (sched bs) s = rs at *
  generalize sched bs = S at *
  clear hb
  unfold ST
  go_enter Tryd.func34, Tryd.ntmps34
  go_wp2_with (first
    | (show wpList _ _ _ (⟨some 2, .box _ _, _, _, _, _⟩ :: _) _ _; refine wpS_boxA (cs := s.list.map W32) hS rfl rfl rfl ?_; clear hS; intro n2 w hS; go_frame)
    | (show wpList _ _ _ (⟨some 3, .box _ _, _, _, _, _⟩ :: _) _ _; refine wpS_boxA (cs := bs.map B8) hS rfl rfl rfl ?_; clear hS; intro n3 w hS; go_frame)
    | (show wpList _ _ _ (⟨some 4, .alloc _, _, _, _, _⟩ :: _) _ _; refine wpS_alloc hS rfl rfl zero8w (zs := (List.replicate 8 (0 : Word)).map W32) rfl ?_; clear hS; intro n4 w hS; go_frame)
    | (go_at_call 48; refine Ret.calls (rconst_s hS) ?_; clear hS; rintro r w ⟨rfl, hS⟩)
    | (show wpList _ _ _ (⟨some 5, .alloc _, _, _, _, _⟩ :: _) _ _; refine wpS_alloc hS rfl rfl zero64w (zs := (List.replicate 64 (0 : Word)).map W32) rfl ?_; clear hS; intro n5 w hS; go_frame)
    | (show wpList _ _ _ (⟨_, .store 95 _ _, _, _, _, _⟩ :: _) _ _; (refine wpS_storeAll agg64w (hS.bring (by repeat (first | exact t0 | apply tS))) rfl rfl rfl (vs := kTab.map W32) rfl rfl (oneW _) rfl ?_); clear hS; intro w hS; go_frame)
    | (show wpList _ _ _ (⟨some 6, .alloc _, _, _, _, _⟩ :: _) _ _; refine wpS_alloc hS rfl rfl zero64w (zs := (List.replicate 64 (0 : Word)).map W32) rfl ?_; clear hS; intro n6 w hS; go_frame)
    )
  rw [← wfill_zero S] at hS
  go_loopw [19] (fun i wr => ∃ k : Nat, i = .int .i64 k ∧ k ≤ 16 ∧ SepL R base wr (.blk n6 95 ((wfill S k).map W32) :: .blk n5 95 (kTab.map W32) :: .blk n4 74 ((List.replicate 8 (0 : Word)).map W32) :: .blk n3 76 (bs.map B8) :: .blk n2 74 (s.list.map W32) :: F)) (fun i _ => 16 - (intOf i).toNat)
  case atStart => exact ⟨0, rfl, by omega, hS.sel (by repeat (first | exact Sel.refl | refine Sel.take (by repeat (first | exact t0 | apply tS)) ?_ | apply Sel.drop))⟩
  case round =>
    clear hS
    obtain ⟨k, rfl, hk, hS⟩ := hrel
    by_cases hlt : k < 16
    · obtain ⟨c0, hc0⟩ : ∃ c, 4 * k = c := ⟨_, rfl⟩
      obtain ⟨c1, hc1⟩ : ∃ c, c0 + 1 = c := ⟨_, rfl⟩
      obtain ⟨c2, hc2⟩ : ∃ c, c0 + 2 = c := ⟨_, rfl⟩
      obtain ⟨c3, hc3⟩ : ∃ c, c0 + 3 = c := ⟨_, rfl⟩
      have hw4 := HW4 k
      rw [hc0, hc1, hc2, hc3, HSW k hlt] at hw4
      have HWK := hide hw4
      have HWL := hide (wfill_len HSL.out (k := k) (by omega))
      have HWS := hide (wfill_set HSL.out (k := k) (by omega))
      clear hw4
      go_wp2_with fail
      refine wp_region_text (by kernel_rfl) (by kernel_rfl) (by repeat (first | exact Clean.body | refine Clean.then ?_ | refine Clean.inBlock ?_)) ?_
      replace hS := hS.drew
      go_wp2_with (first
        | (show wpList _ _ _ (⟨_, .binOp .mul _ _ _ _, _, _, _, _⟩ :: _) _ _; refine wpList_val rfl (op_imulN rfl rfl rfl c0 (by omega) (by omega)) ?_; go_frame)
        | (show wpList _ _ _ (⟨some 31, .binOp _ _ _ _ _, _, _, _, _⟩ :: _) _ _; refine wpList_val rfl (op_iaddN rfl rfl rfl c1 (by omega) (by omega)) ?_; go_frame)
        | (show wpList _ _ _ (⟨some 39, .binOp _ _ _ _ _, _, _, _, _⟩ :: _) _ _; refine wpList_val rfl (op_iaddN rfl rfl rfl c2 (by omega) (by omega)) ?_; go_frame)
        | (show wpList _ _ _ (⟨some 47, .binOp _ _ _ _ _, _, _, _, _⟩ :: _) _ _; refine wpList_val rfl (op_iaddN rfl rfl rfl c3 (by omega) (by omega)) ?_; go_frame)
        | (show wpList _ _ _ (⟨some 25, .indexAddr _ _ _, _, _, _, _⟩ :: _) _ _; refine wpList_val rfl (op_indexArr arr64b rfl rfl (k := c0) rfl (by omega)) ?_; rw [Nat.zero_add]; go_frame)
        | (show wpList _ _ _ (⟨some 32, .indexAddr _ _ _, _, _, _, _⟩ :: _) _ _; refine wpList_val rfl (op_indexArr arr64b rfl rfl (k := c1) rfl (by omega)) ?_; rw [Nat.zero_add]; go_frame)
        | (show wpList _ _ _ (⟨some 40, .indexAddr _ _ _, _, _, _, _⟩ :: _) _ _; refine wpList_val rfl (op_indexArr arr64b rfl rfl (k := c2) rfl (by omega)) ?_; rw [Nat.zero_add]; go_frame)
        | (show wpList _ _ _ (⟨some 48, .indexAddr _ _ _, _, _, _, _⟩ :: _) _ _; refine wpList_val rfl (op_indexArr arr64b rfl rfl (k := c3) rfl (by omega)) ?_; rw [Nat.zero_add]; go_frame)
        | (show wpList _ _ _ (⟨_, .load 5 _, _, _, _, _⟩ :: _) _ _; refine wpList_val rfl (op_loadB (us := bs) oneU8 ((hS.bring (by repeat (first | exact t0 | apply tS)))) rfl rfl (by rw [HB.out]; omega)) ?_; go_frame)
        | (show wpList _ _ _ (⟨_, .convert 5 22 _, _, _, _, _⟩ :: _) _ _; refine wpList_val rfl (op_8to32 undU8 undU32 rfl rfl) ?_; go_frame)
        | (show wpList _ _ _ (⟨some 28, .binOp _ _ _ _ _, _, _, _, _⟩ :: _) _ _; refine wpList_val rfl (op_shl32 rfl rfl (c := 24) rfl) ?_; go_frame)
        | (show wpList _ _ _ (⟨some 35, .binOp _ _ _ _ _, _, _, _, _⟩ :: _) _ _; refine wpList_val rfl (op_shl32 rfl rfl (c := 16) rfl) ?_; go_frame)
        | (show wpList _ _ _ (⟨some 43, .binOp _ _ _ _ _, _, _, _, _⟩ :: _) _ _; refine wpList_val rfl (op_shl32 rfl rfl (c := 8) rfl) ?_; go_frame)
        | (show wpList _ _ _ (⟨some 51, .binOp _ _ _ _ _, _, _, _, _⟩ :: _) _ _; refine wpList_val rfl (op_bin32 rfl rfl rfl rfl) ?_; rw [HWK.out]; go_frame)
        | (show wpList _ _ _ (⟨_, .binOp .or 22 _ _ _, _, _, _, _⟩ :: _) _ _; refine wpList_val rfl (op_bin32 rfl rfl rfl rfl) ?_; go_frame)
        | (show wpList _ _ _ (⟨some 52, .indexAddr _ _ _, _, _, _, _⟩ :: _) _ _; refine wpList_val rfl (op_indexArr arr64w rfl rfl (k := k) rfl (by omega)) ?_; rw [Nat.zero_add]; go_frame)
        | (show wpList _ _ _ (⟨_, .store 22 _ _, _, _, _, _⟩ :: _) _ _; (refine wpS_storeF (f := W32) (us := wfill S k) sizeU32 (hS.bring (by repeat (first | exact t0 | apply tS))) rfl rfl rfl (v := gw S k) rfl rfl rfl (by rw [HWL.out]; omega) ?_); clear hS; intro w hS; rw [HWS.out] at hS; go_frame)
        )
      refine fin_mk (by kernel_rfl) ?_
      go_wp2_with fail
      go_roundw
      case rel => exact ⟨k + 1, by go_num, by omega, hS.sel (by repeat (first | exact Sel.refl | refine Sel.take (by repeat (first | exact t0 | apply tS)) ?_ | apply Sel.drop))⟩
      case measure => simp [intOf]; omega
    · have hk2 : k = 16 := by omega
      subst hk2
      go_wp2_with fail
      rw [show ((16 : Nat) : Int) = 16 from rfl]
      go_loopw [8] (fun i wr => ∃ t : Nat, i = .int .i64 t ∧ 16 ≤ t ∧ t ≤ 64 ∧ SepL R base wr (.blk n6 95 ((wfill S t).map W32) :: .blk n5 95 (kTab.map W32) :: .blk n4 74 ((List.replicate 8 (0 : Word)).map W32) :: .blk n3 76 (bs.map B8) :: .blk n2 74 (s.list.map W32) :: F)) (fun i _ => 64 - (intOf i).toNat)
      case atStart => exact ⟨16, rfl, by omega, by omega, hS⟩
      case round =>
        clear hS
        obtain ⟨tt, rfl, ht1, ht2, hS⟩ := hrel
        by_cases hlt2 : tt < 64
        · obtain ⟨a2, ha2⟩ : ∃ a, a + 2 = tt := ⟨tt - 2, by omega⟩
          obtain ⟨a7, ha7⟩ : ∃ a, a + 7 = tt := ⟨tt - 7, by omega⟩
          obtain ⟨a15, ha15⟩ : ∃ a, a + 15 = tt := ⟨tt - 15, by omega⟩
          obtain ⟨a16, ha16⟩ : ∃ a, a + 16 = tt := ⟨tt - 16, by omega⟩
          have HNX := hide (HSN ht1 hlt2 ha2 ha7 ha15 ha16)
          have HWL := hide (wfill_len HSL.out (k := tt) (by omega))
          have HWS := hide (wfill_set HSL.out (k := tt) (by omega))
          have HG1 : Hid (sig1 (gw S a2) = ror (gw S a2) 17 ^^^ ror (gw S a2) 19 ^^^ (gw S a2) >>> 10) := rfl
          have HG0 : Hid (sig0 (gw S a15) = ror (gw S a15) 7 ^^^ ror (gw S a15) 18 ^^^ (gw S a15) >>> 3) := rfl
          go_wp2_with fail
          refine wp_region_ord (by kernel_rfl) [60, 65, 71] [[0, 1, 2, 3, 5, 6, 7, 8, 11, 12, 13, 14, 15, 4, 9, 10, 16, 17]] (by kernel_rfl) (by kernel_rfl) (fun w' => Blk w' n6 95 ((wfill S tt).map W32)) Up.blk ((hS.bring (by repeat (first | exact t0 | apply tS))).getBlk) (by repeat (first | exact Clean.body | refine Clean.then ?_ | refine Clean.inBlock ?_ | refine SegQ.clean ?_ | refine FinC.clean ?_)) ?_
          replace hS := hS.drew
          refine ord_seg (by repeat (first | exact Clean.body | refine Clean.then ?_ | refine Clean.inBlock ?_ | refine SegQ.clean ?_ | refine FinC.clean ?_)) (n := 4) (rest := [[9, 10, 16, 17]]) [0, 1, 2, 3, 5, 6, 7, 8, 11, 12, 13, 14, 15, 4] [⟨_, _, _, _, _, _⟩, ⟨_, _, _, _, _, _⟩, ⟨_, _, _, _, _, _⟩, ⟨_, _, _, _, _, _⟩, ⟨_, _, _, _, _, _⟩, ⟨_, _, _, _, _, _⟩, ⟨_, _, _, _, _, _⟩, ⟨_, _, _, _, _, _⟩, ⟨_, _, _, _, _, _⟩, ⟨_, _, _, _, _, _⟩, ⟨_, _, _, _, _, _⟩, ⟨_, _, _, _, _, _⟩, ⟨_, _, _, _, _, _⟩, ⟨_, _, _, _, _, _⟩] rfl (by kernel_rfl) (by simp) _ _ ?_
          go_wp2_with (first
            | (show wpList _ _ _ (⟨some 59, .binOp .sub _ _ _ _, _, _, _, _⟩ :: _) _ _; refine wpList_val rfl (op_isubN rfl rfl rfl a2 (by omega) (by omega)) ?_; go_frame)
            | (show wpList _ _ _ (⟨some 64, .binOp .sub _ _ _ _, _, _, _, _⟩ :: _) _ _; refine wpList_val rfl (op_isubN rfl rfl rfl a2 (by omega) (by omega)) ?_; go_frame)
            | (show wpList _ _ _ (⟨some 70, .binOp .sub _ _ _ _, _, _, _, _⟩ :: _) _ _; refine wpList_val rfl (op_isubN rfl rfl rfl a2 (by omega) (by omega)) ?_; go_frame)
            | (show wpList _ _ _ (⟨some 60, .indexAddr _ _ _, _, _, _, _⟩ :: _) _ _; refine wpList_val rfl (op_indexArr arr64w rfl rfl (k := a2) rfl (by omega)) ?_; rw [Nat.zero_add]; go_frame)
            | (show wpList _ _ _ (⟨some 65, .indexAddr _ _ _, _, _, _, _⟩ :: _) _ _; refine wpList_val rfl (op_indexArr arr64w rfl rfl (k := a2) rfl (by omega)) ?_; rw [Nat.zero_add]; go_frame)
            | (show wpList _ _ _ (⟨some 71, .indexAddr _ _ _, _, _, _, _⟩ :: _) _ _; refine wpList_val rfl (op_indexArr arr64w rfl rfl (k := a2) rfl (by omega)) ?_; rw [Nat.zero_add]; go_frame)
            | (show wpList _ _ _ (⟨_, .load 22 _, _, _, _, _⟩ :: _) _ _; refine wpList_val rfl (op_loadW oneU32 ((hS.bring (by repeat (first | exact t0 | apply tS)))) rfl rfl (wfill_get HSL.out (by omega) (by omega))) ?_; go_frame)
            | (show wpList _ _ _ (⟨some 73, .binOp .shr _ _ _ _, _, _, _, _⟩ :: _) _ _; refine wpList_val rfl (op_shr32 rfl rfl (c := 10) rfl) ?_; go_frame)
            | (show wpList _ _ _ (⟨_, .binOp .xor 22 _ _ _, _, _, _, _⟩ :: _) _ _; refine wpList_val rfl (op_bin32 rfl rfl rfl rfl) ?_; go_frame)
            | (show wpList _ _ _ (⟨_, .binOp .and 22 _ _ _, _, _, _, _⟩ :: _) _ _; refine wpList_val rfl (op_bin32 rfl rfl rfl rfl) ?_; go_frame)
            | (show wpList _ _ _ (⟨_, .binOp .or 22 _ _ _, _, _, _, _⟩ :: _) _ _; refine wpList_val rfl (op_bin32 rfl rfl rfl rfl) ?_; go_frame)
            | (show wpList _ _ _ (⟨_, .binOp .add 22 _ _ _, _, _, _, _⟩ :: _) _ _; refine wpList_val rfl (op_bin32 rfl rfl rfl rfl) ?_; go_frame)
            | (show wpList _ _ _ (⟨_, .unOp .xor 22 _, _, _, _, _⟩ :: _) _ _; refine wpList_val rfl (op_not32 rfl rfl) ?_; go_frame)
            | (go_at_call 49; (first | (with_reducible refine Ret.calls (rt_17 _) ?_) | (with_reducible refine Ret.calls (rt_19 _) ?_) | (with_reducible refine Ret.calls (rt_7 _) ?_) | (with_reducible refine Ret.calls (rt_18 _) ?_) | (with_reducible refine Ret.calls (rt_6 _) ?_) | (with_reducible refine Ret.calls (rt_11 _) ?_) | (with_reducible refine Ret.calls (rt_25 _) ?_) | (with_reducible refine Ret.calls (rt_2 _) ?_) | (with_reducible refine Ret.calls (rt_13 _) ?_) | (with_reducible refine Ret.calls (rt_22 _) ?_)); rintro r w' ⟨rfl, rfl⟩)
            )
          refine segQ_mk ((hS.bring (by repeat (first | exact t0 | apply tS))).getBlk) ?_
          refine ord_seg (by repeat (first | exact Clean.body | refine Clean.then ?_ | refine Clean.inBlock ?_ | refine SegQ.clean ?_ | refine FinC.clean ?_)) (n := 3) (rest := [[10, 16, 17]]) [9] [⟨_, _, _, _, _, _⟩] rfl (by kernel_rfl) (by simp) _ _ ?_
          go_wp2_with (first
            | (show wpList _ _ _ (⟨some 59, .binOp .sub _ _ _ _, _, _, _, _⟩ :: _) _ _; refine wpList_val rfl (op_isubN rfl rfl rfl a2 (by omega) (by omega)) ?_; go_frame)
            | (show wpList _ _ _ (⟨some 64, .binOp .sub _ _ _ _, _, _, _, _⟩ :: _) _ _; refine wpList_val rfl (op_isubN rfl rfl rfl a2 (by omega) (by omega)) ?_; go_frame)
            | (show wpList _ _ _ (⟨some 70, .binOp .sub _ _ _ _, _, _, _, _⟩ :: _) _ _; refine wpList_val rfl (op_isubN rfl rfl rfl a2 (by omega) (by omega)) ?_; go_frame)
            | (show wpList _ _ _ (⟨some 60, .indexAddr _ _ _, _, _, _, _⟩ :: _) _ _; refine wpList_val rfl (op_indexArr arr64w rfl rfl (k := a2) rfl (by omega)) ?_; rw [Nat.zero_add]; go_frame)
            | (show wpList _ _ _ (⟨some 65, .indexAddr _ _ _, _, _, _, _⟩ :: _) _ _; refine wpList_val rfl (op_indexArr arr64w rfl rfl (k := a2) rfl (by omega)) ?_; rw [Nat.zero_add]; go_frame)
            | (show wpList _ _ _ (⟨some 71, .indexAddr _ _ _, _, _, _, _⟩ :: _) _ _; refine wpList_val rfl (op_indexArr arr64w rfl rfl (k := a2) rfl (by omega)) ?_; rw [Nat.zero_add]; go_frame)
            | (show wpList _ _ _ (⟨_, .load 22 _, _, _, _, _⟩ :: _) _ _; refine wpList_val rfl (op_loadW oneU32 ((hS.bring (by repeat (first | exact t0 | apply tS)))) rfl rfl (wfill_get HSL.out (by omega) (by omega))) ?_; go_frame)
            | (show wpList _ _ _ (⟨some 73, .binOp .shr _ _ _ _, _, _, _, _⟩ :: _) _ _; refine wpList_val rfl (op_shr32 rfl rfl (c := 10) rfl) ?_; go_frame)
            | (show wpList _ _ _ (⟨_, .binOp .xor 22 _ _ _, _, _, _, _⟩ :: _) _ _; refine wpList_val rfl (op_bin32 rfl rfl rfl rfl) ?_; go_frame)
            | (show wpList _ _ _ (⟨_, .binOp .and 22 _ _ _, _, _, _, _⟩ :: _) _ _; refine wpList_val rfl (op_bin32 rfl rfl rfl rfl) ?_; go_frame)
            | (show wpList _ _ _ (⟨_, .binOp .or 22 _ _ _, _, _, _, _⟩ :: _) _ _; refine wpList_val rfl (op_bin32 rfl rfl rfl rfl) ?_; go_frame)
            | (show wpList _ _ _ (⟨_, .binOp .add 22 _ _ _, _, _, _, _⟩ :: _) _ _; refine wpList_val rfl (op_bin32 rfl rfl rfl rfl) ?_; go_frame)
            | (show wpList _ _ _ (⟨_, .unOp .xor 22 _, _, _, _, _⟩ :: _) _ _; refine wpList_val rfl (op_not32 rfl rfl) ?_; go_frame)
            | (go_at_call 49; (first | (with_reducible refine Ret.calls (rt_17 _) ?_) | (with_reducible refine Ret.calls (rt_19 _) ?_) | (with_reducible refine Ret.calls (rt_7 _) ?_) | (with_reducible refine Ret.calls (rt_18 _) ?_) | (with_reducible refine Ret.calls (rt_6 _) ?_) | (with_reducible refine Ret.calls (rt_11 _) ?_) | (with_reducible refine Ret.calls (rt_25 _) ?_) | (with_reducible refine Ret.calls (rt_2 _) ?_) | (with_reducible refine Ret.calls (rt_13 _) ?_) | (with_reducible refine Ret.calls (rt_22 _) ?_)); rintro r w' ⟨rfl, rfl⟩)
            )
          refine segQ_mk ((hS.bring (by repeat (first | exact t0 | apply tS))).getBlk) ?_
          refine ord_seg (by repeat (first | exact Clean.body | refine Clean.then ?_ | refine Clean.inBlock ?_ | refine SegQ.clean ?_ | refine FinC.clean ?_)) (n := 0) (rest := [[]]) [10, 16, 17] [⟨_, _, _, _, _, _⟩, ⟨_, _, _, _, _, _⟩, ⟨_, _, _, _, _, _⟩] rfl (by kernel_rfl) (by simp) _ _ ?_
          go_wp2_with (first
            | (show wpList _ _ _ (⟨some 59, .binOp .sub _ _ _ _, _, _, _, _⟩ :: _) _ _; refine wpList_val rfl (op_isubN rfl rfl rfl a2 (by omega) (by omega)) ?_; go_frame)
            | (show wpList _ _ _ (⟨some 64, .binOp .sub _ _ _ _, _, _, _, _⟩ :: _) _ _; refine wpList_val rfl (op_isubN rfl rfl rfl a2 (by omega) (by omega)) ?_; go_frame)
            | (show wpList _ _ _ (⟨some 70, .binOp .sub _ _ _ _, _, _, _, _⟩ :: _) _ _; refine wpList_val rfl (op_isubN rfl rfl rfl a2 (by omega) (by omega)) ?_; go_frame)
            | (show wpList _ _ _ (⟨some 60, .indexAddr _ _ _, _, _, _, _⟩ :: _) _ _; refine wpList_val rfl (op_indexArr arr64w rfl rfl (k := a2) rfl (by omega)) ?_; rw [Nat.zero_add]; go_frame)
            | (show wpList _ _ _ (⟨some 65, .indexAddr _ _ _, _, _, _, _⟩ :: _) _ _; refine wpList_val rfl (op_indexArr arr64w rfl rfl (k := a2) rfl (by omega)) ?_; rw [Nat.zero_add]; go_frame)
            | (show wpList _ _ _ (⟨some 71, .indexAddr _ _ _, _, _, _, _⟩ :: _) _ _; refine wpList_val rfl (op_indexArr arr64w rfl rfl (k := a2) rfl (by omega)) ?_; rw [Nat.zero_add]; go_frame)
            | (show wpList _ _ _ (⟨_, .load 22 _, _, _, _, _⟩ :: _) _ _; refine wpList_val rfl (op_loadW oneU32 ((hS.bring (by repeat (first | exact t0 | apply tS)))) rfl rfl (wfill_get HSL.out (by omega) (by omega))) ?_; go_frame)
            | (show wpList _ _ _ (⟨some 73, .binOp .shr _ _ _ _, _, _, _, _⟩ :: _) _ _; refine wpList_val rfl (op_shr32 rfl rfl (c := 10) rfl) ?_; go_frame)
            | (show wpList _ _ _ (⟨_, .binOp .xor 22 _ _ _, _, _, _, _⟩ :: _) _ _; refine wpList_val rfl (op_bin32 rfl rfl rfl rfl) ?_; go_frame)
            | (show wpList _ _ _ (⟨_, .binOp .and 22 _ _ _, _, _, _, _⟩ :: _) _ _; refine wpList_val rfl (op_bin32 rfl rfl rfl rfl) ?_; go_frame)
            | (show wpList _ _ _ (⟨_, .binOp .or 22 _ _ _, _, _, _, _⟩ :: _) _ _; refine wpList_val rfl (op_bin32 rfl rfl rfl rfl) ?_; go_frame)
            | (show wpList _ _ _ (⟨_, .binOp .add 22 _ _ _, _, _, _, _⟩ :: _) _ _; refine wpList_val rfl (op_bin32 rfl rfl rfl rfl) ?_; go_frame)
            | (show wpList _ _ _ (⟨_, .unOp .xor 22 _, _, _, _, _⟩ :: _) _ _; refine wpList_val rfl (op_not32 rfl rfl) ?_; go_frame)
            | (go_at_call 49; (first | (with_reducible refine Ret.calls (rt_17 _) ?_) | (with_reducible refine Ret.calls (rt_19 _) ?_) | (with_reducible refine Ret.calls (rt_7 _) ?_) | (with_reducible refine Ret.calls (rt_18 _) ?_) | (with_reducible refine Ret.calls (rt_6 _) ?_) | (with_reducible refine Ret.calls (rt_11 _) ?_) | (with_reducible refine Ret.calls (rt_25 _) ?_) | (with_reducible refine Ret.calls (rt_2 _) ?_) | (with_reducible refine Ret.calls (rt_13 _) ?_) | (with_reducible refine Ret.calls (rt_22 _) ?_)); rintro r w' ⟨rfl, rfl⟩)
            )
          refine segQ_mk ((hS.bring (by repeat (first | exact t0 | apply tS))).getBlk) ?_
          refine finC_mk (by kernel_rfl) (by
            intro t ht
            simp only [List.mem_cons, List.not_mem_nil, or_false] at ht
            rcases ht with rfl | rfl | rfl <;> exact stab_blk (b := n6) (fun w h => h) _ none) ?_
          go_wp2_with fail
          refine wp_region_ord (by kernel_rfl) [77, 82, 88] [[0, 1, 2, 3, 5, 6, 7, 8, 11, 12, 13, 14, 15, 4, 9, 10, 16, 17]] (by kernel_rfl) (by kernel_rfl) (fun w' => Blk w' n6 95 ((wfill S tt).map W32)) Up.blk ((hS.bring (by repeat (first | exact t0 | apply tS))).getBlk) (by repeat (first | exact Clean.body | refine Clean.then ?_ | refine Clean.inBlock ?_ | refine SegQ.clean ?_ | refine FinC.clean ?_)) ?_
          replace hS := hS.drew
          refine ord_seg (by repeat (first | exact Clean.body | refine Clean.then ?_ | refine Clean.inBlock ?_ | refine SegQ.clean ?_ | refine FinC.clean ?_)) (n := 4) (rest := [[9, 10, 16, 17]]) [0, 1, 2, 3, 5, 6, 7, 8, 11, 12, 13, 14, 15, 4] [⟨_, _, _, _, _, _⟩, ⟨_, _, _, _, _, _⟩, ⟨_, _, _, _, _, _⟩, ⟨_, _, _, _, _, _⟩, ⟨_, _, _, _, _, _⟩, ⟨_, _, _, _, _, _⟩, ⟨_, _, _, _, _, _⟩, ⟨_, _, _, _, _, _⟩, ⟨_, _, _, _, _, _⟩, ⟨_, _, _, _, _, _⟩, ⟨_, _, _, _, _, _⟩, ⟨_, _, _, _, _, _⟩, ⟨_, _, _, _, _, _⟩, ⟨_, _, _, _, _, _⟩] rfl (by kernel_rfl) (by simp) _ _ ?_
          go_wp2_with (first
            | (show wpList _ _ _ (⟨some 76, .binOp .sub _ _ _ _, _, _, _, _⟩ :: _) _ _; refine wpList_val rfl (op_isubN rfl rfl rfl a15 (by omega) (by omega)) ?_; go_frame)
            | (show wpList _ _ _ (⟨some 81, .binOp .sub _ _ _ _, _, _, _, _⟩ :: _) _ _; refine wpList_val rfl (op_isubN rfl rfl rfl a15 (by omega) (by omega)) ?_; go_frame)
            | (show wpList _ _ _ (⟨some 87, .binOp .sub _ _ _ _, _, _, _, _⟩ :: _) _ _; refine wpList_val rfl (op_isubN rfl rfl rfl a15 (by omega) (by omega)) ?_; go_frame)
            | (show wpList _ _ _ (⟨some 77, .indexAddr _ _ _, _, _, _, _⟩ :: _) _ _; refine wpList_val rfl (op_indexArr arr64w rfl rfl (k := a15) rfl (by omega)) ?_; rw [Nat.zero_add]; go_frame)
            | (show wpList _ _ _ (⟨some 82, .indexAddr _ _ _, _, _, _, _⟩ :: _) _ _; refine wpList_val rfl (op_indexArr arr64w rfl rfl (k := a15) rfl (by omega)) ?_; rw [Nat.zero_add]; go_frame)
            | (show wpList _ _ _ (⟨some 88, .indexAddr _ _ _, _, _, _, _⟩ :: _) _ _; refine wpList_val rfl (op_indexArr arr64w rfl rfl (k := a15) rfl (by omega)) ?_; rw [Nat.zero_add]; go_frame)
            | (show wpList _ _ _ (⟨_, .load 22 _, _, _, _, _⟩ :: _) _ _; refine wpList_val rfl (op_loadW oneU32 ((hS.bring (by repeat (first | exact t0 | apply tS)))) rfl rfl (wfill_get HSL.out (by omega) (by omega))) ?_; go_frame)
            | (show wpList _ _ _ (⟨some 90, .binOp .shr _ _ _ _, _, _, _, _⟩ :: _) _ _; refine wpList_val rfl (op_shr32 rfl rfl (c := 3) rfl) ?_; go_frame)
            | (show wpList _ _ _ (⟨_, .binOp .xor 22 _ _ _, _, _, _, _⟩ :: _) _ _; refine wpList_val rfl (op_bin32 rfl rfl rfl rfl) ?_; go_frame)
            | (show wpList _ _ _ (⟨_, .binOp .and 22 _ _ _, _, _, _, _⟩ :: _) _ _; refine wpList_val rfl (op_bin32 rfl rfl rfl rfl) ?_; go_frame)
            | (show wpList _ _ _ (⟨_, .binOp .or 22 _ _ _, _, _, _, _⟩ :: _) _ _; refine wpList_val rfl (op_bin32 rfl rfl rfl rfl) ?_; go_frame)
            | (show wpList _ _ _ (⟨_, .binOp .add 22 _ _ _, _, _, _, _⟩ :: _) _ _; refine wpList_val rfl (op_bin32 rfl rfl rfl rfl) ?_; go_frame)
            | (show wpList _ _ _ (⟨_, .unOp .xor 22 _, _, _, _, _⟩ :: _) _ _; refine wpList_val rfl (op_not32 rfl rfl) ?_; go_frame)
            | (go_at_call 49; (first | (with_reducible refine Ret.calls (rt_17 _) ?_) | (with_reducible refine Ret.calls (rt_19 _) ?_) | (with_reducible refine Ret.calls (rt_7 _) ?_) | (with_reducible refine Ret.calls (rt_18 _) ?_) | (with_reducible refine Ret.calls (rt_6 _) ?_) | (with_reducible refine Ret.calls (rt_11 _) ?_) | (with_reducible refine Ret.calls (rt_25 _) ?_) | (with_reducible refine Ret.calls (rt_2 _) ?_) | (with_reducible refine Ret.calls (rt_13 _) ?_) | (with_reducible refine Ret.calls (rt_22 _) ?_)); rintro r w' ⟨rfl, rfl⟩)
            )
          refine segQ_mk ((hS.bring (by repeat (first | exact t0 | apply tS))).getBlk) ?_
          refine ord_seg (by repeat (first | exact Clean.body | refine Clean.then ?_ | refine Clean.inBlock ?_ | refine SegQ.clean ?_ | refine FinC.clean ?_)) (n := 3) (rest := [[10, 16, 17]]) [9] [⟨_, _, _, _, _, _⟩] rfl (by kernel_rfl) (by simp) _ _ ?_
          go_wp2_with (first
            | (show wpList _ _ _ (⟨some 76, .binOp .sub _ _ _ _, _, _, _, _⟩ :: _) _ _; refine wpList_val rfl (op_isubN rfl rfl rfl a15 (by omega) (by omega)) ?_; go_frame)
            | (show wpList _ _ _ (⟨some 81, .binOp .sub _ _ _ _, _, _, _, _⟩ :: _) _ _; refine wpList_val rfl (op_isubN rfl rfl rfl a15 (by omega) (by omega)) ?_; go_frame)
            | (show wpList _ _ _ (⟨some 87, .binOp .sub _ _ _ _, _, _, _, _⟩ :: _) _ _; refine wpList_val rfl (op_isubN rfl rfl rfl a15 (by omega) (by omega)) ?_; go_frame)
            | (show wpList _ _ _ (⟨some 77, .indexAddr _ _ _, _, _, _, _⟩ :: _) _ _; refine wpList_val rfl (op_indexArr arr64w rfl rfl (k := a15) rfl (by omega)) ?_; rw [Nat.zero_add]; go_frame)
            | (show wpList _ _ _ (⟨some 82, .indexAddr _ _ _, _, _, _, _⟩ :: _) _ _; refine wpList_val rfl (op_indexArr arr64w rfl rfl (k := a15) rfl (by omega)) ?_; rw [Nat.zero_add]; go_frame)
            | (show wpList _ _ _ (⟨some 88, .indexAddr _ _ _, _, _, _, _⟩ :: _) _ _; refine wpList_val rfl (op_indexArr arr64w rfl rfl (k := a15) rfl (by omega)) ?_; rw [Nat.zero_add]; go_frame)
            | (show wpList _ _ _ (⟨_, .load 22 _, _, _, _, _⟩ :: _) _ _; refine wpList_val rfl (op_loadW oneU32 ((hS.bring (by repeat (first | exact t0 | apply tS)))) rfl rfl (wfill_get HSL.out (by omega) (by omega))) ?_; go_frame)
            | (show wpList _ _ _ (⟨some 90, .binOp .shr _ _ _ _, _, _, _, _⟩ :: _) _ _; refine wpList_val rfl (op_shr32 rfl rfl (c := 3) rfl) ?_; go_frame)
            | (show wpList _ _ _ (⟨_, .binOp .xor 22 _ _ _, _, _, _, _⟩ :: _) _ _; refine wpList_val rfl (op_bin32 rfl rfl rfl rfl) ?_; go_frame)
            | (show wpList _ _ _ (⟨_, .binOp .and 22 _ _ _, _, _, _, _⟩ :: _) _ _; refine wpList_val rfl (op_bin32 rfl rfl rfl rfl) ?_; go_frame)
            | (show wpList _ _ _ (⟨_, .binOp .or 22 _ _ _, _, _, _, _⟩ :: _) _ _; refine wpList_val rfl (op_bin32 rfl rfl rfl rfl) ?_; go_frame)
            | (show wpList _ _ _ (⟨_, .binOp .add 22 _ _ _, _, _, _, _⟩ :: _) _ _; refine wpList_val rfl (op_bin32 rfl rfl rfl rfl) ?_; go_frame)
            | (show wpList _ _ _ (⟨_, .unOp .xor 22 _, _, _, _, _⟩ :: _) _ _; refine wpList_val rfl (op_not32 rfl rfl) ?_; go_frame)
            | (go_at_call 49; (first | (with_reducible refine Ret.calls (rt_17 _) ?_) | (with_reducible refine Ret.calls (rt_19 _) ?_) | (with_reducible refine Ret.calls (rt_7 _) ?_) | (with_reducible refine Ret.calls (rt_18 _) ?_) | (with_reducible refine Ret.calls (rt_6 _) ?_) | (with_reducible refine Ret.calls (rt_11 _) ?_) | (with_reducible refine Ret.calls (rt_25 _) ?_) | (with_reducible refine Ret.calls (rt_2 _) ?_) | (with_reducible refine Ret.calls (rt_13 _) ?_) | (with_reducible refine Ret.calls (rt_22 _) ?_)); rintro r w' ⟨rfl, rfl⟩)
            )
          refine segQ_mk ((hS.bring (by repeat (first | exact t0 | apply tS))).getBlk) ?_
          refine ord_seg (by repeat (first | exact Clean.body | refine Clean.then ?_ | refine Clean.inBlock ?_ | refine SegQ.clean ?_ | refine FinC.clean ?_)) (n := 0) (rest := [[]]) [10, 16, 17] [⟨_, _, _, _, _, _⟩, ⟨_, _, _, _, _, _⟩, ⟨_, _, _, _, _, _⟩] rfl (by kernel_rfl) (by simp) _ _ ?_
          go_wp2_with (first
            | (show wpList _ _ _ (⟨some 76, .binOp .sub _ _ _ _, _, _, _, _⟩ :: _) _ _; refine wpList_val rfl (op_isubN rfl rfl rfl a15 (by omega) (by omega)) ?_; go_frame)
            | (show wpList _ _ _ (⟨some 81, .binOp .sub _ _ _ _, _, _, _, _⟩ :: _) _ _; refine wpList_val rfl (op_isubN rfl rfl rfl a15 (by omega) (by omega)) ?_; go_frame)
            | (show wpList _ _ _ (⟨some 87, .binOp .sub _ _ _ _, _, _, _, _⟩ :: _) _ _; refine wpList_val rfl (op_isubN rfl rfl rfl a15 (by omega) (by omega)) ?_; go_frame)
            | (show wpList _ _ _ (⟨some 77, .indexAddr _ _ _, _, _, _, _⟩ :: _) _ _; refine wpList_val rfl (op_indexArr arr64w rfl rfl (k := a15) rfl (by omega)) ?_; rw [Nat.zero_add]; go_frame)
            | (show wpList _ _ _ (⟨some 82, .indexAddr _ _ _, _, _, _, _⟩ :: _) _ _; refine wpList_val rfl (op_indexArr arr64w rfl rfl (k := a15) rfl (by omega)) ?_; rw [Nat.zero_add]; go_frame)
            | (show wpList _ _ _ (⟨some 88, .indexAddr _ _ _, _, _, _, _⟩ :: _) _ _; refine wpList_val rfl (op_indexArr arr64w rfl rfl (k := a15) rfl (by omega)) ?_; rw [Nat.zero_add]; go_frame)
            | (show wpList _ _ _ (⟨_, .load 22 _, _, _, _, _⟩ :: _) _ _; refine wpList_val rfl (op_loadW oneU32 ((hS.bring (by repeat (first | exact t0 | apply tS)))) rfl rfl (wfill_get HSL.out (by omega) (by omega))) ?_; go_frame)
            | (show wpList _ _ _ (⟨some 90, .binOp .shr _ _ _ _, _, _, _, _⟩ :: _) _ _; refine wpList_val rfl (op_shr32 rfl rfl (c := 3) rfl) ?_; go_frame)
            | (show wpList _ _ _ (⟨_, .binOp .xor 22 _ _ _, _, _, _, _⟩ :: _) _ _; refine wpList_val rfl (op_bin32 rfl rfl rfl rfl) ?_; go_frame)
            | (show wpList _ _ _ (⟨_, .binOp .and 22 _ _ _, _, _, _, _⟩ :: _) _ _; refine wpList_val rfl (op_bin32 rfl rfl rfl rfl) ?_; go_frame)
            | (show wpList _ _ _ (⟨_, .binOp .or 22 _ _ _, _, _, _, _⟩ :: _) _ _; refine wpList_val rfl (op_bin32 rfl rfl rfl rfl) ?_; go_frame)
            | (show wpList _ _ _ (⟨_, .binOp .add 22 _ _ _, _, _, _, _⟩ :: _) _ _; refine wpList_val rfl (op_bin32 rfl rfl rfl rfl) ?_; go_frame)
            | (show wpList _ _ _ (⟨_, .unOp .xor 22 _, _, _, _, _⟩ :: _) _ _; refine wpList_val rfl (op_not32 rfl rfl) ?_; go_frame)
            | (go_at_call 49; (first | (with_reducible refine Ret.calls (rt_17 _) ?_) | (with_reducible refine Ret.calls (rt_19 _) ?_) | (with_reducible refine Ret.calls (rt_7 _) ?_) | (with_reducible refine Ret.calls (rt_18 _) ?_) | (with_reducible refine Ret.calls (rt_6 _) ?_) | (with_reducible refine Ret.calls (rt_11 _) ?_) | (with_reducible refine Ret.calls (rt_25 _) ?_) | (with_reducible refine Ret.calls (rt_2 _) ?_) | (with_reducible refine Ret.calls (rt_13 _) ?_) | (with_reducible refine Ret.calls (rt_22 _) ?_)); rintro r w' ⟨rfl, rfl⟩)
            )
          refine segQ_mk ((hS.bring (by repeat (first | exact t0 | apply tS))).getBlk) ?_
          refine finC_mk (by kernel_rfl) (by
            intro t ht
            simp only [List.mem_cons, List.not_mem_nil, or_false] at ht
            rcases ht with rfl | rfl | rfl <;> exact stab_blk (b := n6) (fun w h => h) _ none) ?_
          go_wp2_with fail
          refine wp_region_text (by kernel_rfl) (by kernel_rfl) (by repeat (first | exact Clean.body | refine Clean.then ?_ | refine Clean.inBlock ?_)) ?_
          replace hS := hS.drew
          go_wp2_with (first
            | (show wpList _ _ _ (⟨some 95, .binOp .sub _ _ _ _, _, _, _, _⟩ :: _) _ _; refine wpList_val rfl (op_isubN rfl rfl rfl a7 (by omega) (by omega)) ?_; go_frame)
            | (show wpList _ _ _ (⟨some 102, .binOp .sub _ _ _ _, _, _, _, _⟩ :: _) _ _; refine wpList_val rfl (op_isubN rfl rfl rfl a16 (by omega) (by omega)) ?_; go_frame)
            | (show wpList _ _ _ (⟨some 96, .indexAddr _ _ _, _, _, _, _⟩ :: _) _ _; refine wpList_val rfl (op_indexArr arr64w rfl rfl (k := a7) rfl (by omega)) ?_; rw [Nat.zero_add]; go_frame)
            | (show wpList _ _ _ (⟨some 103, .indexAddr _ _ _, _, _, _, _⟩ :: _) _ _; refine wpList_val rfl (op_indexArr arr64w rfl rfl (k := a16) rfl (by omega)) ?_; rw [Nat.zero_add]; go_frame)
            | (show wpList _ _ _ (⟨some 106, .indexAddr _ _ _, _, _, _, _⟩ :: _) _ _; refine wpList_val rfl (op_indexArr arr64w rfl rfl (k := tt) rfl (by omega)) ?_; rw [Nat.zero_add]; go_frame)
            | (show wpList _ _ _ (⟨_, .load 22 _, _, _, _, _⟩ :: _) _ _; refine wpList_val rfl (op_loadW oneU32 ((hS.bring (by repeat (first | exact t0 | apply tS)))) rfl rfl (wfill_get HSL.out (by omega) (by omega))) ?_; go_frame)
            | (show wpList _ _ _ (⟨some 105, .binOp _ _ _ _ _, _, _, _, _⟩ :: _) _ _; refine wpList_val rfl (op_bin32 rfl rfl rfl rfl) ?_; rw [← HG1.out, ← HG0.out, HNX.out]; go_frame)
            | (show wpList _ _ _ (⟨_, .binOp .xor 22 _ _ _, _, _, _, _⟩ :: _) _ _; refine wpList_val rfl (op_bin32 rfl rfl rfl rfl) ?_; go_frame)
            | (show wpList _ _ _ (⟨_, .binOp .and 22 _ _ _, _, _, _, _⟩ :: _) _ _; refine wpList_val rfl (op_bin32 rfl rfl rfl rfl) ?_; go_frame)
            | (show wpList _ _ _ (⟨_, .binOp .or 22 _ _ _, _, _, _, _⟩ :: _) _ _; refine wpList_val rfl (op_bin32 rfl rfl rfl rfl) ?_; go_frame)
            | (show wpList _ _ _ (⟨_, .binOp .add 22 _ _ _, _, _, _, _⟩ :: _) _ _; refine wpList_val rfl (op_bin32 rfl rfl rfl rfl) ?_; go_frame)
            | (show wpList _ _ _ (⟨_, .unOp .xor 22 _, _, _, _, _⟩ :: _) _ _; refine wpList_val rfl (op_not32 rfl rfl) ?_; go_frame)
            | (show wpList _ _ _ (⟨_, .store 22 _ _, _, _, _, _⟩ :: _) _ _; (refine wpS_storeF (f := W32) (us := wfill S tt) sizeU32 (hS.bring (by repeat (first | exact t0 | apply tS))) rfl rfl rfl (v := gw S tt) rfl rfl rfl (by rw [HWL.out]; omega) ?_); clear hS; intro w hS; rw [HWS.out] at hS; go_frame)
            )
          refine fin_mk (by kernel_rfl) ?_
          go_wp2_with fail
          go_roundw
          case rel => exact ⟨tt + 1, by go_num, by omega, by omega, hS.sel (by repeat (first | exact Sel.refl | refine Sel.take (by repeat (first | exact t0 | apply tS)) ?_ | apply Sel.drop))⟩
          case measure => simp [intOf]; omega
        · have ht3 : tt = 64 := by omega
          subst ht3
          go_wp2_with (first
            | (show wpList _ _ _ (⟨some 11, .alloc _, _, _, _, _⟩ :: _) _ _; refine wpS_alloc hS rfl rfl zero8w (zs := (List.replicate 8 (0 : Word)).map W32) rfl ?_; clear hS; intro n11 w hS; go_frame)
            | (show wpList _ _ _ (⟨_, .load 74 _, _, _, _, _⟩ :: _) _ _; refine wpList_val rfl (op_load agg8w rfl rfl ((hS.bring (by repeat (first | exact t0 | apply tS))).getBlk.cells) rfl) ?_; go_frame)
            | (show wpList _ _ _ (⟨_, .store 74 _ _, _, _, _, _⟩ :: _) _ _; (refine wpS_storeAll agg8w (hS.bring (by repeat (first | exact t0 | apply tS))) rfl rfl rfl (vs := s.list.map W32) rfl rfl (oneW _) rfl ?_); clear hS; intro w hS; go_frame)
            )
          rw [show ((64 : Nat) : Int) = 64 from rfl]
          have HS0 : SepL R base w (.blk n11 74 ((rs 0).list.map W32) :: .blk n6 95 ((wfill S 64).map W32) :: .blk n5 95 (kTab.map W32) :: .blk n4 74 ((List.replicate 8 (0 : Word)).map W32) :: .blk n2 74 (s.list.map W32) :: F) := by
            rw [HR0]
            exact hS.sel (by repeat (first | exact Sel.refl | refine Sel.take (by repeat (first | exact t0 | apply tS)) ?_ | apply Sel.drop))
          clear hS
          go_loopw [108] (fun i wr => ∃ k : Nat, i = .int .i64 k ∧ k ≤ 64 ∧ SepL R base wr (.blk n11 74 ((rs k).list.map W32) :: .blk n6 95 ((wfill S 64).map W32) :: .blk n5 95 (kTab.map W32) :: .blk n4 74 ((List.replicate 8 (0 : Word)).map W32) :: .blk n2 74 (s.list.map W32) :: F)) (fun i _ => 64 - (intOf i).toNat)
          case atStart => exact ⟨0, rfl, by omega, HS0⟩
          case round =>
            clear HS0
            obtain ⟨k, rfl, hk, hS⟩ := hrel
            by_cases hlt3 : k < 64
            · have HRK := hide (HRS k)
              have HSK := hide (wfill_get HSL.out (k := 64) (j := k) (by omega) hlt3)
              have HKK : Hid (kTab[k]? = some (gw kTab k)) := by
                unfold Hid
                rw [← gw_eq, List.getD_eq_getElem?_getD, List.getElem?_eq_getElem (show k < kTab.length from hlt3)]
                rfl
              generalize rs k = v at *
              generalize gw kTab k = gk at *
              generalize gw S k = gs at *
              go_wp2_with (first
                | (show wpList _ _ _ (⟨_, .indexAddr 74 _ (.const _), _, _, _, _⟩ :: _) _ _; (first | (refine wpList_val rfl (op_indexArrZ arr8w rfl rfl rfl 0 rfl (by omega)) ?_) | (refine wpList_val rfl (op_indexArrZ arr8w rfl rfl rfl 1 rfl (by omega)) ?_) | (refine wpList_val rfl (op_indexArrZ arr8w rfl rfl rfl 2 rfl (by omega)) ?_) | (refine wpList_val rfl (op_indexArrZ arr8w rfl rfl rfl 3 rfl (by omega)) ?_) | (refine wpList_val rfl (op_indexArrZ arr8w rfl rfl rfl 4 rfl (by omega)) ?_) | (refine wpList_val rfl (op_indexArrZ arr8w rfl rfl rfl 5 rfl (by omega)) ?_) | (refine wpList_val rfl (op_indexArrZ arr8w rfl rfl rfl 6 rfl (by omega)) ?_) | (refine wpList_val rfl (op_indexArrZ arr8w rfl rfl rfl 7 rfl (by omega)) ?_)); rw [Nat.zero_add]; go_frame)
                | (show wpList _ _ _ (⟨_, .load 22 _, _, _, _, _⟩ :: _) _ _; refine wpList_val rfl (op_load1S oneU32 ((hS.bring (by repeat (first | exact t0 | apply tS)))) rfl rfl rfl) ?_; go_frame)
                )
              refine wp_region_ord (by kernel_rfl) [113, 125, 130, 136, 140] [[0, 1, 2, 4, 7, 11, 12, 13, 14, 15, 16, 17, 18, 19, 20, 22, 23, 24, 26, 27, 28, 3, 5, 6, 8, 9, 10, 21, 25, 29, 30]] (by kernel_rfl) (by kernel_rfl) (fun w' => (Blk w' n11 74 (v.list.map W32) ∧ Blk w' n5 95 (kTab.map W32)) ∧ Blk w' n6 95 ((wfill S 64).map W32)) (Up.and (Up.and Up.blk Up.blk) Up.blk) ⟨⟨((hS.bring (by repeat (first | exact t0 | apply tS))).getBlk), ((hS.bring (by repeat (first | exact t0 | apply tS))).getBlk)⟩, ((hS.bring (by repeat (first | exact t0 | apply tS))).getBlk)⟩ (by repeat (first | exact Clean.body | refine Clean.then ?_ | refine Clean.inBlock ?_ | refine SegQ.clean ?_ | refine FinC.clean ?_)) ?_
              replace hS := hS.drew
              refine ord_seg (by repeat (first | exact Clean.body | refine Clean.then ?_ | refine Clean.inBlock ?_ | refine SegQ.clean ?_ | refine FinC.clean ?_)) (n := 9) (rest := [[5, 6, 8, 9, 10, 21, 25, 29, 30]]) [0, 1, 2, 4, 7, 11, 12, 13, 14, 15, 16, 17, 18, 19, 20, 22, 23, 24, 26, 27, 28, 3] [⟨_, _, _, _, _, _⟩, ⟨_, _, _, _, _, _⟩, ⟨_, _, _, _, _, _⟩, ⟨_, _, _, _, _, _⟩, ⟨_, _, _, _, _, _⟩, ⟨_, _, _, _, _, _⟩, ⟨_, _, _, _, _, _⟩, ⟨_, _, _, _, _, _⟩, ⟨_, _, _, _, _, _⟩, ⟨_, _, _, _, _, _⟩, ⟨_, _, _, _, _, _⟩, ⟨_, _, _, _, _, _⟩, ⟨_, _, _, _, _, _⟩, ⟨_, _, _, _, _, _⟩, ⟨_, _, _, _, _, _⟩, ⟨_, _, _, _, _, _⟩, ⟨_, _, _, _, _, _⟩, ⟨_, _, _, _, _, _⟩, ⟨_, _, _, _, _, _⟩, ⟨_, _, _, _, _, _⟩, ⟨_, _, _, _, _, _⟩, ⟨_, _, _, _, _, _⟩] rfl (by kernel_rfl) (by simp) _ _ ?_
              go_wp2_with (first
                | (show wpList _ _ _ (⟨_, .indexAddr 74 _ (.const _), _, _, _, _⟩ :: _) _ _; (first | (refine wpList_val rfl (op_indexArrZ arr8w rfl rfl rfl 0 rfl (by omega)) ?_) | (refine wpList_val rfl (op_indexArrZ arr8w rfl rfl rfl 1 rfl (by omega)) ?_) | (refine wpList_val rfl (op_indexArrZ arr8w rfl rfl rfl 2 rfl (by omega)) ?_) | (refine wpList_val rfl (op_indexArrZ arr8w rfl rfl rfl 3 rfl (by omega)) ?_) | (refine wpList_val rfl (op_indexArrZ arr8w rfl rfl rfl 4 rfl (by omega)) ?_) | (refine wpList_val rfl (op_indexArrZ arr8w rfl rfl rfl 5 rfl (by omega)) ?_) | (refine wpList_val rfl (op_indexArrZ arr8w rfl rfl rfl 6 rfl (by omega)) ?_) | (refine wpList_val rfl (op_indexArrZ arr8w rfl rfl rfl 7 rfl (by omega)) ?_)); rw [Nat.zero_add]; go_frame)
                | (show wpList _ _ _ (⟨some 136, .indexAddr _ _ _, _, _, _, _⟩ :: _) _ _; refine wpList_val rfl (op_indexArr arr64w rfl rfl (k := k) rfl (by omega)) ?_; rw [Nat.zero_add]; go_frame)
                | (show wpList _ _ _ (⟨some 140, .indexAddr _ _ _, _, _, _, _⟩ :: _) _ _; refine wpList_val rfl (op_indexArr arr64w rfl rfl (k := k) rfl (by omega)) ?_; rw [Nat.zero_add]; go_frame)
                | (show wpList _ _ _ (⟨some 137, .load _ _, _, _, _, _⟩ :: _) _ _; refine wpList_val rfl (op_loadW oneU32 ((hS.bring (by repeat (first | exact t0 | apply tS)))) rfl rfl HKK.out) ?_; go_frame)
                | (show wpList _ _ _ (⟨some 141, .load _ _, _, _, _, _⟩ :: _) _ _; refine wpList_val rfl (op_loadW oneU32 ((hS.bring (by repeat (first | exact t0 | apply tS)))) rfl rfl HSK.out) ?_; go_frame)
                | (show wpList _ _ _ (⟨_, .load 22 _, _, _, _, _⟩ :: _) _ _; refine wpList_val rfl (op_load1S oneU32 ((hS.bring (by repeat (first | exact t0 | apply tS)))) rfl rfl rfl) ?_; go_frame)
                | (show wpList _ _ _ (⟨_, .binOp .xor 22 _ _ _, _, _, _, _⟩ :: _) _ _; refine wpList_val rfl (op_bin32 rfl rfl rfl rfl) ?_; go_frame)
                | (show wpList _ _ _ (⟨_, .binOp .and 22 _ _ _, _, _, _, _⟩ :: _) _ _; refine wpList_val rfl (op_bin32 rfl rfl rfl rfl) ?_; go_frame)
                | (show wpList _ _ _ (⟨_, .binOp .or 22 _ _ _, _, _, _, _⟩ :: _) _ _; refine wpList_val rfl (op_bin32 rfl rfl rfl rfl) ?_; go_frame)
                | (show wpList _ _ _ (⟨_, .binOp .add 22 _ _ _, _, _, _, _⟩ :: _) _ _; refine wpList_val rfl (op_bin32 rfl rfl rfl rfl) ?_; go_frame)
                | (show wpList _ _ _ (⟨_, .unOp .xor 22 _, _, _, _, _⟩ :: _) _ _; refine wpList_val rfl (op_not32 rfl rfl) ?_; go_frame)
                | (go_at_call 49; (first | (with_reducible refine Ret.calls (rt_17 _) ?_) | (with_reducible refine Ret.calls (rt_19 _) ?_) | (with_reducible refine Ret.calls (rt_7 _) ?_) | (with_reducible refine Ret.calls (rt_18 _) ?_) | (with_reducible refine Ret.calls (rt_6 _) ?_) | (with_reducible refine Ret.calls (rt_11 _) ?_) | (with_reducible refine Ret.calls (rt_25 _) ?_) | (with_reducible refine Ret.calls (rt_2 _) ?_) | (with_reducible refine Ret.calls (rt_13 _) ?_) | (with_reducible refine Ret.calls (rt_22 _) ?_)); rintro r w' ⟨rfl, rfl⟩)
                )
              refine segQ_mk ⟨⟨((hS.bring (by repeat (first | exact t0 | apply tS))).getBlk), ((hS.bring (by repeat (first | exact t0 | apply tS))).getBlk)⟩, ((hS.bring (by repeat (first | exact t0 | apply tS))).getBlk)⟩ ?_
              refine ord_seg (by repeat (first | exact Clean.body | refine Clean.then ?_ | refine Clean.inBlock ?_ | refine SegQ.clean ?_ | refine FinC.clean ?_)) (n := 8) (rest := [[6, 8, 9, 10, 21, 25, 29, 30]]) [5] [⟨_, _, _, _, _, _⟩] rfl (by kernel_rfl) (by simp) _ _ ?_
              go_wp2_with (first
                | (show wpList _ _ _ (⟨_, .indexAddr 74 _ (.const _), _, _, _, _⟩ :: _) _ _; (first | (refine wpList_val rfl (op_indexArrZ arr8w rfl rfl rfl 0 rfl (by omega)) ?_) | (refine wpList_val rfl (op_indexArrZ arr8w rfl rfl rfl 1 rfl (by omega)) ?_) | (refine wpList_val rfl (op_indexArrZ arr8w rfl rfl rfl 2 rfl (by omega)) ?_) | (refine wpList_val rfl (op_indexArrZ arr8w rfl rfl rfl 3 rfl (by omega)) ?_) | (refine wpList_val rfl (op_indexArrZ arr8w rfl rfl rfl 4 rfl (by omega)) ?_) | (refine wpList_val rfl (op_indexArrZ arr8w rfl rfl rfl 5 rfl (by omega)) ?_) | (refine wpList_val rfl (op_indexArrZ arr8w rfl rfl rfl 6 rfl (by omega)) ?_) | (refine wpList_val rfl (op_indexArrZ arr8w rfl rfl rfl 7 rfl (by omega)) ?_)); rw [Nat.zero_add]; go_frame)
                | (show wpList _ _ _ (⟨some 136, .indexAddr _ _ _, _, _, _, _⟩ :: _) _ _; refine wpList_val rfl (op_indexArr arr64w rfl rfl (k := k) rfl (by omega)) ?_; rw [Nat.zero_add]; go_frame)
                | (show wpList _ _ _ (⟨some 140, .indexAddr _ _ _, _, _, _, _⟩ :: _) _ _; refine wpList_val rfl (op_indexArr arr64w rfl rfl (k := k) rfl (by omega)) ?_; rw [Nat.zero_add]; go_frame)
                | (show wpList _ _ _ (⟨some 137, .load _ _, _, _, _, _⟩ :: _) _ _; refine wpList_val rfl (op_loadW oneU32 ((hS.bring (by repeat (first | exact t0 | apply tS)))) rfl rfl HKK.out) ?_; go_frame)
                | (show wpList _ _ _ (⟨some 141, .load _ _, _, _, _, _⟩ :: _) _ _; refine wpList_val rfl (op_loadW oneU32 ((hS.bring (by repeat (first | exact t0 | apply tS)))) rfl rfl HSK.out) ?_; go_frame)
                | (show wpList _ _ _ (⟨_, .load 22 _, _, _, _, _⟩ :: _) _ _; refine wpList_val rfl (op_load1S oneU32 ((hS.bring (by repeat (first | exact t0 | apply tS)))) rfl rfl rfl) ?_; go_frame)
                | (show wpList _ _ _ (⟨_, .binOp .xor 22 _ _ _, _, _, _, _⟩ :: _) _ _; refine wpList_val rfl (op_bin32 rfl rfl rfl rfl) ?_; go_frame)
                | (show wpList _ _ _ (⟨_, .binOp .and 22 _ _ _, _, _, _, _⟩ :: _) _ _; refine wpList_val rfl (op_bin32 rfl rfl rfl rfl) ?_; go_frame)
                | (show wpList _ _ _ (⟨_, .binOp .or 22 _ _ _, _, _, _, _⟩ :: _) _ _; refine wpList_val rfl (op_bin32 rfl rfl rfl rfl) ?_; go_frame)
                | (show wpList _ _ _ (⟨_, .binOp .add 22 _ _ _, _, _, _, _⟩ :: _) _ _; refine wpList_val rfl (op_bin32 rfl rfl rfl rfl) ?_; go_frame)
                | (show wpList _ _ _ (⟨_, .unOp .xor 22 _, _, _, _, _⟩ :: _) _ _; refine wpList_val rfl (op_not32 rfl rfl) ?_; go_frame)
                | (go_at_call 49; (first | (with_reducible refine Ret.calls (rt_17 _) ?_) | (with_reducible refine Ret.calls (rt_19 _) ?_) | (with_reducible refine Ret.calls (rt_7 _) ?_) | (with_reducible refine Ret.calls (rt_18 _) ?_) | (with_reducible refine Ret.calls (rt_6 _) ?_) | (with_reducible refine Ret.calls (rt_11 _) ?_) | (with_reducible refine Ret.calls (rt_25 _) ?_) | (with_reducible refine Ret.calls (rt_2 _) ?_) | (with_reducible refine Ret.calls (rt_13 _) ?_) | (with_reducible refine Ret.calls (rt_22 _) ?_)); rintro r w' ⟨rfl, rfl⟩)
                )
              refine segQ_mk ⟨⟨((hS.bring (by repeat (first | exact t0 | apply tS))).getBlk), ((hS.bring (by repeat (first | exact t0 | apply tS))).getBlk)⟩, ((hS.bring (by repeat (first | exact t0 | apply tS))).getBlk)⟩ ?_
              refine ord_seg (by repeat (first | exact Clean.body | refine Clean.then ?_ | refine Clean.inBlock ?_ | refine SegQ.clean ?_ | refine FinC.clean ?_)) (n := 6) (rest := [[9, 10, 21, 25, 29, 30]]) [6, 8] [⟨_, _, _, _, _, _⟩, ⟨_, _, _, _, _, _⟩] rfl (by kernel_rfl) (by simp) _ _ ?_
              go_wp2_with (first
                | (show wpList _ _ _ (⟨_, .indexAddr 74 _ (.const _), _, _, _, _⟩ :: _) _ _; (first | (refine wpList_val rfl (op_indexArrZ arr8w rfl rfl rfl 0 rfl (by omega)) ?_) | (refine wpList_val rfl (op_indexArrZ arr8w rfl rfl rfl 1 rfl (by omega)) ?_) | (refine wpList_val rfl (op_indexArrZ arr8w rfl rfl rfl 2 rfl (by omega)) ?_) | (refine wpList_val rfl (op_indexArrZ arr8w rfl rfl rfl 3 rfl (by omega)) ?_) | (refine wpList_val rfl (op_indexArrZ arr8w rfl rfl rfl 4 rfl (by omega)) ?_) | (refine wpList_val rfl (op_indexArrZ arr8w rfl rfl rfl 5 rfl (by omega)) ?_) | (refine wpList_val rfl (op_indexArrZ arr8w rfl rfl rfl 6 rfl (by omega)) ?_) | (refine wpList_val rfl (op_indexArrZ arr8w rfl rfl rfl 7 rfl (by omega)) ?_)); rw [Nat.zero_add]; go_frame)
                | (show wpList _ _ _ (⟨some 136, .indexAddr _ _ _, _, _, _, _⟩ :: _) _ _; refine wpList_val rfl (op_indexArr arr64w rfl rfl (k := k) rfl (by omega)) ?_; rw [Nat.zero_add]; go_frame)
                | (show wpList _ _ _ (⟨some 140, .indexAddr _ _ _, _, _, _, _⟩ :: _) _ _; refine wpList_val rfl (op_indexArr arr64w rfl rfl (k := k) rfl (by omega)) ?_; rw [Nat.zero_add]; go_frame)
                | (show wpList _ _ _ (⟨some 137, .load _ _, _, _, _, _⟩ :: _) _ _; refine wpList_val rfl (op_loadW oneU32 ((hS.bring (by repeat (first | exact t0 | apply tS)))) rfl rfl HKK.out) ?_; go_frame)
                | (show wpList _ _ _ (⟨some 141, .load _ _, _, _, _, _⟩ :: _) _ _; refine wpList_val rfl (op_loadW oneU32 ((hS.bring (by repeat (first | exact t0 | apply tS)))) rfl rfl HSK.out) ?_; go_frame)
                | (show wpList _ _ _ (⟨_, .load 22 _, _, _, _, _⟩ :: _) _ _; refine wpList_val rfl (op_load1S oneU32 ((hS.bring (by repeat (first | exact t0 | apply tS)))) rfl rfl rfl) ?_; go_frame)
                | (show wpList _ _ _ (⟨_, .binOp .xor 22 _ _ _, _, _, _, _⟩ :: _) _ _; refine wpList_val rfl (op_bin32 rfl rfl rfl rfl) ?_; go_frame)
                | (show wpList _ _ _ (⟨_, .binOp .and 22 _ _ _, _, _, _, _⟩ :: _) _ _; refine wpList_val rfl (op_bin32 rfl rfl rfl rfl) ?_; go_frame)
                | (show wpList _ _ _ (⟨_, .binOp .or 22 _ _ _, _, _, _, _⟩ :: _) _ _; refine wpList_val rfl (op_bin32 rfl rfl rfl rfl) ?_; go_frame)
                | (show wpList _ _ _ (⟨_, .binOp .add 22 _ _ _, _, _, _, _⟩ :: _) _ _; refine wpList_val rfl (op_bin32 rfl rfl rfl rfl) ?_; go_frame)
                | (show wpList _ _ _ (⟨_, .unOp .xor 22 _, _, _, _, _⟩ :: _) _ _; refine wpList_val rfl (op_not32 rfl rfl) ?_; go_frame)
                | (go_at_call 49; (first | (with_reducible refine Ret.calls (rt_17 _) ?_) | (with_reducible refine Ret.calls (rt_19 _) ?_) | (with_reducible refine Ret.calls (rt_7 _) ?_) | (with_reducible refine Ret.calls (rt_18 _) ?_) | (with_reducible refine Ret.calls (rt_6 _) ?_) | (with_reducible refine Ret.calls (rt_11 _) ?_) | (with_reducible refine Ret.calls (rt_25 _) ?_) | (with_reducible refine Ret.calls (rt_2 _) ?_) | (with_reducible refine Ret.calls (rt_13 _) ?_) | (with_reducible refine Ret.calls (rt_22 _) ?_)); rintro r w' ⟨rfl, rfl⟩)
                )
              refine segQ_mk ⟨⟨((hS.bring (by repeat (first | exact t0 | apply tS))).getBlk), ((hS.bring (by repeat (first | exact t0 | apply tS))).getBlk)⟩, ((hS.bring (by repeat (first | exact t0 | apply tS))).getBlk)⟩ ?_
              refine ord_seg (by repeat (first | exact Clean.body | refine Clean.then ?_ | refine Clean.inBlock ?_ | refine SegQ.clean ?_ | refine FinC.clean ?_)) (n := 0) (rest := [[]]) [9, 10, 21, 25, 29, 30] [⟨_, _, _, _, _, _⟩, ⟨_, _, _, _, _, _⟩, ⟨_, _, _, _, _, _⟩, ⟨_, _, _, _, _, _⟩, ⟨_, _, _, _, _, _⟩, ⟨_, _, _, _, _, _⟩] rfl (by kernel_rfl) (by simp) _ _ ?_
              go_wp2_with (first
                | (show wpList _ _ _ (⟨_, .indexAddr 74 _ (.const _), _, _, _, _⟩ :: _) _ _; (first | (refine wpList_val rfl (op_indexArrZ arr8w rfl rfl rfl 0 rfl (by omega)) ?_) | (refine wpList_val rfl (op_indexArrZ arr8w rfl rfl rfl 1 rfl (by omega)) ?_) | (refine wpList_val rfl (op_indexArrZ arr8w rfl rfl rfl 2 rfl (by omega)) ?_) | (refine wpList_val rfl (op_indexArrZ arr8w rfl rfl rfl 3 rfl (by omega)) ?_) | (refine wpList_val rfl (op_indexArrZ arr8w rfl rfl rfl 4 rfl (by omega)) ?_) | (refine wpList_val rfl (op_indexArrZ arr8w rfl rfl rfl 5 rfl (by omega)) ?_) | (refine wpList_val rfl (op_indexArrZ arr8w rfl rfl rfl 6 rfl (by omega)) ?_) | (refine wpList_val rfl (op_indexArrZ arr8w rfl rfl rfl 7 rfl (by omega)) ?_)); rw [Nat.zero_add]; go_frame)
                | (show wpList _ _ _ (⟨some 136, .indexAddr _ _ _, _, _, _, _⟩ :: _) _ _; refine wpList_val rfl (op_indexArr arr64w rfl rfl (k := k) rfl (by omega)) ?_; rw [Nat.zero_add]; go_frame)
                | (show wpList _ _ _ (⟨some 140, .indexAddr _ _ _, _, _, _, _⟩ :: _) _ _; refine wpList_val rfl (op_indexArr arr64w rfl rfl (k := k) rfl (by omega)) ?_; rw [Nat.zero_add]; go_frame)
                | (show wpList _ _ _ (⟨some 137, .load _ _, _, _, _, _⟩ :: _) _ _; refine wpList_val rfl (op_loadW oneU32 ((hS.bring (by repeat (first | exact t0 | apply tS)))) rfl rfl HKK.out) ?_; go_frame)
                | (show wpList _ _ _ (⟨some 141, .load _ _, _, _, _, _⟩ :: _) _ _; refine wpList_val rfl (op_loadW oneU32 ((hS.bring (by repeat (first | exact t0 | apply tS)))) rfl rfl HSK.out) ?_; go_frame)
                | (show wpList _ _ _ (⟨_, .load 22 _, _, _, _, _⟩ :: _) _ _; refine wpList_val rfl (op_load1S oneU32 ((hS.bring (by repeat (first | exact t0 | apply tS)))) rfl rfl rfl) ?_; go_frame)
                | (show wpList _ _ _ (⟨_, .binOp .xor 22 _ _ _, _, _, _, _⟩ :: _) _ _; refine wpList_val rfl (op_bin32 rfl rfl rfl rfl) ?_; go_frame)
                | (show wpList _ _ _ (⟨_, .binOp .and 22 _ _ _, _, _, _, _⟩ :: _) _ _; refine wpList_val rfl (op_bin32 rfl rfl rfl rfl) ?_; go_frame)
                | (show wpList _ _ _ (⟨_, .binOp .or 22 _ _ _, _, _, _, _⟩ :: _) _ _; refine wpList_val rfl (op_bin32 rfl rfl rfl rfl) ?_; go_frame)
                | (show wpList _ _ _ (⟨_, .binOp .add 22 _ _ _, _, _, _, _⟩ :: _) _ _; refine wpList_val rfl (op_bin32 rfl rfl rfl rfl) ?_; go_frame)
                | (show wpList _ _ _ (⟨_, .unOp .xor 22 _, _, _, _, _⟩ :: _) _ _; refine wpList_val rfl (op_not32 rfl rfl) ?_; go_frame)
                | (go_at_call 49; (first | (with_reducible refine Ret.calls (rt_17 _) ?_) | (with_reducible refine Ret.calls (rt_19 _) ?_) | (with_reducible refine Ret.calls (rt_7 _) ?_) | (with_reducible refine Ret.calls (rt_18 _) ?_) | (with_reducible refine Ret.calls (rt_6 _) ?_) | (with_reducible refine Ret.calls (rt_11 _) ?_) | (with_reducible refine Ret.calls (rt_25 _) ?_) | (with_reducible refine Ret.calls (rt_2 _) ?_) | (with_reducible refine Ret.calls (rt_13 _) ?_) | (with_reducible refine Ret.calls (rt_22 _) ?_)); rintro r w' ⟨rfl, rfl⟩)
                )
              refine segQ_mk ⟨⟨((hS.bring (by repeat (first | exact t0 | apply tS))).getBlk), ((hS.bring (by repeat (first | exact t0 | apply tS))).getBlk)⟩, ((hS.bring (by repeat (first | exact t0 | apply tS))).getBlk)⟩ ?_
              refine finC_mk (by kernel_rfl) (by
                intro t ht
                simp only [List.mem_cons, List.not_mem_nil, or_false] at ht
                rcases ht with rfl | rfl | rfl | rfl | rfl
                · exact stab_blk (b := n11) (fun w h => h.1.1) _ none
                · exact stab_blk (b := n11) (fun w h => h.1.1) _ none
                · exact stab_blk (b := n11) (fun w h => h.1.1) _ none
                · exact stab_blk (b := n5) (fun w h => h.1.2) _ none
                · exact stab_blk (b := n6) (fun w h => h.2) _ none) ?_
              go_wp2_with (first
                | (show wpList _ _ _ (⟨_, .indexAddr 74 _ (.const _), _, _, _, _⟩ :: _) _ _; (first | (refine wpList_val rfl (op_indexArrZ arr8w rfl rfl rfl 0 rfl (by omega)) ?_) | (refine wpList_val rfl (op_indexArrZ arr8w rfl rfl rfl 1 rfl (by omega)) ?_) | (refine wpList_val rfl (op_indexArrZ arr8w rfl rfl rfl 2 rfl (by omega)) ?_) | (refine wpList_val rfl (op_indexArrZ arr8w rfl rfl rfl 3 rfl (by omega)) ?_) | (refine wpList_val rfl (op_indexArrZ arr8w rfl rfl rfl 4 rfl (by omega)) ?_) | (refine wpList_val rfl (op_indexArrZ arr8w rfl rfl rfl 5 rfl (by omega)) ?_) | (refine wpList_val rfl (op_indexArrZ arr8w rfl rfl rfl 6 rfl (by omega)) ?_) | (refine wpList_val rfl (op_indexArrZ arr8w rfl rfl rfl 7 rfl (by omega)) ?_)); rw [Nat.zero_add]; go_frame)
                | (show wpList _ _ _ (⟨_, .load 22 _, _, _, _, _⟩ :: _) _ _; refine wpList_val rfl (op_load1S oneU32 ((hS.bring (by repeat (first | exact t0 | apply tS)))) rfl rfl rfl) ?_; go_frame)
                )
              refine wp_region_ord (by kernel_rfl) [154, 158, 162, 164] [[0, 2, 5, 8, 9, 10, 11, 12, 13, 14, 15, 16, 17, 18, 19, 20, 21, 22, 1, 3, 4, 6, 7, 23, 24]] (by kernel_rfl) (by kernel_rfl) (fun w' => Blk w' n11 74 (v.list.map W32)) Up.blk ((hS.bring (by repeat (first | exact t0 | apply tS))).getBlk) (by repeat (first | exact Clean.body | refine Clean.then ?_ | refine Clean.inBlock ?_ | refine SegQ.clean ?_ | refine FinC.clean ?_)) ?_
              replace hS := hS.drew
              refine ord_seg (by repeat (first | exact Clean.body | refine Clean.then ?_ | refine Clean.inBlock ?_ | refine SegQ.clean ?_ | refine FinC.clean ?_)) (n := 6) (rest := [[3, 4, 6, 7, 23, 24]]) [0, 2, 5, 8, 9, 10, 11, 12, 13, 14, 15, 16, 17, 18, 19, 20, 21, 22, 1] [⟨_, _, _, _, _, _⟩, ⟨_, _, _, _, _, _⟩, ⟨_, _, _, _, _, _⟩, ⟨_, _, _, _, _, _⟩, ⟨_, _, _, _, _, _⟩, ⟨_, _, _, _, _, _⟩, ⟨_, _, _, _, _, _⟩, ⟨_, _, _, _, _, _⟩, ⟨_, _, _, _, _, _⟩, ⟨_, _, _, _, _, _⟩, ⟨_, _, _, _, _, _⟩, ⟨_, _, _, _, _, _⟩, ⟨_, _, _, _, _, _⟩, ⟨_, _, _, _, _, _⟩, ⟨_, _, _, _, _, _⟩, ⟨_, _, _, _, _, _⟩, ⟨_, _, _, _, _, _⟩, ⟨_, _, _, _, _, _⟩, ⟨_, _, _, _, _, _⟩] rfl (by kernel_rfl) (by simp) _ _ ?_
              go_wp2_with (first
                | (show wpList _ _ _ (⟨_, .indexAddr 74 _ (.const _), _, _, _, _⟩ :: _) _ _; (first | (refine wpList_val rfl (op_indexArrZ arr8w rfl rfl rfl 0 rfl (by omega)) ?_) | (refine wpList_val rfl (op_indexArrZ arr8w rfl rfl rfl 1 rfl (by omega)) ?_) | (refine wpList_val rfl (op_indexArrZ arr8w rfl rfl rfl 2 rfl (by omega)) ?_) | (refine wpList_val rfl (op_indexArrZ arr8w rfl rfl rfl 3 rfl (by omega)) ?_) | (refine wpList_val rfl (op_indexArrZ arr8w rfl rfl rfl 4 rfl (by omega)) ?_) | (refine wpList_val rfl (op_indexArrZ arr8w rfl rfl rfl 5 rfl (by omega)) ?_) | (refine wpList_val rfl (op_indexArrZ arr8w rfl rfl rfl 6 rfl (by omega)) ?_) | (refine wpList_val rfl (op_indexArrZ arr8w rfl rfl rfl 7 rfl (by omega)) ?_)); rw [Nat.zero_add]; go_frame)
                | (show wpList _ _ _ (⟨_, .load 22 _, _, _, _, _⟩ :: _) _ _; refine wpList_val rfl (op_load1S oneU32 ((hS.bring (by repeat (first | exact t0 | apply tS)))) rfl rfl rfl) ?_; go_frame)
                | (show wpList _ _ _ (⟨_, .binOp .xor 22 _ _ _, _, _, _, _⟩ :: _) _ _; refine wpList_val rfl (op_bin32 rfl rfl rfl rfl) ?_; go_frame)
                | (show wpList _ _ _ (⟨_, .binOp .and 22 _ _ _, _, _, _, _⟩ :: _) _ _; refine wpList_val rfl (op_bin32 rfl rfl rfl rfl) ?_; go_frame)
                | (show wpList _ _ _ (⟨_, .binOp .or 22 _ _ _, _, _, _, _⟩ :: _) _ _; refine wpList_val rfl (op_bin32 rfl rfl rfl rfl) ?_; go_frame)
                | (show wpList _ _ _ (⟨_, .binOp .add 22 _ _ _, _, _, _, _⟩ :: _) _ _; refine wpList_val rfl (op_bin32 rfl rfl rfl rfl) ?_; go_frame)
                | (show wpList _ _ _ (⟨_, .unOp .xor 22 _, _, _, _, _⟩ :: _) _ _; refine wpList_val rfl (op_not32 rfl rfl) ?_; go_frame)
                | (go_at_call 49; (first | (with_reducible refine Ret.calls (rt_17 _) ?_) | (with_reducible refine Ret.calls (rt_19 _) ?_) | (with_reducible refine Ret.calls (rt_7 _) ?_) | (with_reducible refine Ret.calls (rt_18 _) ?_) | (with_reducible refine Ret.calls (rt_6 _) ?_) | (with_reducible refine Ret.calls (rt_11 _) ?_) | (with_reducible refine Ret.calls (rt_25 _) ?_) | (with_reducible refine Ret.calls (rt_2 _) ?_) | (with_reducible refine Ret.calls (rt_13 _) ?_) | (with_reducible refine Ret.calls (rt_22 _) ?_)); rintro r w' ⟨rfl, rfl⟩)
                )
              refine segQ_mk ((hS.bring (by repeat (first | exact t0 | apply tS))).getBlk) ?_
              refine ord_seg (by repeat (first | exact Clean.body | refine Clean.then ?_ | refine Clean.inBlock ?_ | refine SegQ.clean ?_ | refine FinC.clean ?_)) (n := 5) (rest := [[4, 6, 7, 23, 24]]) [3] [⟨_, _, _, _, _, _⟩] rfl (by kernel_rfl) (by simp) _ _ ?_
              go_wp2_with (first
                | (show wpList _ _ _ (⟨_, .indexAddr 74 _ (.const _), _, _, _, _⟩ :: _) _ _; (first | (refine wpList_val rfl (op_indexArrZ arr8w rfl rfl rfl 0 rfl (by omega)) ?_) | (refine wpList_val rfl (op_indexArrZ arr8w rfl rfl rfl 1 rfl (by omega)) ?_) | (refine wpList_val rfl (op_indexArrZ arr8w rfl rfl rfl 2 rfl (by omega)) ?_) | (refine wpList_val rfl (op_indexArrZ arr8w rfl rfl rfl 3 rfl (by omega)) ?_) | (refine wpList_val rfl (op_indexArrZ arr8w rfl rfl rfl 4 rfl (by omega)) ?_) | (refine wpList_val rfl (op_indexArrZ arr8w rfl rfl rfl 5 rfl (by omega)) ?_) | (refine wpList_val rfl (op_indexArrZ arr8w rfl rfl rfl 6 rfl (by omega)) ?_) | (refine wpList_val rfl (op_indexArrZ arr8w rfl rfl rfl 7 rfl (by omega)) ?_)); rw [Nat.zero_add]; go_frame)
                | (show wpList _ _ _ (⟨_, .load 22 _, _, _, _, _⟩ :: _) _ _; refine wpList_val rfl (op_load1S oneU32 ((hS.bring (by repeat (first | exact t0 | apply tS)))) rfl rfl rfl) ?_; go_frame)
                | (show wpList _ _ _ (⟨_, .binOp .xor 22 _ _ _, _, _, _, _⟩ :: _) _ _; refine wpList_val rfl (op_bin32 rfl rfl rfl rfl) ?_; go_frame)
                | (show wpList _ _ _ (⟨_, .binOp .and 22 _ _ _, _, _, _, _⟩ :: _) _ _; refine wpList_val rfl (op_bin32 rfl rfl rfl rfl) ?_; go_frame)
                | (show wpList _ _ _ (⟨_, .binOp .or 22 _ _ _, _, _, _, _⟩ :: _) _ _; refine wpList_val rfl (op_bin32 rfl rfl rfl rfl) ?_; go_frame)
                | (show wpList _ _ _ (⟨_, .binOp .add 22 _ _ _, _, _, _, _⟩ :: _) _ _; refine wpList_val rfl (op_bin32 rfl rfl rfl rfl) ?_; go_frame)
                | (show wpList _ _ _ (⟨_, .unOp .xor 22 _, _, _, _, _⟩ :: _) _ _; refine wpList_val rfl (op_not32 rfl rfl) ?_; go_frame)
                | (go_at_call 49; (first | (with_reducible refine Ret.calls (rt_17 _) ?_) | (with_reducible refine Ret.calls (rt_19 _) ?_) | (with_reducible refine Ret.calls (rt_7 _) ?_) | (with_reducible refine Ret.calls (rt_18 _) ?_) | (with_reducible refine Ret.calls (rt_6 _) ?_) | (with_reducible refine Ret.calls (rt_11 _) ?_) | (with_reducible refine Ret.calls (rt_25 _) ?_) | (with_reducible refine Ret.calls (rt_2 _) ?_) | (with_reducible refine Ret.calls (rt_13 _) ?_) | (with_reducible refine Ret.calls (rt_22 _) ?_)); rintro r w' ⟨rfl, rfl⟩)
                )
              refine segQ_mk ((hS.bring (by repeat (first | exact t0 | apply tS))).getBlk) ?_
              refine ord_seg (by repeat (first | exact Clean.body | refine Clean.then ?_ | refine Clean.inBlock ?_ | refine SegQ.clean ?_ | refine FinC.clean ?_)) (n := 3) (rest := [[7, 23, 24]]) [4, 6] [⟨_, _, _, _, _, _⟩, ⟨_, _, _, _, _, _⟩] rfl (by kernel_rfl) (by simp) _ _ ?_
              go_wp2_with (first
                | (show wpList _ _ _ (⟨_, .indexAddr 74 _ (.const _), _, _, _, _⟩ :: _) _ _; (first | (refine wpList_val rfl (op_indexArrZ arr8w rfl rfl rfl 0 rfl (by omega)) ?_) | (refine wpList_val rfl (op_indexArrZ arr8w rfl rfl rfl 1 rfl (by omega)) ?_) | (refine wpList_val rfl (op_indexArrZ arr8w rfl rfl rfl 2 rfl (by omega)) ?_) | (refine wpList_val rfl (op_indexArrZ arr8w rfl rfl rfl 3 rfl (by omega)) ?_) | (refine wpList_val rfl (op_indexArrZ arr8w rfl rfl rfl 4 rfl (by omega)) ?_) | (refine wpList_val rfl (op_indexArrZ arr8w rfl rfl rfl 5 rfl (by omega)) ?_) | (refine wpList_val rfl (op_indexArrZ arr8w rfl rfl rfl 6 rfl (by omega)) ?_) | (refine wpList_val rfl (op_indexArrZ arr8w rfl rfl rfl 7 rfl (by omega)) ?_)); rw [Nat.zero_add]; go_frame)
                | (show wpList _ _ _ (⟨_, .load 22 _, _, _, _, _⟩ :: _) _ _; refine wpList_val rfl (op_load1S oneU32 ((hS.bring (by repeat (first | exact t0 | apply tS)))) rfl rfl rfl) ?_; go_frame)
                | (show wpList _ _ _ (⟨_, .binOp .xor 22 _ _ _, _, _, _, _⟩ :: _) _ _; refine wpList_val rfl (op_bin32 rfl rfl rfl rfl) ?_; go_frame)
                | (show wpList _ _ _ (⟨_, .binOp .and 22 _ _ _, _, _, _, _⟩ :: _) _ _; refine wpList_val rfl (op_bin32 rfl rfl rfl rfl) ?_; go_frame)
                | (show wpList _ _ _ (⟨_, .binOp .or 22 _ _ _, _, _, _, _⟩ :: _) _ _; refine wpList_val rfl (op_bin32 rfl rfl rfl rfl) ?_; go_frame)
                | (show wpList _ _ _ (⟨_, .binOp .add 22 _ _ _, _, _, _, _⟩ :: _) _ _; refine wpList_val rfl (op_bin32 rfl rfl rfl rfl) ?_; go_frame)
                | (show wpList _ _ _ (⟨_, .unOp .xor 22 _, _, _, _, _⟩ :: _) _ _; refine wpList_val rfl (op_not32 rfl rfl) ?_; go_frame)
                | (go_at_call 49; (first | (with_reducible refine Ret.calls (rt_17 _) ?_) | (with_reducible refine Ret.calls (rt_19 _) ?_) | (with_reducible refine Ret.calls (rt_7 _) ?_) | (with_reducible refine Ret.calls (rt_18 _) ?_) | (with_reducible refine Ret.calls (rt_6 _) ?_) | (with_reducible refine Ret.calls (rt_11 _) ?_) | (with_reducible refine Ret.calls (rt_25 _) ?_) | (with_reducible refine Ret.calls (rt_2 _) ?_) | (with_reducible refine Ret.calls (rt_13 _) ?_) | (with_reducible refine Ret.calls (rt_22 _) ?_)); rintro r w' ⟨rfl, rfl⟩)
                )
              refine segQ_mk ((hS.bring (by repeat (first | exact t0 | apply tS))).getBlk) ?_
              refine ord_seg (by repeat (first | exact Clean.body | refine Clean.then ?_ | refine Clean.inBlock ?_ | refine SegQ.clean ?_ | refine FinC.clean ?_)) (n := 0) (rest := [[]]) [7, 23, 24] [⟨_, _, _, _, _, _⟩, ⟨_, _, _, _, _, _⟩, ⟨_, _, _, _, _, _⟩] rfl (by kernel_rfl) (by simp) _ _ ?_
              go_wp2_with (first
                | (show wpList _ _ _ (⟨_, .indexAddr 74 _ (.const _), _, _, _, _⟩ :: _) _ _; (first | (refine wpList_val rfl (op_indexArrZ arr8w rfl rfl rfl 0 rfl (by omega)) ?_) | (refine wpList_val rfl (op_indexArrZ arr8w rfl rfl rfl 1 rfl (by omega)) ?_) | (refine wpList_val rfl (op_indexArrZ arr8w rfl rfl rfl 2 rfl (by omega)) ?_) | (refine wpList_val rfl (op_indexArrZ arr8w rfl rfl rfl 3 rfl (by omega)) ?_) | (refine wpList_val rfl (op_indexArrZ arr8w rfl rfl rfl 4 rfl (by omega)) ?_) | (refine wpList_val rfl (op_indexArrZ arr8w rfl rfl rfl 5 rfl (by omega)) ?_) | (refine wpList_val rfl (op_indexArrZ arr8w rfl rfl rfl 6 rfl (by omega)) ?_) | (refine wpList_val rfl (op_indexArrZ arr8w rfl rfl rfl 7 rfl (by omega)) ?_)); rw [Nat.zero_add]; go_frame)
                | (show wpList _ _ _ (⟨_, .load 22 _, _, _, _, _⟩ :: _) _ _; refine wpList_val rfl (op_load1S oneU32 ((hS.bring (by repeat (first | exact t0 | apply tS)))) rfl rfl rfl) ?_; go_frame)
                | (show wpList _ _ _ (⟨_, .binOp .xor 22 _ _ _, _, _, _, _⟩ :: _) _ _; refine wpList_val rfl (op_bin32 rfl rfl rfl rfl) ?_; go_frame)
                | (show wpList _ _ _ (⟨_, .binOp .and 22 _ _ _, _, _, _, _⟩ :: _) _ _; refine wpList_val rfl (op_bin32 rfl rfl rfl rfl) ?_; go_frame)
                | (show wpList _ _ _ (⟨_, .binOp .or 22 _ _ _, _, _, _, _⟩ :: _) _ _; refine wpList_val rfl (op_bin32 rfl rfl rfl rfl) ?_; go_frame)
                | (show wpList _ _ _ (⟨_, .binOp .add 22 _ _ _, _, _, _, _⟩ :: _) _ _; refine wpList_val rfl (op_bin32 rfl rfl rfl rfl) ?_; go_frame)
                | (show wpList _ _ _ (⟨_, .unOp .xor 22 _, _, _, _, _⟩ :: _) _ _; refine wpList_val rfl (op_not32 rfl rfl) ?_; go_frame)
                | (go_at_call 49; (first | (with_reducible refine Ret.calls (rt_17 _) ?_) | (with_reducible refine Ret.calls (rt_19 _) ?_) | (with_reducible refine Ret.calls (rt_7 _) ?_) | (with_reducible refine Ret.calls (rt_18 _) ?_) | (with_reducible refine Ret.calls (rt_6 _) ?_) | (with_reducible refine Ret.calls (rt_11 _) ?_) | (with_reducible refine Ret.calls (rt_25 _) ?_) | (with_reducible refine Ret.calls (rt_2 _) ?_) | (with_reducible refine Ret.calls (rt_13 _) ?_) | (with_reducible refine Ret.calls (rt_22 _) ?_)); rintro r w' ⟨rfl, rfl⟩)
                )
              refine segQ_mk ((hS.bring (by repeat (first | exact t0 | apply tS))).getBlk) ?_
              refine finC_mk (by kernel_rfl) (by
                intro t ht
                simp only [List.mem_cons, List.not_mem_nil, or_false] at ht
                rcases ht with rfl | rfl | rfl | rfl <;> exact stab_blk (b := n11) (fun w h => h) _ none) ?_
              go_wp2_with (first
                | (show wpList _ _ _ (⟨_, .indexAddr 74 _ (.const _), _, _, _, _⟩ :: _) _ _; (first | (refine wpList_val rfl (op_indexArrZ arr8w rfl rfl rfl 0 rfl (by omega)) ?_) | (refine wpList_val rfl (op_indexArrZ arr8w rfl rfl rfl 1 rfl (by omega)) ?_) | (refine wpList_val rfl (op_indexArrZ arr8w rfl rfl rfl 2 rfl (by omega)) ?_) | (refine wpList_val rfl (op_indexArrZ arr8w rfl rfl rfl 3 rfl (by omega)) ?_) | (refine wpList_val rfl (op_indexArrZ arr8w rfl rfl rfl 4 rfl (by omega)) ?_) | (refine wpList_val rfl (op_indexArrZ arr8w rfl rfl rfl 5 rfl (by omega)) ?_) | (refine wpList_val rfl (op_indexArrZ arr8w rfl rfl rfl 6 rfl (by omega)) ?_) | (refine wpList_val rfl (op_indexArrZ arr8w rfl rfl rfl 7 rfl (by omega)) ?_)); rw [Nat.zero_add]; go_frame)
                | (show wpList _ _ _ (⟨_, .load 22 _, _, _, _, _⟩ :: _) _ _; refine wpList_val rfl (op_load1S oneU32 ((hS.bring (by repeat (first | exact t0 | apply tS)))) rfl rfl rfl) ?_; go_frame)
                | (show wpList _ _ _ (⟨_, .binOp .xor 22 _ _ _, _, _, _, _⟩ :: _) _ _; refine wpList_val rfl (op_bin32 rfl rfl rfl rfl) ?_; go_frame)
                | (show wpList _ _ _ (⟨_, .binOp .and 22 _ _ _, _, _, _, _⟩ :: _) _ _; refine wpList_val rfl (op_bin32 rfl rfl rfl rfl) ?_; go_frame)
                | (show wpList _ _ _ (⟨_, .binOp .or 22 _ _ _, _, _, _, _⟩ :: _) _ _; refine wpList_val rfl (op_bin32 rfl rfl rfl rfl) ?_; go_frame)
                | (show wpList _ _ _ (⟨_, .binOp .add 22 _ _ _, _, _, _, _⟩ :: _) _ _; refine wpList_val rfl (op_bin32 rfl rfl rfl rfl) ?_; go_frame)
                | (show wpList _ _ _ (⟨_, .unOp .xor 22 _, _, _, _, _⟩ :: _) _ _; refine wpList_val rfl (op_not32 rfl rfl) ?_; go_frame)
                | (show wpList _ _ _ (⟨_, .build _ _, _, _, _, _⟩ :: _) _ _; refine wpList_val rfl (op_build (ps := #[(0, W32 (round v gk gs).a), (1, W32 v.a), (2, W32 v.b), (3, W32 v.c), (4, W32 (round v gk gs).e), (5, W32 v.e), (6, W32 v.f), (7, W32 v.g)]) rfl rfl (build8w _ _ _ _ _ _ _ _) _) ?_; go_frame)
                | (show wpList _ _ _ (⟨_, .store 74 _ _, _, _, _, _⟩ :: _) _ _; (refine wpS_storeAll agg8w (hS.bring (by repeat (first | exact t0 | apply tS))) rfl rfl rfl (vs := (round v gk gs).list.map W32) rfl rfl (oneW _) rfl ?_); clear hS; intro w hS; rw [← HRK.out] at hS; go_frame)
                )
              go_roundw
              case rel => exact ⟨k + 1, by go_num, by omega, hS.sel (by repeat (first | exact Sel.refl | refine Sel.take (by repeat (first | exact t0 | apply tS)) ?_ | apply Sel.drop))⟩
              case measure => simp [intOf]; omega
            · have hk3 : k = 64 := by omega
              subst hk3
              rw [show ((64 : Nat) : Int) = 64 from rfl]
              have HCE2 := HCE.out
              generalize rs 64 = v at *
              have HAL : Hid ((addSt s v).list.length = 8) := rfl
              have HBL : Hid (s.list.length = 8) := rfl
              go_wp2_with fail
              have HS0 : SepL R base wr (.blk n2 74 ((mix (addSt s v).list s.list 0).map W32) :: .blk n11 74 (v.list.map W32) :: .blk n4 74 ((List.replicate 8 (0 : Word)).map W32) :: F) := by
                rw [mix_zero]
                exact hS.sel (by repeat (first | exact Sel.refl | refine Sel.take (by repeat (first | exact t0 | apply tS)) ?_ | apply Sel.drop))
              clear hS
              go_loopw [190] (fun i wr => ∃ m : Nat, i = .int .i64 m ∧ m ≤ 8 ∧ SepL R base wr (.blk n2 74 ((mix (addSt s v).list s.list m).map W32) :: .blk n11 74 (v.list.map W32) :: .blk n4 74 ((List.replicate 8 (0 : Word)).map W32) :: F)) (fun i _ => 8 - (intOf i).toNat)
              case atStart => exact ⟨0, rfl, by omega, HS0⟩
              case round =>
                clear HS0
                obtain ⟨m, rfl, hm, hS⟩ := hrel
                by_cases hlm : m < 8
                · obtain ⟨x, y, hx, hy, hxy⟩ := addSt_at s v hlm
                  have HX : Hid ((mix (addSt s v).list s.list m)[m]? = some x) := (mix_get HAL.out hlm).trans hx
                  have HY := hide hy
                  have hma : m < (addSt s v).list.length := hlm
                  have hav : (addSt s v).list[m] = x + y := Option.some.inj ((List.getElem?_eq_getElem hma).symm.trans hxy)
                  have HMS : Hid ((mix (addSt s v).list s.list m).set m (x + y) = mix (addSt s v).list s.list (m + 1)) := by
                    unfold Hid
                    rw [← hav]
                    exact mix_set HAL.out HBL.out hma
                  have HML := hide (mix_len (i := m) HAL.out HBL.out (by omega))
                  clear hx hy hxy hav hma
                  go_wp2_with fail
                  refine wp_region_text (by kernel_rfl) (by kernel_rfl) (by repeat (first | exact Clean.body | refine Clean.then ?_ | refine Clean.inBlock ?_)) ?_
                  replace hS := hS.drew
                  go_wp2_with (first
                    | (show wpList _ _ _ (⟨_, .indexAddr _ _ _, _, _, _, _⟩ :: _) _ _; refine wpList_val rfl (op_indexArr arr8w rfl rfl (k := m) rfl (by omega)) ?_; rw [Nat.zero_add]; go_frame)
                    | (show wpList _ _ _ (⟨some 195, .load _ _, _, _, _, _⟩ :: _) _ _; refine wpList_val rfl (op_loadW oneU32 ((hS.bring (by repeat (first | exact t0 | apply tS)))) rfl rfl HX.out) ?_; go_frame)
                    | (show wpList _ _ _ (⟨some 198, .load _ _, _, _, _, _⟩ :: _) _ _; refine wpList_val rfl (op_loadW oneU32 ((hS.bring (by repeat (first | exact t0 | apply tS)))) rfl rfl HY.out) ?_; go_frame)
                    | (show wpList _ _ _ (⟨_, .binOp .xor 22 _ _ _, _, _, _, _⟩ :: _) _ _; refine wpList_val rfl (op_bin32 rfl rfl rfl rfl) ?_; go_frame)
                    | (show wpList _ _ _ (⟨_, .binOp .and 22 _ _ _, _, _, _, _⟩ :: _) _ _; refine wpList_val rfl (op_bin32 rfl rfl rfl rfl) ?_; go_frame)
                    | (show wpList _ _ _ (⟨_, .binOp .or 22 _ _ _, _, _, _, _⟩ :: _) _ _; refine wpList_val rfl (op_bin32 rfl rfl rfl rfl) ?_; go_frame)
                    | (show wpList _ _ _ (⟨_, .binOp .add 22 _ _ _, _, _, _, _⟩ :: _) _ _; refine wpList_val rfl (op_bin32 rfl rfl rfl rfl) ?_; go_frame)
                    | (show wpList _ _ _ (⟨_, .unOp .xor 22 _, _, _, _, _⟩ :: _) _ _; refine wpList_val rfl (op_not32 rfl rfl) ?_; go_frame)
                    | (show wpList _ _ _ (⟨_, .store 22 _ _, _, _, _, _⟩ :: _) _ _; (refine wpS_storeF (f := W32) (us := mix (addSt s v).list s.list m) sizeU32 (hS.bring (by repeat (first | exact t0 | apply tS))) rfl rfl rfl (v := x + y) rfl rfl rfl (by rw [HML.out]; omega) ?_); clear hS; intro w hS; rw [HMS.out] at hS; go_frame)
                    )
                  refine fin_mk (by kernel_rfl) ?_
                  go_wp2_with fail
                  go_roundw
                  case rel => exact ⟨m + 1, by go_num, by omega, hS.sel (by repeat (first | exact Sel.refl | refine Sel.take (by repeat (first | exact t0 | apply tS)) ?_ | apply Sel.drop))⟩
                  case measure => simp [intOf]; omega
                · have hm2 : m = 8 := by omega
                  subst hm2
                  rw [mix_all HAL.out HBL.out, ← HCE2] at hS
                  go_wp2_with (first
                    | (show wpList _ _ _ (⟨_, .load 74 _, _, _, _, _⟩ :: _) _ _; refine wpList_val rfl (op_load agg8w rfl rfl ((hS.bring (by repeat (first | exact t0 | apply tS))).getBlk.cells) rfl) ?_; go_frame)
                    | (show wpList _ _ _ (⟨_, .store 74 _ _, _, _, _, _⟩ :: _) _ _; (refine wpS_storeAll agg8w (hS.bring (by repeat (first | exact t0 | apply tS))) rfl rfl rfl (vs := cs.list.map W32) rfl rfl (oneW _) rfl ?_); clear hS; intro w hS; go_frame)
                    )
                  exact ret_cell (b := n4) agg8w rfl rfl rfl ((hS.bring (by repeat (first | exact t0 | apply tS))).getBlk) rfl ⟨rfl, hS.sel (by repeat (first | exact Sel.refl | refine Sel.take (by repeat (first | exact t0 | apply tS)) ?_ | apply Sel.drop))⟩
end
end Go.Proofs.YtieobcaegegboaaDoor
namespace Go.Proofs.YtieobcaegegboaaDoor
open Go.RowKit Go.Px Go.Sha
theorem op_isubI {P : Program} {o : Oper} {w : World} {ρ : Operand → Value} {t t' : TypeId} {x y : Operand} (ho : o.op = .binOp .sub t x y t') {a b : Int} (hx : ρ x = .int .i64 a) (hy : ρ y = .int .i64 b) (z : Int) (hz : a - b = z) (h1 : -9223372036854775808 ≤ z) (h2 : z ≤ 9223372036854775807) : (execOp ρ o).run P w = .ok (.value (.int .i64 z)) w := by
  have e : IntKind.i64.wrap (a - b) = z := by rw [hz]; exact IntWalk.i64_in _ (by omega)
  unfold execOp
  simp only [ho, hx, hy, Sem.run_bind, run_eqGuard_int, Result.andThen_ok, binOp, ne_eq, not_true_eq_false, if_false, Op.intArith, Sem.run_pure, e]
theorem op_N64mul8 {P : Program} {o : Oper} {w : World} {ρ : Operand → Value} {t t' : TypeId} {x y : Operand} (ho : o.op = .binOp .mul t x y t') {n : Nat} (hx : ρ x = N64 n) (hy : ρ y = .int .u64 8) : (execOp ρ o).run P w = .ok (.value (W64 (bitsOf n))) w := by
  have h := run_bin64 (P := P) (op := .mul) rfl t (BitVec.ofNat 64 n) 8#64 w
  have e : BitVec.ofNat 64 n * 8#64 = bitsOf n := by
    unfold bitsOf
    apply BitVec.eq_of_toNat_eq
    rw [BitVec.toNat_mul, BitVec.toNat_shiftLeft, Nat.shiftLeft_eq]
    rfl
  unfold execOp
  have hy2 : ρ y = W64 8#64 := hy
  rw [show N64 n = W64 (BitVec.ofNat 64 n) from rfl] at hx
  simp only [ho, hx, hy2, Sem.run_bind, show W64 (BitVec.ofNat 64 n) = .int .u64 ((BitVec.ofNat 64 n).toNat : Int) from rfl, show W64 8#64 = .int .u64 ((8#64 : BitVec 64).toNat : Int) from rfl, run_eqGuard_int, Result.andThen_ok]
  have h' := h
  rw [show W64 (BitVec.ofNat 64 n) = .int .u64 ((BitVec.ofNat 64 n).toNat : Int) from rfl, show W64 8#64 = .int .u64 ((8#64 : BitVec 64).toNat : Int) from rfl] at h'
  rw [h']
  simp only [Result.andThen_ok, Sem.run_pure]
  rw [e]
theorem b1 (x : Byte) : [[B8 x]] = bytes [x] := rfl
theorem be8_take (n : Nat) {m : Nat} (h : m < 8) : (be8 (bitsOf n)).take m ++ [szAt n m] = (be8 (bitsOf n)).take (m + 1) := by
  have e : (be8 (bitsOf n))[m]? = some (szAt n m) := by
    rw [← sz_all, List.getElem?_map, List.getElem?_range h]
    rfl
  rw [List.take_add_one, e]
  rfl
theorem sz_shift (n : Nat) {m q s8 : Nat} (h : q + m = 7) (h8 : 8 * q = s8) : (bitsOf n >>> s8).setWidth 8 = szAt n m := by
  rw [← szAt_eq, show 56 - 8 * m = s8 by omega]
  rfl
section
variable {R : Nat → Prop} {base w : World} {F : List Hp}
set_option maxRecDepth 100000 in
set_option maxHeartbeats 4000000 in
theorem rsum_s (hS : SepL R base w F) {v : Value} {bs : List Byte} (hv : RdIn R base 1 v (bytes bs)) (hn0 : bs.length ≤ 1099511627776) :
    Calls Tryd.prog 16 #[v] w (Ret fun r w' => r = HV (sum bs) ∧ SepL R base w' F) := by
  obtain ⟨n, hn⟩ : ∃ n, bs.length = n := ⟨_, rfl⟩
  have HN := hide hn
  rw [hn] at hn0
  have HFB : Hid (Flat (bytes bs)) := flat_bytes bs
  obtain ⟨bb, hbb⟩ : ∃ b, bitsOf n = b := ⟨_, rfl⟩
  have HBB := hide hbb
  clear hbb
  go_enter Tryd.func16, Tryd.ntmps16
  go_wp2_with (first
    | (show wpList _ _ _ (⟨some 2, .alloc _, _, _, _, _⟩ :: _) _ _; refine wpS_alloc hS rfl rfl zero32b (zs := (List.replicate 32 (0 : Byte)).map B8) rfl ?_; clear hS; intro n2 w hS; go_frame)
    | (show wpList _ _ _ (⟨some 13, .call _, _, _, _, _⟩ :: _) _ _; refine wpList_val rfl (op_lenB slBytes rfl rfl rfl (hS.rd hv) HN.out) ?_; go_frame)
    | (show wpList _ _ _ (⟨some 14, .convert _ _ _, _, _, _, _⟩ :: _) _ _; refine wpList_val rfl (op_natN64 undInt undU64 rfl rfl) ?_; go_frame)
    | (show wpList _ _ _ (⟨some 15, .binOp _ _ _ _ _, _, _, _, _⟩ :: _) _ _; refine wpList_val rfl (op_N64mul8 rfl rfl rfl) ?_; rw [HBB.out]; go_frame)
    | (show wpList _ _ _ (⟨some 16, .buildSlice _ 0 _, _, _, _, _⟩ :: _) _ _; refine wpS_build0 slBytes hS rfl rfl ?_; clear hS; intro v16 w hS; go_frame)
    | (show wpList _ _ _ (⟨some 18, .call _, _, _, _, _⟩ :: _) _ _; (refine wpS_append slBytes (hS.bring (by repeat (first | exact t0 | apply tS))) rfl rfl rfl rfl (hS.rd hv) HFB.out (by rw [bytes_len, HN.out, List.length_nil]; omega) (by rw [bytes_len, HN.out, List.length_nil]; simp only [maxLen]; omega) ?_); clear hS; intro v18 w hS; rw [List.nil_append] at hS; go_frame)
    | (show wpList _ _ _ (⟨some 19, .buildSlice _ 1 _, _, _, _, _⟩ :: _) _ _; refine wpS_build11 slBytes hS rfl rfl rfl rfl ?_; clear hS; intro v19 w hS; rw [b80] at hS; go_frame)
    | (show wpList _ _ _ (⟨some 20, .call _, _, _, _, _⟩ :: _) _ _; (refine wpS_append slBytes (hS.bring (by repeat (first | exact t0 | apply tS))) rfl rfl rfl rfl ((hS.bring (by repeat (first | exact t0 | apply tS))).getOwn.rd) (flat_bytes _) (by rw [bytes_len, bytes_len, HN.out]; simp only [List.length_cons, List.length_nil]; omega) (by rw [bytes_len, bytes_len, HN.out]; simp only [List.length_cons, List.length_nil, maxLen]; omega) ?_); clear hS; intro v20 w hS; rw [← bytes_app, padTo_zero] at hS; go_frame)
    )
  have hl64 : lack (n + 1) < 64 := by unfold lack; omega
  go_loopw [4] (fun u wr => ∃ j : Nat, j ≤ lack (n + 1) ∧ SepL R base wr (.own 5 1 u (bytes (padTo bs j)) :: .blk n2 34 ((List.replicate 32 (0 : Byte)).map B8) :: F)) (fun u _ => lack (slLen u))
  case atStart => exact ⟨0, by omega, hS.sel (by repeat (first | exact Sel.refl | refine Sel.take (by repeat (first | exact t0 | apply tS)) ?_ | apply Sel.drop))⟩
  case round =>
    clear hS
    obtain ⟨j, hj, hS⟩ := hrel
    obtain ⟨L, hL⟩ : ∃ L, n + 1 + j = L := ⟨_, rfl⟩
    obtain ⟨r, hr⟩ : ∃ r, L % 64 = r := ⟨_, rfl⟩
    have HR := hide hr
    have HL : Hid ((padTo bs j).length = L) := by
      unfold Hid
      rw [padTo_len, hn, hL]
    have HPS := hide (padTo_succ bs j)
    have HSL : Hid (slLen u4 = L) := by
      unfold Hid
      obtain ⟨A, c, e, _⟩ := hS.getOwn.rd.form
      rw [e]
      show (bytes (padTo bs j)).length = _
      rw [bytes_len, HL.out]
    have hlk : lack (n + 1) = (120 - (n + 1) % 64) % 64 := rfl
    by_cases hc56 : r = 56
    · subst hc56
      have hjj : j = lack (n + 1) := by omega
      have HPA : padTo bs j ++ be8 bb = padded bs := by
        rw [hjj, ← hn, ← HBB.out, ← hn]
        exact padTo_all bs
      have HTK : ∀ {m q s8 : Nat}, q + m = 7 → 8 * q = s8 → (padTo bs j ++ (be8 bb).take m) ++ [(bb >>> s8).setWidth 8] = padTo bs j ++ (be8 bb).take (m + 1) := fun {m q s8} h1 h2 => by
        rw [← HBB.out, sz_shift n h1 h2, List.append_assoc, be8_take n (by omega)]
      have hb8 : (be8 bb).length = 8 := be8_length bb
      obtain ⟨q, hq⟩ : ∃ q, (padded bs).length = 64 * q := ⟨(padded bs).length / 64, by have := padded_length bs; omega⟩
      have hsum := sum_blocks bs
      rw [hq, Nat.mul_div_cancel_left q (by omega)] at hsum
      have hM : (padded bs).length = L + 8 := by rw [padded_len2, hn]; omega
      have hP0 := HL.out
      clear hlk hr HPS HSL hjj HBB
      generalize padded bs = PD at *
      generalize padTo bs j = P0 at *
      go_wp2_with (first
        | (show wpList _ _ _ (⟨some 22, .call _, _, _, _, _⟩ :: _) _ _; refine wpList_val rfl (op_lenB slBytes rfl rfl rfl ((hS.bring (by repeat (first | exact t0 | apply tS))).getOwn.rd) HL.out) ?_; go_frame)
        | (show wpList _ _ _ (⟨some 23, .binOp .rem _ _ _ _, _, _, _, _⟩ :: _) _ _; refine wpList_val rfl (op_iremN rfl rfl (b := 64) rfl (by omega)) ?_; rw [HR.out]; go_frame)
        )
      have HS0 : SepL R base wr (.own 5 1 u4 (bytes (P0 ++ (be8 bb).take 0)) :: .blk n2 34 ((List.replicate 32 (0 : Byte)).map B8) :: F) := by
        rw [List.take_zero, List.append_nil]
        exact hS
      clear hS
      go_loopw [5, 4] (fun i u wr => ∃ (m : Nat) (z : Int), i = .int .i64 z ∧ z = 7 - (m : Int) ∧ m ≤ 8 ∧ SepL R base wr (.own 5 1 u (bytes (P0 ++ (be8 bb).take m)) :: .blk n2 34 ((List.replicate 32 (0 : Byte)).map B8) :: F)) (fun i _ _ => (intOf i + 1).toNat)
      case atStart => exact ⟨0, 7, rfl, rfl, by omega, HS0⟩
      case round =>
        clear HS0
        obtain ⟨m, z, rfl, hz, hm, hS⟩ := hrel
        by_cases hlm : m < 8
        · obtain ⟨qq, hqq⟩ : ∃ q : Nat, q + m = 7 := ⟨7 - m, by omega⟩
          have hzq : z = (qq : Int) := by omega
          subst hzq
          obtain ⟨s8, hs8⟩ : ∃ s, 8 * qq = s := ⟨_, rfl⟩
          have HTT := hide (HTK hqq hs8)
          have HGE : Hid (decide ((0 : Int) ≤ (qq : Int)) = true) := by
            unfold Hid
            rw [decide_eq_true_iff]
            omega
          have HTL : Hid ((P0 ++ (be8 bb).take m).length = L + m) := by
            unfold Hid
            rw [List.length_append, hP0, List.length_take, hb8]
            omega
          obtain ⟨z', hz'⟩ : ∃ z : Int, (qq : Int) - 1 = z := ⟨_, rfl⟩
          clear hz HTK
          go_wp2_with (first
            | (show wpList _ _ _ (⟨some 29, .binOp _ _ _ _ _, _, _, _, _⟩ :: _) _ _; refine wpList_val rfl (op_igeq rfl rfl rfl HGE.out) ?_; go_frame)
            | (show wpList _ _ _ (⟨some 35, .binOp _ _ _ _ _, _, _, _, _⟩ :: _) _ _; refine wpList_val rfl (op_imulN rfl rfl rfl s8 (by omega) (by omega)) ?_; go_frame)
            | (show wpList _ _ _ (⟨some 36, .convert _ _ _, _, _, _, _⟩ :: _) _ _; refine wpList_val rfl (op_i64u64 undInt undUint rfl rfl (by omega)) ?_; go_frame)
            | (show wpList _ _ _ (⟨some 37, .binOp _ _ _ _ _, _, _, _, _⟩ :: _) _ _; refine wpList_val rfl (op_shr64 rfl rfl (c := s8) rfl) ?_; go_frame)
            | (show wpList _ _ _ (⟨some 38, .convert _ _ _, _, _, _, _⟩ :: _) _ _; refine wpList_val rfl (op_64to8 undU64 undU8 rfl rfl) ?_; go_frame)
            | (show wpList _ _ _ (⟨some 39, .buildSlice _ _ _, _, _, _, _⟩ :: _) _ _; refine wpS_build11 slBytes hS rfl rfl rfl rfl ?_; clear hS; intro v39 w hS; rw [b1] at hS; go_frame)
            | (show wpList _ _ _ (⟨some 40, .call _, _, _, _, _⟩ :: _) _ _; (refine wpS_append slBytes (hS.bring (by repeat (first | exact t0 | apply tS))) rfl rfl rfl rfl ((hS.bring (by repeat (first | exact t0 | apply tS))).getOwn.rd) (flat_bytes _) (by rw [bytes_len, bytes_len, HTL.out]; simp only [List.length_cons, List.length_nil]; omega) (by rw [bytes_len, bytes_len, HTL.out]; simp only [List.length_cons, List.length_nil, maxLen]; omega) ?_); clear hS; intro v40 w hS; rw [← bytes_app, HTT.out] at hS; go_frame)
            | (show wpList _ _ _ (⟨some 31, .binOp _ _ _ _ _, _, _, _, _⟩ :: _) _ _; refine wpList_val rfl (op_isubI rfl rfl rfl z' (by omega) (by omega) (by omega)) ?_; go_frame)
            )
          go_roundw
          case rel => exact ⟨m + 1, z', rfl, by omega, by omega, hS.sel (by repeat (first | exact Sel.refl | refine Sel.take (by repeat (first | exact t0 | apply tS)) ?_ | apply Sel.drop))⟩
          case measure => simp [intOf]; omega
        · have hm8 : m = 8 := by omega
          subst hm8
          have hz1 : z = -1 := by omega
          subst hz1
          rw [List.take_of_length_le (by omega), HPA] at hS
          have HM1 : Hid (decide ((0 : Int) ≤ -1) = false) := rfl
          clear HPA HTK hz
          go_wp2_with (first
            | (show wpList _ _ _ (⟨some 29, .binOp _ _ _ _ _, _, _, _, _⟩ :: _) _ _; refine wpList_val rfl (op_igeq rfl rfl rfl HM1.out) ?_; go_frame)
            | (go_at_call 33; refine Ret.calls (rfirst_s hS) ?_; clear hS; rintro r w ⟨rfl, hS⟩)
            | (show wpList _ _ _ (⟨_, .alloc 74, _, _, _, _⟩ :: _) _ _; refine wpS_alloc hS rfl rfl zero8w (zs := (List.replicate 8 (0 : Word)).map W32) rfl ?_; clear hS; intro n6 w hS; go_frame)
            | (show wpList _ _ _ (⟨_, .store 74 _ _, _, _, _, _⟩ :: _) _ _; (refine wpS_storeAll agg8w (hS.bring (by repeat (first | exact t0 | apply tS))) rfl rfl rfl (vs := firstSt.list.map W32) rfl rfl (oneW _) rfl ?_); clear hS; intro w hS; go_frame)
            )
          obtain ⟨M, hMM⟩ : ∃ M, PD.length = M := ⟨_, rfl⟩
          have HPL := hide hMM
          have hMq : M = 64 * q := by omega
          have hMs : M ≤ 1099511628776 := by omega
          clear HL hM hP0 hb8 HM1
          go_loopw [7] (fun i wr => ∃ k i0 : Nat, i = .int .i64 i0 ∧ i0 = 64 * k ∧ k ≤ q ∧ SepL R base wr (.blk n6 74 ((blocks firstSt PD k).list.map W32) :: .own 5 1 u4 (bytes PD) :: .blk n2 34 ((List.replicate 32 (0 : Byte)).map B8) :: F)) (fun i _ => M - (intOf i).toNat)
          case atStart => exact ⟨0, 0, rfl, rfl, by omega, hS.sel (by repeat (first | exact Sel.refl | refine Sel.take (by repeat (first | exact t0 | apply tS)) ?_ | apply Sel.drop))⟩
          case round =>
            clear hS
            obtain ⟨k, i0, rfl, hi0, hk, hS⟩ := hrel
            by_cases hlt : i0 < M
            · obtain ⟨ch, hch⟩ : ∃ c, (PD.drop i0).take 64 = c := ⟨_, rfl⟩
              have hcl : ch.length = 64 := by
                rw [← hch, List.length_take, List.length_drop]
                omega
              obtain ⟨e0, he0⟩ : ∃ e, i0 + 64 = e := ⟨_, rfl⟩
              have HCH : Hid ((PD.drop i0).take (e0 - i0) = ch) := by
                unfold Hid
                rw [← hch, ← he0, Nat.add_sub_cancel_left]
              have HBS : Hid (compress (blocks firstSt PD k) ch = blocks firstSt PD (k + 1)) := by
                unfold Hid
                rw [← hch, hi0]
                rfl
              generalize blocks firstSt PD k = st at *
              have HCL := hide hcl
              have HC64 : Hid ((ch.map B8).length = 64) := by
                unfold Hid
                rw [List.length_map, hcl]
              have HZ64 : Hid (((List.replicate 64 (0 : Byte)).map B8).length = 64) := rfl
              clear hch hcl
              go_wp2_with (first
                | (show wpList _ _ _ (⟨some 44, .call _, _, _, _, _⟩ :: _) _ _; refine wpList_val rfl (op_lenB slBytes rfl rfl rfl ((hS.bring (by repeat (first | exact t0 | apply tS))).getOwn.rd) HPL.out) ?_; go_frame)
                | (show wpList _ _ _ (⟨_, .alloc 76, _, _, _, _⟩ :: _) _ _; refine wpS_alloc hS rfl rfl zero64b (zs := (List.replicate 64 (0 : Byte)).map B8) rfl ?_; clear hS; intro n7 w hS; go_frame)
                )
              refine wp_region_text (by kernel_rfl) (by kernel_rfl) (by repeat (first | exact Clean.body | refine Clean.then ?_ | refine Clean.inBlock ?_)) ?_
              replace hS := hS.drew
              go_wp2_with (first
                | (show wpList _ _ _ (⟨some 48, .slice _ _ _ _ _, _, _, _, _⟩ :: _) _ _; refine wpList_val rfl (op_sliceArr arr64b rfl rfl (l := 0) (h := 64) (Or.inl ⟨rfl, rfl⟩) (Or.inl ⟨rfl, rfl⟩) (by omega) (by omega)) ?_; rw [if_neg (by omega)]; go_frame)
                | (show wpList _ _ _ (⟨some 52, .binOp _ _ _ _ _, _, _, _, _⟩ :: _) _ _; refine wpList_val rfl (op_iaddN rfl rfl rfl e0 (by omega) (by omega)) ?_; go_frame)
                | (show wpList _ _ _ (⟨some 53, .slice _ _ _ _ _, _, _, _, _⟩ :: _) _ _; refine wpList_val rfl (op_cut slBytes rfl rfl ((hS.bring (by repeat (first | exact t0 | apply tS))).getOwn.rd) (l := i0) (h := e0) (Or.inr rfl) (Or.inr rfl) (by omega) (by rw [bytes_len, HPL.out]; omega)) ?_; go_frame)
                | (show wpList _ _ _ (⟨some 54, .call _, _, _, _, _⟩ :: _) _ _; (refine wpS_copyArr undBytes sizeU8 (hS.bring (by repeat (first | exact t0 | apply tS))) rfl rfl rfl rfl (cut_rd ((hS.bring (by repeat (first | exact t0 | apply tS))).getOwn.rd) (by omega) (by rw [HPL.out]; omega) HCH.out) (oneB _) (by rw [HZ64.out]; omega) ?_); clear hS; intro w k' hk' hS; rw [copied64 HC64.out HZ64.out hk'] at hS; clear hk'; go_frame)
                )
              refine fin_mk (by kernel_rfl) ?_
              go_wp2_with (first
                | (show wpList _ _ _ (⟨_, .load 74 _, _, _, _, _⟩ :: _) _ _; refine wpList_val rfl (op_load agg8w rfl rfl ((hS.bring (by repeat (first | exact t0 | apply tS))).getBlk.cells) rfl) ?_; go_frame)
                | (show wpList _ _ _ (⟨_, .load 76 _, _, _, _, _⟩ :: _) _ _; refine wpList_val rfl (op_load agg64b rfl rfl ((hS.bring (by repeat (first | exact t0 | apply tS))).getBlk.cells) HC64.out) ?_; go_frame)
                | (go_at_call 34; refine Ret.calls (rblock_s hS st ch HCL.out) ?_; clear hS; rintro r w ⟨rfl, hS⟩; rw [HBS.out])
                | (show wpList _ _ _ (⟨_, .store 74 _ _, _, _, _, _⟩ :: _) _ _; (refine wpS_storeAll agg8w (hS.bring (by repeat (first | exact t0 | apply tS))) rfl rfl rfl (vs := (blocks firstSt PD (k + 1)).list.map W32) rfl rfl (oneW _) rfl ?_); clear hS; intro w hS; go_frame)
                | (show wpList _ _ _ (⟨some 47, .binOp _ _ _ _ _, _, _, _, _⟩ :: _) _ _; refine wpList_val rfl (op_iaddN rfl rfl rfl e0 (by omega) (by omega)) ?_; go_frame)
                )
              go_roundw
              case rel => exact ⟨k + 1, e0, rfl, by omega, by omega, hS.sel (by repeat (first | exact Sel.refl | refine Sel.take (by repeat (first | exact t0 | apply tS)) ?_ | apply Sel.drop))⟩
              case measure => simp [intOf]; omega
            · have hkq : k = q := by omega
              subst hkq
              obtain ⟨st, hst⟩ : ∃ s, blocks firstSt PD k = s := ⟨_, rfl⟩
              rw [hst] at hS hsum
              have HSUM := hide hsum
              clear hst hsum
              go_wp2_with (first
                | (show wpList _ _ _ (⟨some 44, .call _, _, _, _, _⟩ :: _) _ _; refine wpList_val rfl (op_lenB slBytes rfl rfl rfl ((hS.bring (by repeat (first | exact t0 | apply tS))).getOwn.rd) HPL.out) ?_; go_frame)
                | (show wpList _ _ _ (⟨some 9, .alloc _, _, _, _, _⟩ :: _) _ _; refine wpS_alloc hS rfl rfl zero32b (zs := (List.replicate 32 (0 : Byte)).map B8) rfl ?_; clear hS; intro n9 w hS; go_frame)
                | (show wpList _ _ _ (⟨_, .load 74 _, _, _, _, _⟩ :: _) _ _; refine wpList_val rfl (op_load agg8w rfl rfl ((hS.bring (by repeat (first | exact t0 | apply tS))).getBlk.cells) rfl) ?_; go_frame)
                )
              have HS0 : SepL R base w (.blk n9 34 ((fillTo (dgAt st) 32 (4 * 0)).map B8) :: .blk n2 34 ((List.replicate 32 (0 : Byte)).map B8) :: F) := by
                rw [Nat.mul_zero, fillTo_zero]
                exact hS.sel (by repeat (first | exact Sel.refl | refine Sel.take (by repeat (first | exact t0 | apply tS)) ?_ | apply Sel.drop))
              clear hS
              go_loopw [59] (fun i wr => ∃ m : Nat, i = .int .i64 m ∧ m ≤ 8 ∧ SepL R base wr (.blk n9 34 ((fillTo (dgAt st) 32 (4 * m)).map B8) :: .blk n2 34 ((List.replicate 32 (0 : Byte)).map B8) :: F)) (fun i _ => 8 - (intOf i).toNat)
              case atStart => exact ⟨0, rfl, by omega, HS0⟩
              case round =>
                clear HS0
                obtain ⟨m, rfl, hm, hS⟩ := hrel
                by_cases hlm : m < 8
                · have hks : m < st.list.length := by rw [st_list_len]; exact hlm
                  obtain ⟨c0, hc0⟩ : ∃ c, 4 * m = c := ⟨_, rfl⟩
                  obtain ⟨c1, hc1⟩ : ∃ c, c0 + 1 = c := ⟨_, rfl⟩
                  obtain ⟨c2, hc2⟩ : ∃ c, c0 + 2 = c := ⟨_, rfl⟩
                  obtain ⟨c3, hc3⟩ : ∃ c, c0 + 3 = c := ⟨_, rfl⟩
                  have hd0 := dgAt_at st (m := 0) (k := m) (by omega) hks
                  have hd1 := dgAt_at st (m := 1) (k := m) (by omega) hks
                  have hd2 := dgAt_at st (m := 2) (k := m) (by omega) hks
                  have hd3 := dgAt_at st (m := 3) (k := m) (by omega) hks
                  rw [Nat.add_zero, hc0] at hd0
                  rw [hc0, hc1] at hd1
                  rw [hc0, hc2] at hd2
                  rw [hc0, hc3] at hd3
                  have HD0 : Hid ((st.list[m] >>> 24).setWidth 8 = dgAt st c0) := hd0.symm
                  have HD1 : Hid ((st.list[m] >>> 16).setWidth 8 = dgAt st c1) := hd1.symm
                  have HD2 : Hid ((st.list[m] >>> 8).setWidth 8 = dgAt st c2) := hd2.symm
                  have HD3 : Hid ((st.list[m]).setWidth 8 = dgAt st c3) := by
                    unfold Hid
                    rw [hd3]
                    congr 1
                  have HF0 : Hid ((fillTo (dgAt st) 32 c0).set c0 (dgAt st c0) = fillTo (dgAt st) 32 c1) := by
                    unfold Hid
                    rw [fillTo_set, hc1]
                  have HF1 : Hid ((fillTo (dgAt st) 32 c1).set c1 (dgAt st c1) = fillTo (dgAt st) 32 c2) := by
                    unfold Hid
                    rw [fillTo_set, ← hc2, ← hc1]
                  have HF2 : Hid ((fillTo (dgAt st) 32 c2).set c2 (dgAt st c2) = fillTo (dgAt st) 32 c3) := by
                    unfold Hid
                    rw [fillTo_set, ← hc3, ← hc2]
                  have HF3 : Hid ((fillTo (dgAt st) 32 c3).set c3 (dgAt st c3) = fillTo (dgAt st) 32 (4 * (m + 1))) := by
                    unfold Hid
                    rw [fillTo_set, ← hc3, ← hc0]
                    rfl
                  rw [hc0] at hS
                  clear hd0 hd1 hd2 hd3
                  go_wp2_with (first
                    | (show wpList _ _ _ (⟨some 62, .index _ _ _, _, _, _, _⟩ :: _) _ _; refine wpList_val rfl (op_indexV arr8w rfl (f := W32) (us := st.list) rfl (st_list_len _) rfl hks) ?_; go_frame)
                    | (show wpList _ _ _ (⟨_, .binOp .mul _ _ _ _, _, _, _, _⟩ :: _) _ _; refine wpList_val rfl (op_imulN rfl rfl rfl c0 (by omega) (by omega)) ?_; go_frame)
                    | (show wpList _ _ _ (⟨some 67, .binOp _ _ _ _ _, _, _, _, _⟩ :: _) _ _; refine wpList_val rfl (op_iaddN rfl rfl rfl c1 (by omega) (by omega)) ?_; go_frame)
                    | (show wpList _ _ _ (⟨some 70, .binOp _ _ _ _ _, _, _, _, _⟩ :: _) _ _; refine wpList_val rfl (op_iaddN rfl rfl rfl c2 (by omega) (by omega)) ?_; go_frame)
                    | (show wpList _ _ _ (⟨some 73, .binOp _ _ _ _ _, _, _, _, _⟩ :: _) _ _; refine wpList_val rfl (op_iaddN rfl rfl rfl c3 (by omega) (by omega)) ?_; go_frame)
                    | (show wpList _ _ _ (⟨some 75, .binOp _ _ _ _ _, _, _, _, _⟩ :: _) _ _; refine wpList_val rfl (op_shr32 rfl rfl (c := 24) rfl) ?_; go_frame)
                    | (show wpList _ _ _ (⟨some 78, .binOp _ _ _ _ _, _, _, _, _⟩ :: _) _ _; refine wpList_val rfl (op_shr32 rfl rfl (c := 16) rfl) ?_; go_frame)
                    | (show wpList _ _ _ (⟨some 81, .binOp _ _ _ _ _, _, _, _, _⟩ :: _) _ _; refine wpList_val rfl (op_shr32 rfl rfl (c := 8) rfl) ?_; go_frame)
                    | (show wpList _ _ _ (⟨some 76, .convert _ _ _, _, _, _, _⟩ :: _) _ _; refine wpList_val rfl (op_32to8 undU32 undU8 rfl rfl) ?_; rw [HD0.out]; go_frame)
                    | (show wpList _ _ _ (⟨some 79, .convert _ _ _, _, _, _, _⟩ :: _) _ _; refine wpList_val rfl (op_32to8 undU32 undU8 rfl rfl) ?_; rw [HD1.out]; go_frame)
                    | (show wpList _ _ _ (⟨some 82, .convert _ _ _, _, _, _, _⟩ :: _) _ _; refine wpList_val rfl (op_32to8 undU32 undU8 rfl rfl) ?_; rw [HD2.out]; go_frame)
                    | (show wpList _ _ _ (⟨some 84, .convert _ _ _, _, _, _, _⟩ :: _) _ _; refine wpList_val rfl (op_32to8 undU32 undU8 rfl rfl) ?_; rw [HD3.out]; go_frame)
                    | (show wpList _ _ _ (⟨some 85, .indexAddr _ _ _, _, _, _, _⟩ :: _) _ _; refine wpList_val rfl (op_indexArr arr32b rfl rfl (k := c0) rfl (by omega)) ?_; rw [Nat.zero_add]; go_frame)
                    | (show wpList _ _ _ (⟨some 86, .indexAddr _ _ _, _, _, _, _⟩ :: _) _ _; refine wpList_val rfl (op_indexArr arr32b rfl rfl (k := c1) rfl (by omega)) ?_; rw [Nat.zero_add]; go_frame)
                    | (show wpList _ _ _ (⟨some 87, .indexAddr _ _ _, _, _, _, _⟩ :: _) _ _; refine wpList_val rfl (op_indexArr arr32b rfl rfl (k := c2) rfl (by omega)) ?_; rw [Nat.zero_add]; go_frame)
                    | (show wpList _ _ _ (⟨some 88, .indexAddr _ _ _, _, _, _, _⟩ :: _) _ _; refine wpList_val rfl (op_indexArr arr32b rfl rfl (k := c3) rfl (by omega)) ?_; rw [Nat.zero_add]; go_frame)
                    | (show wpList _ _ _ (⟨_, .store _ (.tmp 85) _, _, _, _, _⟩ :: _) _ _; (refine wpS_storeF (f := B8) (us := fillTo (dgAt st) 32 c0) sizeU8 (hS.bring (by repeat (first | exact t0 | apply tS))) rfl rfl rfl (v := dgAt st c0) rfl rfl rfl (by rw [fillTo_length]; omega) ?_); clear hS; intro w hS; rw [HF0.out] at hS; go_frame)
                    | (show wpList _ _ _ (⟨_, .store _ (.tmp 86) _, _, _, _, _⟩ :: _) _ _; (refine wpS_storeF (f := B8) (us := fillTo (dgAt st) 32 c1) sizeU8 (hS.bring (by repeat (first | exact t0 | apply tS))) rfl rfl rfl (v := dgAt st c1) rfl rfl rfl (by rw [fillTo_length]; omega) ?_); clear hS; intro w hS; rw [HF1.out] at hS; go_frame)
                    | (show wpList _ _ _ (⟨_, .store _ (.tmp 87) _, _, _, _, _⟩ :: _) _ _; (refine wpS_storeF (f := B8) (us := fillTo (dgAt st) 32 c2) sizeU8 (hS.bring (by repeat (first | exact t0 | apply tS))) rfl rfl rfl (v := dgAt st c2) rfl rfl rfl (by rw [fillTo_length]; omega) ?_); clear hS; intro w hS; rw [HF2.out] at hS; go_frame)
                    | (show wpList _ _ _ (⟨_, .store _ (.tmp 88) _, _, _, _, _⟩ :: _) _ _; (refine wpS_storeF (f := B8) (us := fillTo (dgAt st) 32 c3) sizeU8 (hS.bring (by repeat (first | exact t0 | apply tS))) rfl rfl rfl (v := dgAt st c3) rfl rfl rfl (by rw [fillTo_length]; omega) ?_); clear hS; intro w hS; rw [HF3.out] at hS; go_frame)
                    )
                  go_roundw
                  case rel => exact ⟨m + 1, by go_num, by omega, hS.sel (by repeat (first | exact Sel.refl | refine Sel.take (by repeat (first | exact t0 | apply tS)) ?_ | apply Sel.drop))⟩
                  case measure => simp [intOf]; omega
                · have hm2 : m = 8 := by omega
                  subst hm2
                  rw [show 4 * 8 = 32 from rfl, fillTo_all, dg_all, ← HSUM.out] at hS
                  have HSL : Hid (((sum bs).map B8).length = 32) := by
                    unfold Hid
                    rw [List.length_map, sum_len]
                  go_wp2_with (first
                    | (show wpList _ _ _ (⟨_, .load 34 _, _, _, _, _⟩ :: _) _ _; refine wpList_val rfl (op_load agg32b rfl rfl ((hS.bring (by repeat (first | exact t0 | apply tS))).getBlk.cells) HSL.out) ?_; go_frame)
                    | (show wpList _ _ _ (⟨_, .store 34 _ _, _, _, _, _⟩ :: _) _ _; (refine wpS_storeAll agg32b (hS.bring (by repeat (first | exact t0 | apply tS))) rfl rfl rfl (vs := (sum bs).map B8) rfl HSL.out (B8_one _) (by rw [List.length_map, List.length_replicate]) ?_); clear hS; intro w hS; go_frame)
                    )
                  exact ret_cell (b := n2) agg32b rfl rfl rfl ((hS.bring (by repeat (first | exact t0 | apply tS))).getBlk) HSL.out ⟨rfl, hS.sel (by repeat (first | exact Sel.refl | refine Sel.take (by repeat (first | exact t0 | apply tS)) ?_ | apply Sel.drop))⟩
    · have HC : Hid (((r : Int) != 56) = true) := by
        unfold Hid
        rw [bne_iff_ne]
        omega
      have hjj : j < lack (n + 1) := by omega
      have hln : lack (slLen u4) = lack (n + 1) - j := by
        rw [HSL.out]
        unfold lack at *
        omega
      have HLN := hide hln
      clear hlk hr hln
      go_wp2_with (first
        | (show wpList _ _ _ (⟨some 22, .call _, _, _, _, _⟩ :: _) _ _; refine wpList_val rfl (op_lenB slBytes rfl rfl rfl ((hS.bring (by repeat (first | exact t0 | apply tS))).getOwn.rd) HL.out) ?_; go_frame)
        | (show wpList _ _ _ (⟨some 23, .binOp .rem _ _ _ _, _, _, _, _⟩ :: _) _ _; refine wpList_val rfl (op_iremN rfl rfl (b := 64) rfl (by omega)) ?_; rw [HR.out]; go_frame)
        | (show wpList _ _ _ (⟨some 24, .binOp _ _ _ _ _, _, _, _, _⟩ :: _) _ _; refine wpList_val rfl (op_ineI rfl rfl rfl HC.out) ?_; go_frame)
        | (show wpList _ _ _ (⟨some 26, .buildSlice _ _ _, _, _, _, _⟩ :: _) _ _; refine wpS_build11 slBytes hS rfl rfl rfl rfl ?_; clear hS; intro v26 w hS; rw [b00] at hS; go_frame)
        | (show wpList _ _ _ (⟨some 27, .call _, _, _, _, _⟩ :: _) _ _; (refine wpS_append slBytes (hS.bring (by repeat (first | exact t0 | apply tS))) rfl rfl rfl rfl ((hS.bring (by repeat (first | exact t0 | apply tS))).getOwn.rd) (flat_bytes _) (by rw [bytes_len, bytes_len, HL.out]; simp only [List.length_cons, List.length_nil]; omega) (by rw [bytes_len, bytes_len, HL.out]; simp only [List.length_cons, List.length_nil, maxLen]; omega) ?_); clear hS; intro v27 w hS; rw [← bytes_app, HPS.out] at hS; go_frame)
        )
      have HS2 : Hid (slLen v27 = L + 1) := by
        unfold Hid
        obtain ⟨A, c, e, _⟩ := hS.getOwn.rd.form
        rw [e]
        show (bytes (padTo bs (j + 1))).length = _
        rw [bytes_len, padTo_len, hn]
        omega
      go_roundw
      case rel => exact ⟨j + 1, by omega, hS.sel (by repeat (first | exact Sel.refl | refine Sel.take (by repeat (first | exact t0 | apply tS)) ?_ | apply Sel.drop))⟩
      case measure =>
        rw [HLN.out, HS2.out]
        unfold lack at *
        omega
/-- bytes in an array of one's own -/
theorem rsum_blk {T b m : Nat} {bs : List Byte} (hS : SepL R base w (.blk b T (bs.map B8) :: F)) (hm : bs.length = m) (hm2 : m ≤ 1000) :
    Calls Tryd.prog 16 #[.slice (some ⟨b, 0, none⟩) m m] w (Ret fun r w' => r = HV (sum bs) ∧ SepL R base w' (.blk b T (bs.map B8) :: F)) := by
  obtain ⟨R', h1, h2, h2', h3, h4⟩ := hS.freezeBlk
  have hc : CIn R' w b (bs.map B8) := ⟨h2.cells, h2'⟩
  have hr := CIn.asRd hc (by rw [List.length_map]; simp [maxLen]; omega)
  rw [List.length_map, hm] at hr
  refine Ret.calls (rsum_s h1 hr (by omega)) ?_
  rintro r w' ⟨h5, h6⟩
  exact ⟨h5, h4 w' _ h6⟩
theorem rsum_own {T : Nat} {v : Value} {bs : List Byte} (hS : SepL R base w (.own T 1 v (bytes bs) :: F)) (hn : bs.length ≤ 1099511627776) :
    Calls Tryd.prog 16 #[v] w (Ret fun r w' => r = HV (sum bs) ∧ SepL R base w' (.own T 1 v (bytes bs) :: F)) := by
  obtain ⟨R', h1, h2, h3, h4⟩ := hS.freezeOwn
  refine Ret.calls (rsum_s h1 h2 hn) ?_
  rintro r w' ⟨h5, h6⟩
  exact ⟨h5, h4 w' _ h6⟩
end
end Go.Proofs.YtieobcaegegboaaDoor
