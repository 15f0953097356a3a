/- The program's compression of a block is the document's. Conditions: those that stand ahead of each theorem. -/
import Derived.Test.YtpdanieiafjmhaaDoorWord
namespace Go.Proofs.YtpdanieiafjmhaaDoor
open Go.RowKit Go.Px Go.Sha
def ST (s : St) : Value := .agg (s.list.map W32).toArray
theorem op_ishr2 {P : Program} {o : Oper} {w : World} {ρ : Operand → Value} {t t' : TypeId} {x y : Operand} (ho : o.op = .binOp .shr t x y t') {n : Nat} (hx : ρ x = .int .i64 n) (hy : ρ y = .int .u64 2) : (execOp ρ o).run P w = .ok (.value (.int .i64 (n / 4 : Nat))) w := by
  unfold execOp
  simp only [ho, hx, hy, Sem.run_bind, run_eqGuard_int, Result.andThen_ok, binOp, Op.shift, show ¬ ((2 : Int) < 0) by omega, if_false, Sem.run_pure]
  congr 3
  show Int.fdiv (n : Int) 4 = _
  rw [Int.fdiv_eq_ediv_of_nonneg _ (by omega)]
  omega
theorem build8w (x0 x1 x2 x3 x4 x5 x6 x7 : Word) (w : World) : (Instr.build 23 #[(0, W32 x0), (1, W32 x1), (2, W32 x2), (3, W32 x3), (4, W32 x4), (5, W32 x5), (6, W32 x6), (7, W32 x7)]).run Tryd.prog w = .ok (.agg ([x0, x1, x2, x3, x4, x5, x6, x7].map W32).toArray) w := by kernel_rfl
theorem oneW (us : List Word) : ∀ v ∈ us.map W32, v.oneCell' = true := by
  intro v hv
  obtain ⟨x, _, rfl⟩ := List.mem_map.1 hv
  rfl
theorem oneB (us : List Byte) : ∀ v ∈ us.map B8, v.oneCell' = true := by
  intro v hv
  obtain ⟨x, _, rfl⟩ := List.mem_map.1 hv
  rfl
/-- a result that lies in memory -/
theorem ret_cell {P : Program} {fn : Func} {R : Value → World → Prop} {a : Act} {w : World} {t T T' : Nat} {n b : Nat} {cs : List Value} (A : Agg P T n) (hr : fn.results = #[.cell t T]) (hd : a.defers = []) (ha : a.tmps.getD t undef = .pointer (some ⟨b, 0, none⟩)) (hB : Blk w b T' cs) (hn : cs.length = n) (h : R (.agg cs.toArray) w) : bodyPost P fn (Ret R) .ret a w := by
  refine bodyPost_ret (v := .agg cs.toArray) ?_ hd h
  have hl := run_loadVar_cells A hB.cells hn
  have ha' : a.tmps[t]?.getD undef = .pointer (some ⟨b, 0, none⟩) := by simpa using ha
  simp [results, hr, asAddr, ha', hl]
section
variable {R : Nat → Prop} {base w : World} {F : List Hp}
theorem word_any {b : Nat} {T : TypeId} (bs : List Byte) {t : Nat} (ht : t < 64) (hS : SepL R base w (.blk b T ((ringOf (sched bs) (max t 16)).map W32) :: F)) :
    Calls Tryd.prog 44 #[.pointer (some ⟨b, 0, none⟩), .int .i64 t] w (Ret fun r w' => r = W32 ((sched bs).getD t 0) ∧ SepL R base w' (.blk b T ((ringOf (sched bs) (max (t + 1) 16)).map W32) :: F)) := by
  by_cases h : t < 16
  · rw [show max t 16 = 16 by omega] at hS
    rw [show max (t + 1) 16 = 16 by omega, ← sched_lo bs h]
    exact word_lo hS (ringOf_length _ _) t h
  · rw [show max t 16 = t by omega] at hS
    rw [show max (t + 1) 16 = t + 1 by omega, ringOf_succ (by omega), ← sched_hi bs (by omega) ht]
    exact word_hi hS (ringOf_length _ _) t (by omega) ht
set_option maxRecDepth 100000 in
set_option maxHeartbeats 4000000 in
theorem block_s (hS : SepL R base w F) (hK : CIn R base 0 (kTab.map W32)) (s : St) (bs : List Byte) (hb : bs.length = 64) :
    Calls Tryd.prog 18 #[ST s, .agg (bs.map B8).toArray] w (Ret fun r w' => r = ST (compress s bs) ∧ SepL R base w' F) := by
  have HB := hide hb
  clear hb
  unfold ST
  go_enter Tryd.func18, Tryd.ntmps18
  go_wp2_with (first
    | (show wpList _ _ _ (⟨_, .box 23 _, _, _, _, _⟩ :: _) _ _; refine wpS_boxA (cs := s.list.map W32) hS rfl rfl rfl ?_; clear hS; intro ns w hS; go_frame)
    | (show wpList _ _ _ (⟨_, .box 24 _, _, _, _, _⟩ :: _) _ _; refine wpS_boxA (cs := bs.map B8) hS rfl rfl rfl ?_; clear hS; intro nb w hS; go_frame)
    | (show wpList _ _ _ (⟨_, .alloc 23, _, _, _, _⟩ :: _) _ _; refine wpS_alloc hS rfl rfl zero8w (zs := (List.replicate 8 (0 : Word)).map W32) rfl ?_; clear hS; intro nr w hS; go_frame)
    | (show wpList _ _ _ (⟨_, .alloc 62, _, _, _, _⟩ :: _) _ _; refine wpS_alloc hS rfl rfl zero16w (zs := (List.replicate 16 (0 : Word)).map W32) rfl ?_; clear hS; intro nw w hS; go_frame)
    | (show wpList _ _ _ (⟨_, .load 24 _, _, _, _, _⟩ :: _) _ _; refine wpList_val rfl (op_load agg64b rfl rfl ((hS.bring (by repeat (first | exact t0 | apply tS))).getBlk.cells) (by rw [List.length_map]; exact HB.out)) ?_; go_frame)
    )
  have hz : (List.replicate 16 (0 : Word)) = (List.range 16).map (wpart bs 0) := (wparts_zero bs).symm
  rw [hz] at hS
  clear hz
  go_loopw [20] (fun i wr => ∃ k : Nat, i = .int .i64 k ∧ k ≤ 64 ∧ SepL R base wr (.blk nw 62 (((List.range 16).map (wpart bs k)).map W32) :: .blk nr 23 ((List.replicate 8 (0 : Word)).map W32) :: .blk ns 23 (s.list.map W32) :: F)) (fun i _ => 64 - (intOf i).toNat)
  case atStart => exact ⟨0, rfl, by omega, hS.sel (by repeat (first | exact Sel.refl | refine Sel.take (by repeat (first | exact t0 | apply tS)) ?_ | apply Sel.drop))⟩
  case round =>
    clear hS
    obtain ⟨k, rfl, hk, hS⟩ := hrel
    by_cases hlt : k < 64
    · have hkb : k < bs.length := by rw [HB.out]; exact hlt
      have hl4 : k / 4 < ((List.range 16).map (wpart bs k)).length := by simp; omega
      have hst := hide (wparts_step bs k hkb hlt hl4)
      go_wp2_with (first
        | (show wpList _ _ _ (⟨_, .index 24 _ _, _, _, _, _⟩ :: _) _ _; refine wpList_val rfl (op_indexV arr64b rfl (f := B8) (us := bs) rfl HB.out rfl hkb) ?_; go_frame)
        | (show wpList _ _ _ (⟨_, .binOp .shr 3 _ _ _, _, _, _, _⟩ :: _) _ _; refine wpList_val rfl (op_ishr2 rfl rfl rfl) ?_; go_frame)
        | (show wpList _ _ _ (⟨_, .indexAddr 62 _ _, _, _, _, _⟩ :: _) _ _; refine wpList_val rfl (op_indexArr arr16w rfl rfl (k := k / 4) rfl (by omega)) ?_; rw [Nat.zero_add]; go_frame)
        | (show wpList _ _ _ (⟨_, .load 22 _, _, _, _, _⟩ :: _) _ _; refine wpList_val rfl (op_loadF (f := W32) (us := (List.range 16).map (wpart bs k)) oneU32 ((hS.bring (by repeat (first | exact t0 | apply tS)))) rfl rfl hl4) ?_; go_frame)
        | (show wpList _ _ _ (⟨_, .binOp .shl 22 _ _ _, _, _, _, _⟩ :: _) _ _; refine wpList_val rfl (op_shl32 rfl rfl (c := 8) rfl) ?_; go_frame)
        | (show wpList _ _ _ (⟨_, .convert 5 22 _, _, _, _, _⟩ :: _) _ _; refine wpList_val rfl (op_8to32 undU8 undU32 rfl rfl) ?_; go_frame)
        | (show wpList _ _ _ (⟨_, .binOp .or 22 _ _ _, _, _, _, _⟩ :: _) _ _; refine wpList_val rfl (op_bin32 rfl rfl rfl rfl) ?_; go_frame)
        | (show wpList _ _ _ (⟨_, .store 22 _ _, _, _, _, _⟩ :: _) _ _; (refine wpS_storeF (f := W32) sizeU32 (hS.bring (by repeat (first | exact t0 | apply tS))) rfl rfl rfl rfl rfl rfl hl4 ?_); clear hS; intro w hS; go_frame)
        )
      go_roundw
      case rel => exact ⟨k + 1, by go_num, by omega, by rw [← hst.out]; exact hS⟩
      case measure => simp [intOf]; omega
    · have hk2 : k = 64 := by omega
      subst hk2
      rw [show ((64 : Nat) : Int) = 64 from rfl]
      rw [wparts_all bs HB.out, sched_first bs] at hS
      go_wp2_with (first
        | (refine wp_region_text (by kernel_rfl) (by kernel_rfl) (by repeat (first | exact Clean.body | refine Clean.then ?_ | refine Clean.inBlock ?_)) ?_; replace hS := hS.drew)
        | (refine fin_mk (by kernel_rfl) ?_)
        | (show wpList _ _ _ (⟨_, .indexAddr 23 _ _, _, _, _, _⟩ :: _) _ _; (first | (refine wpList_val rfl (op_indexArrZ arr8w rfl rfl rfl 0 rfl (by omega)) ?_) | (refine wpList_val rfl (op_indexArrZ arr8w rfl rfl rfl 1 rfl (by omega)) ?_) | (refine wpList_val rfl (op_indexArrZ arr8w rfl rfl rfl 2 rfl (by omega)) ?_) | (refine wpList_val rfl (op_indexArrZ arr8w rfl rfl rfl 3 rfl (by omega)) ?_) | (refine wpList_val rfl (op_indexArrZ arr8w rfl rfl rfl 4 rfl (by omega)) ?_) | (refine wpList_val rfl (op_indexArrZ arr8w rfl rfl rfl 5 rfl (by omega)) ?_) | (refine wpList_val rfl (op_indexArrZ arr8w rfl rfl rfl 6 rfl (by omega)) ?_) | (refine wpList_val rfl (op_indexArrZ arr8w rfl rfl rfl 7 rfl (by omega)) ?_)); rw [Nat.zero_add]; go_frame)
        | (show wpList _ _ _ (⟨_, .load 22 _, _, _, _, _⟩ :: _) _ _; refine wpList_val rfl (op_load1S oneU32 ((hS.bring (by repeat (first | exact t0 | apply tS)))) rfl rfl rfl) ?_; go_frame)
        )
      go_loopw [8, 9, 10, 11, 12, 13, 14, 15, 52] (fun a b c d e f g h i wr => ∃ k : Nat, i = .int .i64 k ∧ k ≤ 64 ∧ a = W32 (rounds (sched bs) s k).a ∧ b = W32 (rounds (sched bs) s k).b ∧ c = W32 (rounds (sched bs) s k).c ∧ d = W32 (rounds (sched bs) s k).d ∧ e = W32 (rounds (sched bs) s k).e ∧ f = W32 (rounds (sched bs) s k).f ∧ g = W32 (rounds (sched bs) s k).g ∧ h = W32 (rounds (sched bs) s k).h ∧ SepL R base wr (.blk nw 62 ((ringOf (sched bs) (max k 16)).map W32) :: .blk nr 23 ((List.replicate 8 (0 : Word)).map W32) :: .blk ns 23 (s.list.map W32) :: F)) (fun _ _ _ _ _ _ _ _ i _ => 64 - (intOf i).toNat)
      case atStart => exact ⟨0, rfl, by omega, rfl, rfl, rfl, rfl, rfl, rfl, rfl, rfl, hS⟩
      case round =>
        clear hS
        obtain ⟨k, rfl, hk, rfl, rfl, rfl, rfl, rfl, rfl, rfl, rfl, hS⟩ := hrel
        by_cases hlt : k < 64
        · have hr : Hid (rounds (sched bs) s (k + 1) = roundP (rounds (sched bs) s k) (kTab.getD k 0) ((sched bs).getD k 0)) := (roundP_eq _ _ _).symm
          have hkt : Hid (k < kTab.length) := hlt
          have hkk : Hid (kTab.getD k 0 = kTab[k]'hkt.out) := getD_in hkt.out
          generalize rounds (sched bs) s k = v at *
          obtain ⟨C0, T0, fr0, hob, hdr⟩ := hK.c
          clear hdr
          have HOB := hide hob
          clear hob
          go_wp2_with (first
            | (show wpList _ _ _ (⟨_, .binOp .xor 22 _ _ _, _, _, _, _⟩ :: _) _ _; refine wpList_val rfl (op_bin32 rfl rfl rfl rfl) ?_; go_frame)
            | (show wpList _ _ _ (⟨_, .binOp .and 22 _ _ _, _, _, _, _⟩ :: _) _ _; refine wpList_val rfl (op_bin32 rfl rfl rfl rfl) ?_; go_frame)
            | (show wpList _ _ _ (⟨_, .binOp .or 22 _ _ _, _, _, _, _⟩ :: _) _ _; refine wpList_val rfl (op_bin32 rfl rfl rfl rfl) ?_; go_frame)
            | (show wpList _ _ _ (⟨_, .binOp .add 22 _ _ _, _, _, _, _⟩ :: _) _ _; refine wpList_val rfl (op_bin32 rfl rfl rfl rfl) ?_; go_frame)
            | (go_at_call 43; (first | (with_reducible refine Ret.calls (rot_6 _ _) ?_) | (with_reducible refine Ret.calls (rot_11 _ _) ?_) | (with_reducible refine Ret.calls (rot_25 _ _) ?_) | (with_reducible refine Ret.calls (rot_2 _ _) ?_) | (with_reducible refine Ret.calls (rot_13 _ _) ?_) | (with_reducible refine Ret.calls (rot_22 _ _) ?_)); rintro r w' ⟨rfl, rfl⟩)
            )
          refine wp_region_ord (by kernel_rfl) [74] [[0, 1, 2, 3, 4, 5, 6, 7, 8, 9, 10, 11, 12, 13, 14, 15, 16]] (by kernel_rfl) (by kernel_rfl) (fun w' => w'.heap[0]? = some (.cells C0 T0 fr0)) Up.obj ((hS.same hK).trans HOB.out) (by repeat (first | exact Clean.body | refine Clean.then ?_ | refine Clean.inBlock ?_ | refine SegQ.clean ?_ | refine FinC.clean ?_)) ?_
          replace hS := hS.drew
          refine ord_seg (by repeat (first | exact Clean.body | refine Clean.then ?_ | refine Clean.inBlock ?_ | refine SegQ.clean ?_ | refine FinC.clean ?_)) (n := 3) (rest := [[14, 15, 16]]) [0, 1, 2, 3, 4, 5, 6, 7, 8, 9, 10, 11, 12, 13] [⟨_, _, _, _, _, _⟩, ⟨_, _, _, _, _, _⟩, ⟨_, _, _, _, _, _⟩, ⟨_, _, _, _, _, _⟩, ⟨_, _, _, _, _, _⟩, ⟨_, _, _, _, _, _⟩, ⟨_, _, _, _, _, _⟩, ⟨_, _, _, _, _, _⟩, ⟨_, _, _, _, _, _⟩, ⟨_, _, _, _, _, _⟩, ⟨_, _, _, _, _, _⟩, ⟨_, _, _, _, _, _⟩, ⟨_, _, _, _, _, _⟩, ⟨_, _, _, _, _, _⟩] rfl (by kernel_rfl) (by simp) _ _ ?_
          go_wp2_with (first
            | (show wpList _ _ _ (⟨_, .binOp .xor 22 _ _ _, _, _, _, _⟩ :: _) _ _; refine wpList_val rfl (op_bin32 rfl rfl rfl rfl) ?_; go_frame)
            | (show wpList _ _ _ (⟨_, .binOp .and 22 _ _ _, _, _, _, _⟩ :: _) _ _; refine wpList_val rfl (op_bin32 rfl rfl rfl rfl) ?_; go_frame)
            | (show wpList _ _ _ (⟨_, .binOp .or 22 _ _ _, _, _, _, _⟩ :: _) _ _; refine wpList_val rfl (op_bin32 rfl rfl rfl rfl) ?_; go_frame)
            | (show wpList _ _ _ (⟨_, .binOp .add 22 _ _ _, _, _, _, _⟩ :: _) _ _; refine wpList_val rfl (op_bin32 rfl rfl rfl rfl) ?_; go_frame)
            | (show wpList _ _ _ (⟨_, .indexAddr 64 _ _, _, _, _, _⟩ :: _) _ _; refine wpList_val rfl (op_indexArr arr64w rfl rfl (k := k) rfl (by omega)) ?_; rw [Nat.zero_add]; go_frame)
            | (show wpList _ _ _ (⟨_, .load 22 _, _, _, _, _⟩ :: _) _ _; refine wpList_val rfl (op_loadC (f := W32) oneU32 hS hK rfl rfl hkt.out) ?_; go_frame)
            | (go_at_call 44; refine Ret.calls (word_any bs hlt hS) ?_; clear hS; rintro r w ⟨rfl, hS⟩)
            )
          refine segQ_mk ((hS.same hK).trans HOB.out) ?_
          refine ord_seg (by repeat (first | exact Clean.body | refine Clean.then ?_ | refine Clean.inBlock ?_ | refine SegQ.clean ?_ | refine FinC.clean ?_)) (n := 0) (rest := [[]]) [14, 15, 16] [⟨_, _, _, _, _, _⟩, ⟨_, _, _, _, _, _⟩, ⟨_, _, _, _, _, _⟩] rfl (by kernel_rfl) (by simp) _ _ ?_
          go_wp2_with (first
            | (show wpList _ _ _ (⟨_, .binOp .xor 22 _ _ _, _, _, _, _⟩ :: _) _ _; refine wpList_val rfl (op_bin32 rfl rfl rfl rfl) ?_; go_frame)
            | (show wpList _ _ _ (⟨_, .binOp .and 22 _ _ _, _, _, _, _⟩ :: _) _ _; refine wpList_val rfl (op_bin32 rfl rfl rfl rfl) ?_; go_frame)
            | (show wpList _ _ _ (⟨_, .binOp .or 22 _ _ _, _, _, _, _⟩ :: _) _ _; refine wpList_val rfl (op_bin32 rfl rfl rfl rfl) ?_; go_frame)
            | (show wpList _ _ _ (⟨_, .binOp .add 22 _ _ _, _, _, _, _⟩ :: _) _ _; refine wpList_val rfl (op_bin32 rfl rfl rfl rfl) ?_; go_frame)
            )
          refine segQ_mk ((hS.same hK).trans HOB.out) ?_
          refine finC_mk (by kernel_rfl) (by
            intro t ht
            simp only [List.mem_cons, List.not_mem_nil, or_false] at ht
            subst ht
            exact stab_blk (b := 0) (fun _ h => h) k none) ?_
          go_wp2_with (first
            | (show wpList _ _ _ (⟨_, .binOp .xor 22 _ _ _, _, _, _, _⟩ :: _) _ _; refine wpList_val rfl (op_bin32 rfl rfl rfl rfl) ?_; go_frame)
            | (show wpList _ _ _ (⟨_, .binOp .and 22 _ _ _, _, _, _, _⟩ :: _) _ _; refine wpList_val rfl (op_bin32 rfl rfl rfl rfl) ?_; go_frame)
            | (show wpList _ _ _ (⟨_, .binOp .or 22 _ _ _, _, _, _, _⟩ :: _) _ _; refine wpList_val rfl (op_bin32 rfl rfl rfl rfl) ?_; go_frame)
            | (show wpList _ _ _ (⟨_, .binOp .add 22 _ _ _, _, _, _, _⟩ :: _) _ _; refine wpList_val rfl (op_bin32 rfl rfl rfl rfl) ?_; go_frame)
            | (go_at_call 43; (first | (with_reducible refine Ret.calls (rot_6 _ _) ?_) | (with_reducible refine Ret.calls (rot_11 _ _) ?_) | (with_reducible refine Ret.calls (rot_25 _ _) ?_) | (with_reducible refine Ret.calls (rot_2 _ _) ?_) | (with_reducible refine Ret.calls (rot_13 _ _) ?_) | (with_reducible refine Ret.calls (rot_22 _ _) ?_)); rintro r w' ⟨rfl, rfl⟩)
            )
          go_roundw
          case rel => exact ⟨k + 1, by go_num, by omega, by rw [hr.out, hkk.out]; rfl, by rw [hr.out]; rfl, by rw [hr.out]; rfl, by rw [hr.out]; rfl, by rw [hr.out, hkk.out]; rfl, by rw [hr.out]; rfl, by rw [hr.out]; rfl, by rw [hr.out]; rfl, hS⟩
          case measure => simp [intOf]; omega
        · generalize hv : rounds (sched bs) s k = v
          have hk2 : k = 64 := by omega
          have HV : Hid (addSt s v = compress s bs) := by
            unfold Hid
            rw [compress_eq, ← hv, hk2]
          clear hv
          go_wp2_with (first
            | (show wpList _ _ _ (⟨_, .indexAddr 23 _ _, _, _, _, _⟩ :: _) _ _; (first | (refine wpList_val rfl (op_indexArrZ arr8w rfl rfl rfl 0 rfl (by omega)) ?_) | (refine wpList_val rfl (op_indexArrZ arr8w rfl rfl rfl 1 rfl (by omega)) ?_) | (refine wpList_val rfl (op_indexArrZ arr8w rfl rfl rfl 2 rfl (by omega)) ?_) | (refine wpList_val rfl (op_indexArrZ arr8w rfl rfl rfl 3 rfl (by omega)) ?_) | (refine wpList_val rfl (op_indexArrZ arr8w rfl rfl rfl 4 rfl (by omega)) ?_) | (refine wpList_val rfl (op_indexArrZ arr8w rfl rfl rfl 5 rfl (by omega)) ?_) | (refine wpList_val rfl (op_indexArrZ arr8w rfl rfl rfl 6 rfl (by omega)) ?_) | (refine wpList_val rfl (op_indexArrZ arr8w rfl rfl rfl 7 rfl (by omega)) ?_)); rw [Nat.zero_add]; go_frame)
            | (show wpList _ _ _ (⟨_, .load 22 _, _, _, _, _⟩ :: _) _ _; refine wpList_val rfl (op_load1S oneU32 ((hS.bring (by repeat (first | exact t0 | apply tS)))) rfl rfl rfl) ?_; go_frame)
            | (show wpList _ _ _ (⟨_, .binOp .xor 22 _ _ _, _, _, _, _⟩ :: _) _ _; refine wpList_val rfl (op_bin32 rfl rfl rfl rfl) ?_; go_frame)
            | (show wpList _ _ _ (⟨_, .binOp .and 22 _ _ _, _, _, _, _⟩ :: _) _ _; refine wpList_val rfl (op_bin32 rfl rfl rfl rfl) ?_; go_frame)
            | (show wpList _ _ _ (⟨_, .binOp .or 22 _ _ _, _, _, _, _⟩ :: _) _ _; refine wpList_val rfl (op_bin32 rfl rfl rfl rfl) ?_; go_frame)
            | (show wpList _ _ _ (⟨_, .binOp .add 22 _ _ _, _, _, _, _⟩ :: _) _ _; refine wpList_val rfl (op_bin32 rfl rfl rfl rfl) ?_; go_frame)
            | (show wpList _ _ _ (⟨_, .build _ _, _, _, _, _⟩ :: _) _ _; refine wpList_val rfl (op_build (ps := #[(0, W32 (s.a + v.a)), (1, W32 (s.b + v.b)), (2, W32 (s.c + v.c)), (3, W32 (s.d + v.d)), (4, W32 (s.e + v.e)), (5, W32 (s.f + v.f)), (6, W32 (s.g + v.g)), (7, W32 (s.h + v.h))]) rfl rfl (build8w _ _ _ _ _ _ _ _) _) ?_; go_frame)
            | (show wpList _ _ _ (⟨_, .store 23 _ _, _, _, _, _⟩ :: _) _ _; refine wpS_storeAll (b := nr) agg8w (hS.bring (by repeat (first | exact t0 | apply tS))) rfl rfl rfl (vs := (addSt s v).list.map W32) rfl rfl (oneW _) rfl ?_; clear hS; intro w hS; go_frame)
            )
          exact ret_cell (b := nr) agg8w rfl rfl rfl ((hS.bring (by repeat (first | exact t0 | apply tS))).getBlk) rfl ⟨by rw [HV.out], hS.sel (by repeat (first | exact Sel.refl | refine Sel.take (by repeat (first | exact t0 | apply tS)) ?_ | apply Sel.drop))⟩
end
end Go.Proofs.YtpdanieiafjmhaaDoor
