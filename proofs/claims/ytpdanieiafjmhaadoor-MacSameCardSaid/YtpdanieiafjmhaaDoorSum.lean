/- The sum of a hasher is that of its bytes, padded. Conditions: those that stand ahead of each theorem. -/
import Derived.Test.YtpdanieiafjmhaaDoorWrite
import Derived.Test.YtpdanieiafjmhaaDoorInts
namespace Go.Proofs.YtpdanieiafjmhaaDoor
open Go.RowKit Go.Px Go.Sha
/-- so many of a row's values are written, the rest are noughts -/
def fillTo (f : Nat → Byte) (n i : Nat) : List Byte := (List.range n).map fun j => if j < i then f j else 0
theorem fillTo_length (f : Nat → Byte) (n i : Nat) : (fillTo f n i).length = n := by simp [fillTo]
theorem fillTo_zero (f : Nat → Byte) (n : Nat) : fillTo f n 0 = List.replicate n 0 := by
  apply List.ext_getElem
  · simp [fillTo]
  · intro j h1 h2
    simp [fillTo]
theorem fillTo_all (f : Nat → Byte) (n : Nat) : fillTo f n n = (List.range n).map f := by
  apply List.map_congr_left
  intro j hj
  rw [if_pos (List.mem_range.1 hj)]
theorem fillTo_set (f : Nat → Byte) (n i : Nat) : (fillTo f n i).set i (f i) = fillTo f n (i + 1) := by
  apply List.ext_getElem
  · simp [fillTo]
  · intro j h1 h2
    rw [List.getElem_set]
    simp only [fillTo, List.getElem_map, List.getElem_range]
    by_cases e : i = j
    · subst e
      rw [if_pos rfl, if_pos (by omega)]
    · rw [if_neg e]
      by_cases h : j < i
      · rw [if_pos h, if_pos (by omega)]
      · rw [if_neg h, if_neg (by omega)]
attribute [irreducible] fillTo
def szAt (n i : Nat) : Byte := (bitsOf n >>> (56 - 8 * i)).setWidth 8
def dgAt (s : St) (j : Nat) : Byte := (s.list.getD (j / 4) 0 >>> (24 - 8 * (j % 4))).setWidth 8
theorem dgAt_at (s : St) {k m : Nat} (hm : m < 4) (hk : k < s.list.length) : dgAt s (4 * k + m) = (s.list[k] >>> (24 - 8 * m)).setWidth 8 := by
  unfold dgAt
  rw [show (4 * k + m) / 4 = k by omega, show (4 * k + m) % 4 = m by omega, List.getD_eq_getElem?_getD, List.getElem?_eq_getElem hk]
  rfl
theorem dg_all (s : St) : (List.range 32).map (dgAt s) = digest s := rfl
theorem sz_all (n : Nat) : (List.range 8).map (szAt n) = be8 (bitsOf n) := rfl
theorem st_list_len (s : St) : s.list.length = 8 := rfl
theorem szAt_eq (n k : Nat) : (BitVec.ofNat 64 n <<< 3 >>> (56 - 8 * k)).setWidth 8 = szAt n k := rfl
attribute [irreducible] szAt dgAt
def zH : List Value := List.replicate 8 (Value.int .u32 0) ++ List.replicate 64 (Value.int .u8 0) ++ [Value.int .u64 0]
theorem zeroHasher (w : World) : (zeroValue 70).run Tryd.prog w = .ok (.agg zH.toArray) w := by kernel_rfl
theorem agg8b : Agg Tryd.prog 72 8 := Agg.of (d := .array 8 5) (by kernel_rfl) rfl (by kernel_rfl)
theorem cellsH_one (h : Hs) : ∀ v ∈ cellsH h, v.oneCell' = true := by
  intro v hv
  unfold cellsH at hv
  simp only [List.mem_append, List.mem_map, List.mem_cons, List.not_mem_nil, or_false] at hv
  rcases hv with (⟨x, _, rfl⟩ | ⟨x, _, rfl⟩) | rfl <;> rfl
theorem b80 : [[Value.int .u8 128]] = bytes [0x80#8] := rfl
theorem b00 : [[Value.int .u8 0]] = bytes [0x00#8] := rfl
theorem B8_one (us : List Byte) : ∀ v ∈ us.map B8, v.oneCell' = true := by
  intro v hv
  obtain ⟨x, _, rfl⟩ := List.mem_map.1 hv
  rfl
/-- results of which the first lies in memory -/
theorem ret_cell2 {P : Program} {fn : Func} {R : Value → World → Prop} {a : Act} {w : World} {t T T' s : Nat} {n b : Nat} {cs : List Value} {u : Value} (A : Agg P T n) (hr : fn.results = #[.cell t T, .tmp s]) (hd : a.defers = []) (ha : a.tmps.getD t undef = .pointer (some ⟨b, 0, none⟩)) (hu : a.tmps.getD s undef = u) (hB : Blk w b T' cs) (hn : cs.length = n) (h : R (.tuple #[.agg cs.toArray, u]) w) : bodyPost P fn (Ret R) .ret a w := by
  refine bodyPost_ret (v := .tuple #[.agg cs.toArray, u]) ?_ hd h
  have hl := run_loadVar_cells A hB.cells hn
  have ha' : a.tmps[t]?.getD undef = .pointer (some ⟨b, 0, none⟩) := by simpa using ha
  have hu' : a.tmps[s]?.getD undef = u := by simpa using hu
  simp [results, hr, asAddr, ha', hu', hl]
def natAt (w : World) (b off : Nat) : Nat := match w.cell? ⟨b, off, none⟩ with
  | some (.int _ z) => z.toNat
  | _ => 0
theorem natAt_of {R : Nat → Prop} {base w : World} {F : List Hp} {p T : Nat} {h : Hs} (hS : SepL R base w (.blk p T (cellsH h) :: F)) (ho : h.op.length = 64) (hn : h.n < 18446744073709551616) : natAt w p 72 = h.n := by
  have hc := hS.getBlk.cell 72
  rw [cellsH_n ho, N64_int hn] at hc
  unfold natAt
  rw [hc]
  rfl
section
variable {R : Nat → Prop} {base w : World} {F : List Hp}
set_option maxRecDepth 100000 in
set_option maxHeartbeats 4000000 in
theorem sum_m {p : Nat} {h : Hs} (hS : SepL R base w (.blk p 70 (cellsH h) :: F)) (hK : CIn R base 0 (kTab.map W32)) (hop : h.op.length = 64) (hn : h.n < 4611686018427387000) :
    Calls Tryd.prog 22 #[.pointer (some ⟨p, 0, none⟩)] w (Ret fun r w' => r = .tuple #[.agg ((sumH h).map B8).toArray, .int .i64 0] ∧ SepL R base w' (.blk p 70 (cellsH h) :: F)) := by
  have HL := hide (cellsH_len hop)
  have HOP := hide hop
  go_enter Tryd.func22, Tryd.ntmps22
  go_wp2_with (first
    | (refine wp_region_text (by kernel_rfl) (by kernel_rfl) (by repeat (first | exact Clean.body | refine Clean.then ?_ | refine Clean.inBlock ?_)) ?_; replace hS := hS.drew)
    | (refine fin_mk (by kernel_rfl) ?_)
    | (show wpList _ _ _ (⟨_, .alloc 34, _, _, _, _⟩ :: _) _ _; refine wpS_alloc hS rfl rfl zero32b (zs := (List.replicate 32 (0 : Byte)).map B8) rfl ?_; clear hS; intro nr w hS; go_frame)
    | (show wpList _ _ _ (⟨_, .load 70 _, _, _, _, _⟩ :: _) _ _; refine wpList_val rfl (op_load agg70 rfl rfl ((hS.bring (by repeat (first | exact t0 | apply tS))).getBlk.cells) HL.out) ?_; go_frame)
    | (show wpList _ _ _ (⟨_, .alloc 70, _, _, _, _⟩ :: _) _ _; refine wpS_alloc hS rfl rfl zeroHasher (zs := zH) rfl ?_; clear hS; intro ne w hS; go_frame)
    | (show wpList _ _ _ (⟨_, .store 70 _ _, _, _, _, _⟩ :: _) _ _; refine wpS_storeAll agg70 hS rfl rfl rfl (vs := cellsH h) rfl HL.out (cellsH_one h) rfl ?_; clear hS; intro w hS; go_frame)
    | (show wpList _ _ _ (⟨_, .buildSlice _ _ _, _, _, _, _⟩ :: _) _ _; refine wpS_build11 slBytes hS rfl rfl rfl rfl ?_; clear hS; intro v1 w hS; rw [b80] at hS; go_frame)
    | (go_at_call 47; refine Ret.calls (add_own hS hK HOP.out (by simp only [List.length_cons, List.length_nil]; omega)) ?_; clear hS; rintro r w hS; replace hS := hS.tail)
    )
  have hl64 : lack (h.n + 1) < 64 := by unfold lack; omega
  generalize hg0 : absorb h [128#8] = g0 at *
  have hg0n : g0.n = h.n + 1 := by rw [← hg0, absorb_n]; rfl
  have hg0o : g0.op.length = 64 := by rw [← hg0, absorb_op, hop]
  go_loopw [23] (fun _ wr => ∃ j : Nat, j ≤ lack (h.n + 1) ∧ SepL R base wr (.blk ne 70 (cellsH (absorb g0 (List.replicate j 0))) :: .blk nr 34 ((List.replicate 32 (0 : Byte)).map B8) :: .blk p 70 (cellsH h) :: F)) (fun _ wr => lack (natAt wr ne 72))
  case atStart => exact ⟨0, by omega, hS⟩
  case round =>
    clear hS
    obtain ⟨j, hj, hS⟩ := hrel
    have hgn : (absorb g0 (List.replicate j 0)).n = h.n + 1 + j := by rw [absorb_n, hg0n, List.length_replicate]
    have hgo : (absorb g0 (List.replicate j 0)).op.length = 64 := by rw [absorb_op, hg0o]
    have HR1 : Hid (absorb (absorb g0 (List.replicate j 0)) [0#8] = absorb g0 (List.replicate (j + 1) 0)) := by
      unfold Hid
      rw [← absorb_append, List.replicate_succ']
      rfl
    obtain ⟨g, hg⟩ : ∃ g, absorb g0 (List.replicate j 0) = g := ⟨_, rfl⟩
    have HG := hide hg
    rw [hg] at hS hgn hgo
    rw [hg] at HR1
    clear hg
    have HM := hide (natAt_of hS hgo (by omega))
    have HGN := hide hgn
    have HGO := hide hgo
    have hcn := hide (cellsH_n hgo)
    have hjl := hide hj
    have hl : lack (h.n + 1) = (120 - (h.n + 1) % 64) % 64 := rfl
    by_cases hc : g.n % 64 = 56
    · have HC : Hid ((g.n % 64 != 56) = false) := by
        unfold Hid
        rw [hc]
        rfl
      have hm64 : g.n % 64 < 18446744073709551616 := by omega
      have hjj : j = lack (h.n + 1) := by omega
      clear hc hl
      go_wp2_with (first
        | (show wpList _ _ _ (⟨_, .load 42 _, _, _, _, _⟩ :: _) _ _; refine wpList_val rfl (op_load1S oneU64 ((hS.bring (by repeat (first | exact t0 | apply tS)))) rfl rfl hcn.out) ?_; go_frame)
        | (show wpList _ _ _ (⟨_, .binOp .and 42 _ _ _, _, _, _, _⟩ :: _) _ _; refine wpList_val rfl (op_N64and63 rfl rfl rfl) ?_; go_frame)
        | (show wpList _ _ _ (⟨_, .binOp .neq 42 _ _ _, _, _, _, _⟩ :: _) _ _; refine wpList_val rfl (op_N64ne rfl rfl hm64 (c := 56) rfl) ?_; rw [HC.out]; go_frame)
        | (show wpList _ _ _ (⟨_, .alloc 72, _, _, _, _⟩ :: _) _ _; refine wpS_alloc hS rfl rfl zero8b (zs := (List.replicate 8 (0 : Byte)).map B8) rfl ?_; clear hS; intro nz w hS; go_frame)
        )
      rw [← fillTo_zero (szAt h.n)] at hS
      have HCN := hide (cellsH_n HOP.out)
      go_loopw [25] (fun i wr => ∃ k : Nat, i = .int .i64 k ∧ k ≤ 8 ∧ SepL R base wr (.blk nz 72 ((fillTo (szAt h.n) 8 k).map B8) :: .blk ne 70 (cellsH g) :: .blk nr 34 ((List.replicate 32 (0 : Byte)).map B8) :: .blk p 70 (cellsH h) :: F)) (fun i _ => 8 - (intOf i).toNat)
      case atStart => exact ⟨0, rfl, by omega, hS⟩
      case round =>
        clear hS
        obtain ⟨k, rfl, hk, hS⟩ := hrel
        by_cases hlt : k < 8
        · have HSZ := hide (szAt_eq h.n k)
          have hkl : k < (fillTo (szAt h.n) 8 k).length := by rw [fillTo_length]; exact hlt
          go_wp2_with (first
            | (show wpList _ _ _ (⟨_, .load 42 _, _, _, _, _⟩ :: _) _ _; refine wpList_val rfl (op_load1S oneU64 ((hS.bring (by repeat (first | exact t0 | apply tS)))) rfl rfl HCN.out) ?_; go_frame)
            | (show wpList _ _ _ (⟨_, .binOp .shl 42 _ _ _, _, _, _, _⟩ :: _) _ _; refine wpList_val rfl (op_shl64 rfl rfl (c := 3) rfl) ?_; go_frame)
            | (show wpList _ _ _ (⟨_, .binOp .mul 3 _ _ _, _, _, _, _⟩ :: _) _ _; refine wpList_val rfl (op_imulN rfl rfl rfl (8 * k) (by omega) (by omega)) ?_; go_frame)
            | (show wpList _ _ _ (⟨_, .binOp .sub 3 _ _ _, _, _, _, _⟩ :: _) _ _; refine wpList_val rfl (op_isubN rfl rfl rfl (56 - 8 * k) (by omega) (by omega)) ?_; go_frame)
            | (show wpList _ _ _ (⟨_, .convert 3 39 _, _, _, _, _⟩ :: _) _ _; refine wpList_val rfl (op_i64u64 undInt undUint rfl rfl (by omega)) ?_; go_frame)
            | (show wpList _ _ _ (⟨_, .binOp .shr 42 _ _ _, _, _, _, _⟩ :: _) _ _; refine wpList_val rfl (op_shr64 rfl rfl (c := 56 - 8 * k) rfl) ?_; go_frame)
            | (show wpList _ _ _ (⟨_, .convert 42 5 _, _, _, _, _⟩ :: _) _ _; refine wpList_val rfl (op_64to8 undU64 undU8 rfl rfl) ?_; rw [HSZ.out]; go_frame)
            | (show wpList _ _ _ (⟨_, .indexAddr 72 _ _, _, _, _, _⟩ :: _) _ _; refine wpList_val rfl (op_indexArr arr8b rfl rfl (k := k) rfl (by omega)) ?_; rw [Nat.zero_add]; go_frame)
            | (show wpList _ _ _ (⟨_, .store 5 _ _, _, _, _, _⟩ :: _) _ _; (refine wpS_storeF (f := B8) sizeU8 (hS.bring (by repeat (first | exact t0 | apply tS))) rfl rfl rfl (v := szAt h.n k) rfl rfl rfl hkl ?_); clear hS; intro w hS; rw [fillTo_set] at hS; go_frame)
            )
          go_roundw
          case rel => exact ⟨k + 1, by go_num, by omega, hS⟩
          case measure => simp [intOf]; omega
        · have hk2 : k = 8 := by omega
          subst hk2
          rw [fillTo_all, sz_all] at hS
          have HLN := hide (be8_length (bitsOf h.n))
          have HFIN : Hid (digest (absorb g (be8 (bitsOf h.n))).st = sumH h) := by
            unfold Hid
            rw [← HG.out, hjj, ← hg0, ← absorb_append, ← absorb_append, sumH_eq]
            rfl
          go_wp2_with (first
            | (show wpList _ _ _ (⟨_, .slice _ _ none none _, _, _, _, _⟩ :: _) _ _; refine wpList_val rfl (op_sliceArr arr8b rfl rfl (l := 0) (h := 8) (Or.inl ⟨rfl, rfl⟩) (Or.inl ⟨rfl, rfl⟩) (by omega) (by omega)) ?_; rw [if_neg (by omega)]; go_frame)
            | (go_at_call 47; refine Ret.calls (add_blk hS hK HGO.out (by rw [HLN.out]; omega) (by rw [HLN.out]; omega) HLN.out rfl) ?_; clear hS; rintro r w hS)
            | (show wpList _ _ _ (⟨_, .alloc 34, _, _, _, _⟩ :: _) _ _; refine wpS_alloc hS rfl rfl zero32b (zs := (List.replicate 32 (0 : Byte)).map B8) rfl ?_; clear hS; intro no w hS; go_frame)
            | (show wpList _ _ _ (⟨_, .load 23 _, _, _, _, _⟩ :: _) _ _; refine wpList_val rfl (op_loadSt agg8w ((hS.bring (by repeat (first | exact t0 | apply tS)))) rfl rfl) ?_; go_frame)
            )
          generalize hge : absorb g (be8 (bitsOf h.n)) = ge at *
          rw [show (List.replicate 32 (0 : Byte)).map B8 = (fillTo (dgAt ge.st) 32 0).map B8 by rw [fillTo_zero]] at hS
          go_loopw [46] (fun i wr => ∃ k : Nat, i = .int .i64 k ∧ k ≤ 8 ∧ SepL R base wr (.blk no 34 ((fillTo (dgAt ge.st) 32 (4 * k)).map B8) :: .blk nr 34 ((fillTo (dgAt ge.st) 32 0).map B8) :: .blk p 70 (cellsH h) :: F)) (fun i _ => 8 - (intOf i).toNat)
          case atStart => exact ⟨0, rfl, by omega, hS.sel (by repeat (first | exact Sel.refl | refine Sel.take (by repeat (first | exact t0 | apply tS)) ?_ | apply Sel.drop))⟩
          case round =>
            clear hS
            obtain ⟨k, rfl, hk, hS⟩ := hrel
            by_cases hlt : k < 8
            · have hks : k < ge.st.list.length := by rw [st_list_len]; exact hlt
              go_wp2_with (first
                | (show wpList _ _ _ (⟨_, .index 23 _ _, _, _, _, _⟩ :: _) _ _; refine wpList_val rfl (op_indexV arr8w rfl (f := W32) (us := ge.st.list) rfl (st_list_len _) rfl hks) ?_; go_frame)
                )
              go_loopw [50] (fun i wr => ∃ m : Nat, i = .int .i64 m ∧ m ≤ 4 ∧ SepL R base wr (.blk no 34 ((fillTo (dgAt ge.st) 32 (4 * k + m)).map B8) :: .blk nr 34 ((fillTo (dgAt ge.st) 32 0).map B8) :: .blk p 70 (cellsH h) :: F)) (fun i _ => 4 - (intOf i).toNat)
              case atStart => exact ⟨0, rfl, by omega, hS⟩
              case round =>
                clear hS
                obtain ⟨m, rfl, hm, hS⟩ := hrel
                by_cases hlm : m < 4
                · have HDG := hide (dgAt_at ge.st hlm hks)
                  have hml : 4 * k + m < (fillTo (dgAt ge.st) 32 (4 * k + m)).length := by rw [fillTo_length]; omega
                  go_wp2_with (first
                    | (show wpList _ _ _ (⟨_, .binOp .mul 3 (.const _) (.tmp 53) _, _, _, _, _⟩ :: _) _ _; refine wpList_val rfl (op_imulN rfl rfl rfl (4 * k) (by omega) (by omega)) ?_; go_frame)
                    | (show wpList _ _ _ (⟨_, .binOp .mul 3 (.const _) (.tmp 58) _, _, _, _, _⟩ :: _) _ _; refine wpList_val rfl (op_imulN rfl rfl rfl (8 * m) (by omega) (by omega)) ?_; go_frame)
                    | (show wpList _ _ _ (⟨_, .binOp .add 3 (.tmp 54) (.tmp 55) _, _, _, _, _⟩ :: _) _ _; refine wpList_val rfl (op_iaddN rfl rfl rfl (4 * k + m) (by omega) (by omega)) ?_; go_frame)
                    | (show wpList _ _ _ (⟨_, .binOp .sub 3 _ _ _, _, _, _, _⟩ :: _) _ _; refine wpList_val rfl (op_isubN rfl rfl rfl (24 - 8 * m) (by omega) (by omega)) ?_; go_frame)
                    | (show wpList _ _ _ (⟨_, .convert 3 39 _, _, _, _, _⟩ :: _) _ _; refine wpList_val rfl (op_i64u64 undInt undUint rfl rfl (by omega)) ?_; go_frame)
                    | (show wpList _ _ _ (⟨_, .binOp .shr 22 _ _ _, _, _, _, _⟩ :: _) _ _; refine wpList_val rfl (op_shr32 rfl rfl (c := 24 - 8 * m) rfl) ?_; go_frame)
                    | (show wpList _ _ _ (⟨_, .convert 22 5 _, _, _, _, _⟩ :: _) _ _; refine wpList_val rfl (op_32to8 undU32 undU8 rfl rfl) ?_; rw [← HDG.out]; go_frame)
                    | (show wpList _ _ _ (⟨_, .indexAddr 34 _ _, _, _, _, _⟩ :: _) _ _; refine wpList_val rfl (op_indexArr arr32b rfl rfl (k := 4 * k + m) rfl (by omega)) ?_; rw [Nat.zero_add]; go_frame)
                    | (show wpList _ _ _ (⟨_, .store 5 _ _, _, _, _, _⟩ :: _) _ _; (refine wpS_storeF (f := B8) sizeU8 (hS.bring (by repeat (first | exact t0 | apply tS))) rfl rfl rfl (v := dgAt ge.st (4 * k + m)) rfl rfl rfl hml ?_); clear hS; intro w hS; rw [fillTo_set] at hS; go_frame)
                    )
                  go_roundw
                  case rel => exact ⟨m + 1, by go_num, by omega, hS⟩
                  case measure => simp [intOf]; omega
                · have hm2 : m = 4 := by omega
                  subst hm2
                  go_wp2_with fail
                  go_roundw
                  case rel => exact ⟨k + 1, by go_num, by omega, by rw [show 4 * (k + 1) = 4 * k + 4 by omega]; exact hS⟩
                  case measure => simp [intOf]; omega
            · have hk2 : k = 8 := by omega
              subst hk2
              rw [show 4 * 8 = 32 from rfl, fillTo_all, dg_all, HFIN.out] at hS
              have HSL : Hid (((sumH h).map B8).length = 32) := by
                unfold Hid
                rw [List.length_map, ← HFIN.out]
                rfl
              go_wp2_with (first
                | (show wpList _ _ _ (⟨_, .load 34 _, _, _, _, _⟩ :: _) _ _; refine wpList_val rfl (op_load agg32b rfl rfl ((hS.bring (by repeat (first | exact t0 | apply tS))).getBlk.cells) HSL.out) ?_; go_frame)
                | (show wpList _ _ _ (⟨_, .store 34 _ _, _, _, _, _⟩ :: _) _ _; (refine wpS_storeAll agg32b (hS.bring (by repeat (first | exact t0 | apply tS))) rfl rfl rfl (vs := (sumH h).map B8) rfl HSL.out (B8_one _) (by rw [List.length_map, fillTo_length]) ?_); clear hS; intro w hS; go_frame)
                )
              exact ret_cell2 (b := nr) agg32b rfl rfl rfl rfl ((hS.bring (by repeat (first | exact t0 | apply tS))).getBlk) HSL.out ⟨rfl, hS.sel (by repeat (first | exact Sel.refl | refine Sel.take (by repeat (first | exact t0 | apply tS)) ?_ | apply Sel.drop))⟩
    · have HC : Hid ((g.n % 64 != 56) = true) := by
        unfold Hid
        simpa using hc
      have hm64 : g.n % 64 < 18446744073709551616 := by omega
      have hjj : j < lack (h.n + 1) := by omega
      clear hc hl
      go_wp2_with (first
        | (show wpList _ _ _ (⟨_, .load 42 _, _, _, _, _⟩ :: _) _ _; refine wpList_val rfl (op_load1S oneU64 ((hS.bring (by repeat (first | exact t0 | apply tS)))) rfl rfl hcn.out) ?_; go_frame)
        | (show wpList _ _ _ (⟨_, .binOp .and 42 _ _ _, _, _, _, _⟩ :: _) _ _; refine wpList_val rfl (op_N64and63 rfl rfl rfl) ?_; go_frame)
        | (show wpList _ _ _ (⟨_, .binOp .neq 42 _ _ _, _, _, _, _⟩ :: _) _ _; refine wpList_val rfl (op_N64ne rfl rfl hm64 (c := 56) rfl) ?_; rw [HC.out]; go_frame)
        | (show wpList _ _ _ (⟨_, .buildSlice _ _ _, _, _, _, _⟩ :: _) _ _; refine wpS_build11 slBytes hS rfl rfl rfl rfl ?_; clear hS; intro v2 w hS; rw [b00] at hS; go_frame)
        | (go_at_call 47; refine Ret.calls (add_own hS hK HGO.out (by simp only [List.length_cons, List.length_nil]; omega)) ?_; clear hS; rintro r w hS; replace hS := hS.tail)
        )
      rw [HR1.out] at hS
      go_roundw
      case rel => exact ⟨j + 1, by omega, hS⟩
      case measure =>
        rw [HM.out, natAt_of hS (by rw [absorb_op, hg0o]) (by rw [absorb_n, hg0n, List.length_replicate]; omega), absorb_n, hg0n, List.length_replicate, HGN.out]
        unfold lack at *
        omega
end
end Go.Proofs.YtpdanieiafjmhaaDoor
