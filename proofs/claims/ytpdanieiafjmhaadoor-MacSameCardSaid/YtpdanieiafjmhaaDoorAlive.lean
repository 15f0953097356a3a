/- Sums can be held against each other; the document's example; the check of bytes. Conditions: those that stand ahead of each theorem. -/
import Derived.Test.YtpdanieiafjmhaaDoorWhole
import Derived.Test.YtpdanieiafjmhaaDoorMark
import Derived.WideKeyArr2
namespace Go.Proofs.YtpdanieiafjmhaaDoor
open Go.RowKit Go.Px Go.Sha Go.WideMaps
theorem keyHash : Key Tryd.prog 34 where
  law := Maps.Keyed.of_law (deep_law_laid Tryd.laidOut (m := 2) (by omega) (of_decide_eq_true (by kernel_rfl)) (by kernel_rfl) (by kernel_rfl))
  eq := fun w {x y lx ly} hx hy => run_equal_deep w (m := 2) (by omega) (by kernel_rfl) (by kernel_rfl) hx hy
  guard := by kernel_rfl
theorem sizeT : ∃ m, Tryd.prog.types.size = m + 1 := ⟨Tryd.prog.types.size - 1, by kernel_rfl⟩
theorem mapM_lits {P : Program} {e c : Nat} {q : IntKind} (he : P.underlying e = some (.int q)) {cs : List Value} {f : Nat → Int} (hw : ∀ i, (Lit.int q (f i)).wf = true) {D : Nat} : ∀ L : List Nat, (∀ i ∈ L, (cs.drop (i * c)).take c = [.int q (f i)]) → L.mapM (fun i => P.keyLits (D + 1) e ((cs.drop (i * c)).take c)) = some (L.map fun i => [.int q (f i)])
  | [], _ => rfl
  | i :: L, h => by
    rw [List.mapM_cons, mapM_lits he hw L (fun j hj => h j (by simp [hj])), h i (by simp)]
    simp [Program.keyLits, he, hw]
theorem isKey_bytes {P : Program} {k e n : Nat} (A : ArrKey P k e n) (he : P.underlying e = some (.int .u8)) (hsz : ∃ m, P.types.size = m + 1) {l : List Byte} (hl : l.length = n) : IsKey P k (.agg (l.map B8).toArray) := by
  have hkt := A.keyType hsz
  obtain ⟨m, hm⟩ := hsz
  unfold IsKey keyOf
  simp only [A.hu]
  rw [if_pos (by simp [hkt, Value.formed, A.hu, A.size, hl]), hm]
  unfold Program.keyLits
  simp only [A.hu, Value.cells]
  rw [if_pos (by rw [A.size]; simpa using hl)]
  rw [mapM_lits he (f := fun i => ((l.getD i 0).toNat : Int)) (by
    intro i
    have := (l.getD i 0).isLt
    simp [Lit.wf, IntKind.min, IntKind.max, IntKind.signed, IntKind.bits]
    omega) _ (by
    intro i hi
    have hi2 : i < l.length := by rw [hl]; exact List.mem_range.1 hi
    rw [A.one, Nat.mul_one, List.drop_eq_getElem_cons (by simpa using hi2), List.take_succ_cons, List.take_zero, List.getElem_map, List.getD_eq_getElem?_getD, List.getElem?_eq_getElem hi2]
    rfl)]
  exact ⟨_, rfl⟩
theorem arrHash : ArrKey Tryd.prog 34 5 32 := ⟨by kernel_rfl, by kernel_rfl, by kernel_rfl, by kernel_rfl⟩
theorem op_eqHash {o : Oper} {ρ : Operand → Value} {w : World} {x y : Operand} {t : TypeId} (ho : o.op = .binOp .eql 34 x y t) {a b : List Byte} (hx : ρ x = .agg (a.map B8).toArray) (hy : ρ y = .agg (b.map B8).toArray) (ha : a.length = 32) (hb : a = b) : (execOp ρ o).run Tryd.prog w = .ok (.value (.bool true)) w := by
  subst hb
  rw [op_eql keyHash ho hx hy (isKey_bytes arrHash undU8 sizeT ha) (isKey_bytes arrHash undU8 sizeT ha), eqv_self]
def abc : List Byte := [97#8, 98#8, 99#8]
def abcSum : List Byte := [0xba#8, 0x78#8, 0x16#8, 0xbf#8, 0x8f#8, 0x01#8, 0xcf#8, 0xea#8, 0x41#8, 0x41#8, 0x40#8, 0xde#8, 0x5d#8, 0xae#8, 0x22#8, 0x23#8, 0xb0#8, 0x03#8, 0x61#8, 0xa3#8, 0x96#8, 0x17#8, 0x7a#8, 0x9c#8, 0xb4#8, 0x10#8, 0xff#8, 0x61#8, 0xf2#8, 0x00#8, 0x15#8, 0xad#8]
theorem abc_sum : sum abc = abcSum := by decide +kernel
theorem build_abc (w : World) : (Instr.build 34 ((abcSum.map B8).zipIdx.map fun x => (x.2, x.1)).toArray).run Tryd.prog w = .ok (.agg (abcSum.map B8).toArray) w := by kernel_rfl
theorem abc_bytes : [Value.int .u8 97, Value.int .u8 98, Value.int .u8 99].map (fun v => v.cells.toList) = bytes abc := rfl
theorem abc_ne : bytes abc ≠ [] := by simp [bytes, abc]
theorem abcSum_len : abcSum.length = 32 := rfl
attribute [irreducible] abc
section
variable {R : Nat → Prop} {base w : World} {F : List Hp}
/-- both the pieces' list and its one piece are slices of one's own -/
theorem sum_own2 {T : Nat} {v u : Value} {bs : List Byte} (hS : SepL R base w (.own T 1 v [[u]] :: hRd 1 u (bytes bs) :: F)) (hK : CIn R base 0 (kTab.map W32)) (hF : CIn R base 1 (first.map W32)) (hn : bs.length < 4611686018427386000) :
    Calls Tryd.prog 23 #[v] w (Ret fun r w' => r = HV (sum bs) ∧ SepL R base w' (hRd 1 u (bytes bs) :: F)) := by
  obtain ⟨R1, h1, h2, h3, h4⟩ := hS.freezeOwn
  obtain ⟨R2, g1, g2, g3, g4⟩ := h1.freezeRd
  have h5 := sum_s g1 (kTab_mv (kTab_mv hK h3) g3) (first_mv (first_mv hF h3) g3) (Pieces.one (g3 _ _ _ h2) g2) (by rw [one_flat]; exact hn)
  rw [one_flat] at h5
  refine Ret.calls h5 ?_
  rintro r w' ⟨h6, h7⟩
  exact ⟨h6, (h4 w' _ (g4 w' _ h7)).tail⟩
set_option maxRecDepth 100000 in
set_option maxHeartbeats 4000000 in
theorem alive_s (hS : SepL R base w F) (hK : CIn R base 0 (kTab.map W32)) (hF : CIn R base 1 (first.map W32)) :
    Calls Tryd.prog 17 #[] w (Ret fun r w' => r = .bool true ∧ SepL R base w' F) := by
  have HSL := hide (show ((sum abc).map B8).length = 32 by rw [List.length_map, sum_len])
  have HAL : Hid (abc.length < 4611686018427386000) := by
    unfold Hid
    decide +kernel
  have hSL2 := hide (sum_len abc)
  have hne := abc_ne
  go_enter Tryd.func17, Tryd.ntmps17
  go_wp2_with (first
    | (refine wp_region_text (by kernel_rfl) (by kernel_rfl) (by repeat (first | exact Clean.body | refine Clean.then ?_ | refine Clean.inBlock ?_)) ?_; replace hS := hS.drew)
    | (refine fin_mk (by kernel_rfl) ?_)
    | (show wpList _ _ _ (⟨_, .alloc 34, _, _, _, _⟩ :: _) _ _; refine wpS_alloc hS rfl rfl zero32b (zs := (List.replicate 32 (0 : Byte)).map B8) rfl ?_; clear hS; intro nb w hS; go_frame)
    | (show wpList _ _ _ (⟨_, .buildSlice 28 _ _, _, _, _, _⟩ :: _) _ _; refine wpS_buildL slBytes hS rfl rfl [.int .u8 97, .int .u8 98, .int .u8 99] rfl rfl (by omega) (by omega) (by simp [Value.cells]) ?_; clear hS; intro v1 w hS; rw [abc_bytes] at hS; go_frame)
    | (show wpList _ _ _ (⟨_, .convert _ _ _, _, _, _, _⟩ :: _) _ _; refine wpS_convMark undBytes undU8 hne hS rfl rfl rfl ?_; clear hS; intro w hS; go_frame)
    | (show wpList _ _ _ (⟨_, .buildSlice 44 _ _, _, _, _, _⟩ :: _) _ _; refine wpS_build11 slPieces hS rfl rfl rfl (Rd.cell1 hS.rd1) ?_; clear hS; intro v2 w hS; go_frame)
    | (go_at_call 23; refine Ret.calls (sum_own2 hS hK hF HAL.out) ?_; clear hS; rintro r w ⟨rfl, hS⟩)
    | (show wpList _ _ _ (⟨_, .store 34 _ _, _, _, _, _⟩ :: _) _ _; (refine wpS_storeAll agg32b (hS.bring (by repeat (first | exact t0 | apply tS))) rfl rfl rfl (vs := (sum abc).map B8) rfl HSL.out (B8_one _) (by rw [List.length_map, List.length_replicate]) ?_); clear hS; intro w hS; go_frame)
    | (show wpList _ _ _ (⟨_, .load 34 _, _, _, _, _⟩ :: _) _ _; refine wpList_val rfl (op_load agg32b rfl rfl ((hS.bring (by repeat (first | exact t0 | apply tS))).getBlk.cells) HSL.out) ?_; go_frame)
    | (show wpList _ _ _ (⟨_, .build _ _, _, _, _, _⟩ :: _) _ _; refine wpList_val rfl (op_build (ps := ((abcSum.map B8).zipIdx.map fun x => (x.2, x.1)).toArray) rfl rfl build_abc _) ?_; go_frame)
    | (show wpList _ _ _ (⟨_, .binOp .eql 34 _ _ _, _, _, _, _⟩ :: _) _ _; refine wpList_val rfl (op_eqHash (a := sum abc) (b := abcSum) rfl rfl rfl hSL2.out abc_sum) ?_; go_frame)
    )
  go_ret
  exact ⟨rfl, hS.sel (by repeat (first | exact Sel.refl | refine Sel.take (by repeat (first | exact t0 | apply tS)) ?_ | apply Sel.drop))⟩
end
end Go.Proofs.YtpdanieiafjmhaaDoor
