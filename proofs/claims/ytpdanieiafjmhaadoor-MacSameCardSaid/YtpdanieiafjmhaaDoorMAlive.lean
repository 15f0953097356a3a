/- The document's examples of sums under a key. Conditions: those that stand ahead of each theorem. -/
import Derived.Test.YtpdanieiafjmhaaDoorMac2
namespace Go.Proofs.YtpdanieiafjmhaaDoor
open Go.RowKit Go.Px Go.Sha
def mKey : List Byte := [74#8, 101#8, 102#8, 101#8]
def mOne : List Byte := [119#8, 104#8, 97#8, 116#8, 32#8, 100#8, 111#8, 32#8, 121#8, 97#8, 32#8, 119#8, 97#8, 110#8, 116#8, 32#8]
def mTwo : List Byte := [102#8, 111#8, 114#8, 32#8, 110#8, 111#8, 116#8, 104#8, 105#8, 110#8, 103#8, 63#8]
def mSum : List Byte := [0x5b#8, 0xdc#8, 0xc1#8, 0x46#8, 0xbf#8, 0x60#8, 0x75#8, 0x4e#8, 0x6a#8, 0x04#8, 0x24#8, 0x26#8, 0x08#8, 0x95#8, 0x75#8, 0xc7#8, 0x5a#8, 0x00#8, 0x3f#8, 0x08#8, 0x9d#8, 0x27#8, 0x39#8, 0x83#8, 0x9d#8, 0xec#8, 0x58#8, 0xb9#8, 0x64#8, 0xec#8, 0x38#8, 0x43#8]
def seven : List Byte := 7#8 :: List.replicate 31 0
theorem m_sum : hmac mKey (mOne ++ mTwo) = mSum := by decide +kernel
theorem seven_pick : pickN seven 5 = 2 := by decide +kernel
theorem seven_len : seven.length = 32 := rfl
theorem build_mSum (w : World) : (Instr.build 34 ((mSum.map B8).zipIdx.map fun x => (x.2, x.1)).toArray).run Tryd.prog w = .ok (.agg (mSum.map B8).toArray) w := by kernel_rfl
theorem build_seven (w : World) : (Instr.build 34 #[(0, .int .u8 7)]).run Tryd.prog w = .ok (.agg (seven.map B8).toArray) w := by kernel_rfl
def mv4 : List Value := [.int .u8 74, .int .u8 101, .int .u8 102, .int .u8 101]
def mv16 : List Value := [.int .u8 119, .int .u8 104, .int .u8 97, .int .u8 116, .int .u8 32, .int .u8 100, .int .u8 111, .int .u8 32, .int .u8 121, .int .u8 97, .int .u8 32, .int .u8 119, .int .u8 97, .int .u8 110, .int .u8 116, .int .u8 32]
def mv12 : List Value := [.int .u8 102, .int .u8 111, .int .u8 114, .int .u8 32, .int .u8 110, .int .u8 111, .int .u8 116, .int .u8 104, .int .u8 105, .int .u8 110, .int .u8 103, .int .u8 63]
theorem mv4_b : mv4.map (fun v => v.cells.toList) = bytes mKey := rfl
theorem mv16_b : mv16.map (fun v => v.cells.toList) = bytes mOne := rfl
theorem mv12_b : mv12.map (fun v => v.cells.toList) = bytes mTwo := rfl
theorem mv4_s : ∀ v ∈ mv4, v.cells.size = 1 := by
  intro v hv
  simp only [mv4, List.mem_cons, List.not_mem_nil, or_false] at hv
  rcases hv with rfl | rfl | rfl | rfl <;> rfl
theorem mv16_s : ∀ v ∈ mv16, v.cells.size = 1 := by
  intro v hv
  simp only [mv16, List.mem_cons, List.not_mem_nil, or_false] at hv
  rcases hv with rfl | rfl | rfl | rfl | rfl | rfl | rfl | rfl | rfl | rfl | rfl | rfl | rfl | rfl | rfl | rfl <;> rfl
theorem mv12_s : ∀ v ∈ mv12, v.cells.size = 1 := by
  intro v hv
  simp only [mv12, List.mem_cons, List.not_mem_nil, or_false] at hv
  rcases hv with rfl | rfl | rfl | rfl | rfl | rfl | rfl | rfl | rfl | rfl | rfl | rfl <;> rfl
theorem mKey_ne : bytes mKey ≠ [] := by simp [bytes, mKey]
theorem mOne_ne : bytes mOne ≠ [] := by simp [bytes, mOne]
theorem mTwo_ne : bytes mTwo ≠ [] := by simp [bytes, mTwo]
theorem mKey_l : mKey.length = 4 := rfl
theorem mOne_l : mOne.length = 16 := rfl
theorem mTwo_l : mTwo.length = 12 := rfl
attribute [irreducible] mKey mOne mTwo
theorem cells_two {u v : Value} (hu : u.cells = #[u]) (hv : v.cells = #[v]) : [u, v].map (fun v => v.cells.toList) = [[u], [v]] := by simp [hu, hv]
theorem cells_two_size {u v : Value} (hu : u.cells = #[u]) (hv : v.cells = #[v]) : ∀ x ∈ [u, v], x.cells.size = 1 := by simp [hu, hv]
section
variable {R : Nat → Prop} {base w : World} {F : List Hp}
theorem msum_mark {T : Nat} {v u1 u2 uk : Value} {key p1 p2 : List Byte} (hS : SepL R base w (.own T 1 v [[u1], [u2]] :: hRd 1 u2 (bytes p2) :: hRd 1 u1 (bytes p1) :: hRd 1 uk (bytes key) :: F)) (hK : CIn R base 0 (kTab.map W32)) (hF : CIn R base 1 (first.map W32)) (hkn : key.length ≤ 1000) (hn1 : p1.length ≤ 1000) (hn2 : p2.length ≤ 1000) :
    Calls Tryd.prog 35 #[uk, v] w (Ret fun r w' => r = HV (hmac key (p1 ++ p2)) ∧ SepL R base w' F) := by
  obtain ⟨R1, a1, a2, a3, a4⟩ := hS.freezeOwn
  obtain ⟨R2, b1, b2, b3, b4⟩ := a1.freezeRd
  obtain ⟨R3, c1, c2, c3, c4⟩ := b1.freezeRd
  obtain ⟨R4, d1, d2, d3, d4⟩ := c1.freezeRd
  have e : [p1, p2].flatten = p1 ++ p2 := by simp
  have h5 := msum_s d1 (kTab_mv (kTab_mv (kTab_mv (kTab_mv hK a3) b3) c3) d3) (first_mv (first_mv (first_mv (first_mv hF a3) b3) c3) d3) d2 (by omega) (us := [u1, u2]) (ps := [p1, p2]) ⟨d3 _ _ _ (c3 _ _ _ (b3 _ _ _ a2)), rfl, at_two (d3 _ _ _ c2) (d3 _ _ _ (c3 _ _ _ b2))⟩ (by rw [e, List.length_append]; omega)
  rw [e] at h5
  refine Ret.calls h5 ?_
  rintro r w' ⟨h6, h7⟩
  exact ⟨h6, (a4 w' _ (b4 w' _ (c4 w' _ (d4 w' _ h7)))).tail.tail.tail.tail⟩
set_option maxRecDepth 100000 in
set_option maxHeartbeats 4000000 in
theorem malive_s (hS : SepL R base w F) (hK : CIn R base 0 (kTab.map W32)) (hF : CIn R base 1 (first.map W32)) :
    Calls Tryd.prog 33 #[] w (Ret fun r w' => r = .bool true ∧ SepL R base w' F) := by
  have HML := hide (hmac_len mKey (mOne ++ mTwo))
  have HML2 : Hid (((hmac mKey (mOne ++ mTwo)).map B8).length = 32) := by
    unfold Hid
    rw [List.length_map, hmac_len]
  have HPK : ∀ {w : World} {F : List Hp}, SepL R base w F → Calls Tryd.prog 39 #[.agg (seven.map B8).toArray, .int .i64 5] w (Ret fun r w' => r = .tuple #[.int .i64 2, .int .i64 0] ∧ SepL R base w' F) := fun h => by
    have h2 := pick_s h seven_len 5 (by omega) (by omega)
    rw [seven_pick] at h2
    exact h2
  have HSM : ∀ {w : World} {F : List Hp}, SepL R base w F → Calls Tryd.prog 37 #[.slice none 0 0, .slice none 0 0] w (Ret fun r w' => r = .bool true ∧ SepL R base w' F) := fun h => same_s (xs := []) (bs := []) h (RdIn.nil 1) (RdIn.nil 1) (by simp) (by simp)
  go_enter Tryd.func33, Tryd.ntmps33
  go_wp2_with (first
    | (show wpList _ _ _ (⟨some 1, .alloc _, _, _, _, _⟩ :: _) _ _; refine wpS_alloc hS rfl rfl zero32b (zs := (List.replicate 32 (0 : Byte)).map B8) rfl ?_; clear hS; intro nb w hS; go_frame)
    | (show wpList _ _ _ (⟨some 4, .buildSlice _ _ _, _, _, _, _⟩ :: _) _ _; refine wpS_buildL slBytes hS rfl rfl mv4 rfl rfl (by omega) (by omega) mv4_s ?_; clear hS; intro v4 w hS; rw [mv4_b] at hS; go_frame)
    | (show wpList _ _ _ (⟨some 6, .buildSlice _ _ _, _, _, _, _⟩ :: _) _ _; refine wpS_buildL slBytes hS rfl rfl mv16 rfl rfl (by omega) (by omega) mv16_s ?_; clear hS; intro v6 w hS; rw [mv16_b] at hS; go_frame)
    | (show wpList _ _ _ (⟨some 8, .buildSlice _ _ _, _, _, _, _⟩ :: _) _ _; refine wpS_buildL slBytes hS rfl rfl mv12 rfl rfl (by omega) (by omega) mv12_s ?_; clear hS; intro v8 w hS; rw [mv12_b] at hS; go_frame)
    | (show wpList _ _ _ (⟨some 5, .convert _ _ _, _, _, _, _⟩ :: _) _ _; refine wpS_convMark undBytes undU8 mKey_ne hS rfl rfl rfl ?_; clear hS; intro w hS; go_frame)
    | (show wpList _ _ _ (⟨some 7, .convert _ _ _, _, _, _, _⟩ :: _) _ _; refine wpS_convMark undBytes undU8 mOne_ne hS rfl rfl rfl ?_; clear hS; intro w hS; go_frame)
    | (show wpList _ _ _ (⟨some 9, .convert _ _ _, _, _, _, _⟩ :: _) _ _; refine wpS_convMark undBytes undU8 mTwo_ne hS rfl rfl rfl ?_; clear hS; intro w hS; have hcl2 := cells_two (Rd.cell1 hS.tail.rd1) (Rd.cell1 hS.rd1); have hcs2 := cells_two_size (Rd.cell1 hS.tail.rd1) (Rd.cell1 hS.rd1); go_frame)
    | (show wpList _ _ _ (⟨some 10, .buildSlice _ _ _, _, _, _, _⟩ :: _) _ _; refine wpS_buildL slPieces hS rfl rfl [v6, v8] rfl rfl (by omega) (by omega) hcs2 ?_; clear hS; intro v10 w hS; rw [hcl2] at hS; clear hcl2 hcs2; go_frame)
    | (go_at_call 35; refine Ret.calls (msum_mark hS hK hF (by rw [mKey_l]; omega) (by rw [mOne_l]; omega) (by rw [mTwo_l]; omega)) ?_; clear hS; rintro r w ⟨rfl, hS⟩)
    | (show wpList _ _ _ (⟨_, .store 34 _ _, _, _, _, _⟩ :: _) _ _; (refine wpS_storeAll agg32b (hS.bring (by repeat (first | exact t0 | apply tS))) rfl rfl rfl (vs := (hmac mKey (mOne ++ mTwo)).map B8) rfl HML2.out (B8_one _) (by rw [List.length_map, List.length_replicate]) ?_); clear hS; intro w hS; go_frame)
    | (show wpList _ _ _ (⟨some 13, .build _ _, _, _, _, _⟩ :: _) _ _; refine wpList_val rfl (op_build (ps := #[(0, .int .u8 7)]) rfl rfl build_seven _) ?_; go_frame)
    | (go_at_call 39; refine Ret.calls (HPK hS) ?_; clear hS; rintro r w ⟨rfl, hS⟩)
    | (show wpList _ _ _ (⟨_, .load 34 _, _, _, _, _⟩ :: _) _ _; refine wpList_val rfl (op_load agg32b rfl rfl ((hS.bring (by repeat (first | exact t0 | apply tS))).getBlk.cells) HML2.out) ?_; go_frame)
    | (show wpList _ _ _ (⟨some 18, .build _ _, _, _, _, _⟩ :: _) _ _; refine wpList_val rfl (op_build (ps := ((mSum.map B8).zipIdx.map fun x => (x.2, x.1)).toArray) rfl rfl build_mSum _) ?_; go_frame)
    | (show wpList _ _ _ (⟨_, .binOp .eql 34 _ _ _, _, _, _, _⟩ :: _) _ _; refine wpList_val rfl (op_eqHash (a := hmac mKey (mOne ++ mTwo)) (b := mSum) rfl rfl rfl HML.out m_sum) ?_; go_frame)
    | (go_at_call 37; refine Ret.calls (HSM hS) ?_; clear hS; rintro r w ⟨rfl, hS⟩)
    )
  go_ret
  exact ⟨rfl, hS.sel (by repeat (first | exact Sel.refl | refine Sel.take (by repeat (first | exact t0 | apply tS)) ?_ | apply Sel.drop))⟩
end
end Go.Proofs.YtpdanieiafjmhaaDoor
