/- Of two lists of ids it is proved when the given comparison answers yes, and when the given search finds an id. Conditions: those that stand ahead of each theorem. -/
import Derived.Test.YtkddaombdahodaaRows
import Derived.Test.YtkddaombdahodaaRet
namespace Go.Proofs.Ytkddaombdahodaa
open Go.RowKit Go.Px
theorem Try.laidOut : laidOutB Try.prog = true := by kernel_rfl
theorem agg24 : Agg Try.prog 24 32 := Agg.of (d := .array 32 5) (by kernel_rfl) rfl (by kernel_rfl)
theorem key24 : Key Try.prog 24 where
  law := Maps.Keyed.of_law (deep_law_laid Try.laidOut (m := 2) (by omega) (of_decide_eq_true (by kernel_rfl)) (by kernel_rfl) (by kernel_rfl))
  eq := fun w {x y lx ly} hx hy => run_equal_deep w (m := 2) (by omega) (by kernel_rfl) (by kernel_rfl) hx hy
  guard := by kernel_rfl

theorem zero24 (w : World) : (zeroValue 24).run Try.prog w = .ok (.agg (List.replicate 32 (.int .u8 0)).toArray) w := by kernel_rfl
theorem underlying24 : Try.prog.underlying 24 = some (.array 32 5) := by kernel_rfl
theorem underlying5 : Try.prog.underlying 5 = some (.int .u8) := by kernel_rfl
def H (x : List Value) : Value := .agg x.toArray
def IsH (x : List Value) : Prop := (x.length = 32 ∧ ∀ v ∈ x, v.oneCell' = true) ∧ IsKey Try.prog 24 (H x)
def IsHs (xs : List (List Value)) : Prop := ∀ x ∈ xs, IsH x
noncomputable def eqL (xs ys : List (List Value)) : Bool := @decide (xs = ys) (Classical.propDecidable _)

set_option maxHeartbeats 400000 in
theorem sameIds_len (x y : Value) (xs ys : List (List Value)) (w : World) (hx : Rd 32 w x xs) (hy : Rd 32 w y ys) (hl : xs.length ≠ ys.length) :
    Calls Try.prog 12 #[x, y] w (Ret fun v w' => v = .bool false ∧ Chg No w w') := by
  obtain ⟨A, c, rfl, h1, h2⟩ := hx.form
  obtain ⟨A', c', rfl, h3, h4⟩ := hy.form
  have hb : ((xs.length : Int) != (ys.length : Int)) = true := by rw [bne_iff_ne]; omega
  go_enter Try.func12, Try.ntmps12
  go_wp2
  go_ret
  exact ⟨rfl, Chg.refl _ _⟩

set_option maxHeartbeats 400000 in
theorem sameIds_any (x y : Value) (xs ys : List (List Value)) (w : World) (hx : Rd 32 w x xs) (hy : Rd 32 w y ys) (kx : IsHs xs) (ky : IsHs ys) (hl : xs.length = ys.length) :
    Calls Try.prog 12 #[x, y] w (Ret fun v w' => v = .bool (eqL xs ys) ∧ Chg No w w') := by
  obtain ⟨A, c, rfl, h1, h2⟩ := hx.form
  obtain ⟨A', c', rfl, h3, h4⟩ := hy.form
  have hlen := hl
  rw [← hl] at hy ⊢
  have hm : xs.length ≤ 9223372036854775807 := by unfold maxLen at h2; omega
  have hb : ((xs.length : Int) != (xs.length : Int)) = false := by simp
  have HL := Lib.hid hlen
  clear hl hlen
  go_enter Try.func12, Try.ntmps12
  go_wp2
  go_loopw [13] (fun i wr => ∃ k : Nat, i = .int .i64 k ∧ k ≤ xs.length ∧ xs.take k = ys.take k ∧ Chg No w wr) (fun i _ => xs.length - (intOf i).toNat)
  case atStart => exact ⟨0, rfl, by omega, rfl, Chg.refl _ _⟩
  case round =>
    obtain ⟨k, rfl, hk, htk, hch⟩ := hrel
    by_cases hlt : k < xs.length
    · have hlt' : k < ys.length := by rw [← HL.out]; exact hlt
      obtain ⟨b, off, rfl, cx⟩ := (hx.chgNo hch).at (List.getElem?_eq_getElem hlt)
      obtain ⟨b', off', rfl, cy⟩ := (hy.chgNo hch).at (List.getElem?_eq_getElem hlt')
      obtain ⟨⟨lx, fx⟩, jx⟩ := kx _ (List.getElem_mem hlt)
      obtain ⟨⟨ly, fy⟩, jy⟩ := ky _ (List.getElem_mem hlt')
      have LX := Lib.hid lx
      have LY := Lib.hid ly
      clear lx ly
      have HT := Lib.hid htk
      clear htk
      have hch' := hch.drew
      rcases hq : eqv (H xs[k]) (H ys[k]) with _ | _
      · have HF : eqL xs ys = false := by
          unfold eqL
          have hne : xs ≠ ys := by
            rintro rfl
            rw [eqv_self] at hq; cases hq
          simpa using hne
        have HE := Lib.hid HF
        clear HF
        have HQ := Lib.hid hq
        clear hq
        go_wp2
        refine wp_region_text (by kernel_rfl) (by kernel_rfl) (by repeat (first | exact Clean.body | refine Clean.then ?_ | refine Clean.inBlock ?_)) ?_
        go_wp2_with (first
          | (refine wpList_val rfl (op_load agg24 rfl rfl (show Cells wr.drew _ _ _ from cx) LX.out) ?_)
          | (refine wpList_val rfl (op_load agg24 rfl rfl (show Cells wr.drew _ _ _ from cy) LY.out) ?_)
          | (refine wpList_val rfl (op_neq key24 rfl rfl rfl jx jy) ?_; rw [show eqv (.agg xs[k].toArray) (.agg ys[k].toArray) = false from HQ.out])
          | (refine fin_mk (by kernel_rfl) ?_))
        go_ret
        exact ⟨(congrArg Value.bool HE.out).symm, hch'⟩
      · have he : xs[k] = ys[k] := by
          have := eqv_true.1 hq
          unfold H at this
          injection this with this
          exact List.toArray_inj this
        have HN : Hid (xs.take (k + 1) = ys.take (k + 1)) := by
          unfold Hid
          rw [List.take_succ_eq_append_getElem hlt, List.take_succ_eq_append_getElem hlt', HT.out, he]
        have HQ := Lib.hid hq
        clear hq he
        go_wp2
        refine wp_region_text (by kernel_rfl) (by kernel_rfl) (by repeat (first | exact Clean.body | refine Clean.then ?_ | refine Clean.inBlock ?_)) ?_
        go_wp2_with (first
          | (refine wpList_val rfl (op_load agg24 rfl rfl (show Cells wr.drew _ _ _ from cx) LX.out) ?_)
          | (refine wpList_val rfl (op_load agg24 rfl rfl (show Cells wr.drew _ _ _ from cy) LY.out) ?_)
          | (refine wpList_val rfl (op_neq key24 rfl rfl rfl jx jy) ?_; rw [show eqv (.agg xs[k].toArray) (.agg ys[k].toArray) = true from HQ.out])
          | (refine fin_mk (by kernel_rfl) ?_))
        go_roundw
        case rel => exact ⟨k + 1, by go_num, by omega, HN.out, hch'⟩
        case measure => simp [intOf]; omega
    · have he : eqL xs ys = true := by
        unfold eqL
        rw [List.take_of_length_le (by omega), List.take_of_length_le (by rw [← HL.out]; omega)] at htk
        simpa using htk
      have HE := Lib.hid he
      clear he htk
      go_wp2
      go_ret
      exact ⟨(congrArg Value.bool HE.out).symm, hch⟩

/-- of the ids, is it one? -/
noncomputable def mem (x : List Value) (xs : List (List Value)) : Bool := @decide (x ∈ xs) (Classical.propDecidable _)
set_option maxHeartbeats 400000 in
theorem has11_any (x : Value) (xs : List (List Value)) (y : List Value) (w : World) (hx : Rd 32 w x xs) (kx : IsHs xs) (ky : IsH y) :
    Calls Try.prog 19 #[x, H y] w (Ret fun v w' => v = .bool (mem y xs) ∧ Chg No w w') := by
  obtain ⟨A, c, rfl, h1, h2⟩ := hx.form
  have hm : xs.length ≤ 9223372036854775807 := by unfold maxLen at h2; omega
  obtain ⟨⟨ly, fy⟩, jy⟩ := ky
  have LY := Lib.hid ly
  clear ly
  unfold H at jy ⊢
  go_enter Try.func19, Try.ntmps19
  go_wp2
  have hb0 : Blk (w.alloc (.cells y.toArray 24)) w.heap.size 24 y := by have := Blk.new w 24 y.toArray; simpa using this
  generalize hw0 : w.alloc (.cells y.toArray 24) = w0 at *
  have hc0 : Chg No w w0 := by rw [← hw0]; exact (Chg.refl _ _).alloc _
  have hlt0 : w.heap.size < w0.heap.size := hb0.lt
  have hx0 := hx.chgNo hc0
  clear hw0
  go_loopw [9] (fun i wr => ∃ k : Nat, i = .int .i64 k ∧ k ≤ xs.length ∧ y ∉ xs.take k ∧ Chg No w0 wr) (fun i _ => xs.length - (intOf i).toNat)
  case atStart => exact ⟨0, rfl, by omega, by simp, Chg.refl _ _⟩
  case round =>
    obtain ⟨k, rfl, hk, htk, hch⟩ := hrel
    by_cases hlt : k < xs.length
    · obtain ⟨b, off, rfl, cx⟩ := (hx0.chgNo hch).at (List.getElem?_eq_getElem hlt)
      obtain ⟨⟨lx, fx⟩, jx⟩ := kx _ (List.getElem_mem hlt)
      unfold H at jx
      have LX := Lib.hid lx
      clear lx
      have HT := Lib.hid htk
      clear htk
      rcases hq : eqv (.agg xs[k].toArray) (.agg y.toArray) with _ | _
      · have HN : Hid (y ∉ xs.take (k + 1)) := by
          unfold Hid
          rw [List.take_succ_eq_append_getElem hlt, List.mem_append, List.mem_singleton]
          rintro (h | h)
          · exact HT.out h
          · rw [h, eqv_self] at hq; cases hq
        have HQ := Lib.hid hq
        clear hq
        go_wp2_with (first
          | (refine wpList_val rfl (op_load agg24 rfl rfl cx LX.out) ?_)
          | (refine wpList_val rfl (op_alloc rfl zero24) ?_)
          | (refine wpList_skp rfl (op_store_new agg24 rfl rfl rfl (by simp [LX.out]) (by simpa using fx) (by simp [Value.cells])) ?_)
          | (refine wpList_val rfl (op_load agg24 rfl rfl (Blk.new wr 24 xs[k].toArray).cells (by simp [LX.out])) ?_)
          | (refine wpList_val rfl (op_load agg24 rfl rfl ((hb0.chg hch id).keep (Below.heap_alloc wr (.cells xs[k].toArray 24) _ (Nat.lt_of_lt_of_le hlt0 hch.size))).cells LY.out) ?_)
          | (refine wpList_val rfl (op_eql key24 rfl rfl rfl jx jy) ?_; rw [HQ.out]))
        go_roundw
        case rel => exact ⟨k + 1, by go_num, by omega, HN.out, hch.alloc _⟩
        case measure => simp [intOf]; omega
      · have he : mem y xs = true := by
          unfold mem
          have e := eqv_true.1 hq
          injection e with e
          have e2 : y = xs[k] := (List.toArray_inj e).symm
          have : y ∈ xs := by rw [e2]; exact List.getElem_mem hlt
          simpa using this
        have HE := Lib.hid he
        clear he
        have HQ := Lib.hid hq
        clear hq
        go_wp2_with (first
          | (refine wpList_val rfl (op_load agg24 rfl rfl cx LX.out) ?_)
          | (refine wpList_val rfl (op_alloc rfl zero24) ?_)
          | (refine wpList_skp rfl (op_store_new agg24 rfl rfl rfl (by simp [LX.out]) (by simpa using fx) (by simp [Value.cells])) ?_)
          | (refine wpList_val rfl (op_load agg24 rfl rfl (Blk.new wr 24 xs[k].toArray).cells (by simp [LX.out])) ?_)
          | (refine wpList_val rfl (op_load agg24 rfl rfl ((hb0.chg hch id).keep (Below.heap_alloc wr (.cells xs[k].toArray 24) _ (Nat.lt_of_lt_of_le hlt0 hch.size))).cells LY.out) ?_)
          | (refine wpList_val rfl (op_eql key24 rfl rfl rfl jx jy) ?_; rw [HQ.out]))
        go_ret
        exact ⟨(congrArg Value.bool HE.out).symm, hc0.trans' (hch.alloc _)⟩
    · have he : mem y xs = false := by
        unfold mem
        rw [List.take_of_length_le (by omega)] at htk
        simpa using htk
      have HE := Lib.hid he
      clear he htk
      go_wp2
      go_ret
      exact ⟨(congrArg Value.bool HE.out).symm, hc0.trans' hch⟩
end Go.Proofs.Ytkddaombdahodaa
