/- The library's functions on slices of ids: copies, a place, an element cut out. Conditions: those that stand ahead of each theorem. -/
import Derived.Test.YtffagjkjeojaaaaQL
import Derived.Test.YtffagjkjeojaaaaInts2
namespace Go.Proofs.Ytffagjkjeojaaaa
open Go.RowKit Go.Px
/-- where an element is first; -1: nowhere -/
def ixOf {α : Type} [DecidableEq α] (x : α) : List α → Int
  | [] => -1
  | y :: l => if y = x then 0 else if ixOf x l = -1 then -1 else ixOf x l + 1
theorem ix_range {α : Type} [DecidableEq α] (x : α) : ∀ l : List α, -1 ≤ ixOf x l ∧ ixOf x l < l.length
  | [] => by simp [ixOf]
  | y :: l => by
    have := ix_range x l
    unfold ixOf
    simp only [List.length_cons]
    split
    · omega
    · split <;> omega
theorem ix_none {α : Type} [DecidableEq α] {x : α} : ∀ {l : List α}, x ∉ l → ixOf x l = -1
  | [], _ => rfl
  | y :: l, h => by
    simp only [List.mem_cons, not_or] at h
    unfold ixOf
    rw [if_neg (fun e => h.1 e.symm), if_pos (ix_none h.2)]
theorem ix_at {α : Type} [DecidableEq α] {x : α} : ∀ {l m : List α}, x ∉ l → ixOf x (l ++ x :: m) = l.length
  | [], m, _ => by simp [ixOf]
  | y :: l, m, h => by
    simp only [List.mem_cons, not_or] at h
    have ih := ix_at (m := m) h.2
    rw [List.cons_append]
    unfold ixOf
    rw [if_neg (fun e => h.1 e.symm), ih, if_neg (by omega)]
    simp
theorem mem_first {α : Type} [DecidableEq α] {x : α} : ∀ {l : List α}, x ∈ l → ∃ a b, l = a ++ x :: b ∧ x ∉ a
  | [], h => by cases h
  | y :: l, h => by
    by_cases hy : x = y
    · subst hy
      exact ⟨[], l, rfl, by simp⟩
    · rcases List.mem_cons.1 h with e | e
      · exact absurd e hy
      · obtain ⟨a, b, rfl, hn⟩ := mem_first e
        exact ⟨y :: a, b, rfl, by simp [hy, hn]⟩
theorem ix_mem {α : Type} [DecidableEq α] {x : α} {l : List α} : (0 ≤ ixOf x l) ↔ x ∈ l := by
  constructor
  · intro h
    apply Classical.byContradiction
    intro hn
    rw [ix_none hn] at h
    omega
  · intro h
    obtain ⟨a, b, rfl, hn⟩ := mem_first h
    rw [ix_at hn]
    omega
/-- ids' cells -/
def bys (l : List (List Byte)) : List (List Value) := l.map fun a => a.map B8
theorem bys_get {l : List (List Byte)} {k : Nat} (h : k < (bys l).length) (h' : k < l.length) : (bys l)[k] = (l[k]).map B8 := List.getElem_map _
theorem bys_length (l : List (List Byte)) : (bys l).length = l.length := by simp [bys]
set_option maxRecDepth 100000 in
set_option maxHeartbeats 2000000 in
theorem clone_hash (v : Value) (xs : List (List Value)) (w : World) (hv : Rd 32 w v xs) (hf : Flat xs) (hlen : xs.length ≤ 1000000) :
    Calls Try.prog 35 #[v] w (Ret fun r w' => SepL All w w' [.own 24 32 r xs]) := by
  have hS := SepL.start w
  obtain ⟨A, cap, rfl, h1, h2⟩ := hv.form
  cases A with
  | none =>
    obtain ⟨_, _, _, hn⟩ := hv.src
    have := hn rfl
    subst this
    replace hS := hS.nilOwn 24 32
    go_enter Try.func35, Try.ntmps35
    go_wp2_with (first
      | (show wpList _ _ _ (⟨some 4, .binOp _ _ _ _ _, _, _, _, _⟩ :: _) _ _; refine wpList_val rfl (op_eqNil slHash.ty rfl rfl rfl) ?_; go_frame)
      )
    go_ret
    exact hS
  | some ad =>
    go_enter Try.func35, Try.ntmps35
    go_wp2_with (first
      | (show wpList _ _ _ (⟨some 4, .binOp _ _ _ _ _, _, _, _, _⟩ :: _) _ _; refine wpList_val rfl (op_eqNil slHash.ty rfl rfl rfl) ?_; go_frame)
      | (show wpList _ _ _ (⟨_, .buildSlice _ 0 _, _, _, _, _⟩ :: _) _ _; refine wpS_build0 slHash hS rfl rfl ?_; clear hS; intro v1 w1 hS; go_frame)
      | (show wpList _ _ _ (⟨_, .call ⟨.builtin .append, _, _⟩, _, _, _, _⟩ :: _) _ _; refine wpS_append slHash hS rfl rfl rfl rfl (hv.chgNo hS.chg) hf (by simp; omega) (by simp [maxLen]; omega) ?_; clear hS; intro v2 w2 hS; go_frame)
      )
    go_ret
    exact hS
theorem bys_app (l m : List (List Byte)) : bys (l ++ m) = bys l ++ bys m := List.map_append
theorem bys_take (l : List (List Byte)) (k : Nat) : bys (l.take k) = (bys l).take k := by unfold bys; rw [List.map_take]
theorem bys_drop (l : List (List Byte)) (k : Nat) : bys (l.drop k) = (bys l).drop k := by unfold bys; rw [List.map_drop]
theorem bys_set (l : List (List Byte)) (k : Nat) (x : List Byte) : (bys l).set k (x.map B8) = bys (l.set k x) := by unfold bys; rw [List.map_set]
theorem flat_bys (l : List (List Byte)) : Flat (bys l) := flat_B8s l
set_option maxRecDepth 100000 in
set_option maxHeartbeats 2000000 in
theorem index_hash (v : Value) (l : List (List Byte)) (x : List Byte) (w : World) (hv : Rd 32 w v (bys l)) (hx : x.length = 32) (hl : ∀ a ∈ l, a.length = 32) :
    Calls Try.prog 28 #[v, HV x] w (Ret fun r w' => r = .int .i64 (ixOf x l) ∧ Chg No w w') := by
  have hS := SepL.start w
  have hw := RdIn.of hv
  have HL : Hid ((bys l).length = l.length) := bys_length l
  have hmax : l.length ≤ maxLen := by
    have := hv.len
    rwa [HL.out] at this
  unfold maxLen at hmax
  have HX32 : Hid ((x.map B8).length = 32) := by simp [Hid, hx]
  have HXL := hide hx
  have HLL := hide hl
  clear hv hx hl
  unfold HV
  go_enter Try.func28, Try.ntmps28
  go_wp2_with (first
    | (show wpList _ _ _ (⟨_, .box _ _, _, _, _, _⟩ :: _) _ _; refine wpS_boxA (cs := x.map B8) hS rfl rfl rfl ?_; clear hS; intro nb w1 hS; go_frame)
    | (show wpList _ _ _ (⟨_, .call ⟨.builtin .len, _, _⟩, _, _, _, _⟩ :: _) _ _; refine wpList_val rfl (op_len slHash rfl rfl rfl (by exact hS.rd hw)) ?_; rw [HL.out]; go_frame)
    )
  go_loopw [8] (fun i wr => ∃ k : Nat, i = .int .i64 k ∧ k ≤ l.length ∧ x ∉ l.take k ∧ SepL All w wr [.blk nb 24 (x.map B8)]) (fun i _ => l.length - (intOf i).toNat)
  case atStart => exact ⟨0, rfl, by omega, by simp, hS⟩
  case round =>
    clear hS
    obtain ⟨k, rfl, hk, hno, hS⟩ := hrel
    by_cases hlt : k < l.length
    · have hlt' : k < (bys l).length := by rw [HL.out]; exact hlt
      have hsp : l = l.take k ++ l[k] :: l.drop (k + 1) := by
        rw [← List.drop_eq_getElem_cons hlt, List.take_append_drop]
      obtain ⟨y, hy⟩ : ∃ y, l[k] = y := ⟨_, rfl⟩
      have hyl : y.length = 32 := by rw [← hy]; exact HLL.out _ (List.getElem_mem hlt)
      have HX : Hid ((bys l)[k] = y.map B8) := by
        unfold Hid
        rw [bys_get hlt' hlt, hy]
      have hn : l.take (k + 1) = l.take k ++ [y] := by rw [List.take_succ_eq_append_getElem hlt, hy]
      rw [hy] at hsp
      have hlk : (l.take k).length = k := by simp; omega
      have KX := isKey HXL.out
      have KY := isKey hyl
      unfold HV at KX KY
      clear hy
      by_cases he : x = y
      · have HR : Hid (ixOf x l = k) := by
          unfold Hid
          rw [hsp, ← he, ix_at hno, hlk]
        have HE : Hid (eqv (.agg (x.map B8).toArray) (.agg (y.map B8).toArray) = true) := (HV_eqv x y).trans (decide_eq_true he)
        clear hsp hn he hno hlk hyl
        go_wp2_with fail
        refine wp_region_text (by kernel_rfl) (by kernel_rfl) (by repeat (first | exact Clean.body | refine Clean.then ?_ | refine Clean.inBlock ?_)) ?_
        replace hS := hS.drew
        go_wp2_with (first
          | (show wpList _ _ _ (⟨some 11, .load _ _, _, _, _, _⟩ :: _) _ _; refine wpList_val rfl (op_load aggHash rfl rfl ((hS.bring (by repeat (first | exact t0 | apply tS))).getBlk.cells) HX32.out) ?_; go_frame)
          | (show wpList _ _ _ (⟨some 14, .indexAddr _ _ _, _, _, _, _⟩ :: _) _ _; refine wpList_val rfl (op_indexAddr slHash rfl rfl (k := k) rfl (by exact hS.rd hw) hlt') ?_; go_frame)
          | (show wpList _ _ _ (⟨some 15, .load _ _, _, _, _, _⟩ :: _) _ _; refine wpList_val rfl (op_loadE aggHash rfl rfl (by exact hS.rd hw) hlt') ?_; rw [HX.out]; go_frame)
          | (show wpList _ _ _ (⟨some 16, .binOp _ _ _ _ _, _, _, _, _⟩ :: _) _ _; refine wpList_val rfl (op_eql keyHash rfl rfl rfl KX KY) ?_; rw [HE.out]; go_frame)
          | (refine fin_mk (by kernel_rfl) ?_))
        go_ret
        exact ⟨by rw [HR.out]; rfl, hS.chg⟩
      · have HE : Hid (eqv (.agg (x.map B8).toArray) (.agg (y.map B8).toArray) = false) := (HV_eqv x y).trans (decide_eq_false he)
        have hno' : x ∉ l.take (k + 1) := by
          rw [hn]
          simp [hno, he]
        clear hsp hn he hno hlk hyl
        go_wp2_with fail
        refine wp_region_text (by kernel_rfl) (by kernel_rfl) (by repeat (first | exact Clean.body | refine Clean.then ?_ | refine Clean.inBlock ?_)) ?_
        replace hS := hS.drew
        go_wp2_with (first
          | (show wpList _ _ _ (⟨some 11, .load _ _, _, _, _, _⟩ :: _) _ _; refine wpList_val rfl (op_load aggHash rfl rfl ((hS.bring (by repeat (first | exact t0 | apply tS))).getBlk.cells) HX32.out) ?_; go_frame)
          | (show wpList _ _ _ (⟨some 14, .indexAddr _ _ _, _, _, _, _⟩ :: _) _ _; refine wpList_val rfl (op_indexAddr slHash rfl rfl (k := k) rfl (by exact hS.rd hw) hlt') ?_; go_frame)
          | (show wpList _ _ _ (⟨some 15, .load _ _, _, _, _, _⟩ :: _) _ _; refine wpList_val rfl (op_loadE aggHash rfl rfl (by exact hS.rd hw) hlt') ?_; rw [HX.out]; go_frame)
          | (show wpList _ _ _ (⟨some 16, .binOp _ _ _ _ _, _, _, _, _⟩ :: _) _ _; refine wpList_val rfl (op_eql keyHash rfl rfl rfl KX KY) ?_; rw [HE.out]; go_frame)
          | (refine fin_mk (by kernel_rfl) ?_))
        go_roundw
        case rel => exact ⟨k + 1, by go_num, by omega, hno', hS⟩
        case measure => simp [intOf]; omega
    · have hk2 : k = l.length := by omega
      subst hk2
      rw [List.take_length] at hno
      have HR := hide (ix_none hno)
      clear hno
      go_wp2_with fail
      go_ret
      exact ⟨by rw [HR.out]; rfl, hS.chg⟩
set_option maxRecDepth 100000 in
set_option maxHeartbeats 2000000 in
theorem delete_hash {R : Nat → Prop} {base w : World} {F : List Hp} {v : Value} {xs : List (List Value)} {i : Nat} (hS : SepL R base w (.own 24 32 v xs :: F)) (hi : i < xs.length) (hf : Flat xs) (hlen : xs.length ≤ 1000000) :
    Calls Try.prog 29 #[v, .int .i64 i, .int .i64 (i + 1 : Nat)] w (Ret fun r w' => SepL R base w' (.own 24 32 r (xs.take i ++ xs.drop (i + 1)) :: F)) := by
  have hcap := capV_le hS.getOwn.rd
  have HN : Hid (((xs.take i) ++ xs.drop (i + 1)).length = xs.length - 1) := by
    unfold Hid
    simp
    omega
  have HK : Hid (i + (xs.length - (i + 1)) = xs.length - 1) := by
    unfold Hid
    omega
  have HE : Hid (((i : Int) == ((i + 1 : Nat) : Int)) = false) := by
    unfold Hid
    rw [beq_eq_false_iff_ne]
    omega
  obtain ⟨j, hj⟩ : ∃ j, i + 1 = j := ⟨_, rfl⟩
  rw [hj] at HN HK HE ⊢
  obtain ⟨m, hm⟩ : ∃ m, xs.length - 1 = m := ⟨_, rfl⟩
  rw [hm] at HN HK
  obtain ⟨len, hL⟩ : ∃ m, xs.length = m := ⟨_, rfl⟩
  have HLL := hide hL
  have h1 : i ≤ j := by omega
  have h2 : j ≤ xs.length := by omega
  have h3 : m ≤ len := by omega
  rw [hL] at HK hcap
  clear hj hm hL
  go_enter Try.func29, Try.ntmps29
  go_wp2_with (first
    | (show wpList _ _ _ (⟨some 12, .call _, _, _, _, _⟩ :: _) _ _; refine wpList_val rfl (op_len slHash rfl rfl rfl (by exact hS.getOwn.rd)) ?_; rw [HLL.out]; go_frame)
    | (show wpList _ _ _ (⟨some 13, .slice _ _ _ _ _, _, _, _, _⟩ :: _) _ _; refine wpList_slice3 slHash rfl rfl rfl (by exact hS.getOwn.rd) (l := i) (h := j) (m := len) rfl rfl rfl h1 (by rw [← HLL.out]; exact h2) hcap ?_; intro u; go_frame)
    | (show wpList _ _ _ (⟨some 16, .binOp _ _ _ _ _, _, _, _, _⟩ :: _) _ _; refine wpList_val rfl (op_eqI' rfl rfl rfl HE.out) ?_; go_frame)
    | (show wpList _ _ _ (⟨some 19, .call _, _, _, _, _⟩ :: _) _ _; refine wpList_val rfl (op_len slHash rfl rfl rfl (by exact hS.getOwn.rd)) ?_; rw [HLL.out]; go_frame)
    )
  have hcap2 : len ≤ capV (resz v m) := by rw [capV_resz]; exact hcap
  refine wp_region_text (by kernel_rfl) (by kernel_rfl) (by repeat (first | exact Clean.body | refine Clean.then ?_ | refine Clean.inBlock ?_)) ?_
  replace hS := hS.drew
  go_wp2_with (first
    | (show wpList _ _ _ (⟨some 22, .slice _ _ _ _ _, _, _, _, _⟩ :: _) _ _; refine wpList_val rfl (op_cut slHash rfl (v := v) rfl (by exact hS.getOwn.rd) (l := 0) (h := i) (Or.inl ⟨rfl, rfl⟩) (Or.inr rfl) (by omega) (by omega)) ?_; go_frame)
    | (show wpList _ _ _ (⟨some 25, .slice _ _ _ _ _, _, _, _, _⟩ :: _) _ _; refine wpList_val rfl (op_cut slHash rfl (v := v) rfl (by exact hS.getOwn.rd) (l := j) (h := _) (Or.inr rfl) (Or.inl ⟨rfl, rfl⟩) h2 (Nat.le_refl _)) ?_; go_frame)
    | (show wpList _ _ _ (⟨_, .call ⟨.builtin .append, _, _⟩, _, _, _, _⟩ :: _) _ _; refine wpS_appendSelf slHash hS rfl rfl rfl rfl h1 h2 hf ?_; rw [HLL.out, HK.out]; clear hS; intro w2 hS; go_frame)
    | (refine fin_mk (by kernel_rfl) ?_)
    | (show wpList _ _ _ (⟨some 29, .call _, _, _, _, _⟩ :: _) _ _; refine wpList_val rfl (op_len slHash rfl rfl (v := resz v m) rfl (by exact hS.getOwn.rd)) ?_; rw [HN.out]; go_frame)
    | (show wpList _ _ _ (⟨some 31, .slice _ _ _ _ _, _, _, _, _⟩ :: _) _ _; refine wpList_val rfl (op_cutCap slHash rfl (v := resz v m) rfl (by exact hS.getOwn.rd) (l := m) (h := len) (Or.inr rfl) (Or.inr rfl) h3 hcap2) ?_; go_frame)
    | (show wpList _ _ _ (⟨_, .call ⟨.builtin .clear, _, _⟩, _, _, _, _⟩ :: _) _ _; refine wpS_clearSpare slHash Try.zeroValue24 hS rfl rfl rfl (h := len) (by rw [HN.out]; rfl) (by rw [HN.out]; exact h3) hcap2 ?_; clear hS; intro w3 hS; go_frame)
    )
  go_ret
  exact hS
end Go.Proofs.Ytffagjkjeojaaaa
