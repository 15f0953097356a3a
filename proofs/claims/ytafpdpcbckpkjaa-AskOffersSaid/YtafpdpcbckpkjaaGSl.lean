/- The types of this seat, and the library's functions on slices. Conditions: those that stand ahead of each theorem. -/
import Derived.Test.YtafpdpcbckpkjaaDel
import Derived.Test.YtafpdpcbckpkjaaKeys
import Derived.Test.YtafpdpcbckpkjaaU
import Derived.Test.YtafpdpcbckpkjaaCell
import Derived.Test.YtafpdpcbckpkjaaArr
import Derived.Test.YtafpdpcbckpkjaaAny9
import Derived.Test.YtafpdpcbckpkjaaChecked
import Derived.ProofKit
import Derived.Test.YtafpdpcbckpkjaaInts2
namespace Go.Proofs.Ytafpdpcbckpkjaa
open Go.RowKit Go.Px Go.WideMaps
theorem Try.laidOut : laidOutB Try.prog = true := by kernel_rfl
theorem undU8 : Try.prog.underlying 5 = some (.int .u8) := by kernel_rfl
theorem undInt : Try.prog.underlying 3 = some (.int .i64) := by kernel_rfl
theorem undU64 : Try.prog.underlying 23 = some (.int .u64) := by kernel_rfl
theorem undBool : Try.prog.underlying 4 = some .bool := by kernel_rfl
theorem sizeT : ∃ m, Try.prog.types.size = m + 1 := ⟨Try.prog.types.size - 1, by kernel_rfl⟩
theorem keyHash : Key Try.prog 28 where
  law := Maps.Keyed.of_law (deep_law_laid Try.laidOut (m := 2) (by omega) (of_decide_eq_true (by kernel_rfl)) (by kernel_rfl) (by kernel_rfl))
  eq := fun w {x y lx ly} hx hy => run_equal_deep w (m := 2) (by omega) (by kernel_rfl) (by kernel_rfl) hx hy
  guard := by kernel_rfl
theorem arrHash : ArrKey Try.prog 28 5 32 := ⟨by kernel_rfl, by kernel_rfl, by kernel_rfl, by kernel_rfl⟩
theorem isKey {a : List Byte} (h : a.length = 32) : IsKey Try.prog 28 (HV a) := isKey_bytes arrHash undU8 sizeT h
theorem aggHash : Agg Try.prog 28 32 := Agg.of Try.underlying28 rfl (by kernel_rfl)
theorem aggBook : Agg Try.prog 68 2 := Agg.of Try.underlying68 rfl (by kernel_rfl)
theorem aggEntry : Agg Try.prog 71 3 := Agg.of Try.underlying71 rfl (by kernel_rfl)
theorem aggWant : Agg Try.prog 55 33 := Agg.of Try.underlying55 rfl (by kernel_rfl)
theorem aggRWant : Agg Try.prog 57 33 := Agg.of Try.underlying57 rfl (by kernel_rfl)
theorem aggREnt : Agg Try.prog 79 34 := Agg.of Try.underlying79 rfl (by kernel_rfl)
theorem aggAct : Agg Try.prog 40 35 := Agg.of Try.underlying40 rfl (by kernel_rfl)
theorem aggAns : Agg Try.prog 43 3 := Agg.of Try.underlying43 rfl (by kernel_rfl)
theorem oneInt : One Try.prog 3 := One.of Try.underlying3 rfl (by kernel_rfl)
theorem oneBool : One Try.prog 4 := One.of Try.underlying4 rfl (by kernel_rfl)
theorem oneU : One Try.prog 23 := One.of Try.underlying23 rfl (by kernel_rfl)
theorem oneInts : One Try.prog 50 := One.of Try.underlying50 rfl (by kernel_rfl)
theorem oneHashes : One Try.prog 22 := One.of Try.underlying22 rfl (by kernel_rfl)
theorem oneREnts : One Try.prog 36 := One.of Try.underlying36 rfl (by kernel_rfl)
theorem oneRWants : One Try.prog 41 := One.of Try.underlying41 rfl (by kernel_rfl)
theorem oneMap : One Try.prog 66 := One.of Try.underlying66 rfl (by kernel_rfl)
theorem sz1 {t : TypeId} (h : (Try.prog.info? t).map (·.size) = some 1) : (Try.prog.info? t).map (·.size) = some 1 := h
theorem iHash : (Try.prog.info? 28).map (fun i => (i.zero, i.size, i.bytes)) = some (some (.agg (List.replicate 32 (Value.int .u8 0)).toArray), 32, 32) := by kernel_rfl
theorem iInt : (Try.prog.info? 3).map (fun i => (i.zero, i.size, i.bytes)) = some (some (Value.int .i64 0), 1, 8) := by kernel_rfl
theorem iU : (Try.prog.info? 23).map (fun i => (i.zero, i.size, i.bytes)) = some (some (Value.int .u64 0), 1, 8) := by kernel_rfl
theorem iWant : (Try.prog.info? 55).map (fun i => (i.zero, i.size, i.bytes)) = some (some (.agg (List.replicate 32 (Value.int .u8 0) ++ [Value.int .i64 0]).toArray), 33, 40) := by kernel_rfl
theorem iRWant : (Try.prog.info? 57).map (fun i => (i.zero, i.size, i.bytes)) = some (some (.agg (List.replicate 32 (Value.int .u8 0) ++ [Value.int .i64 0]).toArray), 33, 40) := by kernel_rfl
theorem iREnt : (Try.prog.info? 79).map (fun i => (i.zero, i.size, i.bytes)) = some (some (.agg (List.replicate 32 (Value.int .u8 0) ++ [Value.slice none 0 0, Value.int .u64 0]).toArray), 34, 64) := by kernel_rfl
theorem iInts : (Try.prog.info? 50).map (fun i => (i.zero, i.size, i.bytes)) = some (some (.slice none 0 0), 1, 24) := by kernel_rfl
theorem slHash : SlTy Try.prog 22 28 32 32 where
  ty := by kernel_rfl
  info := by
    obtain ⟨i, h1, h2, h3, h4⟩ := info_parts iHash
    exact ⟨i, _, h1, h2, h3, by simp [Value.cells], h4, by simp [Value.cells]; rfl⟩
  pos := by omega
theorem slInt : SlTy Try.prog 50 3 1 8 where
  ty := by kernel_rfl
  info := by
    obtain ⟨i, h1, h2, h3, h4⟩ := info_parts iInt
    exact ⟨i, _, h1, h2, h3, by simp [Value.cells], h4, by simp [Value.cells]; rfl⟩
  pos := by omega
theorem slU : SlTy Try.prog 87 23 1 8 where
  ty := by kernel_rfl
  info := by
    obtain ⟨i, h1, h2, h3, h4⟩ := info_parts iU
    exact ⟨i, _, h1, h2, h3, by simp [Value.cells], h4, by simp [Value.cells]; rfl⟩
  pos := by omega
theorem slWant : SlTy Try.prog 30 55 33 40 where
  ty := by kernel_rfl
  info := by
    obtain ⟨i, h1, h2, h3, h4⟩ := info_parts iWant
    exact ⟨i, _, h1, h2, h3, by simp [Value.cells], h4, by simp [Value.cells, Value.oneCell']⟩
  pos := by omega
theorem slRWant : SlTy Try.prog 41 57 33 40 where
  ty := by kernel_rfl
  info := by
    obtain ⟨i, h1, h2, h3, h4⟩ := info_parts iRWant
    exact ⟨i, _, h1, h2, h3, by simp [Value.cells], h4, by simp [Value.cells, Value.oneCell']⟩
  pos := by omega
theorem slREnt : SlTy Try.prog 36 79 34 64 where
  ty := by kernel_rfl
  info := by
    obtain ⟨i, h1, h2, h3, h4⟩ := info_parts iREnt
    exact ⟨i, _, h1, h2, h3, by simp [Value.cells], h4, by simp [Value.cells, Value.oneCell']⟩
  pos := by omega
theorem mapTy : MapTy Try.prog 66 28 69 (.pointer none) := ⟨by kernel_rfl, keyHash, Try.zeroValue69⟩
end Go.Proofs.Ytafpdpcbckpkjaa
namespace Go.Proofs.Ytafpdpcbckpkjaa
open Go.RowKit Go.Px
/-- where an element is first; -1: nowhere -/
def ixOf {α : Type} [DecidableEq α] (x : α) : List α → Int
  | [] => -1
  | y :: l => if y = x then 0 else if ixOf x l = -1 then -1 else ixOf x l + 1
theorem ix_range {α : Type} [DecidableEq α] (x : α) : ∀ l : List α, -1 ≤ ixOf x l ∧ ixOf x l < l.length
  | [] => by simp [ixOf]
  | y :: l => by
    have := ix_range x l
    unfold ixOf
    simp only [List.length_cons]
    split
    · omega
    · split <;> omega
theorem ix_none {α : Type} [DecidableEq α] {x : α} : ∀ {l : List α}, x ∉ l → ixOf x l = -1
  | [], _ => rfl
  | y :: l, h => by
    simp only [List.mem_cons, not_or] at h
    unfold ixOf
    rw [if_neg (fun e => h.1 e.symm), if_pos (ix_none h.2)]
theorem ix_at {α : Type} [DecidableEq α] {x : α} : ∀ {l m : List α}, x ∉ l → ixOf x (l ++ x :: m) = l.length
  | [], m, _ => by simp [ixOf]
  | y :: l, m, h => by
    simp only [List.mem_cons, not_or] at h
    have ih := ix_at (m := m) h.2
    rw [List.cons_append]
    unfold ixOf
    rw [if_neg (fun e => h.1 e.symm), ih, if_neg (by omega)]
    simp
theorem mem_first {α : Type} [DecidableEq α] {x : α} : ∀ {l : List α}, x ∈ l → ∃ a b, l = a ++ x :: b ∧ x ∉ a
  | [], h => by cases h
  | y :: l, h => by
    by_cases hy : x = y
    · subst hy
      exact ⟨[], l, rfl, by simp⟩
    · rcases List.mem_cons.1 h with e | e
      · exact absurd e hy
      · obtain ⟨a, b, rfl, hn⟩ := mem_first e
        exact ⟨y :: a, b, rfl, by simp [hy, hn]⟩
theorem ix_mem {α : Type} [DecidableEq α] {x : α} {l : List α} : (0 ≤ ixOf x l) ↔ x ∈ l := by
  constructor
  · intro h
    apply Classical.byContradiction
    intro hn
    rw [ix_none hn] at h
    omega
  · intro h
    obtain ⟨a, b, rfl, hn⟩ := mem_first h
    rw [ix_at hn]
    omega
set_option maxRecDepth 100000 in
set_option maxHeartbeats 2000000 in
theorem index_int (v : Value) (l : List Int) (x : Int) (w : World) (hv : Rd 1 w v (l.map fun z => [I64 z])) :
    Calls Try.prog 41 #[v, I64 x] w (Ret fun r w' => r = .int .i64 (ixOf x l) ∧ w' = w) := by
  have HL : Hid ((l.map fun z => [I64 z]).length = l.length) := by simp [Hid]
  have hmax : l.length ≤ maxLen := by
    have := hv.len
    rwa [HL.out] at this
  unfold maxLen at hmax
  go_enter Try.func41, Try.ntmps41
  go_wp2_with (first
    | (show wpList _ _ _ (⟨_, .call ⟨.builtin .len, _, _⟩, _, _, _, _⟩ :: _) _ _; refine wpList_val rfl (op_len slInt rfl rfl rfl (by exact hv)) ?_; rw [HL.out]; go_frame)
    )
  go_loop [8] (fun i => ∃ k : Nat, i = .int .i64 k ∧ k ≤ l.length ∧ x ∉ l.take k) (fun i => l.length - (intOf i).toNat)
  case atStart => exact ⟨0, rfl, by omega, by simp⟩
  case round =>
    obtain ⟨k, rfl, hk, hno⟩ := hrel
    by_cases hlt : k < l.length
    · have hlt' : k < (l.map fun z => [I64 z]).length := by simpa using hlt
      have hsp : l = l.take k ++ l[k] :: l.drop (k + 1) := by
        rw [← List.drop_eq_getElem_cons hlt, List.take_append_drop]
      obtain ⟨y, hy⟩ : ∃ y, l[k] = y := ⟨_, rfl⟩
      have HX := hide hy
      have hn : l.take (k + 1) = l.take k ++ [y] := by rw [List.take_succ_eq_append_getElem hlt, hy]
      rw [hy] at hsp
      have hlk : (l.take k).length = k := by simp; omega
      clear hy
      by_cases he : x = y
      · have HR : Hid (ixOf x l = k) := by
          unfold Hid
          rw [hsp, ← he, ix_at hno, hlk]
        have HE : Hid ((x : Int) = y) := he
        clear hsp hn he hno hlk
        go_wp2_with (first
          | (show wpList _ _ _ (⟨_, .indexAddr 50 _ _, _, _, _, _⟩ :: _) _ _; refine wpList_val rfl (op_indexAddr slInt rfl rfl (k := k) rfl (by exact hv) hlt') ?_; go_frame)
          | (show wpList _ _ _ (⟨_, .load 3 _, _, _, _, _⟩ :: _) _ _; refine wpList_val rfl (op_loadE1 oneInt rfl rfl (f := I64) (by exact hv) hlt) ?_; rw [HX.out]; go_frame)
          | (show wpList _ _ _ (⟨some 16, .binOp _ _ _ _ _, _, _, _, _⟩ :: _) _ _; refine wpList_val rfl (op_eqI rfl rfl rfl HE.out) ?_; go_frame)
          )
        go_ret
        exact ⟨by rw [HR.out]; rfl, rfl⟩
      · have HE : Hid ((x == y) = false) := by
          unfold Hid
          rw [beq_eq_false_iff_ne]
          exact he
        have hno' : x ∉ l.take (k + 1) := by
          rw [hn]
          simp [hno, he]
        clear hsp hn he hno hlk
        go_wp2_with (first
          | (show wpList _ _ _ (⟨_, .indexAddr 50 _ _, _, _, _, _⟩ :: _) _ _; refine wpList_val rfl (op_indexAddr slInt rfl rfl (k := k) rfl (by exact hv) hlt') ?_; go_frame)
          | (show wpList _ _ _ (⟨_, .load 3 _, _, _, _, _⟩ :: _) _ _; refine wpList_val rfl (op_loadE1 oneInt rfl rfl (f := I64) (by exact hv) hlt) ?_; rw [HX.out]; go_frame)
          | (show wpList _ _ _ (⟨some 16, .binOp _ _ _ _ _, _, _, _, _⟩ :: _) _ _; refine wpList_val rfl (op_eqI' rfl rfl rfl HE.out) ?_; go_frame)
          )
        go_round
        case rel => exact ⟨k + 1, by go_num, by omega, hno'⟩
        case measure => simp [intOf]; omega
    · have hk2 : k = l.length := by omega
      subst hk2
      rw [List.take_length] at hno
      have HR := hide (ix_none hno)
      clear hno
      go_wp2_with fail
      go_ret
      exact ⟨by rw [HR.out]; rfl, rfl⟩
set_option maxRecDepth 100000 in
theorem contains_int (v : Value) (l : List Int) (x : Int) (w : World) (hv : Rd 1 w v (l.map fun z => [I64 z])) {b : Bool} (hb : Hid (decide (x ∈ l) = b)) :
    Calls Try.prog 26 #[v, I64 x] w (Ret fun r w' => r = .bool b ∧ w' = w) := by
  have H := index_int v l x w hv
  have HG : Hid (decide ((0 : Int) ≤ ixOf x l) = b) := by
    unfold Hid
    rw [← hb.out, decide_eq_decide]
    exact ix_mem
  generalize ixOf x l = j at *
  go_enter Try.func26, Try.ntmps26
  go_wp2_with (first
    | (go_at_call 41; refine Ret.calls H ?_; rintro r w' ⟨rfl, rfl⟩)
    | (show wpList _ _ _ (⟨some 8, .binOp _ _ _ _ _, _, _, _, _⟩ :: _) _ _; refine wpList_val rfl (op_igeq rfl rfl rfl HG.out) ?_; go_frame)
    )
  go_ret
  exact ⟨rfl, rfl⟩
end Go.Proofs.Ytafpdpcbckpkjaa
namespace Go.Proofs.Ytafpdpcbckpkjaa
open Go.RowKit Go.Px
/-- ids' cells -/
def bys (l : List (List Byte)) : List (List Value) := l.map fun a => a.map B8
theorem bys_get {l : List (List Byte)} {k : Nat} (h : k < (bys l).length) (h' : k < l.length) : (bys l)[k] = (l[k]).map B8 := List.getElem_map _
theorem bys_length (l : List (List Byte)) : (bys l).length = l.length := by simp [bys]
set_option maxRecDepth 100000 in
set_option maxHeartbeats 2000000 in
theorem clone_hash (v : Value) (xs : List (List Value)) (w : World) (hv : Rd 32 w v xs) (hf : Flat xs) (hlen : xs.length ≤ 1000000) :
    Calls Try.prog 42 #[v] w (Ret fun r w' => SepL All w w' [.own 28 32 r xs]) := by
  have hS := SepL.start w
  obtain ⟨A, cap, rfl, h1, h2⟩ := hv.form
  cases A with
  | none =>
    obtain ⟨_, _, _, hn⟩ := hv.src
    have := hn rfl
    subst this
    replace hS := hS.nilOwn 28 32
    go_enter Try.func42, Try.ntmps42
    go_wp2_with (first
      | (show wpList _ _ _ (⟨some 4, .binOp _ _ _ _ _, _, _, _, _⟩ :: _) _ _; refine wpList_val rfl (op_eqNil slHash.ty rfl rfl rfl) ?_; go_frame)
      )
    go_ret
    exact hS
  | some ad =>
    go_enter Try.func42, Try.ntmps42
    go_wp2_with (first
      | (show wpList _ _ _ (⟨some 4, .binOp _ _ _ _ _, _, _, _, _⟩ :: _) _ _; refine wpList_val rfl (op_eqNil slHash.ty rfl rfl rfl) ?_; go_frame)
      | (show wpList _ _ _ (⟨_, .buildSlice _ 0 _, _, _, _, _⟩ :: _) _ _; refine wpS_build0 slHash hS rfl rfl ?_; clear hS; intro v1 w1 hS; go_frame)
      | (show wpList _ _ _ (⟨_, .call ⟨.builtin .append, _, _⟩, _, _, _, _⟩ :: _) _ _; refine wpS_append slHash hS rfl rfl rfl rfl (hv.chgNo hS.chg) hf (by simp; omega) (by simp [maxLen]; omega) ?_; clear hS; intro v2 w2 hS; go_frame)
      )
    go_ret
    exact hS
set_option maxRecDepth 100000 in
set_option maxHeartbeats 2000000 in
theorem clone_int (v : Value) (xs : List (List Value)) (w : World) (hv : Rd 1 w v xs) (hf : Flat xs) (hlen : xs.length ≤ 1000000) :
    Calls Try.prog 50 #[v] w (Ret fun r w' => SepL All w w' [.own 3 1 r xs]) := by
  have hS := SepL.start w
  obtain ⟨A, cap, rfl, h1, h2⟩ := hv.form
  cases A with
  | none =>
    obtain ⟨_, _, _, hn⟩ := hv.src
    have := hn rfl
    subst this
    replace hS := hS.nilOwn 3 1
    go_enter Try.func50, Try.ntmps50
    go_wp2_with (first
      | (show wpList _ _ _ (⟨some 4, .binOp _ _ _ _ _, _, _, _, _⟩ :: _) _ _; refine wpList_val rfl (op_eqNil slInt.ty rfl rfl rfl) ?_; go_frame)
      )
    go_ret
    exact hS
  | some ad =>
    go_enter Try.func50, Try.ntmps50
    go_wp2_with (first
      | (show wpList _ _ _ (⟨some 4, .binOp _ _ _ _ _, _, _, _, _⟩ :: _) _ _; refine wpList_val rfl (op_eqNil slInt.ty rfl rfl rfl) ?_; go_frame)
      | (show wpList _ _ _ (⟨_, .buildSlice _ 0 _, _, _, _, _⟩ :: _) _ _; refine wpS_build0 slInt hS rfl rfl ?_; clear hS; intro v1 w1 hS; go_frame)
      | (show wpList _ _ _ (⟨_, .call ⟨.builtin .append, _, _⟩, _, _, _, _⟩ :: _) _ _; refine wpS_append slInt hS rfl rfl rfl rfl (hv.chgNo hS.chg) hf (by simp; omega) (by simp [maxLen]; omega) ?_; clear hS; intro v2 w2 hS; go_frame)
      )
    go_ret
    exact hS
set_option maxRecDepth 100000 in
set_option maxHeartbeats 2000000 in
theorem index_hash (v : Value) (l : List (List Byte)) (x : List Byte) (w : World) (hv : Rd 32 w v (bys l)) (hx : x.length = 32) (hl : ∀ a ∈ l, a.length = 32) :
    Calls Try.prog 38 #[v, HV x] w (Ret fun r w' => r = .int .i64 (ixOf x l) ∧ Chg No w w') := by
  have hS := SepL.start w
  have hw := RdIn.of hv
  have HL : Hid ((bys l).length = l.length) := bys_length l
  have hmax : l.length ≤ maxLen := by
    have := hv.len
    rwa [HL.out] at this
  unfold maxLen at hmax
  have HX32 : Hid ((x.map B8).length = 32) := by simp [Hid, hx]
  have HXL := hide hx
  have HLL := hide hl
  clear hv hx hl
  unfold HV
  go_enter Try.func38, Try.ntmps38
  go_wp2_with (first
    | (show wpList _ _ _ (⟨_, .box _ _, _, _, _, _⟩ :: _) _ _; refine wpS_boxA (cs := x.map B8) hS rfl rfl rfl ?_; clear hS; intro nb w1 hS; go_frame)
    | (show wpList _ _ _ (⟨_, .call ⟨.builtin .len, _, _⟩, _, _, _, _⟩ :: _) _ _; refine wpList_val rfl (op_len slHash rfl rfl rfl (by exact hS.rd hw)) ?_; rw [HL.out]; go_frame)
    )
  go_loopw [8] (fun i wr => ∃ k : Nat, i = .int .i64 k ∧ k ≤ l.length ∧ x ∉ l.take k ∧ SepL All w wr [.blk nb 28 (x.map B8)]) (fun i _ => l.length - (intOf i).toNat)
  case atStart => exact ⟨0, rfl, by omega, by simp, hS⟩
  case round =>
    clear hS
    obtain ⟨k, rfl, hk, hno, hS⟩ := hrel
    by_cases hlt : k < l.length
    · have hlt' : k < (bys l).length := by rw [HL.out]; exact hlt
      have hsp : l = l.take k ++ l[k] :: l.drop (k + 1) := by
        rw [← List.drop_eq_getElem_cons hlt, List.take_append_drop]
      obtain ⟨y, hy⟩ : ∃ y, l[k] = y := ⟨_, rfl⟩
      have hyl : y.length = 32 := by rw [← hy]; exact HLL.out _ (List.getElem_mem hlt)
      have HX : Hid ((bys l)[k] = y.map B8) := by
        unfold Hid
        rw [bys_get hlt' hlt, hy]
      have hn : l.take (k + 1) = l.take k ++ [y] := by rw [List.take_succ_eq_append_getElem hlt, hy]
      rw [hy] at hsp
      have hlk : (l.take k).length = k := by simp; omega
      have KX := isKey HXL.out
      have KY := isKey hyl
      unfold HV at KX KY
      clear hy
      by_cases he : x = y
      · have HR : Hid (ixOf x l = k) := by
          unfold Hid
          rw [hsp, ← he, ix_at hno, hlk]
        have HE : Hid (eqv (.agg (x.map B8).toArray) (.agg (y.map B8).toArray) = true) := (HV_eqv x y).trans (decide_eq_true he)
        clear hsp hn he hno hlk hyl
        go_wp2_with fail
        refine wp_region_text (by kernel_rfl) (by kernel_rfl) (by repeat (first | exact Clean.body | refine Clean.then ?_ | refine Clean.inBlock ?_)) ?_
        replace hS := hS.drew
        go_wp2_with (first
          | (show wpList _ _ _ (⟨some 11, .load _ _, _, _, _, _⟩ :: _) _ _; refine wpList_val rfl (op_load aggHash rfl rfl ((hS.bring (by repeat (first | exact t0 | apply tS))).getBlk.cells) HX32.out) ?_; go_frame)
          | (show wpList _ _ _ (⟨some 14, .indexAddr _ _ _, _, _, _, _⟩ :: _) _ _; refine wpList_val rfl (op_indexAddr slHash rfl rfl (k := k) rfl (by exact hS.rd hw) hlt') ?_; go_frame)
          | (show wpList _ _ _ (⟨some 15, .load _ _, _, _, _, _⟩ :: _) _ _; refine wpList_val rfl (op_loadE aggHash rfl rfl (by exact hS.rd hw) hlt') ?_; rw [HX.out]; go_frame)
          | (show wpList _ _ _ (⟨some 16, .binOp _ _ _ _ _, _, _, _, _⟩ :: _) _ _; refine wpList_val rfl (op_eql keyHash rfl rfl rfl KX KY) ?_; rw [HE.out]; go_frame)
          | (refine fin_mk (by kernel_rfl) ?_))
        go_ret
        exact ⟨by rw [HR.out]; rfl, hS.chg⟩
      · have HE : Hid (eqv (.agg (x.map B8).toArray) (.agg (y.map B8).toArray) = false) := (HV_eqv x y).trans (decide_eq_false he)
        have hno' : x ∉ l.take (k + 1) := by
          rw [hn]
          simp [hno, he]
        clear hsp hn he hno hlk hyl
        go_wp2_with fail
        refine wp_region_text (by kernel_rfl) (by kernel_rfl) (by repeat (first | exact Clean.body | refine Clean.then ?_ | refine Clean.inBlock ?_)) ?_
        replace hS := hS.drew
        go_wp2_with (first
          | (show wpList _ _ _ (⟨some 11, .load _ _, _, _, _, _⟩ :: _) _ _; refine wpList_val rfl (op_load aggHash rfl rfl ((hS.bring (by repeat (first | exact t0 | apply tS))).getBlk.cells) HX32.out) ?_; go_frame)
          | (show wpList _ _ _ (⟨some 14, .indexAddr _ _ _, _, _, _, _⟩ :: _) _ _; refine wpList_val rfl (op_indexAddr slHash rfl rfl (k := k) rfl (by exact hS.rd hw) hlt') ?_; go_frame)
          | (show wpList _ _ _ (⟨some 15, .load _ _, _, _, _, _⟩ :: _) _ _; refine wpList_val rfl (op_loadE aggHash rfl rfl (by exact hS.rd hw) hlt') ?_; rw [HX.out]; go_frame)
          | (show wpList _ _ _ (⟨some 16, .binOp _ _ _ _ _, _, _, _, _⟩ :: _) _ _; refine wpList_val rfl (op_eql keyHash rfl rfl rfl KX KY) ?_; rw [HE.out]; go_frame)
          | (refine fin_mk (by kernel_rfl) ?_))
        go_roundw
        case rel => exact ⟨k + 1, by go_num, by omega, hno', hS⟩
        case measure => simp [intOf]; omega
    · have hk2 : k = l.length := by omega
      subst hk2
      rw [List.take_length] at hno
      have HR := hide (ix_none hno)
      clear hno
      go_wp2_with fail
      go_ret
      exact ⟨by rw [HR.out]; rfl, hS.chg⟩
set_option maxRecDepth 100000 in
set_option maxHeartbeats 2000000 in
theorem delete_hash {R : Nat → Prop} {base w : World} {F : List Hp} {v : Value} {xs : List (List Value)} {i : Nat} (hS : SepL R base w (.own 28 32 v xs :: F)) (hi : i < xs.length) (hf : Flat xs) (hlen : xs.length ≤ 1000000) :
    Calls Try.prog 39 #[v, .int .i64 i, .int .i64 (i + 1 : Nat)] w (Ret fun r w' => SepL R base w' (.own 28 32 r (xs.take i ++ xs.drop (i + 1)) :: F)) := by
  have hcap := capV_le hS.getOwn.rd
  have HN : Hid (((xs.take i) ++ xs.drop (i + 1)).length = xs.length - 1) := by
    unfold Hid
    simp
    omega
  have HK : Hid (i + (xs.length - (i + 1)) = xs.length - 1) := by
    unfold Hid
    omega
  have HE : Hid (((i : Int) == ((i + 1 : Nat) : Int)) = false) := by
    unfold Hid
    rw [beq_eq_false_iff_ne]
    omega
  obtain ⟨j, hj⟩ : ∃ j, i + 1 = j := ⟨_, rfl⟩
  rw [hj] at HN HK HE ⊢
  obtain ⟨m, hm⟩ : ∃ m, xs.length - 1 = m := ⟨_, rfl⟩
  rw [hm] at HN HK
  obtain ⟨len, hL⟩ : ∃ m, xs.length = m := ⟨_, rfl⟩
  have HLL := hide hL
  have h1 : i ≤ j := by omega
  have h2 : j ≤ xs.length := by omega
  have h3 : m ≤ len := by omega
  rw [hL] at HK hcap
  clear hj hm hL
  go_enter Try.func39, Try.ntmps39
  go_wp2_with (first
    | (show wpList _ _ _ (⟨some 12, .call _, _, _, _, _⟩ :: _) _ _; refine wpList_val rfl (op_len slHash rfl rfl rfl (by exact hS.getOwn.rd)) ?_; rw [HLL.out]; go_frame)
    | (show wpList _ _ _ (⟨some 13, .slice _ _ _ _ _, _, _, _, _⟩ :: _) _ _; refine wpList_slice3 slHash rfl rfl rfl (by exact hS.getOwn.rd) (l := i) (h := j) (m := len) rfl rfl rfl h1 (by rw [← HLL.out]; exact h2) hcap ?_; intro u; go_frame)
    | (show wpList _ _ _ (⟨some 16, .binOp _ _ _ _ _, _, _, _, _⟩ :: _) _ _; refine wpList_val rfl (op_eqI' rfl rfl rfl HE.out) ?_; go_frame)
    | (show wpList _ _ _ (⟨some 19, .call _, _, _, _, _⟩ :: _) _ _; refine wpList_val rfl (op_len slHash rfl rfl rfl (by exact hS.getOwn.rd)) ?_; rw [HLL.out]; go_frame)
    )
  have hcap2 : len ≤ capV (resz v m) := by rw [capV_resz]; exact hcap
  refine wp_region_text (by kernel_rfl) (by kernel_rfl) (by repeat (first | exact Clean.body | refine Clean.then ?_ | refine Clean.inBlock ?_)) ?_
  replace hS := hS.drew
  go_wp2_with (first
    | (show wpList _ _ _ (⟨some 22, .slice _ _ _ _ _, _, _, _, _⟩ :: _) _ _; refine wpList_val rfl (op_cut slHash rfl (v := v) rfl (by exact hS.getOwn.rd) (l := 0) (h := i) (Or.inl ⟨rfl, rfl⟩) (Or.inr rfl) (by omega) (by omega)) ?_; go_frame)
    | (show wpList _ _ _ (⟨some 25, .slice _ _ _ _ _, _, _, _, _⟩ :: _) _ _; refine wpList_val rfl (op_cut slHash rfl (v := v) rfl (by exact hS.getOwn.rd) (l := j) (h := _) (Or.inr rfl) (Or.inl ⟨rfl, rfl⟩) h2 (Nat.le_refl _)) ?_; go_frame)
    | (show wpList _ _ _ (⟨_, .call ⟨.builtin .append, _, _⟩, _, _, _, _⟩ :: _) _ _; refine wpS_appendSelf slHash hS rfl rfl rfl rfl h1 h2 hf ?_; rw [HLL.out, HK.out]; clear hS; intro w2 hS; go_frame)
    | (refine fin_mk (by kernel_rfl) ?_)
    | (show wpList _ _ _ (⟨some 29, .call _, _, _, _, _⟩ :: _) _ _; refine wpList_val rfl (op_len slHash rfl rfl (v := resz v m) rfl (by exact hS.getOwn.rd)) ?_; rw [HN.out]; go_frame)
    | (show wpList _ _ _ (⟨some 31, .slice _ _ _ _ _, _, _, _, _⟩ :: _) _ _; refine wpList_val rfl (op_cutCap slHash rfl (v := resz v m) rfl (by exact hS.getOwn.rd) (l := m) (h := len) (Or.inr rfl) (Or.inr rfl) h3 hcap2) ?_; go_frame)
    | (show wpList _ _ _ (⟨_, .call ⟨.builtin .clear, _, _⟩, _, _, _, _⟩ :: _) _ _; refine wpS_clearSpare slHash Try.zeroValue28 hS rfl rfl rfl (h := len) (by rw [HN.out]; rfl) (by rw [HN.out]; exact h3) hcap2 ?_; clear hS; intro w3 hS; go_frame)
    )
  go_ret
  exact hS
end Go.Proofs.Ytafpdpcbckpkjaa
namespace Go.Proofs.Ytafpdpcbckpkjaa
open Go.RowKit Go.Px
theorem is_q (x q : Int) {c : Nat} (w : World) (hc : w.cell? ⟨c, 0, none⟩ = some (I64 q)) {b : Bool} (hb : Hid ((x == q) = b)) :
    Calls Try.prog 49 #[I64 x, .pointer (some ⟨c, 0, none⟩)] w (Ret fun r w' => r = .bool b ∧ w' = w) := by
  unfold I64 at *
  go_enter Try.func49, Try.ntmps49
  go_wp2_with (first
    | (show wpList _ _ _ (⟨some 6, .binOp _ _ _ _ _, _, _, _, _⟩ :: _) _ _; refine wpList_val rfl (op_eqI' rfl rfl rfl hb.out) ?_; go_frame)
    )
  go_ret
  exact ⟨rfl, rfl⟩
def fnQ (c : Nat) : Value := .func (.func 49) #[] #[.pointer (some ⟨c, 0, none⟩)]
set_option maxRecDepth 100000 in
set_option maxHeartbeats 2000000 in
theorem indexFunc (v : Value) (l : List Int) (q : Int) (c : Nat) (w : World) (hv : Rd 1 w v (l.map fun z => [I64 z])) (hc : w.cell? ⟨c, 0, none⟩ = some (I64 q)) :
    Calls Try.prog 51 #[v, fnQ c] w (Ret fun r w' => r = .int .i64 (ixOf q l) ∧ w' = w) := by
  have HL : Hid ((l.map fun z => [I64 z]).length = l.length) := by simp [Hid]
  have hmax : l.length ≤ maxLen := by
    have := hv.len
    rwa [HL.out] at this
  unfold maxLen at hmax
  unfold fnQ
  go_enter Try.func51, Try.ntmps51
  go_wp2_with (first
    | (show wpList _ _ _ (⟨_, .call ⟨.builtin .len, _, _⟩, _, _, _, _⟩ :: _) _ _; refine wpList_val rfl (op_len slInt rfl rfl (v := v) rfl (by exact hv)) ?_; rw [HL.out]; go_frame)
    )
  go_loop [8] (fun i => ∃ k : Nat, i = .int .i64 k ∧ k ≤ l.length ∧ q ∉ l.take k) (fun i => l.length - (intOf i).toNat)
  case atStart => exact ⟨0, rfl, by omega, by simp⟩
  case round =>
    obtain ⟨k, rfl, hk, hno⟩ := hrel
    by_cases hlt : k < l.length
    · have hlt' : k < (l.map fun z => [I64 z]).length := by simpa using hlt
      have hsp : l = l.take k ++ l[k] :: l.drop (k + 1) := by
        rw [← List.drop_eq_getElem_cons hlt, List.take_append_drop]
      obtain ⟨y, hy⟩ : ∃ y, l[k] = y := ⟨_, rfl⟩
      have HX := hide hy
      have hn : l.take (k + 1) = l.take k ++ [y] := by rw [List.take_succ_eq_append_getElem hlt, hy]
      rw [hy] at hsp
      have hlk : (l.take k).length = k := by simp; omega
      clear hy
      by_cases he : y = q
      · have HR : Hid (ixOf q l = k) := by
          unfold Hid
          rw [hsp, he, ix_at hno, hlk]
        have HE : Hid ((y == q) = true) := by
          unfold Hid
          rw [beq_iff_eq]
          exact he
        clear hsp hn he hno hlk
        go_wp2_with (first
          | (show wpList _ _ _ (⟨_, .indexAddr 50 _ _, _, _, _, _⟩ :: _) _ _; refine wpList_val rfl (op_indexAddr slInt rfl rfl (k := k) rfl (by exact hv) hlt') ?_; go_frame)
          | (show wpList _ _ _ (⟨_, .load 3 _, _, _, _, _⟩ :: _) _ _; refine wpList_val rfl (op_loadE1 oneInt rfl rfl (f := I64) (by exact hv) hlt) ?_; rw [HX.out]; go_frame)
          | (go_at_call 49; refine Ret.calls (is_q y q _ hc (by assumption)) ?_; rintro r w' ⟨rfl, rfl⟩)
          )
        go_ret
        exact ⟨by rw [HR.out]; rfl, rfl⟩
      · have HE : Hid ((y == q) = false) := by
          unfold Hid
          rw [beq_eq_false_iff_ne]
          exact he
        have hno' : q ∉ l.take (k + 1) := by
          rw [hn]
          rw [List.mem_append, List.mem_singleton]
          rintro (h | h)
          · exact hno h
          · exact he h.symm
        clear hsp hn he hno hlk
        go_wp2_with (first
          | (show wpList _ _ _ (⟨_, .indexAddr 50 _ _, _, _, _, _⟩ :: _) _ _; refine wpList_val rfl (op_indexAddr slInt rfl rfl (k := k) rfl (by exact hv) hlt') ?_; go_frame)
          | (show wpList _ _ _ (⟨_, .load 3 _, _, _, _, _⟩ :: _) _ _; refine wpList_val rfl (op_loadE1 oneInt rfl rfl (f := I64) (by exact hv) hlt) ?_; rw [HX.out]; go_frame)
          | (go_at_call 49; refine Ret.calls (is_q y q _ hc (by assumption)) ?_; rintro r w' ⟨rfl, rfl⟩)
          )
        go_round
        case rel => exact ⟨k + 1, by go_num, by omega, hno'⟩
        case measure => simp [intOf]; omega
    · have hk2 : k = l.length := by omega
      subst hk2
      rw [List.take_length] at hno
      have HR := hide (ix_none hno)
      clear hno
      go_wp2_with fail
      go_ret
      exact ⟨by rw [HR.out]; rfl, rfl⟩
/-- a list without a number -/
def wout (q : Int) (l : List Int) : List Int := l.filter fun z => z != q
theorem wout_none {q : Int} {l : List Int} (h : q ∉ l) : wout q l = l := by
  unfold wout
  rw [List.filter_eq_self]
  intro z hz
  simp only [bne_iff_ne, ne_eq]
  rintro rfl
  exact h hz
theorem set_ints (M : List Int) (i : Nat) (y : Int) : (M.map fun z => [I64 z]).set i [I64 y] = (M.set i y).map fun z => [I64 z] := by rw [List.map_set]
theorem take_ints (M : List Int) (i : Nat) : (M.map fun z => [I64 z]).take i = (M.take i).map fun z => [I64 z] := by rw [List.map_take]
theorem del_keep {l M : List Int} {q y : Int} {i j : Nat} (hl : M.length = l.length) (h1 : M.take i = wout q (l.take j)) (h2 : M.drop j = l.drop j) (hij : i ≤ j) (hj : j < l.length) (hy : l[j] = y) (hq : y ≠ q) :
    (M.set i y).take (i + 1) = wout q (l.take (j + 1)) ∧ (M.set i y).drop (j + 1) = l.drop (j + 1) := by
  constructor
  · rw [List.take_succ_eq_append_getElem (by simp; omega), List.take_set_of_le (by omega), h1, List.getElem_set_self, List.take_succ_eq_append_getElem hj, hy]
    unfold wout
    rw [List.filter_append]
    simp [hq]
  · rw [List.drop_set_of_lt (by omega), ← List.drop_drop, h2, List.drop_drop]
theorem del_skip {l M : List Int} {q y : Int} {i j : Nat} (h1 : M.take i = wout q (l.take j)) (h2 : M.drop j = l.drop j) (hj : j < l.length) (hy : l[j] = y) (hq : y = q) :
    M.take i = wout q (l.take (j + 1)) ∧ M.drop (j + 1) = l.drop (j + 1) := by
  constructor
  · rw [h1, List.take_succ_eq_append_getElem hj, hy]
    unfold wout
    rw [List.filter_append]
    simp [hq]
  · rw [← List.drop_drop, h2, List.drop_drop]
set_option maxRecDepth 100000 in
set_option maxHeartbeats 4000000 in
theorem deleteFunc {R : Nat → Prop} {base w : World} {F : List Hp} {v : Value} {l : List Int} {q : Int} {c : Nat} {T : TypeId} (hS : SepL R base w (.own 3 1 v (l.map fun z => [I64 z]) :: .blk c T [I64 q] :: F)) (hlen : l.length ≤ 1000000) :
    Calls Try.prog 48 #[v, fnQ c] w (Ret fun r w' => SepL R base w' (.own 3 1 r ((wout q l).map fun z => [I64 z]) :: .blk c T [I64 q] :: F)) := by
  have H := indexFunc v l q c w hS.getOwn.rd (((hS.bring (by repeat (first | exact t0 | apply tS))).getBlk.cell 0))
  by_cases hq : q ∈ l
  case neg =>
    have HW := hide (wout_none hq)
    have HI := hide (ix_none hq)
    rw [HI.out] at H
    have HE : Hid (((-1 : Int) == -1) = true) := rfl
    clear hq
    unfold fnQ at *
    go_enter Try.func48, Try.ntmps48
    go_wp2_with (first
      | (go_at_call 51; refine Ret.calls H ?_; rintro r w' ⟨rfl, rfl⟩)
      | (show wpList _ _ _ (⟨some 12, .binOp _ _ _ _ _, _, _, _, _⟩ :: _) _ _; refine wpList_val rfl (op_eqI' rfl rfl rfl HE.out) ?_; go_frame)
      )
    go_ret
    rw [HW.out]
    exact hS
  obtain ⟨a, b, hl, hna⟩ := mem_first hq
  have HI : Hid (ixOf q l = a.length) := by
    unfold Hid
    rw [hl, ix_at hna]
  rw [HI.out] at H
  have hal : a.length < l.length := by rw [hl]; simp
  have hst : l.take a.length = wout q (l.take (a.length + 1)) := by
    rw [hl, List.take_left, List.take_succ_eq_append_getElem (by simp), List.take_left]
    unfold wout
    rw [List.filter_append]
    simp
    exact (wout_none hna).symm
  obtain ⟨i0, hi0⟩ : ∃ i0, a.length = i0 := ⟨_, rfl⟩
  rw [hi0] at H hal hst
  have HE : Hid (((i0 : Int) == -1) = false) := by
    unfold Hid
    rw [beq_eq_false_iff_ne]
    omega
  have HST := hide hst
  clear hq hl hna HI hi0 hst
  unfold fnQ at *
  go_enter Try.func48, Try.ntmps48
  go_wp2_with (first
    | (go_at_call 51; refine Ret.calls H ?_; rintro r w' ⟨rfl, rfl⟩)
    | (show wpList _ _ _ (⟨some 12, .binOp _ _ _ _ _, _, _, _, _⟩ :: _) _ _; refine wpList_val rfl (op_eqI' rfl rfl rfl HE.out) ?_; go_frame)
    )
  go_loopw [5, 6] (fun iv jv wr => ∃ (i j : Nat) (M : List Int), iv = .int .i64 i ∧ jv = .int .i64 j ∧ i ≤ j ∧ j ≤ l.length ∧ Hid (M.length = l.length) ∧ Hid (M.take i = wout q (l.take j)) ∧ Hid (M.drop j = l.drop j) ∧ SepL R base wr (.own 3 1 v (M.map fun z => [I64 z]) :: .blk c T [I64 q] :: F)) (fun _ jv _ => l.length - (intOf jv).toNat)
  case atStart => exact ⟨i0, i0 + 1, l, rfl, by go_num, by omega, by omega, rfl, HST.out, rfl, hS⟩
  case round =>
    clear hS H HST HE
    obtain ⟨i, j, M, rfl, rfl, hij, hj, HM, H1, H2, hS⟩ := hrel
    have HML : Hid ((M.map fun z => [I64 z]).length = l.length) := by
      unfold Hid
      rw [List.length_map]
      exact HM.out
    by_cases hlt : j < l.length
    · have hjM : j < M.length := by rw [HM.out]; exact hlt
      have hjm : j < (M.map fun z => [I64 z]).length := by rw [HML.out]; exact hlt
      have him : i < (M.map fun z => [I64 z]).length := by rw [HML.out]; omega
      have hMj : M[j] = l[j] := by
        have h1 : (M.drop j)[0]? = (l.drop j)[0]? := by rw [H2.out]
        rw [List.getElem?_drop, List.getElem?_drop, Nat.add_zero, List.getElem?_eq_getElem hjM, List.getElem?_eq_getElem hlt] at h1
        injection h1
      obtain ⟨y, hy⟩ : ∃ y, l[j] = y := ⟨_, rfl⟩
      have HX : Hid (M[j] = y) := hMj.trans hy
      by_cases hq : y = q
      · have HE : Hid ((y == q) = true) := by
          unfold Hid
          rw [beq_iff_eq]
          exact hq
        obtain ⟨d1, d2⟩ := del_skip H1.out H2.out hlt hy hq
        have D1 := hide d1
        have D2 := hide d2
        clear d1 d2 hy hMj hq
        go_wp2_with (first
          | (show wpList _ _ _ (⟨some 18, .call _, _, _, _, _⟩ :: _) _ _; refine wpList_val rfl (op_len slInt rfl rfl (v := v) rfl (by exact hS.getOwn.rd)) ?_; rw [HML.out]; go_frame)
          | (show wpList _ _ _ (⟨some 24, .indexAddr _ _ _, _, _, _, _⟩ :: _) _ _; refine wpList_val rfl (op_indexAddr slInt rfl (v := v) rfl (k := j) rfl (by exact hS.getOwn.rd) hjm) ?_; go_frame)
          | (show wpList _ _ _ (⟨some 25, .load _ _, _, _, _, _⟩ :: _) _ _; refine wpList_val rfl (op_loadE1 oneInt rfl (v := v) rfl (f := I64) (by exact hS.getOwn.rd) hjM) ?_; rw [HX.out]; go_frame)
          | (go_at_call 49; refine Ret.calls (is_q y q _ ((hS.bring (by repeat (first | exact t0 | apply tS))).getBlk.cell 0) (by assumption)) ?_; rintro r w' ⟨rfl, rfl⟩)
          )
        go_roundw
        case rel => exact ⟨i, j + 1, M, rfl, by go_num, by omega, by omega, HM, D1, D2, hS⟩
        case measure => simp [intOf]; omega
      · have HE : Hid ((y == q) = false) := by
          unfold Hid
          rw [beq_eq_false_iff_ne]
          exact hq
        obtain ⟨d1, d2⟩ := del_keep HM.out H1.out H2.out hij hlt hy hq
        have D1 := hide d1
        have D2 := hide d2
        have HM2 : Hid ((M.set i y).length = l.length) := by
          unfold Hid
          rw [List.length_set]
          exact HM.out
        clear d1 d2 hy hMj hq
        go_wp2_with (first
          | (show wpList _ _ _ (⟨some 18, .call _, _, _, _, _⟩ :: _) _ _; refine wpList_val rfl (op_len slInt rfl rfl (v := v) rfl (by exact hS.getOwn.rd)) ?_; rw [HML.out]; go_frame)
          | (show wpList _ _ _ (⟨some 24, .indexAddr _ _ _, _, _, _, _⟩ :: _) _ _; refine wpList_val rfl (op_indexAddr slInt rfl (v := v) rfl (k := j) rfl (by exact hS.getOwn.rd) hjm) ?_; go_frame)
          | (show wpList _ _ _ (⟨some 25, .load _ _, _, _, _, _⟩ :: _) _ _; refine wpList_val rfl (op_loadE1 oneInt rfl (v := v) rfl (f := I64) (by exact hS.getOwn.rd) hjM) ?_; rw [HX.out]; go_frame)
          | (go_at_call 49; refine Ret.calls (is_q y q _ ((hS.bring (by repeat (first | exact t0 | apply tS))).getBlk.cell 0) (by assumption)) ?_; rintro r w' ⟨rfl, rfl⟩)
          | (show wpList _ _ _ (⟨some 33, .indexAddr _ _ _, _, _, _, _⟩ :: _) _ _; refine wpList_val rfl (op_indexAddr slInt rfl (v := v) rfl (k := i) rfl (by exact hS.getOwn.rd) him) ?_; go_frame)
          | (show wpList _ _ _ (⟨_, .store 3 _ _, _, _, _, _⟩ :: _) _ _; refine wpS_storeE1 (by kernel_rfl) hS rfl rfl (k := i) rfl (u := I64 y) rfl rfl rfl him ?_; clear hS; intro w hS; rw [set_ints] at hS; go_frame)
          )
        go_roundw
        case rel => exact ⟨i + 1, j + 1, M.set i y, by go_num, by go_num, by omega, by omega, HM2, D1, D2, hS⟩
        case measure => simp [intOf]; omega
    · have hj2 : j = l.length := by omega
      subst hj2
      rw [List.take_length] at H1
      have hlM : l.length = (M.map fun z => [I64 z]).length := HML.out.symm
      have him : i ≤ (M.map fun z => [I64 z]).length := by rw [HML.out]; exact hij
      have HTL : Hid (((M.map fun z => [I64 z]).take i).length = i) := by
        unfold Hid
        rw [List.length_take, HML.out]
        omega
      have hcap := capV_le hS.getOwn.rd
      rw [HML.out] at hcap
      obtain ⟨A, lc, cc, hform⟩ : ∃ A l c, v = .slice A l c := by
        obtain ⟨A, c, e, _⟩ := hS.getOwn.rd.form
        exact ⟨_, _, _, e⟩
      have HF := hide hform
      have hcap2 : l.length ≤ capV (resz v i) := by rw [capV_resz]; exact hcap
      have HHI : Hid (cutV 1 v i l.length = cutV 1 (resz v i) ((M.map fun z => [I64 z]).take i).length l.length) := by
        unfold Hid
        rw [HTL.out, cutV_resz]
      have hii : ((M.map fun z => [I64 z]).take i).length ≤ l.length := by rw [HTL.out]; exact hij
      clear hlM hform
      go_wp2_with (first
        | (show wpList _ _ _ (⟨some 18, .call _, _, _, _, _⟩ :: _) _ _; refine wpList_val rfl (op_len slInt rfl rfl (v := v) rfl (by exact hS.getOwn.rd)) ?_; rw [HML.out]; go_frame)
        | (show wpList _ _ _ (⟨some 38, .slice _ _ _ _ _, _, _, _, _⟩ :: _) _ _; refine wpList_val rfl (op_cut slInt rfl (v := v) rfl (by exact hS.getOwn.rd) (l := i) (h := _) (Or.inr rfl) (Or.inl ⟨rfl, rfl⟩) him (Nat.le_refl _)) ?_; rw [HML.out]; go_frame)
        | (show wpList _ _ _ (⟨_, .call ⟨.builtin .clear, _, _⟩, _, _, _, _⟩ :: _) _ _; refine wpS_clearSpare slInt Try.zeroValue3 (hS.ownTake him) rfl rfl rfl (h := l.length) HHI.out hii hcap2 ?_; clear hS; intro w3 hS; go_frame)
        | (show wpList _ _ _ (⟨some 41, .slice _ _ _ _ _, _, _, _, _⟩ :: _) _ _; refine wpList_val rfl (op_cutForm slInt rfl (v := v) rfl ⟨_, _, _, HF.out⟩ (h := i) rfl (by omega)) ?_; rw [cut0_resz 1 v i ⟨_, _, _, HF.out⟩]; go_frame)
        )
      go_ret
      rw [take_ints, H1.out] at hS
      exact hS
end Go.Proofs.Ytafpdpcbckpkjaa
