/- Types of this seat; numbers as bytes; sights and a watch in memory. Conditions: those that stand ahead of each theorem. -/
import Derived.Test.YtnjeoaplohlgkaaDoorGShaA
import Derived.Test.YtnjeoaplohlgkaaDoorGShaB
import Derived.Test.YtnjeoaplohlgkaaDoorDel
import Derived.Test.YtnjeoaplohlgkaaDoorU
import Derived.Test.YtnjeoaplohlgkaaDoorCell
import Derived.Test.YtnjeoaplohlgkaaDoorField
import Derived.Test.YtnjeoaplohlgkaaDoorInts2
import Derived.ProofKit
import Derived.Maps.Keyed
import Derived.Test.YtnjeoaplohlgkaaDoorRetC
namespace Go.Proofs.YtnjeoaplohlgkaaDoor
open Go.RowKit Go.Px Go.Sha
/-- what was delivered: from, to, on which lane, and its bytes -/
structure PS where
  src : Int
  to : Int
  lane : Int
  bytes : List Byte
def u64 (z : Int) : Nat := (z % 18446744073709551616).toNat
theorem u64_lt (z : Int) : u64 z < 18446744073709551616 := by unfold u64; omega
/-- a number as eight bytes, the lowest first -/
def num (z : Int) : List Byte := (List.range 8).map fun i => BitVec.ofNat 8 (u64 z / 256 ^ i)
theorem num_len (z : Int) : (num z).length = 8 := by simp [num]
/-- one more is seen -/
def stepS (h : List Byte) (s : PS) : List Byte := twice (h ++ (num s.src ++ (num s.to ++ (num s.lane ++ s.bytes))))
def sumFrom (h : List Byte) (L : List PS) : List Byte := L.foldl stepS h
def sumT (L : List PS) : List Byte := sumFrom (List.replicate 32 0) L
def seesP (E : List Int) (L : List PS) : List PS := L.filter fun s => decide (s.to ∈ E)
theorem stepS_len (h : List Byte) (s : PS) : (stepS h s).length = 32 := twice_len _
theorem sumFrom_len : ∀ (L : List PS) {h : List Byte}, h.length = 32 → (sumFrom h L).length = 32
  | [], _, hh => hh
  | s :: L, h, _ => sumFrom_len L (stepS_len h s)
theorem sumT_len (L : List PS) : (sumT L).length = 32 := sumFrom_len L (by simp)
theorem sumFrom_app (h : List Byte) (L M : List PS) : sumFrom h (L ++ M) = sumFrom (sumFrom h L) M := List.foldl_append ..
theorem sumT_snoc (L : List PS) (s : PS) : sumT (L ++ [s]) = stepS (sumT L) s := by
  unfold sumT
  rw [sumFrom_app]
  rfl
theorem sees_next {E : List Int} {L : List PS} {k : Nat} (hk : k < L.length) : seesP E (L.take (k + 1)) = seesP E (L.take k) ++ (if L[k].to ∈ E then [L[k]] else []) := by
  unfold seesP
  rw [List.take_succ_eq_append_getElem hk, List.filter_append]
  congr 1
  by_cases h : L[k].to ∈ E
  · simp [h]
  · simp [h]
theorem sees_len (E : List Int) (L : List PS) : (seesP E L).length ≤ L.length := List.length_filter_le _ _
/-- how many bytes there are -/
def heft (L : List PS) : Nat := (L.map fun s => s.bytes.length).sum
/-- more than are looked at -/
def greatB (L : List PS) : Bool := decide (100 < L.length) || decide (5000 < (L.map fun s => min s.bytes.length 5001).sum)
theorem le_sumN : ∀ (l : List Nat) {n : Nat}, n ∈ l → n ≤ l.sum
  | a :: l, n, h => by
    rw [List.sum_cons]
    rcases List.mem_cons.1 h with rfl | h
    · omega
    · have := le_sumN l h
      omega
theorem heft_le {L : List PS} (h : greatB L = false) : L.length ≤ 100 ∧ ∀ s ∈ L, s.bytes.length ≤ 5000 := by
  unfold greatB at h
  simp only [Bool.or_eq_false_iff, decide_eq_false_iff_not] at h
  refine ⟨by omega, fun s hs => ?_⟩
  have h2 := le_sumN (L.map fun s => min s.bytes.length 5001) (List.mem_map.2 ⟨s, hs, rfl⟩)
  omega
end Go.Proofs.YtnjeoaplohlgkaaDoor
namespace Go.Proofs.YtnjeoaplohlgkaaDoor
open Go.RowKit Go.Px Go.Sha Go.WideMaps
def In64 (z : Int) : Prop := -9223372036854775808 ≤ z ∧ z ≤ 9223372036854775807
theorem lit_in {z : Int} (h : In64 z) : (Lit.int .i64 z).wf = true := by
  unfold In64 at h
  simp [Lit.wf, IntKind.min, IntKind.max, IntKind.signed, IntKind.bits]
  omega
theorem isKeyI {z : Int} (h : In64 z) : IsKey Tryd.prog 3 (I64 z) := ⟨.int .i64 z, by simp [keyOf, mapKey, lit_in h]⟩
theorem keyInt : Key Tryd.prog 3 where
  law := Maps.int_keyed undInt
  eq := fun w {x y lx ly} hx hy => by
    cases x <;> simp [keyOf, mapKey] at hx
    cases y <;> simp [keyOf, mapKey] at hy
    rename_i k1 a k2 b
    obtain ⟨⟨rfl, _⟩, rfl⟩ := hx
    obtain ⟨⟨rfl, _⟩, rfl⟩ := hy
    refine ⟨a == b, ?_, by simp⟩
    show (Op.equalIn (9999 + 1) _ _ _).run _ _ = _
    unfold Op.equalIn
    rw [Sem.run_bind, run_underlying undInt]
    rfl
  guard := by kernel_rfl
theorem eqv_int (a b : Int) : eqv (I64 a) (I64 b) = decide (a = b) := by
  rw [Bool.eq_iff_iff, eqv_true, decide_eq_true_iff]
  constructor
  · intro h
    injection h
  · rintro rfl
    rfl
theorem oneInt : One Tryd.prog 3 := One.of Tryd.underlying3 rfl (by kernel_rfl)
theorem oneBool : One Tryd.prog 4 := One.of Tryd.underlying4 rfl (by kernel_rfl)
theorem oneInts : One Tryd.prog 22 := One.of Tryd.underlying22 rfl (by kernel_rfl)
theorem oneSights : One Tryd.prog 23 := One.of Tryd.underlying23 rfl (by kernel_rfl)
theorem oneMapI : One Tryd.prog 66 := One.of Tryd.underlying66 rfl (by kernel_rfl)
theorem aggSight : Agg Tryd.prog 39 4 := Agg.of Tryd.underlying39 rfl (by kernel_rfl)
theorem aggWatch : Agg Tryd.prog 69 34 := Agg.of Tryd.underlying69 rfl (by kernel_rfl)
theorem iInt : (Tryd.prog.info? 3).map (fun i => (i.zero, i.size, i.bytes)) = some (some (Value.int .i64 0), 1, 8) := by kernel_rfl
theorem iSight : (Tryd.prog.info? 39).map (fun i => (i.zero, i.size, i.bytes)) = some (some (.agg #[.int .i64 0, .int .i64 0, .int .i64 0, .slice none 0 0]), 4, 48) := by kernel_rfl
theorem slInt : SlTy Tryd.prog 22 3 1 8 where
  ty := by kernel_rfl
  info := by
    obtain ⟨i, h1, h2, h3, h4⟩ := info_parts iInt
    exact ⟨i, _, h1, h2, h3, by simp [Value.cells], h4, by simp [Value.cells]; rfl⟩
  pos := by omega
theorem slSight : SlTy Tryd.prog 23 39 4 48 where
  ty := by kernel_rfl
  info := by
    obtain ⟨i, h1, h2, h3, h4⟩ := info_parts iSight
    exact ⟨i, _, h1, h2, h3, by simp [Value.cells], h4, by simp [Value.cells, Value.oneCell']⟩
  pos := by omega
theorem mapI : MapTy Tryd.prog 66 3 3 (.int .i64 0) := ⟨by kernel_rfl, keyInt, Tryd.zeroValue3⟩
theorem eqT {z : Int} {j : Int} (h : z = j) : Hid ((z == j) = true) := by unfold Hid; simp [h]
theorem eqF {z : Int} {j : Int} (h : z ≠ j) : Hid ((z == j) = false) := by unfold Hid; simp [h]
theorem neT {z : Int} {j : Int} (h : z ≠ j) : Hid ((z != j) = true) := by unfold Hid; simp [h]
theorem neF {z : Int} {j : Int} (h : z = j) : Hid ((z != j) = false) := by unfold Hid; simp [h]
theorem decF {p : Prop} [Decidable p] (h : ¬ p) : Hid (decide p = false) := decide_eq_false h
theorem decT {p : Prop} [Decidable p] (h : p) : Hid (decide p = true) := decide_eq_true h
/-- a sight's cells: its bytes lie at x -/
def sC (x : Value × PS) : List Value := [I64 x.2.src, I64 x.2.to, I64 x.2.lane, x.1]
theorem sC_len (x : Value × PS) : (sC x).length = 4 := rfl
/-- sights that can be read -/
structure SRd (w : World) (v : Value) (l : List (Value × PS)) : Prop where
  rd : Rd 4 w v (l.map sC)
  at_ : ∀ x ∈ l, Rd 1 w x.1 (bytes x.2.bytes)
structure SIn (R : Nat → Prop) (base : World) (v : Value) (l : List (Value × PS)) : Prop where
  rd : RdIn R base 4 v (l.map sC)
  at_ : ∀ x ∈ l, RdIn R base 1 x.1 (bytes x.2.bytes)
theorem SIn.of {w : World} {v : Value} {l : List (Value × PS)} (h : SRd w v l) : SIn All w v l := ⟨RdIn.of h.rd, fun x hx => RdIn.of (h.at_ x hx)⟩
section
variable {R : Nat → Prop} {base w : World} {F : List Hp}
theorem SIn.srd {v : Value} {l : List (Value × PS)} (h : SIn R base v l) (hS : SepL R base w F) : SRd w v l := ⟨hS.rd h.rd, fun x hx => hS.rd (h.at_ x hx)⟩
theorem SIn.mv {R' : Nat → Prop} {w : World} {v : Value} {l : List (Value × PS)} (h : SIn R base v l) (f : ∀ n v xs, RdIn R base n v xs → RdIn R' w n v xs) : SIn R' w v l := ⟨f _ _ _ h.rd, fun x hx => f _ _ _ (h.at_ x hx)⟩
theorem sC_flat {x : Value × PS} (h : x.1.oneCell' = true) : ∀ v ∈ sC x, v.oneCell' = true := by
  intro v hv
  unfold sC at hv
  simp only [List.mem_cons, List.not_mem_nil, or_false] at hv
  rcases hv with rfl | rfl | rfl | rfl
  · rfl
  · rfl
  · rfl
  · exact h
theorem SRd.flat {v : Value} {l : List (Value × PS)} (h : SRd w v l) : Flat (l.map sC) := by
  intro c hc
  obtain ⟨x, hx, rfl⟩ := List.mem_map.1 hc
  exact sC_flat (h.at_ x hx).one1
theorem SRd.one {v : Value} {l : List (Value × PS)} (h : SRd w v l) {x : Value × PS} (hx : x ∈ l) : x.1.oneCell' = true := (h.at_ x hx).one1
theorem SRd.cell {v : Value} {l : List (Value × PS)} (h : SRd w v l) {x : Value × PS} (hx : x ∈ l) : x.1.cells = #[x.1] := (h.at_ x hx).cells1
end
end Go.Proofs.YtnjeoaplohlgkaaDoor
namespace Go.Proofs.YtnjeoaplohlgkaaDoor
open Go.RowKit Go.Px Go.Sha
set_option maxRecDepth 100000 in
set_option maxHeartbeats 2000000 in
theorem clone_bytes (v : Value) (xs : List (List Value)) (w : World) (hv : Rd 1 w v xs) (hf : Flat xs) (hlen : xs.length ≤ 1000000) :
    Calls Tryd.prog 25 #[v] w (Ret fun r w' => SepL All w w' [.own 5 1 r xs]) := by
  have hS := SepL.start w
  obtain ⟨A, cap, rfl, h1, h2⟩ := hv.form
  cases A with
  | none =>
    obtain ⟨_, _, _, hn⟩ := hv.src
    have := hn rfl
    subst this
    replace hS := hS.nilOwn 5 1
    go_enter Tryd.func25, Tryd.ntmps25
    go_wp2_with (first
      | (show wpList _ _ _ (⟨some 4, .binOp _ _ _ _ _, _, _, _, _⟩ :: _) _ _; refine wpList_val rfl (op_eqNil slBytes.ty rfl rfl rfl) ?_; go_frame)
      )
    go_ret
    exact hS
  | some ad =>
    go_enter Tryd.func25, Tryd.ntmps25
    go_wp2_with (first
      | (show wpList _ _ _ (⟨some 4, .binOp _ _ _ _ _, _, _, _, _⟩ :: _) _ _; refine wpList_val rfl (op_eqNil slBytes.ty rfl rfl rfl) ?_; go_frame)
      | (show wpList _ _ _ (⟨_, .buildSlice _ 0 _, _, _, _, _⟩ :: _) _ _; refine wpS_build0 slBytes hS rfl rfl ?_; clear hS; intro v1 w1 hS; go_frame)
      | (show wpList _ _ _ (⟨_, .call ⟨.builtin .append, _, _⟩, _, _, _, _⟩ :: _) _ _; refine wpS_append slBytes hS rfl rfl rfl rfl (hv.chgNo hS.chg) hf (by simp; omega) (by simp [maxLen]; omega) ?_; clear hS; intro v2 w2 hS; go_frame)
      )
    go_ret
    exact hS
set_option maxRecDepth 100000 in
set_option maxHeartbeats 2000000 in
theorem clone_sights (v : Value) (xs : List (List Value)) (w : World) (hv : Rd 4 w v xs) (hf : Flat xs) (hlen : xs.length ≤ 1000000) :
    Calls Tryd.prog 30 #[v] w (Ret fun r w' => SepL All w w' [.own 39 4 r xs]) := by
  have hS := SepL.start w
  obtain ⟨A, cap, rfl, h1, h2⟩ := hv.form
  cases A with
  | none =>
    obtain ⟨_, _, _, hn⟩ := hv.src
    have := hn rfl
    subst this
    replace hS := hS.nilOwn 39 4
    go_enter Tryd.func30, Tryd.ntmps30
    go_wp2_with (first
      | (show wpList _ _ _ (⟨some 4, .binOp _ _ _ _ _, _, _, _, _⟩ :: _) _ _; refine wpList_val rfl (op_eqNil slSight.ty rfl rfl rfl) ?_; go_frame)
      )
    go_ret
    exact hS
  | some ad =>
    go_enter Tryd.func30, Tryd.ntmps30
    go_wp2_with (first
      | (show wpList _ _ _ (⟨some 4, .binOp _ _ _ _ _, _, _, _, _⟩ :: _) _ _; refine wpList_val rfl (op_eqNil slSight.ty rfl rfl rfl) ?_; go_frame)
      | (show wpList _ _ _ (⟨_, .buildSlice _ 0 _, _, _, _, _⟩ :: _) _ _; refine wpS_build0 slSight hS rfl rfl ?_; clear hS; intro v1 w1 hS; go_frame)
      | (show wpList _ _ _ (⟨_, .call ⟨.builtin .append, _, _⟩, _, _, _, _⟩ :: _) _ _; refine wpS_append slSight hS rfl rfl rfl rfl (hv.chgNo hS.chg) hf (by simp; omega) (by simp [maxLen]; omega) ?_; clear hS; intro v2 w2 hS; go_frame)
      )
    go_ret
    exact hS
section
variable {R : Nat → Prop} {base w : World} {F : List Hp}
theorem mem_take1 {E : List Int} {k : Nat} (hk : k < E.length) {z : Int} (h : z ∉ E.take k) (h2 : E[k] ≠ z) : z ∉ E.take (k + 1) := by
  rw [List.take_succ_eq_append_getElem hk, List.mem_append, List.mem_singleton]
  rintro (h3 | h3)
  · exact h h3
  · exact h2 h3.symm
set_option maxRecDepth 100000 in
theorem has_s (hS : SepL R base w F) {v : Value} {E : List Int} (hv : RdIn R base 1 v (E.map fun z => [I64 z])) (z : Int) :
    Calls Tryd.prog 28 #[v, I64 z] w (Ret fun r w' => r = .bool (decide (z ∈ E)) ∧ SepL R base w' F) := by
  have HL : Hid ((E.map fun z => [I64 z]).length = E.length) := by simp [Hid]
  have hmax := (hS.rd hv).len
  rw [HL.out] at hmax
  unfold maxLen at hmax
  go_enter Tryd.func28, Tryd.ntmps28
  go_wp2_with (first
    | (show wpList _ _ _ (⟨_, .call ⟨.builtin .len, _, _⟩, _, _, _, _⟩ :: _) _ _; refine wpList_val rfl (op_len slInt rfl rfl (v := v) (xs := E.map fun z => [I64 z]) rfl (by exact hS.rd hv)) ?_; rw [HL.out]; go_frame)
    | (show wpList _ _ _ (⟨_, .indexAddr 22 _ _, _, _, _, _⟩ :: _) _ _; refine wpList_val rfl (op_indexAddr slInt rfl (v := v) (xs := E.map fun z => [I64 z]) rfl (k := k) rfl (by exact hS.rd hv) hlk) ?_; go_frame)
    | (show wpList _ _ _ (⟨_, .load 3 _, _, _, _, _⟩ :: _) _ _; refine wpList_val rfl (op_loadE1 oneInt rfl (v := v) (k := k) rfl (f := I64) (us := E) (by exact hS.rd hv) hlt) ?_; rw [HX.out]; go_frame)
    )
  go_loopw [9] (fun iv wr => ∃ (k : Nat), iv = .int .i64 k ∧ k ≤ E.length ∧ Hid (z ∉ E.take k) ∧ SepL R base wr F) (fun iv _ => E.length - (intOf iv).toNat)
  case atStart => exact ⟨0, rfl, by omega, by simp [Hid], hS⟩
  case round =>
    clear hS
    obtain ⟨k, rfl, hk, HN, hS⟩ := hrel
    by_cases hlt : k < E.length
    · have hlk : k < (E.map fun z => [I64 z]).length := by rw [HL.out]; exact hlt
      obtain ⟨y, hy⟩ : ∃ y, E[k] = y := ⟨_, rfl⟩
      have HX := hide hy
      by_cases hyz : z = y
      · have HE := eqT hyz
        have HM : Hid (decide (z ∈ E) = true) := decide_eq_true (by rw [hyz, ← hy]; exact List.getElem_mem hlt)
        clear hy hyz
        go_wp2_with (first
          | (show wpList _ _ _ (⟨_, .call ⟨.builtin .len, _, _⟩, _, _, _, _⟩ :: _) _ _; refine wpList_val rfl (op_len slInt rfl rfl (v := v) (xs := E.map fun z => [I64 z]) rfl (by exact hS.rd hv)) ?_; rw [HL.out]; go_frame)
          | (show wpList _ _ _ (⟨_, .indexAddr 22 _ _, _, _, _, _⟩ :: _) _ _; refine wpList_val rfl (op_indexAddr slInt rfl (v := v) (xs := E.map fun z => [I64 z]) rfl (k := k) rfl (by exact hS.rd hv) hlk) ?_; go_frame)
          | (show wpList _ _ _ (⟨_, .load 3 _, _, _, _, _⟩ :: _) _ _; refine wpList_val rfl (op_loadE1 oneInt rfl (v := v) (k := k) rfl (f := I64) (us := E) (by exact hS.rd hv) hlt) ?_; rw [HX.out]; go_frame)
          | (show wpList _ _ _ (⟨some 15, .binOp _ _ _ _ _, _, _, _, _⟩ :: _) _ _; refine wpList_val rfl (op_eqI' rfl rfl rfl HE.out) ?_; go_frame)
          )
        go_ret
        exact ⟨by rw [HM.out]; rfl, hS⟩
      · have HE := eqF hyz
        have HN2 : Hid (z ∉ E.take (k + 1)) := mem_take1 hlt HN.out (by rw [hy]; exact fun e => hyz e.symm)
        clear hy hyz
        go_wp2_with (first
          | (show wpList _ _ _ (⟨_, .call ⟨.builtin .len, _, _⟩, _, _, _, _⟩ :: _) _ _; refine wpList_val rfl (op_len slInt rfl rfl (v := v) (xs := E.map fun z => [I64 z]) rfl (by exact hS.rd hv)) ?_; rw [HL.out]; go_frame)
          | (show wpList _ _ _ (⟨_, .indexAddr 22 _ _, _, _, _, _⟩ :: _) _ _; refine wpList_val rfl (op_indexAddr slInt rfl (v := v) (xs := E.map fun z => [I64 z]) rfl (k := k) rfl (by exact hS.rd hv) hlk) ?_; go_frame)
          | (show wpList _ _ _ (⟨_, .load 3 _, _, _, _, _⟩ :: _) _ _; refine wpList_val rfl (op_loadE1 oneInt rfl (v := v) (k := k) rfl (f := I64) (us := E) (by exact hS.rd hv) hlt) ?_; rw [HX.out]; go_frame)
          | (show wpList _ _ _ (⟨some 15, .binOp _ _ _ _ _, _, _, _, _⟩ :: _) _ _; refine wpList_val rfl (op_eqI' rfl rfl rfl HE.out) ?_; go_frame)
          )
        go_roundw
        case rel => exact ⟨k + 1, by go_num, by omega, HN2, hS⟩
        case measure => simp [intOf]; omega
    · have hk2 : k = E.length := by omega
      subst hk2
      have hn := HN.out
      rw [List.take_length] at hn
      go_wp2_with fail
      go_ret
      exact ⟨by rw [decide_eq_false hn]; rfl, hS⟩
end
end Go.Proofs.YtnjeoaplohlgkaaDoor
namespace Go.Proofs.YtnjeoaplohlgkaaDoor
open Go.RowKit Go.Px Go.Sha
theorem zs_of {P : Program} {t : TypeId} {z0 : Value} {n b : Nat} (h : (P.info? t).map (fun i => (i.zero, i.size, i.bytes)) = some (some z0, n, b)) : ∀ i z, P.info? t = some i → i.zero = some z → z.cells.toList = z0.cells.toList := by
  intro i z hi hz
  rw [hi] at h
  simp only [Option.map_some, Option.some.injEq, Prod.mk.injEq] at h
  rw [hz] at h
  have h1 := h.1
  injection h1 with h1
  rw [h1]
def numAt (z : Int) (i : Nat) : Byte := BitVec.ofNat 8 (u64 z / 256 ^ i)
theorem num_at (z : Int) : num z = (List.range 8).map (numAt z) := rfl
theorem num_take {z : Int} {k : Nat} (hk : k < 8) : (num z).take (k + 1) = (num z).take k ++ [numAt z k] := by
  rw [List.take_add_one, num_at, List.getElem?_map, List.getElem?_range hk]
  rfl
def numK (z : Int) (k : Nat) : List Byte := (num z).take k ++ List.replicate (8 - k) 0
theorem numK_len (z : Int) {k : Nat} (hk : k ≤ 8) : (numK z k).length = 8 := by
  unfold numK
  rw [List.length_append, List.length_take, num_len, List.length_replicate]
  omega
theorem numK_set {z : Int} {k : Nat} (hk : k < 8) : (numK z k).set k (numAt z k) = numK z (k + 1) := by
  unfold numK
  have hl : ((num z).take k).length = k := by rw [List.length_take, num_len]; omega
  rw [List.set_append_right _ _ (by omega), hl, Nat.sub_self, num_take hk, show 8 - k = 8 - (k + 1) + 1 by omega, List.replicate_succ, List.set_cons_zero, List.append_assoc]
  rfl
theorem numK_all (z : Int) : numK z 8 = num z := by
  unfold numK
  rw [List.take_of_length_le (by rw [num_len]; omega)]
  exact List.append_nil _
theorem bytes_set (l : List Byte) (k : Nat) (x : Byte) : (bytes l).set k [B8 x] = bytes (l.set k x) := by
  unfold bytes
  rw [List.map_set, List.map_set]
theorem bytes_length (l : List Byte) : (bytes l).length = l.length := by simp [bytes]
section
variable {R : Nat → Prop} {base w : World} {F : List Hp}
set_option maxRecDepth 100000 in
set_option maxHeartbeats 1000000 in
theorem eight_s (hS : SepL R base w F) (z : Int) :
    Calls Tryd.prog 27 #[I64 z] w (Ret fun r w' => SepL R base w' (.own 5 1 r (bytes (num z)) :: F)) := by
  have HZ : Hid (List.replicate 8 [Value.int .u8 0] = bytes (numK z 0)) := rfl
  have H8 : Hid ((bytes (numK z 0)).length = 8) := rfl
  have HU : Hid (z % 18446744073709551616 = (u64 z : Int)) := by unfold Hid u64; omega
  have HLT := hide (u64_lt z)
  go_enter Tryd.func27, Tryd.ntmps27
  go_wp2_with (first
    | (show wpList _ _ _ (⟨_, .makeSlice _ _ _, _, _, _, _⟩ :: _) _ _; refine wpS_make slBytes (zs := [.int .u8 0]) (zs_of infoU8) hS rfl rfl (l := 8) (c := 8) rfl rfl (Nat.le_refl _) (by omega) (by omega) ?_; clear hS; intro bv w hS; rw [HZ.out] at hS; go_frame)
    | (show wpList _ _ _ (⟨_, .call ⟨.builtin .len, _, _⟩, _, _, _, _⟩ :: _) _ _; refine wpList_val rfl (op_len slBytes rfl rfl (v := bv) (xs := bytes (numK z 0)) rfl ((hS.bring (by repeat (first | exact t0 | apply tS))).getOwn.rd)) ?_; rw [H8.out]; go_frame)
    )
  rw [show ((8 : Nat) : Int) = 8 from rfl]
  go_loopw [8] (fun iv wr => ∃ (k : Nat), iv = .int .i64 k ∧ k ≤ 8 ∧ SepL R base wr (.own 5 1 bv (bytes (numK z k)) :: F)) (fun iv _ => 8 - (intOf iv).toNat)
  case atStart => exact ⟨0, rfl, by omega, hS⟩
  case round =>
    clear hS
    obtain ⟨k, rfl, hk, hS⟩ := hrel
    by_cases hlt : k < 8
    · have HKL : Hid (k < (bytes (numK z k)).length) := by unfold Hid; rw [bytes_length, numK_len z hk]; exact hlt
      have HK8 : Hid (((8 * k : Nat) : Int) % 18446744073709551616 = ((8 * k : Nat) : Int)) := by unfold Hid; omega
      have HSH : Hid (u64 z / 2 ^ (8 * k) = u64 z / 256 ^ k) := by unfold Hid; rw [Nat.pow_mul]
      have HSET : Hid ((bytes (numK z k)).set k [B8 (BitVec.ofNat 8 (u64 z / 256 ^ k))] = bytes (numK z (k + 1))) := by
        unfold Hid
        rw [bytes_set]
        exact congrArg bytes (numK_set hlt)
      go_wp2_with (first
        | (show wpList _ _ _ (⟨some 14, .convert _ _ _, _, _, _, _⟩ :: _) _ _; refine wpList_val rfl (opU_ofInt undInt undU64 rfl rfl (u64 z) HU.out) ?_; go_frame)
        | (show wpList _ _ _ (⟨_, .binOp .mul 3 _ _ _, _, _, _, _⟩ :: _) _ _; refine wpList_val rfl (op_imulN rfl rfl rfl (8 * k) (by omega) (by omega)) ?_; go_frame)
        | (show wpList _ _ _ (⟨some 17, .convert _ _ _, _, _, _, _⟩ :: _) _ _; refine wpList_val rfl (opU_ofInt undInt undUint rfl rfl (8 * k) HK8.out) ?_; go_frame)
        | (show wpList _ _ _ (⟨_, .binOp .shr 41 _ _ _, _, _, _, _⟩ :: _) _ _; refine wpList_val rfl (opU_shrN rfl rfl (c := 8 * k) rfl HLT.out (u64 z / 256 ^ k) HSH.out) ?_; go_frame)
        | (show wpList _ _ _ (⟨some 19, .convert _ _ _, _, _, _, _⟩ :: _) _ _; refine wpList_val rfl (op_natTo8 undU64 undU8 rfl rfl) ?_; go_frame)
        | (show wpList _ _ _ (⟨_, .indexAddr 37 _ _, _, _, _, _⟩ :: _) _ _; refine wpList_val rfl (op_indexAddr slBytes rfl (v := bv) (xs := bytes (numK z k)) rfl (k := k) rfl ((hS.bring (by repeat (first | exact t0 | apply tS))).getOwn.rd) HKL.out) ?_; go_frame)
        | (show wpList _ _ _ (⟨_, .store 5 _ _, _, _, _, _⟩ :: _) _ _; (refine wpS_storeE1 sizeU8 (hS.bring (by repeat (first | exact t0 | apply tS))) rfl rfl rfl rfl rfl rfl HKL.out ?_); clear hS; intro w hS; rw [HSET.out] at hS; go_frame)
        )
      go_roundw
      case rel => exact ⟨k + 1, by go_num, by omega, hS.sel (by repeat (first | exact Sel.refl | refine Sel.take (by repeat (first | exact t0 | apply tS)) ?_ | apply Sel.drop))⟩
      case measure => simp [intOf]; omega
    · have hk2 : k = 8 := by omega
      subst hk2
      rw [numK_all] at hS
      go_wp2_with fail
      go_ret
      exact hS
set_option maxRecDepth 100000 in
set_option maxHeartbeats 1000000 in
theorem num_s (hS : SepL R base w F) (z : Int) :
    Calls Tryd.prog 31 #[I64 z] w (Ret fun r w' => SepL R base w' (.own 5 1 r (bytes (num z)) :: F)) := by
  have HU : Hid (z % 18446744073709551616 = (u64 z : Int)) := by unfold Hid u64; omega
  go_enter Tryd.func31, Tryd.ntmps31
  go_wp2_with (first
    | (show wpList _ _ _ (⟨_, .convert 3 41 _, _, _, _, _⟩ :: _) _ _; refine wpList_val rfl (opU_ofInt undInt undU64 rfl rfl (u64 z) HU.out) ?_; go_frame)
    )
  replace hS := hS.nilOwn 5 1
  go_loopw [3, 4, 7] (fun bv yv iv wr => ∃ (k : Nat), iv = .int .i64 k ∧ k ≤ 8 ∧ yv = U (u64 z / 256 ^ k) ∧ SepL R base wr (.own 5 1 bv (bytes ((num z).take k)) :: F)) (fun _ _ iv _ => 8 - (intOf iv).toNat)
  case atStart => exact ⟨0, rfl, by omega, by simp, hS⟩
  case round =>
    clear hS
    obtain ⟨k, rfl, hk, rfl, hS⟩ := hrel
    by_cases hlt : k < 8
    · obtain ⟨y, hy⟩ : ∃ y, u64 z / 256 ^ k = y := ⟨_, rfl⟩
      have hul := u64_lt z
      have hyl : y ≤ u64 z := by rw [← hy]; exact Nat.div_le_self _ _
      have HY : Hid (y < 18446744073709551616) := by unfold Hid; omega
      have HB : Hid (B8 (BitVec.ofNat 8 (y % 256)) = B8 (numAt z k)) := by
        unfold Hid numAt
        rw [hy]
        congr 1
        apply BitVec.eq_of_toNat_eq
        simp
      have HQ : Hid (y / 256 = u64 z / 256 ^ (k + 1)) := by
        unfold Hid
        rw [← hy, Nat.div_div_eq_div_mul, Nat.pow_succ]
      have HTK : Hid ((num z).take (k + 1) = (num z).take k ++ [numAt z k]) := num_take hlt
      have htl : ((num z).take k).length = k := by rw [List.length_take, num_len]; omega
      have HF : Hid (Flat [[B8 (numAt z k)]]) := flat_bytes [numAt z k]
      have HA1 : Hid (((bytes ((num z).take k)).length + [[B8 (numAt z k)]].length) * 1 ≤ 140737488355328) := by unfold Hid; rw [bytes_length, htl, List.length_singleton]; omega
      have HA2 : Hid ((bytes ((num z).take k)).length + [[B8 (numAt z k)]].length ≤ maxLen) := by unfold Hid maxLen; rw [bytes_length, htl, List.length_singleton]; omega
      rw [hy]
      clear hul hyl htl
      go_wp2_with (first
        | (show wpList _ _ _ (⟨_, .binOp .rem 41 _ _ _, _, _, _, _⟩ :: _) _ _; refine wpList_val rfl (opU_rem rfl rfl (b := 256) rfl (by omega)) ?_; go_frame)
        | (show wpList _ _ _ (⟨_, .convert 41 5 _, _, _, _, _⟩ :: _) _ _; refine wpList_val rfl (op_natTo8 undU64 undU8 rfl rfl) ?_; rw [HB.out]; go_frame)
        | (show wpList _ _ _ (⟨_, .buildSlice 37 1 _, _, _, _, _⟩ :: _) _ _; refine wpS_build11 slBytes hS rfl rfl (u := B8 (numAt z k)) rfl rfl ?_; clear hS; intro v1 w hS; go_frame)
        | (show wpList _ _ _ (⟨_, .call ⟨.builtin .append, _, _⟩, _, _, _, _⟩ :: _) _ _; (refine wpS_append slBytes (hS.bring (by repeat (first | exact t0 | apply tS))) rfl rfl (sv := u3) (xs := bytes ((num z).take k)) (xv := v1) rfl rfl (ys := [[B8 (numAt z k)]]) ((hS.bring (by repeat (first | exact t0 | apply tS))).getOwn.rd) HF.out HA1.out HA2.out ?_); clear hS; intro v2 w hS; go_frame)
        | (show wpList _ _ _ (⟨_, .binOp .quo 41 _ _ _, _, _, _, _⟩ :: _) _ _; refine wpList_val rfl (opU_quo rfl rfl (b := 256) rfl (by omega) HY.out) ?_; rw [HQ.out]; go_frame)
        )
      go_roundw
      case rel => exact ⟨k + 1, by go_num, by omega, rfl, by rw [HTK.out, bytes_app]; exact hS.sel (by repeat (first | exact Sel.refl | refine Sel.take (by repeat (first | exact t0 | apply tS)) ?_ | apply Sel.drop))⟩
      case measure => simp [intOf]; omega
    · have hk2 : k = 8 := by omega
      subst hk2
      rw [List.take_of_length_le (by rw [num_len]; omega)] at hS
      go_wp2_with fail
      go_ret
      exact hS
end
end Go.Proofs.YtnjeoaplohlgkaaDoor
namespace Go.Proofs.YtnjeoaplohlgkaaDoor
open Go.RowKit Go.Px Go.Sha
def sgP (l : List (Value × PS)) : List Hp := l.map fun x => .own 5 1 x.1 (bytes x.2.bytes)
/-- sights of one's own, and their bytes -/
def hG (v : Value) (l : List (Value × PS)) : Hp := hEx fun _ : Unit => .own 39 4 v (l.map sC) :: sgP l
/-- a map that has these numbers -/
def SetM (E : List Int) (M : List (Value × Value)) : Prop := ∀ z, In64 z → mget M (I64 z) = if z ∈ E then some (I64 1) else none
def wCells (m : Nat) (sv : Value) (S : List PS) : List Value := .map (some m) :: sv :: (sumT S).map B8
/-- a watch of some ends, and what they saw -/
def hW (p : Nat) (E : List Int) (S : List PS) : Hp := hEx fun x : Nat × Value × List (Value × Value) × List (Value × PS) =>
  [hPure (SetM E x.2.2.1 ∧ x.2.2.2.map (·.2) = S), .blk p 69 (wCells x.1 x.2.1 S), .map Tryd.prog 3 x.1 x.2.2.1, hG x.2.1 x.2.2.2]
theorem sgP_mid (l1 l2 : List (Value × PS)) (x : Value × PS) : (sgP (l1 ++ x :: l2)).Perm (.own 5 1 x.1 (bytes x.2.bytes) :: sgP (l1 ++ l2)) := by
  simp only [sgP, List.map_append, List.map_cons]
  exact List.perm_middle
theorem star_own {T n : Nat} {v : Value} {xs : List (List Value)} {L : List Hp} {w : World} {F : Nat → Prop} (h : star (.own T n v xs :: L) w F) : Own T n w v xs ∧ ∀ k, sblk v k → F k := by
  obtain ⟨G, H, h1, _, _, h4⟩ := h
  unfold Hp.own at h1
  exact ⟨h1.1, fun k hk => (h4 k).2 (.inl ((h1.2 k).2 hk))⟩
theorem hG_P {v : Value} {l : List (Value × PS)} {w : World} {F : Nat → Prop} (h : (hG v l).P w F) : star (.own 39 4 v (l.map sC) :: sgP l) w F := by
  unfold hG hEx at h
  obtain ⟨_, h⟩ := h
  exact h
theorem star_sg {v : Value} {l : List (Value × PS)} {w : World} {F : Nat → Prop} (h : star (.own 39 4 v (l.map sC) :: sgP l) w F) {x : Value × PS} (hx : x ∈ l) : Own 5 1 w x.1 (bytes x.2.bytes) ∧ ∀ k, sblk x.1 k → F k := by
  obtain ⟨l1, l2, rfl⟩ := List.append_of_mem hx
  have h2 := star_perm ((List.Perm.cons _ (sgP_mid l1 l2 x)).trans (List.Perm.swap _ _ _)) h
  exact star_own h2
theorem sIn_of {v : Value} {l : List (Value × PS)} {w : World} {F R' : Nat → Prop} (h : (hG v l).P w F) (hf : ∀ k, F k → R' k) : SIn R' w v l := by
  have h1 := hG_P h
  have h2 := star_own h1
  exact ⟨⟨h2.1.rd, fun _ k hk => hf k (h2.2 k hk)⟩, fun x hx => ⟨(star_sg h1 hx).1.rd, fun _ k hk => hf k ((star_sg h1 hx).2 k hk)⟩⟩
section
variable {R : Nat → Prop} {base w : World} {F : List Hp}
theorem hG_srd {v : Value} {l : List (Value × PS)} (hS : SepL R base w (hG v l :: F)) : SRd w v l := by
  obtain ⟨G, hG⟩ := hS.head
  have h := sIn_of (R' := fun _ => True) hG fun _ _ => trivial
  exact ⟨h.rd.rd, fun x hx => (h.at_ x hx).rd⟩
theorem hG_freeze {v : Value} {l : List (Value × PS)} (hS : SepL R base w (hG v l :: F)) : ∃ R', SepL R' w w F ∧ SIn R' w v l ∧ (∀ n v xs, RdIn R base n v xs → RdIn R' w n v xs) ∧ ∀ w' M, SepL R' w w' M → SepL R base w' (hG v l :: M) := by
  obtain ⟨R', G, h1, h2, h3, h4, h5⟩ := hS.freeze
  exact ⟨R', h2, sIn_of h1 fun k hk => (h3 k hk).2, h4, h5⟩
theorem hG_open {v : Value} {l : List (Value × PS)} (hS : SepL R base w (hG v l :: F)) : SepL R base w (.own 39 4 v (l.map sC) :: (sgP l ++ F)) := by
  unfold hG at hS
  obtain ⟨_, h⟩ := hS.unpack
  exact h
theorem hG_close {v : Value} {l : List (Value × PS)} (hS : SepL R base w (.own 39 4 v (l.map sC) :: (sgP l ++ F))) : SepL R base w (hG v l :: F) := by
  unfold hG
  exact SepL.pack (l := fun _ : Unit => .own 39 4 v (l.map sC) :: sgP l) () hS
theorem hG_nil (hS : SepL R base w F) : SepL R base w (hG (.slice none 0 0) [] :: F) := hG_close (hS.nilOwn _ _)
/-- one more, whose bytes are one's own -/
theorem hG_snoc {v u : Value} {l : List (Value × PS)} {s : PS} (hS : SepL R base w (.own 39 4 v ((l ++ [(u, s)]).map sC) :: (sgP l ++ (.own 5 1 u (bytes s.bytes) :: F)))) : SepL R base w (hG v (l ++ [(u, s)]) :: F) := by
  refine hG_close (hS.perm (List.Perm.cons _ ?_))
  simp only [sgP, List.map_append, List.map_cons, List.map_nil]
  rw [List.append_assoc]
  exact List.Perm.refl _
theorem hW_open {p : Nat} {E : List Int} {S : List PS} (hS : SepL R base w (hW p E S :: F)) : ∃ m sv M l, SetM E M ∧ l.map (·.2) = S ∧ SepL R base w (.blk p 69 (wCells m sv S) :: .map Tryd.prog 3 m M :: hG sv l :: F) := by
  unfold hW at hS
  obtain ⟨⟨m, sv, M, l⟩, h⟩ := hS.unpack
  have hp := SepL.getPure h
  exact ⟨m, sv, M, l, hp.1, hp.2, SepL.tail h⟩
theorem hW_close {p m : Nat} {sv : Value} {E : List Int} {M : List (Value × Value)} {l : List (Value × PS)} {S : List PS} (hS : SepL R base w (.blk p 69 (wCells m sv S) :: .map Tryd.prog 3 m M :: hG sv l :: F)) (h1 : SetM E M) (h2 : l.map (·.2) = S) : SepL R base w (hW p E S :: F) := by
  unfold hW
  exact SepL.pack (l := fun x : Nat × Value × List (Value × Value) × List (Value × PS) => [hPure (SetM E x.2.2.1 ∧ x.2.2.2.map (·.2) = S), .blk p 69 (wCells x.1 x.2.1 S), .map Tryd.prog 3 x.1 x.2.2.1, hG x.2.1 x.2.2.2]) (m, sv, M, l) (SepL.putPure hS ⟨h1, h2⟩)
end
attribute [irreducible] sgP hG hW
theorem SetM.nil : SetM [] [] := fun z _ => by simp [mget]
theorem mget_cons (p : Value × Value) (M : List (Value × Value)) (y : Value) : mget (p :: M) y = if eqv p.1 y then some p.2 else mget M y := by
  unfold mget
  rw [List.find?_cons]
  cases eqv p.1 y <;> rfl
theorem mget_app (M : List (Value × Value)) (x v y : Value) : mget (M ++ [(x, v)]) y = (mget M y).or (if eqv x y then some v else none) := by
  induction M with
  | nil => rw [List.nil_append, mget_cons]; simp [mget]
  | cons p M ih =>
    rw [List.cons_append, mget_cons, mget_cons, ih]
    split <;> rfl
theorem mget_turn (M : List (Value × Value)) (x v y : Value) : mget (M.map fun p => if eqv p.1 x then (x, v) else p) y = if eqv x y then (mget M x).map (fun _ => v) else mget M y := by
  induction M with
  | nil => simp [mget]
  | cons p M ih =>
    rw [List.map_cons, mget_cons, mget_cons, mget_cons, ih]
    cases h : eqv p.1 x with
    | true =>
      rw [eqv_true] at h
      rw [h, if_pos rfl]
      show (if eqv x y = true then some v else _) = _
      cases eqv x y <;> rfl
    | false =>
      cases h2 : eqv x y with
      | true =>
        rw [eqv_true] at h2
        subst h2
        simp [h]
      | false => simp
theorem mget_mput (M : List (Value × Value)) (x v y : Value) : mget (mput M x v) y = if eqv x y then some v else mget M y := by
  unfold mput
  by_cases h : (mget M x).isSome = true
  · rw [if_pos h, mget_turn]
    obtain ⟨u, hu⟩ := Option.isSome_iff_exists.1 h
    rw [hu]
    rfl
  · rw [if_neg h, mget_app]
    cases h2 : eqv x y with
    | true =>
      rw [eqv_true] at h2
      subst h2
      have h3 : mget M x = none := by simpa using h
      rw [h3]
      rfl
    | false =>
      rw [if_neg (by simp), if_neg (by simp)]
      exact Option.or_none
theorem I64_inj {a b : Int} (h : I64 a = I64 b) : a = b := by injection h
theorem SetM.put {E : List Int} {M : List (Value × Value)} (h : SetM E M) (z : Int) : SetM (E ++ [z]) (mput M (I64 z) (I64 1)) := by
  intro y hy
  rw [mget_mput, h y hy, eqv_int]
  by_cases hzy : z = y
  · subst hzy
    simp
  · rw [if_neg (by simpa using hzy)]
    by_cases hm : y ∈ E
    · simp [hm]
    · simp [hm]
      exact fun e => hzy e.symm
theorem SetM.get {E : List Int} {M : List (Value × Value)} (h : SetM E M) {z : Int} (hz : In64 z) : (mget M (I64 z)).getD (I64 0) = if z ∈ E then I64 1 else I64 0 := by
  rw [h z hz]
  by_cases hm : z ∈ E
  · rw [if_pos hm, if_pos hm]
    rfl
  · rw [if_neg hm, if_neg hm]
    rfl
end Go.Proofs.YtnjeoaplohlgkaaDoor
namespace Go.Proofs.YtnjeoaplohlgkaaDoor
open Go.RowKit Go.Px Go.Sha
/-- bytes of one's own -/
def hSg (l : List (Value × PS)) : Hp := hEx fun _ : Unit => sgP l
theorem buildWatch (m : Nat) (w : World) : (Instr.build 69 #[(0, .map (some m))]).run Tryd.prog w = .ok (.agg (wCells m (.slice none 0 0) []).toArray) w := run_build w 69 _ _ (by kernel_rfl)
/-- what may be seen -/
structure SOk (s : PS) : Prop where
  src : In64 s.src
  to : In64 s.to
  lane : In64 s.lane
  few : s.bytes.length ≤ 100000
structure LOk (S : List PS) : Prop where
  len : S.length ≤ 10000
  all : ∀ s ∈ S, SOk s
theorem LOk.app {S T : List PS} (h : LOk S) (g : LOk T) (hl : S.length + T.length ≤ 10000) : LOk (S ++ T) := ⟨by rw [List.length_append]; exact hl, fun s hs => (List.mem_append.1 hs).elim (h.all s) (g.all s)⟩
theorem LOk.sees {S : List PS} (h : LOk S) (E : List Int) : LOk (seesP E S) := ⟨Nat.le_trans (sees_len E S) h.len, fun s hs => h.all s (List.mem_filter.1 hs).1⟩
theorem LOk.nil : LOk [] := ⟨by simp, by simp⟩
theorem LOk.take {S : List PS} (h : LOk S) (k : Nat) : LOk (S.take k) := ⟨by have := h.len; rw [List.length_take]; omega, fun s hs => h.all s (List.mem_of_mem_take hs)⟩
section
variable {R : Nat → Prop} {base w : World} {F : List Hp}
theorem hSg_open {l : List (Value × PS)} (hS : SepL R base w (hSg l :: F)) : SepL R base w (sgP l ++ F) := by
  unfold hSg at hS
  obtain ⟨_, h⟩ := hS.unpack
  exact h
theorem hSg_close {l : List (Value × PS)} (hS : SepL R base w (sgP l ++ F)) : SepL R base w (hSg l :: F) := by
  unfold hSg
  exact SepL.pack (l := fun _ : Unit => sgP l) () hS
theorem hSg_nil (hS : SepL R base w F) : SepL R base w (hSg [] :: F) := hSg_close (by unfold sgP; exact hS)
theorem hSg_snoc {u : Value} {m : List (Value × PS)} {s : PS} (hS : SepL R base w (hSg m :: .own 5 1 u (bytes s.bytes) :: F)) : SepL R base w (hSg (m ++ [(u, s)]) :: F) := by
  refine hSg_close ((hSg_open hS).perm ?_)
  unfold sgP
  rw [List.map_append, List.map_singleton, List.append_assoc]
  exact List.Perm.refl _
theorem hG_of {v : Value} {l : List (Value × PS)} (hS : SepL R base w (.own 39 4 v (l.map sC) :: hSg l :: F)) : SepL R base w (hG v l :: F) := hG_close ((hSg_open (hS.perm (List.Perm.swap _ _ _))).perm List.perm_middle)
theorem hG_to {v : Value} {l : List (Value × PS)} (hS : SepL R base w (hG v l :: F)) : SepL R base w (.own 39 4 v (l.map sC) :: hSg l :: F) := (hSg_close ((hG_open hS).perm List.perm_middle.symm)).perm (List.Perm.swap _ _ _)
end
attribute [irreducible] hSg
section
variable {R : Nat → Prop} {base w : World} {F : List Hp}
set_option maxRecDepth 100000 in
set_option maxHeartbeats 1000000 in
theorem set_s (hS : SepL R base w F) {v : Value} {E : List Int} (hv : RdIn R base 1 v (E.map fun z => [I64 z])) (hE : ∀ z ∈ E, In64 z) :
    Calls Tryd.prog 24 #[v] w (Ret fun r w' => ∃ m M, r = .map (some m) ∧ SetM E M ∧ SepL R base w' (.map Tryd.prog 3 m M :: F)) := by
  have HL : Hid ((E.map fun z => [I64 z]).length = E.length) := by simp [Hid]
  have hmax := (hS.rd hv).len
  rw [HL.out] at hmax
  unfold maxLen at hmax
  have HE := hide hE
  clear hE
  go_enter Tryd.func24, Tryd.ntmps24
  go_wp2_with (first
    | (show wpList _ _ _ (⟨_, .makeMap _ _, _, _, _, _⟩ :: _) _ _; refine wpS_makeMap mapI hS rfl rfl ?_; clear hS; intro m w hS; go_frame)
    | (show wpList _ _ _ (⟨_, .call ⟨.builtin .len, _, _⟩, _, _, _, _⟩ :: _) _ _; refine wpList_val rfl (op_len slInt rfl rfl (v := v) (xs := E.map fun z => [I64 z]) rfl (by exact hS.rd hv)) ?_; rw [HL.out]; go_frame)
    )
  go_loopw [9] (fun iv wr => ∃ (k : Nat) (M : List (Value × Value)), iv = .int .i64 k ∧ k ≤ E.length ∧ Hid (SetM (E.take k) M) ∧ SepL R base wr (.map Tryd.prog 3 m M :: F)) (fun iv _ => E.length - (intOf iv).toNat)
  case atStart => exact ⟨0, [], rfl, by omega, SetM.nil, hS⟩
  case round =>
    clear hS
    obtain ⟨k, M, rfl, hk, HM, hS⟩ := hrel
    by_cases hlt : k < E.length
    · have hlk : k < (E.map fun z => [I64 z]).length := by rw [HL.out]; exact hlt
      obtain ⟨z, hz⟩ : ∃ z, E[k] = z := ⟨_, rfl⟩
      have HX := hide hz
      have HZ := hide (HE.out z (by rw [← hz]; exact List.getElem_mem hlt))
      have HM2 : Hid (SetM (E.take (k + 1)) (mput M (I64 z) (I64 1))) := by
        unfold Hid
        rw [List.take_succ_eq_append_getElem hlt, hz]
        exact HM.out.put z
      clear hz
      go_wp2_with (first
        | (show wpList _ _ _ (⟨_, .indexAddr 22 _ _, _, _, _, _⟩ :: _) _ _; refine wpList_val rfl (op_indexAddr slInt rfl (v := v) (xs := E.map fun z => [I64 z]) rfl (k := k) rfl (by exact hS.rd hv) hlk) ?_; go_frame)
        | (show wpList _ _ _ (⟨_, .load 3 _, _, _, _, _⟩ :: _) _ _; refine wpList_val rfl (op_loadE1 oneInt rfl (v := v) (k := k) rfl (f := I64) (us := E) (by exact hS.rd hv) hlt) ?_; rw [HX.out]; go_frame)
        | (show wpList _ _ _ (⟨_, .mapUpdate _ _ _ _, _, _, _, _⟩ :: _) _ _; refine wpS_mput mapI hS rfl rfl rfl (x := I64 z) (v := I64 1) rfl rfl (isKeyI HZ.out) ?_; clear hS; intro w hS; go_frame)
        )
      go_roundw
      case rel => exact ⟨k + 1, _, by go_num, by omega, HM2, hS⟩
      case measure => simp [intOf]; omega
    · have hk2 : k = E.length := by omega
      subst hk2
      have hm := HM.out
      rw [List.take_length] at hm
      go_wp2_with fail
      go_ret
      exact ⟨m, M, rfl, hm, hS⟩
set_option maxRecDepth 100000 in
set_option maxHeartbeats 1000000 in
theorem new_w (hS : SepL R base w F) {v : Value} {E : List Int} (hv : RdIn R base 1 v (E.map fun z => [I64 z])) (hE : ∀ z ∈ E, In64 z) :
    Calls Tryd.prog 11 #[v] w (Ret fun r w' => ∃ p, r = .pointer (some ⟨p, 0, none⟩) ∧ SepL R base w' (hW p E [] :: F)) := by
  have HE := hide hE
  clear hE
  go_enter Tryd.func11, Tryd.ntmps11
  go_wp2_with (first
    | (go_at_call 24; refine Ret.calls (set_s hS hv HE.out) ?_; clear hS; rintro r w ⟨m, M, rfl, hm, hS⟩; have HM := hide hm; clear hm)
    | (show wpList _ _ _ (⟨_, .build _ _, _, _, _, _⟩ :: _) _ _; refine wpList_val rfl (op_build (ps := #[(0, .map (some m))]) rfl rfl (buildWatch m) _) ?_; go_frame)
    | (show wpList _ _ _ (⟨_, .box _ _, _, _, _, _⟩ :: _) _ _; refine wpS_boxA (cs := wCells m (.slice none 0 0) []) hS rfl rfl rfl ?_; clear hS; intro p w hS; go_frame)
    )
  go_ret
  have h := hG_nil hS
  exact ⟨p, rfl, hW_close (m := m) (sv := .slice none 0 0) (l := []) (h.sel (by repeat (first | exact Sel.refl | refine Sel.take (by repeat (first | exact t0 | apply tS)) ?_ | apply Sel.drop))) HM.out rfl⟩
set_option maxRecDepth 100000 in
set_option maxHeartbeats 1000000 in
theorem sumW_s {p : Nat} {E : List Int} {S : List PS} (hS : SepL R base w (hW p E S :: F)) :
    Calls Tryd.prog 16 #[.pointer (some ⟨p, 0, none⟩)] w (Ret fun r w' => r = HV (sumT S) ∧ SepL R base w' (hW p E S :: F)) := by
  obtain ⟨m, sv, M, l, hm, hl, h⟩ := hW_open hS
  clear hS
  have hS := h
  clear h
  have HSL : Hid (((sumT S).map B8).length = 32) := by unfold Hid; rw [List.length_map, sumT_len]
  have HD : Hid (((wCells m sv S).drop 2).take 32 = (sumT S).map B8) := by
    unfold Hid wCells
    rw [List.drop_succ_cons, List.drop_succ_cons, List.drop_zero, List.take_of_length_le (Nat.le_of_eq HSL.out)]
  go_enter Tryd.func16, Tryd.ntmps16
  go_wp2_with (first
    | (show wpList _ _ _ (⟨_, .alloc 33, _, _, _, _⟩ :: _) _ _; refine wpS_alloc hS rfl rfl zero32b (zs := (List.replicate 32 (0 : Byte)).map B8) rfl ?_; clear hS; intro nb w hS; go_frame)
    | (show wpList _ _ _ (⟨some 9, .load _ _, _, _, _, _⟩ :: _) _ _; refine wpList_val rfl (op_load agg32b rfl rfl ((SepL.getBlk (b := p) (T := 69) ((hS.bring (by repeat (first | exact t0 | apply tS))))).cells.subN 2 32 HD.out) HSL.out) ?_; go_frame)
    | (show wpList _ _ _ (⟨_, .store 33 _ _, _, _, _, _⟩ :: _) _ _; (refine wpS_storeAll (b := nb) agg32b (hS.bring (by repeat (first | exact t0 | apply tS))) rfl rfl rfl (vs := (sumT S).map B8) rfl HSL.out (B8_one _) (by rw [List.length_map, List.length_replicate]) ?_); clear hS; intro w hS; go_frame)
    )
  exact ret_cell (b := nb) agg32b rfl rfl rfl ((hS.bring (by repeat (first | exact t0 | apply tS))).getBlk) HSL.out ⟨rfl, hW_close (hS.sel (by repeat (first | exact Sel.refl | refine Sel.take (by repeat (first | exact t0 | apply tS)) ?_ | apply Sel.drop))) hm hl⟩
end
end Go.Proofs.YtnjeoaplohlgkaaDoor
