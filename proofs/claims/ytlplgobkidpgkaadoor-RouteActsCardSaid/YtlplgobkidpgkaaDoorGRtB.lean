/- A source's misses; lists of peers; who joins, who leaves; a router ahead of its first epoch. Conditions: those that stand ahead of each theorem. -/
import Derived.Test.YtlplgobkidpgkaaDoorGRtA
import Derived.Test.YtlplgobkidpgkaaDoorInts2
import Derived.Test.YtlplgobkidpgkaaDoorDel
import Derived.Shelf.Spec.BitsCarry
namespace Go.Proofs.YtlplgobkidpgkaaDoor
open Go Go.RowKit Go.Px Go.Sha
theorem aggSt : Agg Tryd.prog 55 2 := Agg.of Tryd.underlying55 rfl (by kernel_rfl)
theorem buildSt (z : Int) (w : World) : (Instr.build 55 #[(1, .int .i64 z)]).run Tryd.prog w = .ok (.agg #[.int .i64 0, .int .i64 z]) w := by kernel_rfl
def tn (t : Bool) : Nat := if t then 0 else 1
theorem tn_eq (t : Bool) : (1 : Int) - turnI t = (tn t : Nat) ∧ tn t ≤ 1 ∧ ((tn t : Nat) : Int) = turnI (!t) := by
  cases t <;> decide
theorem rt_turn {sa : List Byte} (hsa : sa.length = 32) {r : Rt} {k m : Nat} {t : Bool} (hm : r.ms[k]? = some m) (ht : r.ts[k]? = some t) : (rtC sa r)[37 + k * 2 + 1]? = some (I64 (turnI t)) := by
  have h := congrArg (fun l => l[1]?) (rt_st hsa hm ht)
  simp only [List.getElem?_cons_succ, List.getElem?_cons_zero] at h
  rwa [List.getElem?_take_of_lt (by omega), List.getElem?_drop] at h
theorem zip_set2 {ms : List Nat} {ts : List Bool} {k m : Nat} {t : Bool} (hk : k < ms.length) (hk2 : k < ts.length) : ((ms.set k m).zip (ts.set k t)).map stC = ((ms.zip ts).map stC).set k (stC (m, t)) := by
  apply List.ext_getElem?
  intro i
  rw [List.getElem?_map, List.getElem?_set, List.getElem?_map]
  by_cases hi : k = i
  · subst hi
    rw [if_pos rfl, if_pos (by rw [List.length_map, List.length_zip]; omega), (List.getElem?_zip_eq_some (z := (m, t))).2 ⟨by rw [List.getElem?_set_self hk], by rw [List.getElem?_set_self hk2]⟩]
    rfl
  · rw [if_neg hi]
    simp only [List.zip, List.getElem?_zipWith, List.getElem?_set_ne hi]
theorem rt_flip {sa : List Byte} (hsa : sa.length = 32) {r : Rt} {k m : Nat} {t0 : Bool} (hm : r.ms[k]? = some m) (ht : r.ts[k]? = some t0) (t : Bool) : (rtC sa r).take (37 + k * 2) ++ [I64 0, I64 (turnI t)] ++ (rtC sa r).drop (37 + k * 2 + 2) = rtC sa { r with ms := r.ms.set k 0, ts := r.ts.set k t } := by
  have hl : ∀ x ∈ (r.ms.zip r.ts).map stC, x.length = 2 := fun x hx => by
    obtain ⟨y, _, rfl⟩ := List.mem_map.1 hx
    rfl
  have h1 := (List.getElem?_eq_some_iff.1 hm).1
  have h2 := (List.getElem?_eq_some_iff.1 ht).1
  have hk : k < ((r.ms.zip r.ts).map stC).length := by
    rw [List.length_map, List.length_zip]
    omega
  unfold rtC
  rw [List.take_append, List.drop_append, headC_len hsa, Nat.add_sub_cancel_left, show 37 + k * 2 + 2 - 37 = k * 2 + 2 by omega, List.take_of_length_le (by rw [headC_len hsa]; omega), List.drop_eq_nil_of_le (by rw [headC_len hsa]; omega), List.nil_append]
  show _ = headC sa r ++ (((r.ms.set k 0).zip (r.ts.set k t)).map stC).flatten
  rw [zip_set2 h1 h2, flatten_set (n := 2) k _ hl rfl hk]
  simp only [List.append_assoc]
  rfl
section
variable {R : Nat → Prop} {base w : World} {F : List Hp}
set_option maxRecDepth 100000 in
set_option maxHeartbeats 1000000 in
theorem miss_s {p : Nat} {sa : List Byte} {r : Rt} {s : Int} (hS : SepL R base w (.blk p 58 (rtC sa r) :: F)) (hsa : sa.length = 32) (hok : ROk 3 r) :
    Calls Tryd.prog 32 #[.pointer (some ⟨p, 0, none⟩), I64 s] w (Ret fun y w' => y = .bool (missB 3 r s) ∧ SepL R base w' (.blk p 58 (rtC sa (missR 3 r s)) :: F)) := by
  cases hs : isSrc s with
  | false =>
    have HE : Hid (missR 3 r s = r) := by
      unfold Hid missR
      rw [hs]
      rfl
    have HB : Hid (missB 3 r s = false) := by
      unfold Hid missB
      rw [hs]
      rfl
    go_enter Tryd.func32, Tryd.ntmps32
    go_wp2_with (first
      | (go_at_call 34; refine Ret.calls (at_no hS hs) ?_; clear hS; rintro r1 w ⟨rfl, hS⟩)
      )
    go_ret
    exact ⟨by rw [HB.out]; rfl, by rw [HE.out]; exact hS⟩
  | true =>
    obtain ⟨hk, he⟩ := src_lt hs
    obtain ⟨k, hk0⟩ : ∃ k, s.toNat = k := ⟨_, rfl⟩
    rw [hk0] at hk he
    subst he
    have hm := List.getElem?_eq_getElem (show k < r.ms.length by rw [hok.ml]; exact hk)
    have ht := List.getElem?_eq_getElem (show k < r.ts.length by rw [hok.tl]; exact hk)
    obtain ⟨m, hm1⟩ : ∃ m, r.ms[k]'(by rw [hok.ml]; exact hk) = m := ⟨_, rfl⟩
    obtain ⟨t, ht1⟩ : ∃ t, r.ts[k]'(by rw [hok.tl]; exact hk) = t := ⟨_, rfl⟩
    have hmm : m < 3 := hok.mm m (by rw [← hm1]; exact List.getElem_mem _)
    rw [hm1] at hm
    rw [ht1] at ht
    have HM := hide (rt_ms hsa hm ht)
    have hST := rt_set hsa (m := m + 1) hm ht
    have HST := hide hST
    have HLN := hide (rtC_len hsa hok)
    have hm2 : (r.ms.set k (m + 1))[k]? = some (m + 1) := List.getElem?_set_self (by rw [hok.ml]; exact hk)
    have HM2 := hide (rt_ms (r := { r with ms := r.ms.set k (m + 1) }) hsa hm2 ht)
    have hmn : missN r k = m := by
      rw [missN_of hs, hk0, hm]
      rfl
    have htb : turnB r k = t := by
      rw [turnB_of hs, hk0, ht]
      rfl
    by_cases hlt : m + 1 < 3
    · have HLT : Hid (decide (((m + 1 : Nat) : Int) < 3) = true) := decide_eq_true (by omega)
      have HE : Hid (missR 3 r k = { r with ms := r.ms.set k (m + 1) }) := by
        unfold Hid missR
        rw [hs, if_pos rfl, hmn, if_pos hlt, hk0]
      have HB : Hid (missB 3 r k = false) := by
        unfold Hid missB
        rw [hmn, decide_eq_true hlt]
        simp
      clear hm ht hm1 ht1 hk0 hs hST hm2 hmn htb hlt
      go_enter Tryd.func32, Tryd.ntmps32
      go_wp2_with (first
        | (go_at_call 34; refine Ret.calls (at_yes (k := k) hS (by omega)) ?_; clear hS; rintro r1 w ⟨rfl, hS⟩)
        | (show wpList _ _ _ (⟨some 14, .load _ _, _, _, _, _⟩ :: _) _ _; refine wpList_val rfl (op_load1S (b := p) (T := 58) oneIn ((hS.bring (by repeat (first | exact t0 | apply tS)))) rfl rfl HM.out) ?_; go_frame)
        | (show wpList _ _ _ (⟨some 15, .binOp _ _ _ _ _, _, _, _, _⟩ :: _) _ _; refine wpList_val rfl (op_iaddN rfl rfl rfl (m + 1) (by omega) (by omega)) ?_; go_frame)
        | (show wpList _ _ _ (⟨_, .store 3 (.tmp 17) _, _, _, _, _⟩ :: _) _ _; refine wpS_store1 (b := p) (i := 37 + k * 2) (T := 58) (by kernel_rfl) hS rfl rfl rfl (v := I64 (m + 1 : Nat)) rfl rfl rfl (by rw [HLN.out]; omega) ?_; clear hS; intro w hS; rw [HST.out] at hS; go_frame)
        | (show wpList _ _ _ (⟨some 21, .load _ _, _, _, _, _⟩ :: _) _ _; refine wpList_val rfl (op_load1S (b := p) (T := 58) oneIn ((hS.bring (by repeat (first | exact t0 | apply tS)))) rfl rfl HM2.out) ?_; go_frame)
        | (show wpList _ _ _ (⟨some 22, .binOp _ _ _ _ _, _, _, _, _⟩ :: _) _ _; refine wpList_val rfl (op_ilss rfl rfl rfl HLT.out) ?_; go_frame)
        )
      go_ret
      exact ⟨by rw [HB.out]; rfl, by rw [HE.out]; exact hS⟩
    · have HLT : Hid (decide (((m + 1 : Nat) : Int) < 3) = false) := decide_eq_false (by omega)
      have hE : missR 3 r k = { r with ms := r.ms.set k 0, ts := r.ts.set k (!t) } := by
        unfold missR
        rw [hs, if_pos rfl, hmn, if_neg hlt, hk0, htb]
      have HE := hide hE
      have HB : Hid (missB 3 r k = true) := by
        unfold Hid missB
        rw [hmn, decide_eq_false hlt, hs]
        rfl
      have HT := hide (rt_turn (r := { r with ms := r.ms.set k (m + 1) }) hsa hm2 ht)
      obtain ⟨n, hn⟩ : ∃ n, tn t = n := ⟨_, rfl⟩
      obtain ⟨e1, e2, e3⟩ := tn_eq t
      rw [hn] at e1 e2 e3
      have HN := hide e1
      have hF := rt_flip (r := { r with ms := r.ms.set k (m + 1) }) hsa hm2 ht (!t)
      have HF : Hid ((rtC sa { r with ms := r.ms.set k (m + 1) }).take (37 + k * 2) ++ [I64 0, I64 (n : Nat)] ++ (rtC sa { r with ms := r.ms.set k (m + 1) }).drop (37 + k * 2 + 2) = rtC sa { r with ms := r.ms.set k 0, ts := r.ts.set k (!t) }) := by
        unfold Hid
        rw [e3, hF]
        show rtC sa { r with ms := (r.ms.set k (m + 1)).set k 0, ts := r.ts.set k (!t) } = _
        rw [List.set_set]
      have HLN2 : Hid ((rtC sa { r with ms := r.ms.set k (m + 1) }).length = 167) := by
        unfold Hid
        rw [← hST, List.length_set]
        exact HLN.out
      have HO : Hid (∀ v ∈ [I64 0, I64 (n : Nat)], v.oneCell' = true) := by
        intro v hv
        simp only [List.mem_cons, List.not_mem_nil, or_false] at hv
        rcases hv with rfl | rfl <;> rfl
      clear hm ht hm1 ht1 hk0 hs hST hm2 hmn htb hlt hE hn e1 e3 hF
      go_enter Tryd.func32, Tryd.ntmps32
      go_wp2_with (first
        | (go_at_call 34; refine Ret.calls (at_yes (k := k) hS (by omega)) ?_; clear hS; rintro r1 w ⟨rfl, hS⟩)
        | (show wpList _ _ _ (⟨some 14, .load _ _, _, _, _, _⟩ :: _) _ _; refine wpList_val rfl (op_load1S (b := p) (T := 58) oneIn ((hS.bring (by repeat (first | exact t0 | apply tS)))) rfl rfl HM.out) ?_; go_frame)
        | (show wpList _ _ _ (⟨some 15, .binOp _ _ _ _ _, _, _, _, _⟩ :: _) _ _; refine wpList_val rfl (op_iaddN rfl rfl rfl (m + 1) (by omega) (by omega)) ?_; go_frame)
        | (show wpList _ _ _ (⟨_, .store 3 (.tmp 17) _, _, _, _, _⟩ :: _) _ _; refine wpS_store1 (b := p) (i := 37 + k * 2) (T := 58) (by kernel_rfl) hS rfl rfl rfl (v := I64 (m + 1 : Nat)) rfl rfl rfl (by rw [HLN.out]; omega) ?_; clear hS; intro w hS; rw [HST.out] at hS; go_frame)
        | (show wpList _ _ _ (⟨some 21, .load _ _, _, _, _, _⟩ :: _) _ _; refine wpList_val rfl (op_load1S (b := p) (T := 58) oneIn ((hS.bring (by repeat (first | exact t0 | apply tS)))) rfl rfl HM2.out) ?_; go_frame)
        | (show wpList _ _ _ (⟨some 22, .binOp _ _ _ _ _, _, _, _, _⟩ :: _) _ _; refine wpList_val rfl (op_ilss rfl rfl rfl HLT.out) ?_; go_frame)
        | (show wpList _ _ _ (⟨some 27, .load _ _, _, _, _, _⟩ :: _) _ _; refine wpList_val rfl (op_load1S (b := p) (T := 58) oneIn ((hS.bring (by repeat (first | exact t0 | apply tS)))) rfl rfl HT.out) ?_; go_frame)
        | (show wpList _ _ _ (⟨some 28, .binOp _ _ _ _ _, _, _, _, _⟩ :: _) _ _; refine wpList_val rfl (op_isubN rfl rfl rfl n HN.out (by omega)) ?_; go_frame)
        | (show wpList _ _ _ (⟨some 29, .build _ _, _, _, _, _⟩ :: _) _ _; refine wpList_val rfl (op_build (ps := #[(1, .int .i64 (n : Nat))]) rfl rfl (buildSt n) _) ?_; go_frame)
        | (show wpList _ _ _ (⟨_, .store 55 _ _, _, _, _, _⟩ :: _) _ _; refine wpS_storeN (b := p) (off := 37 + k * 2) (T := 58) aggSt hS rfl rfl rfl (vs := [I64 0, I64 (n : Nat)]) rfl rfl HO.out (by rw [HLN2.out]; omega) ?_; clear hS; intro w hS; rw [HF.out] at hS; go_frame)
        )
      go_ret
      exact ⟨by rw [HB.out]; rfl, by rw [HE.out]; exact hS⟩
end
end Go.Proofs.YtlplgobkidpgkaaDoor
namespace Go.Proofs.YtlplgobkidpgkaaDoor
open Go.RowKit Go.Px Go.Sha
/-- where an element is first; -1: nowhere -/
def ixOf {α : Type} [DecidableEq α] (x : α) : List α → Int
  | [] => -1
  | y :: l => if y = x then 0 else if ixOf x l = -1 then -1 else ixOf x l + 1
theorem ix_range {α : Type} [DecidableEq α] (x : α) : ∀ l : List α, -1 ≤ ixOf x l ∧ ixOf x l < l.length
  | [] => by simp [ixOf]
  | y :: l => by
    have := ix_range x l
    unfold ixOf
    simp only [List.length_cons]
    split
    · omega
    · split <;> omega
theorem ix_none {α : Type} [DecidableEq α] {x : α} : ∀ {l : List α}, x ∉ l → ixOf x l = -1
  | [], _ => rfl
  | y :: l, h => by
    simp only [List.mem_cons, not_or] at h
    unfold ixOf
    rw [if_neg (fun e => h.1 e.symm), if_pos (ix_none h.2)]
theorem ix_at {α : Type} [DecidableEq α] {x : α} : ∀ {l m : List α}, x ∉ l → ixOf x (l ++ x :: m) = l.length
  | [], m, _ => by simp [ixOf]
  | y :: l, m, h => by
    simp only [List.mem_cons, not_or] at h
    have ih := ix_at (m := m) h.2
    rw [List.cons_append]
    unfold ixOf
    rw [if_neg (fun e => h.1 e.symm), ih, if_neg (by omega)]
    simp
theorem mem_first {α : Type} [DecidableEq α] {x : α} : ∀ {l : List α}, x ∈ l → ∃ a b, l = a ++ x :: b ∧ x ∉ a
  | [], h => by cases h
  | y :: l, h => by
    by_cases hy : x = y
    · subst hy
      exact ⟨[], l, rfl, by simp⟩
    · rcases List.mem_cons.1 h with e | e
      · exact absurd e hy
      · obtain ⟨a, b, rfl, hn⟩ := mem_first e
        exact ⟨y :: a, b, rfl, by simp [hy, hn]⟩
theorem ix_mem {α : Type} [DecidableEq α] {x : α} {l : List α} : (0 ≤ ixOf x l) ↔ x ∈ l := by
  constructor
  · intro h
    apply Classical.byContradiction
    intro hn
    rw [ix_none hn] at h
    omega
  · intro h
    obtain ⟨a, b, rfl, hn⟩ := mem_first h
    rw [ix_at hn]
    omega
set_option maxRecDepth 100000 in
set_option maxHeartbeats 2000000 in
theorem index_int (v : Value) (l : List Int) (x : Int) (w : World) (hv : Rd 1 w v (l.map fun z => [I64 z])) :
    Calls Tryd.prog 36 #[v, I64 x] w (Ret fun r w' => r = .int .i64 (ixOf x l) ∧ w' = w) := by
  have HL : Hid ((l.map fun z => [I64 z]).length = l.length) := by simp [Hid]
  have hmax : l.length ≤ maxLen := by
    have := hv.len
    rwa [HL.out] at this
  unfold maxLen at hmax
  go_enter Tryd.func36, Tryd.ntmps36
  go_wp2_with (first
    | (show wpList _ _ _ (⟨_, .call ⟨.builtin .len, _, _⟩, _, _, _, _⟩ :: _) _ _; refine wpList_val rfl (op_len slInt rfl rfl rfl (by exact hv)) ?_; rw [HL.out]; go_frame)
    | (show wpList _ _ _ (⟨_, .indexAddr 34 _ _, _, _, _, _⟩ :: _) _ _; refine wpList_val rfl (op_indexAddr slInt rfl rfl (k := k) rfl (by exact hv) hlt') ?_; go_frame)
    | (show wpList _ _ _ (⟨_, .load 3 _, _, _, _, _⟩ :: _) _ _; refine wpList_val rfl (op_loadE1 oneInt rfl rfl (f := I64) (by exact hv) hlt) ?_; rw [HX.out]; go_frame)
    )
  go_loop [8] (fun i => ∃ k : Nat, i = .int .i64 k ∧ k ≤ l.length ∧ x ∉ l.take k) (fun i => l.length - (intOf i).toNat)
  case atStart => exact ⟨0, rfl, by omega, by simp⟩
  case round =>
    obtain ⟨k, rfl, hk, hno⟩ := hrel
    by_cases hlt : k < l.length
    · have hlt' : k < (l.map fun z => [I64 z]).length := by simpa using hlt
      have hsp : l = l.take k ++ l[k] :: l.drop (k + 1) := by
        rw [← List.drop_eq_getElem_cons hlt, List.take_append_drop]
      obtain ⟨y, hy⟩ : ∃ y, l[k] = y := ⟨_, rfl⟩
      have HX := hide hy
      have hn : l.take (k + 1) = l.take k ++ [y] := by rw [List.take_succ_eq_append_getElem hlt, hy]
      rw [hy] at hsp
      have hlk : (l.take k).length = k := by simp; omega
      clear hy
      by_cases he : x = y
      · have HR : Hid (ixOf x l = k) := by
          unfold Hid
          rw [hsp, ← he, ix_at hno, hlk]
        have HE : Hid ((x : Int) = y) := he
        clear hsp hn he hno hlk
        go_wp2_with (first
          | (show wpList _ _ _ (⟨_, .call ⟨.builtin .len, _, _⟩, _, _, _, _⟩ :: _) _ _; refine wpList_val rfl (op_len slInt rfl rfl rfl (by exact hv)) ?_; rw [HL.out]; go_frame)
          | (show wpList _ _ _ (⟨_, .indexAddr 34 _ _, _, _, _, _⟩ :: _) _ _; refine wpList_val rfl (op_indexAddr slInt rfl rfl (k := k) rfl (by exact hv) hlt') ?_; go_frame)
          | (show wpList _ _ _ (⟨_, .load 3 _, _, _, _, _⟩ :: _) _ _; refine wpList_val rfl (op_loadE1 oneInt rfl rfl (f := I64) (by exact hv) hlt) ?_; rw [HX.out]; go_frame)
          | (show wpList _ _ _ (⟨some 16, .binOp _ _ _ _ _, _, _, _, _⟩ :: _) _ _; refine wpList_val rfl (op_eqI rfl rfl rfl HE.out) ?_; go_frame)
          )
        go_ret
        exact ⟨by rw [HR.out]; rfl, rfl⟩
      · have HE : Hid ((x == y) = false) := by
          unfold Hid
          rw [beq_eq_false_iff_ne]
          exact he
        have hno' : x ∉ l.take (k + 1) := by
          rw [hn]
          simp [hno, he]
        clear hsp hn he hno hlk
        go_wp2_with (first
          | (show wpList _ _ _ (⟨_, .call ⟨.builtin .len, _, _⟩, _, _, _, _⟩ :: _) _ _; refine wpList_val rfl (op_len slInt rfl rfl rfl (by exact hv)) ?_; rw [HL.out]; go_frame)
          | (show wpList _ _ _ (⟨_, .indexAddr 34 _ _, _, _, _, _⟩ :: _) _ _; refine wpList_val rfl (op_indexAddr slInt rfl rfl (k := k) rfl (by exact hv) hlt') ?_; go_frame)
          | (show wpList _ _ _ (⟨_, .load 3 _, _, _, _, _⟩ :: _) _ _; refine wpList_val rfl (op_loadE1 oneInt rfl rfl (f := I64) (by exact hv) hlt) ?_; rw [HX.out]; go_frame)
          | (show wpList _ _ _ (⟨some 16, .binOp _ _ _ _ _, _, _, _, _⟩ :: _) _ _; refine wpList_val rfl (op_eqI' rfl rfl rfl HE.out) ?_; go_frame)
          )
        go_round
        case rel => exact ⟨k + 1, by go_num, by omega, hno'⟩
        case measure => simp [intOf]; omega
    · have hk2 : k = l.length := by omega
      subst hk2
      rw [List.take_length] at hno
      have HR := hide (ix_none hno)
      clear hno
      go_wp2_with fail
      go_ret
      exact ⟨by rw [HR.out]; rfl, rfl⟩
set_option maxRecDepth 100000 in
theorem contains_int (v : Value) (l : List Int) (x : Int) (w : World) (hv : Rd 1 w v (l.map fun z => [I64 z])) {b : Bool} (hb : Hid (decide (x ∈ l) = b)) :
    Calls Tryd.prog 41 #[v, I64 x] w (Ret fun r w' => r = .bool b ∧ w' = w) := by
  have H := index_int v l x w hv
  have HG : Hid (decide ((0 : Int) ≤ ixOf x l) = b) := by
    unfold Hid
    rw [← hb.out, decide_eq_decide]
    exact ix_mem
  generalize ixOf x l = j at *
  go_enter Tryd.func41, Tryd.ntmps41
  go_wp2_with (first
    | (go_at_call 36; refine Ret.calls H ?_; rintro r w' ⟨rfl, rfl⟩)
    | (show wpList _ _ _ (⟨some 8, .binOp _ _ _ _ _, _, _, _, _⟩ :: _) _ _; refine wpList_val rfl (op_igeq rfl rfl rfl HG.out) ?_; go_frame)
    )
  go_ret
  exact ⟨rfl, rfl⟩
set_option maxRecDepth 100000 in
set_option maxHeartbeats 2000000 in
theorem clone_int (v : Value) (xs : List (List Value)) (w : World) (hv : Rd 1 w v xs) (hf : Flat xs) (hlen : xs.length ≤ 1000000) :
    Calls Tryd.prog 38 #[v] w (Ret fun r w' => SepL All w w' [.own 3 1 r xs]) := by
  have hS := SepL.start w
  obtain ⟨A, cap, rfl, h1, h2⟩ := hv.form
  cases A with
  | none =>
    obtain ⟨_, _, _, hn⟩ := hv.src
    have := hn rfl
    subst this
    replace hS := hS.nilOwn 3 1
    go_enter Tryd.func38, Tryd.ntmps38
    go_wp2_with (first
      | (show wpList _ _ _ (⟨some 4, .binOp _ _ _ _ _, _, _, _, _⟩ :: _) _ _; refine wpList_val rfl (op_eqNil slInt.ty rfl rfl rfl) ?_; go_frame)
      )
    go_ret
    exact hS
  | some ad =>
    go_enter Tryd.func38, Tryd.ntmps38
    go_wp2_with (first
      | (show wpList _ _ _ (⟨some 4, .binOp _ _ _ _ _, _, _, _, _⟩ :: _) _ _; refine wpList_val rfl (op_eqNil slInt.ty rfl rfl rfl) ?_; go_frame)
      | (show wpList _ _ _ (⟨_, .buildSlice _ 0 _, _, _, _, _⟩ :: _) _ _; refine wpS_build0 slInt hS rfl rfl ?_; clear hS; intro v1 w1 hS; go_frame)
      | (show wpList _ _ _ (⟨_, .call ⟨.builtin .append, _, _⟩, _, _, _, _⟩ :: _) _ _; refine wpS_append slInt hS rfl rfl rfl rfl (hv.chgNo hS.chg) hf (by simp; omega) (by simp [maxLen]; omega) ?_; clear hS; intro v2 w2 hS; go_frame)
      )
    go_ret
    exact hS
theorem is_q (x q : Int) {c : Nat} (w : World) (hc : w.cell? ⟨c, 0, none⟩ = some (I64 q)) {b : Bool} (hb : Hid ((x == q) = b)) :
    Calls Tryd.prog 39 #[I64 x, .pointer (some ⟨c, 0, none⟩)] w (Ret fun r w' => r = .bool b ∧ w' = w) := by
  unfold I64 at *
  go_enter Tryd.func39, Tryd.ntmps39
  go_wp2_with (first
    | (show wpList _ _ _ (⟨some 6, .binOp _ _ _ _ _, _, _, _, _⟩ :: _) _ _; refine wpList_val rfl (op_eqI' rfl rfl rfl hb.out) ?_; go_frame)
    )
  go_ret
  exact ⟨rfl, rfl⟩
def fnQ (c : Nat) : Value := .func (.func 39) #[] #[.pointer (some ⟨c, 0, none⟩)]
set_option maxRecDepth 100000 in
set_option maxHeartbeats 2000000 in
theorem indexFunc (v : Value) (l : List Int) (q : Int) (c : Nat) (w : World) (hv : Rd 1 w v (l.map fun z => [I64 z])) (hc : w.cell? ⟨c, 0, none⟩ = some (I64 q)) :
    Calls Tryd.prog 50 #[v, fnQ c] w (Ret fun r w' => r = .int .i64 (ixOf q l) ∧ w' = w) := by
  have HL : Hid ((l.map fun z => [I64 z]).length = l.length) := by simp [Hid]
  have hmax : l.length ≤ maxLen := by
    have := hv.len
    rwa [HL.out] at this
  unfold maxLen at hmax
  unfold fnQ
  go_enter Tryd.func50, Tryd.ntmps50
  go_wp2_with (first
    | (show wpList _ _ _ (⟨_, .call ⟨.builtin .len, _, _⟩, _, _, _, _⟩ :: _) _ _; refine wpList_val rfl (op_len slInt rfl rfl (v := v) rfl (by exact hv)) ?_; rw [HL.out]; go_frame)
    | (show wpList _ _ _ (⟨_, .indexAddr 34 _ _, _, _, _, _⟩ :: _) _ _; refine wpList_val rfl (op_indexAddr slInt rfl rfl (k := k) rfl (by exact hv) hlt') ?_; go_frame)
    | (show wpList _ _ _ (⟨_, .load 3 _, _, _, _, _⟩ :: _) _ _; refine wpList_val rfl (op_loadE1 oneInt rfl rfl (f := I64) (by exact hv) hlt) ?_; rw [HX.out]; go_frame)
    | (go_at_call 39; refine Ret.calls (is_q y q _ hc (by assumption)) ?_; rintro r w' ⟨rfl, rfl⟩)
    )
  go_loop [8] (fun i => ∃ k : Nat, i = .int .i64 k ∧ k ≤ l.length ∧ q ∉ l.take k) (fun i => l.length - (intOf i).toNat)
  case atStart => exact ⟨0, rfl, by omega, by simp⟩
  case round =>
    obtain ⟨k, rfl, hk, hno⟩ := hrel
    by_cases hlt : k < l.length
    · have hlt' : k < (l.map fun z => [I64 z]).length := by simpa using hlt
      have hsp : l = l.take k ++ l[k] :: l.drop (k + 1) := by
        rw [← List.drop_eq_getElem_cons hlt, List.take_append_drop]
      obtain ⟨y, hy⟩ : ∃ y, l[k] = y := ⟨_, rfl⟩
      have HX := hide hy
      have hn : l.take (k + 1) = l.take k ++ [y] := by rw [List.take_succ_eq_append_getElem hlt, hy]
      rw [hy] at hsp
      have hlk : (l.take k).length = k := by simp; omega
      clear hy
      by_cases he : y = q
      · have HR : Hid (ixOf q l = k) := by
          unfold Hid
          rw [hsp, he, ix_at hno, hlk]
        have HE : Hid ((y == q) = true) := by
          unfold Hid
          rw [beq_iff_eq]
          exact he
        clear hsp hn he hno hlk
        go_wp2_with (first
          | (show wpList _ _ _ (⟨_, .call ⟨.builtin .len, _, _⟩, _, _, _, _⟩ :: _) _ _; refine wpList_val rfl (op_len slInt rfl rfl (v := v) rfl (by exact hv)) ?_; rw [HL.out]; go_frame)
          | (show wpList _ _ _ (⟨_, .indexAddr 34 _ _, _, _, _, _⟩ :: _) _ _; refine wpList_val rfl (op_indexAddr slInt rfl rfl (k := k) rfl (by exact hv) hlt') ?_; go_frame)
          | (show wpList _ _ _ (⟨_, .load 3 _, _, _, _, _⟩ :: _) _ _; refine wpList_val rfl (op_loadE1 oneInt rfl rfl (f := I64) (by exact hv) hlt) ?_; rw [HX.out]; go_frame)
          | (go_at_call 39; refine Ret.calls (is_q y q _ hc (by assumption)) ?_; rintro r w' ⟨rfl, rfl⟩)
          )
        go_ret
        exact ⟨by rw [HR.out]; rfl, rfl⟩
      · have HE : Hid ((y == q) = false) := by
          unfold Hid
          rw [beq_eq_false_iff_ne]
          exact he
        have hno' : q ∉ l.take (k + 1) := by
          rw [hn]
          rw [List.mem_append, List.mem_singleton]
          rintro (h | h)
          · exact hno h
          · exact he h.symm
        clear hsp hn he hno hlk
        go_wp2_with (first
          | (show wpList _ _ _ (⟨_, .call ⟨.builtin .len, _, _⟩, _, _, _, _⟩ :: _) _ _; refine wpList_val rfl (op_len slInt rfl rfl (v := v) rfl (by exact hv)) ?_; rw [HL.out]; go_frame)
          | (show wpList _ _ _ (⟨_, .indexAddr 34 _ _, _, _, _, _⟩ :: _) _ _; refine wpList_val rfl (op_indexAddr slInt rfl rfl (k := k) rfl (by exact hv) hlt') ?_; go_frame)
          | (show wpList _ _ _ (⟨_, .load 3 _, _, _, _, _⟩ :: _) _ _; refine wpList_val rfl (op_loadE1 oneInt rfl rfl (f := I64) (by exact hv) hlt) ?_; rw [HX.out]; go_frame)
          | (go_at_call 39; refine Ret.calls (is_q y q _ hc (by assumption)) ?_; rintro r w' ⟨rfl, rfl⟩)
          )
        go_round
        case rel => exact ⟨k + 1, by go_num, by omega, hno'⟩
        case measure => simp [intOf]; omega
    · have hk2 : k = l.length := by omega
      subst hk2
      rw [List.take_length] at hno
      have HR := hide (ix_none hno)
      clear hno
      go_wp2_with fail
      go_ret
      exact ⟨by rw [HR.out]; rfl, rfl⟩
/-- a list without a number -/
def wout (q : Int) (l : List Int) : List Int := l.filter fun z => z != q
theorem wout_none {q : Int} {l : List Int} (h : q ∉ l) : wout q l = l := by
  unfold wout
  rw [List.filter_eq_self]
  intro z hz
  simp only [bne_iff_ne, ne_eq]
  rintro rfl
  exact h hz
theorem set_ints (M : List Int) (i : Nat) (y : Int) : (M.map fun z => [I64 z]).set i [I64 y] = (M.set i y).map fun z => [I64 z] := by rw [List.map_set]
theorem take_ints (M : List Int) (i : Nat) : (M.map fun z => [I64 z]).take i = (M.take i).map fun z => [I64 z] := by rw [List.map_take]
theorem del_keep {l M : List Int} {q y : Int} {i j : Nat} (hl : M.length = l.length) (h1 : M.take i = wout q (l.take j)) (h2 : M.drop j = l.drop j) (hij : i ≤ j) (hj : j < l.length) (hy : l[j] = y) (hq : y ≠ q) :
    (M.set i y).take (i + 1) = wout q (l.take (j + 1)) ∧ (M.set i y).drop (j + 1) = l.drop (j + 1) := by
  constructor
  · rw [List.take_succ_eq_append_getElem (by simp; omega), List.take_set_of_le (by omega), h1, List.getElem_set_self, List.take_succ_eq_append_getElem hj, hy]
    unfold wout
    rw [List.filter_append]
    simp [hq]
  · rw [List.drop_set_of_lt (by omega), ← List.drop_drop, h2, List.drop_drop]
theorem del_skip {l M : List Int} {q y : Int} {i j : Nat} (h1 : M.take i = wout q (l.take j)) (h2 : M.drop j = l.drop j) (hj : j < l.length) (hy : l[j] = y) (hq : y = q) :
    M.take i = wout q (l.take (j + 1)) ∧ M.drop (j + 1) = l.drop (j + 1) := by
  constructor
  · rw [h1, List.take_succ_eq_append_getElem hj, hy]
    unfold wout
    rw [List.filter_append]
    simp [hq]
  · rw [← List.drop_drop, h2, List.drop_drop]
set_option maxRecDepth 100000 in
set_option maxHeartbeats 4000000 in
theorem deleteFunc {R : Nat → Prop} {base w : World} {F : List Hp} {v : Value} {l : List Int} {q : Int} {c : Nat} {T : TypeId} (hS : SepL R base w (.own 3 1 v (l.map fun z => [I64 z]) :: .blk c T [I64 q] :: F)) (hlen : l.length ≤ 1000000) :
    Calls Tryd.prog 37 #[v, fnQ c] w (Ret fun r w' => SepL R base w' (.own 3 1 r ((wout q l).map fun z => [I64 z]) :: .blk c T [I64 q] :: F)) := by
  have H := indexFunc v l q c w hS.getOwn.rd (((hS.bring (by repeat (first | exact t0 | apply tS))).getBlk.cell 0))
  by_cases hq : q ∈ l
  case neg =>
    have HW := hide (wout_none hq)
    have HI := hide (ix_none hq)
    rw [HI.out] at H
    have HE : Hid (((-1 : Int) == -1) = true) := rfl
    clear hq
    unfold fnQ at *
    go_enter Tryd.func37, Tryd.ntmps37
    go_wp2_with (first
      | (go_at_call 50; refine Ret.calls H ?_; rintro r w' ⟨rfl, rfl⟩)
      | (show wpList _ _ _ (⟨some 12, .binOp _ _ _ _ _, _, _, _, _⟩ :: _) _ _; refine wpList_val rfl (op_eqI' rfl rfl rfl HE.out) ?_; go_frame)
      )
    go_ret
    rw [HW.out]
    exact hS
  obtain ⟨a, b, hl, hna⟩ := mem_first hq
  have HI : Hid (ixOf q l = a.length) := by
    unfold Hid
    rw [hl, ix_at hna]
  rw [HI.out] at H
  have hal : a.length < l.length := by rw [hl]; simp
  have hst : l.take a.length = wout q (l.take (a.length + 1)) := by
    rw [hl, List.take_left, List.take_succ_eq_append_getElem (by simp), List.take_left]
    unfold wout
    rw [List.filter_append]
    simp
    exact (wout_none hna).symm
  obtain ⟨i0, hi0⟩ : ∃ i0, a.length = i0 := ⟨_, rfl⟩
  rw [hi0] at H hal hst
  have HE : Hid (((i0 : Int) == -1) = false) := by
    unfold Hid
    rw [beq_eq_false_iff_ne]
    omega
  have HST := hide hst
  clear hq hl hna HI hi0 hst
  unfold fnQ at *
  go_enter Tryd.func37, Tryd.ntmps37
  go_wp2_with (first
    | (go_at_call 50; refine Ret.calls H ?_; rintro r w' ⟨rfl, rfl⟩)
    | (show wpList _ _ _ (⟨some 12, .binOp _ _ _ _ _, _, _, _, _⟩ :: _) _ _; refine wpList_val rfl (op_eqI' rfl rfl rfl HE.out) ?_; go_frame)
    )
  go_loopw [5, 6] (fun iv jv wr => ∃ (i j : Nat) (M : List Int), iv = .int .i64 i ∧ jv = .int .i64 j ∧ i ≤ j ∧ j ≤ l.length ∧ Hid (M.length = l.length) ∧ Hid (M.take i = wout q (l.take j)) ∧ Hid (M.drop j = l.drop j) ∧ SepL R base wr (.own 3 1 v (M.map fun z => [I64 z]) :: .blk c T [I64 q] :: F)) (fun _ jv _ => l.length - (intOf jv).toNat)
  case atStart => exact ⟨i0, i0 + 1, l, rfl, by go_num, by omega, by omega, rfl, HST.out, rfl, hS⟩
  case round =>
    clear hS H HST HE
    obtain ⟨i, j, M, rfl, rfl, hij, hj, HM, H1, H2, hS⟩ := hrel
    have HML : Hid ((M.map fun z => [I64 z]).length = l.length) := by
      unfold Hid
      rw [List.length_map]
      exact HM.out
    by_cases hlt : j < l.length
    · have hjM : j < M.length := by rw [HM.out]; exact hlt
      have hjm : j < (M.map fun z => [I64 z]).length := by rw [HML.out]; exact hlt
      have him : i < (M.map fun z => [I64 z]).length := by rw [HML.out]; omega
      have hMj : M[j] = l[j] := by
        have h1 : (M.drop j)[0]? = (l.drop j)[0]? := by rw [H2.out]
        rw [List.getElem?_drop, List.getElem?_drop, Nat.add_zero, List.getElem?_eq_getElem hjM, List.getElem?_eq_getElem hlt] at h1
        injection h1
      obtain ⟨y, hy⟩ : ∃ y, l[j] = y := ⟨_, rfl⟩
      have HX : Hid (M[j] = y) := hMj.trans hy
      by_cases hq : y = q
      · have HE : Hid ((y == q) = true) := by
          unfold Hid
          rw [beq_iff_eq]
          exact hq
        obtain ⟨d1, d2⟩ := del_skip H1.out H2.out hlt hy hq
        have D1 := hide d1
        have D2 := hide d2
        clear d1 d2 hy hMj hq
        go_wp2_with (first
          | (show wpList _ _ _ (⟨some 18, .call _, _, _, _, _⟩ :: _) _ _; refine wpList_val rfl (op_len slInt rfl rfl (v := v) rfl (by exact hS.getOwn.rd)) ?_; rw [HML.out]; go_frame)
          | (show wpList _ _ _ (⟨some 24, .indexAddr _ _ _, _, _, _, _⟩ :: _) _ _; refine wpList_val rfl (op_indexAddr slInt rfl (v := v) rfl (k := j) rfl (by exact hS.getOwn.rd) hjm) ?_; go_frame)
          | (show wpList _ _ _ (⟨some 25, .load _ _, _, _, _, _⟩ :: _) _ _; refine wpList_val rfl (op_loadE1 oneInt rfl (v := v) rfl (f := I64) (by exact hS.getOwn.rd) hjM) ?_; rw [HX.out]; go_frame)
          | (go_at_call 39; refine Ret.calls (is_q y q _ ((hS.bring (by repeat (first | exact t0 | apply tS))).getBlk.cell 0) (by assumption)) ?_; rintro r w' ⟨rfl, rfl⟩)
          | (show wpList _ _ _ (⟨some 33, .indexAddr _ _ _, _, _, _, _⟩ :: _) _ _; refine wpList_val rfl (op_indexAddr slInt rfl (v := v) rfl (k := i) rfl (by exact hS.getOwn.rd) him) ?_; go_frame)
          | (show wpList _ _ _ (⟨_, .store 3 _ _, _, _, _, _⟩ :: _) _ _; refine wpS_storeE1 (by kernel_rfl) hS rfl rfl (k := i) rfl (u := I64 y) rfl rfl rfl him ?_; clear hS; intro w hS; rw [set_ints] at hS; go_frame)
          )
        go_roundw
        case rel => exact ⟨i, j + 1, M, rfl, by go_num, by omega, by omega, HM, D1, D2, hS⟩
        case measure => simp [intOf]; omega
      · have HE : Hid ((y == q) = false) := by
          unfold Hid
          rw [beq_eq_false_iff_ne]
          exact hq
        obtain ⟨d1, d2⟩ := del_keep HM.out H1.out H2.out hij hlt hy hq
        have D1 := hide d1
        have D2 := hide d2
        have HM2 : Hid ((M.set i y).length = l.length) := by
          unfold Hid
          rw [List.length_set]
          exact HM.out
        clear d1 d2 hy hMj hq
        go_wp2_with (first
          | (show wpList _ _ _ (⟨some 18, .call _, _, _, _, _⟩ :: _) _ _; refine wpList_val rfl (op_len slInt rfl rfl (v := v) rfl (by exact hS.getOwn.rd)) ?_; rw [HML.out]; go_frame)
          | (show wpList _ _ _ (⟨some 24, .indexAddr _ _ _, _, _, _, _⟩ :: _) _ _; refine wpList_val rfl (op_indexAddr slInt rfl (v := v) rfl (k := j) rfl (by exact hS.getOwn.rd) hjm) ?_; go_frame)
          | (show wpList _ _ _ (⟨some 25, .load _ _, _, _, _, _⟩ :: _) _ _; refine wpList_val rfl (op_loadE1 oneInt rfl (v := v) rfl (f := I64) (by exact hS.getOwn.rd) hjM) ?_; rw [HX.out]; go_frame)
          | (go_at_call 39; refine Ret.calls (is_q y q _ ((hS.bring (by repeat (first | exact t0 | apply tS))).getBlk.cell 0) (by assumption)) ?_; rintro r w' ⟨rfl, rfl⟩)
          | (show wpList _ _ _ (⟨some 33, .indexAddr _ _ _, _, _, _, _⟩ :: _) _ _; refine wpList_val rfl (op_indexAddr slInt rfl (v := v) rfl (k := i) rfl (by exact hS.getOwn.rd) him) ?_; go_frame)
          | (show wpList _ _ _ (⟨_, .store 3 _ _, _, _, _, _⟩ :: _) _ _; refine wpS_storeE1 (by kernel_rfl) hS rfl rfl (k := i) rfl (u := I64 y) rfl rfl rfl him ?_; clear hS; intro w hS; rw [set_ints] at hS; go_frame)
          )
        go_roundw
        case rel => exact ⟨i + 1, j + 1, M.set i y, by go_num, by go_num, by omega, by omega, HM2, D1, D2, hS⟩
        case measure => simp [intOf]; omega
    · have hj2 : j = l.length := by omega
      subst hj2
      rw [List.take_length] at H1
      have hlM : l.length = (M.map fun z => [I64 z]).length := HML.out.symm
      have him : i ≤ (M.map fun z => [I64 z]).length := by rw [HML.out]; exact hij
      have HTL : Hid (((M.map fun z => [I64 z]).take i).length = i) := by
        unfold Hid
        rw [List.length_take, HML.out]
        omega
      have hcap := capV_le hS.getOwn.rd
      rw [HML.out] at hcap
      obtain ⟨A, lc, cc, hform⟩ : ∃ A l c, v = .slice A l c := by
        obtain ⟨A, c, e, _⟩ := hS.getOwn.rd.form
        exact ⟨_, _, _, e⟩
      have HF := hide hform
      have hcap2 : l.length ≤ capV (resz v i) := by rw [capV_resz]; exact hcap
      have HHI : Hid (cutV 1 v i l.length = cutV 1 (resz v i) ((M.map fun z => [I64 z]).take i).length l.length) := by
        unfold Hid
        rw [HTL.out, cutV_resz]
      have hii : ((M.map fun z => [I64 z]).take i).length ≤ l.length := by rw [HTL.out]; exact hij
      clear hlM hform
      go_wp2_with (first
        | (show wpList _ _ _ (⟨some 18, .call _, _, _, _, _⟩ :: _) _ _; refine wpList_val rfl (op_len slInt rfl rfl (v := v) rfl (by exact hS.getOwn.rd)) ?_; rw [HML.out]; go_frame)
        | (show wpList _ _ _ (⟨some 38, .slice _ _ _ _ _, _, _, _, _⟩ :: _) _ _; refine wpList_val rfl (op_cut slInt rfl (v := v) rfl (by exact hS.getOwn.rd) (l := i) (h := _) (Or.inr rfl) (Or.inl ⟨rfl, rfl⟩) him (Nat.le_refl _)) ?_; rw [HML.out]; go_frame)
        | (show wpList _ _ _ (⟨_, .call ⟨.builtin .clear, _, _⟩, _, _, _, _⟩ :: _) _ _; refine wpS_clearSpare slInt Tryd.zeroValue3 (hS.ownTake him) rfl rfl rfl (h := l.length) HHI.out hii hcap2 ?_; clear hS; intro w3 hS; go_frame)
        | (show wpList _ _ _ (⟨some 41, .slice _ _ _ _ _, _, _, _, _⟩ :: _) _ _; refine wpList_val rfl (op_cutForm slInt rfl (v := v) rfl ⟨_, _, _, HF.out⟩ (h := i) rfl (by omega)) ?_; rw [cut0_resz 1 v i ⟨_, _, _, HF.out⟩]; go_frame)
        )
      go_ret
      rw [take_ints, H1.out] at hS
      exact hS
end Go.Proofs.YtlplgobkidpgkaaDoor
namespace Go.Proofs.YtlplgobkidpgkaaDoor
open Go.RowKit Go.Px Go.Shelf Go.Sha
def ren7 : Ren := ⟨fun n => if n = 25 then 55 else n, fun n => if n = 22 then 33 else n, fun n => n⟩
theorem lays25 : Lays7.n25 Tryd.prog ren7 where
  mixed := by kernel_rfl
  f25 := Tryd.func55.trans (congrArg some (by kernel_rfl))
  t22 := Tryd.underlying33
  a22 := Tryd.isAgg33
  z22 := Tryd.sizeOf33
  v22 := Tryd.zeroValue33
  i22 := by kernel_rfl
theorem add64_any (x y c : Nat) (hc : c ≤ 1) (w : World) : (callFunc 55 #[U x, U y, U c]).run Tryd.prog w =
    .ok (.value (.tuple #[U ((x + y + c) % 18446744073709551616), U ((x + y + c) / 18446744073709551616)])) w := Any7.bits_Add64 lays25 x y c hc w
theorem beqF {a b : Nat} (h : a ≠ b) : Hid ((a == b) = false) := by
  unfold Hid
  rw [beq_eq_false_iff_ne]
  exact h
theorem decF {p : Prop} [Decidable p] (h : ¬ p) : Hid (decide p = false) := decide_eq_false h
theorem decT {p : Prop} [Decidable p] (h : p) : Hid (decide p = true) := decide_eq_true h
section
variable {o : Oper} {w : World} {ρ : Operand → Value} {x y z : Operand} {a b c : Nat} {ts : Array TypeId}
theorem op_add64 (ho : o.op = .call { callee := .value (.func 55), args := #[x, y, z], argTypes := ts }) (hx : ρ x = U a) (hy : ρ y = U b) (hz : ρ z = U 0) (hf : ρ (.func 55) = .func (.func 55) #[] #[]) (s : Nat) (hs : (a + b) % 18446744073709551616 = s) (r : Nat) (hr : (a + b) / 18446744073709551616 = r) :
    (execOp ρ o).run Tryd.prog w = .ok (.value (.tuple #[U s, U r])) w := by
  have h := add64_any a b 0 (by omega) w
  rw [Nat.add_zero, hs, hr] at h
  unfold execOp
  simp [ho, resolve, invoke, hf, Deferred.ofValue, hx, hy, hz, h]
end
def laterN (t : Nat) (l : List Nat) : Nat := min (t + l.sum) 18446744073709551615
theorem sum_take : ∀ (l : List Nat) (k : Nat), (l.take k).sum ≤ l.sum
  | [], k => by simp
  | x :: l, 0 => by simp
  | x :: l, k + 1 => by
    have := sum_take l k
    simp only [List.take_succ_cons, List.sum_cons]
    omega
theorem sum_next (l : List Nat) (k : Nat) (h : k < l.length) : (l.take (k + 1)).sum = (l.take k).sum + l[k] := by
  rw [List.take_succ_eq_append_getElem h, List.sum_append, List.sum_cons, List.sum_nil, Nat.add_zero]
set_option maxRecDepth 100000 in
set_option maxHeartbeats 2000000 in
theorem later_any (t : Nat) (v : Value) (ls : List Nat) (w : World) (hv : Rd 1 w v (ls.map fun n => [U n])) (ht : t < 18446744073709551616) (hls : ∀ n ∈ ls, n < 18446744073709551616) :
    Calls Tryd.prog 47 #[U t, v] w (Ret fun r w' => r = U (laterN t ls) ∧ w' = w) := by
  have HL : Hid ((ls.map fun n => [U n]).length = ls.length) := by simp [Hid]
  have hmax : ls.length ≤ maxLen := by
    have := hv.len
    rwa [HL.out] at this
  unfold maxLen at hmax
  have HLS := hide hls
  clear hls
  go_enter Tryd.func47, Tryd.ntmps47
  go_wp2_with (first
    | (show wpList _ _ _ (⟨_, .call ⟨.value (.func 55), _, _⟩, _, _, _, _⟩ :: _) _ _; refine wpList_val rfl (op_add64 rfl rfl rfl rfl rfl _ HS.out _ HC.out) ?_; go_frame)
    | (show wpList _ _ _ (⟨_, .call ⟨.builtin .len, _, _⟩, _, _, _, _⟩ :: _) _ _; refine wpList_val rfl (op_len slU rfl rfl rfl (by exact hv)) ?_; rw [HL.out]; go_frame)
    | (show wpList _ _ _ (⟨_, .indexAddr 70 _ _, _, _, _, _⟩ :: _) _ _; refine wpList_val rfl (op_indexAddr slU rfl rfl (k := k) rfl (by exact hv) hlt') ?_; go_frame)
    | (show wpList _ _ _ (⟨_, .load 33 _, _, _, _, _⟩ :: _) _ _; refine wpList_val rfl (op_loadE1 oneU rfl rfl (f := U) (by exact hv) hlt) ?_; rw [HX.out]; go_frame)
    )
  go_loop [0, 11] (fun a i => ∃ k : Nat, i = .int .i64 k ∧ k ≤ ls.length ∧ a = U (t + (ls.take k).sum) ∧ t + (ls.take k).sum < 18446744073709551616) (fun _ i => ls.length - (intOf i).toNat)
  case atStart => exact ⟨0, rfl, by omega, by simp, by simpa using ht⟩
  case round =>
    obtain ⟨k, rfl, hk, rfl, hM⟩ := hrel
    by_cases hlt : k < ls.length
    · have hlt' : k < (ls.map fun n => [U n]).length := by simpa using hlt
      have hnx := sum_next ls k hlt
      have hle := sum_take ls (k + 1)
      have hxM : ls[k] < 18446744073709551616 := HLS.out _ (List.getElem_mem hlt)
      obtain ⟨x, hx⟩ : ∃ x, ls[k] = x := ⟨_, rfl⟩
      have HX := hide hx
      rw [hx] at hnx hxM
      clear hx
      obtain ⟨a, ha⟩ : ∃ a, t + (ls.take k).sum = a := ⟨_, rfl⟩
      obtain ⟨b, hb⟩ : ∃ b, t + (ls.take (k + 1)).sum = b := ⟨_, rfl⟩
      have hab : b = a + x := by omega
      have hbl : b ≤ t + ls.sum := by omega
      rw [ha] at hM
      simp only [ha]
      have HB := hide hb
      clear ha hb hnx hle
      by_cases ho : a + x < 18446744073709551616
      · have HS : Hid ((a + x) % 18446744073709551616 = b) := by
          unfold Hid
          omega
        have HC : Hid ((a + x) / 18446744073709551616 = 0) := by
          unfold Hid
          omega
        have HNE : Hid (((0 : Nat) != 0) = false) := rfl
        have HAB := hide hab
        clear hab
        go_wp2_with (first
          | (show wpList _ _ _ (⟨_, .call ⟨.value (.func 55), _, _⟩, _, _, _, _⟩ :: _) _ _; refine wpList_val rfl (op_add64 rfl rfl rfl rfl rfl _ HS.out _ HC.out) ?_; go_frame)
          | (show wpList _ _ _ (⟨_, .call ⟨.builtin .len, _, _⟩, _, _, _, _⟩ :: _) _ _; refine wpList_val rfl (op_len slU rfl rfl rfl (by exact hv)) ?_; rw [HL.out]; go_frame)
          | (show wpList _ _ _ (⟨_, .indexAddr 70 _ _, _, _, _, _⟩ :: _) _ _; refine wpList_val rfl (op_indexAddr slU rfl rfl (k := k) rfl (by exact hv) hlt') ?_; go_frame)
          | (show wpList _ _ _ (⟨_, .load 33 _, _, _, _, _⟩ :: _) _ _; refine wpList_val rfl (op_loadE1 oneU rfl rfl (f := U) (by exact hv) hlt) ?_; rw [HX.out]; go_frame)
          | (show wpList _ _ _ (⟨some 22, .binOp _ _ _ _ _, _, _, _, _⟩ :: _) _ _; refine wpList_val rfl (opU_neq rfl rfl (b := 0) rfl HNE.out) ?_; go_frame)
          )
        go_round
        case rel => exact ⟨k + 1, by go_num, by omega, by rw [HB.out], by rw [HB.out, HAB.out]; exact ho⟩
        case measure => simp [intOf]; omega
      · obtain ⟨s, hs⟩ : ∃ s, (a + x) % 18446744073709551616 = s := ⟨_, rfl⟩
        have HS := hide hs
        have HC : Hid ((a + x) / 18446744073709551616 = 1) := by
          unfold Hid
          omega
        have HNE : Hid (((1 : Nat) != 0) = true) := rfl
        have hfin : laterN t ls = 18446744073709551615 := by
          unfold laterN
          omega
        have HF := hide hfin
        clear hs hab hfin
        go_wp2_with (first
          | (show wpList _ _ _ (⟨_, .call ⟨.value (.func 55), _, _⟩, _, _, _, _⟩ :: _) _ _; refine wpList_val rfl (op_add64 rfl rfl rfl rfl rfl _ HS.out _ HC.out) ?_; go_frame)
          | (show wpList _ _ _ (⟨_, .call ⟨.builtin .len, _, _⟩, _, _, _, _⟩ :: _) _ _; refine wpList_val rfl (op_len slU rfl rfl rfl (by exact hv)) ?_; rw [HL.out]; go_frame)
          | (show wpList _ _ _ (⟨_, .indexAddr 70 _ _, _, _, _, _⟩ :: _) _ _; refine wpList_val rfl (op_indexAddr slU rfl rfl (k := k) rfl (by exact hv) hlt') ?_; go_frame)
          | (show wpList _ _ _ (⟨_, .load 33 _, _, _, _, _⟩ :: _) _ _; refine wpList_val rfl (op_loadE1 oneU rfl rfl (f := U) (by exact hv) hlt) ?_; rw [HX.out]; go_frame)
          | (show wpList _ _ _ (⟨some 22, .binOp _ _ _ _ _, _, _, _, _⟩ :: _) _ _; refine wpList_val rfl (opU_neq rfl rfl (b := 0) rfl HNE.out) ?_; go_frame)
          )
        go_ret
        exact ⟨by rw [HF.out]; rfl, rfl⟩
    · have hk2 : k = ls.length := by omega
      subst hk2
      rw [List.take_length] at hM ⊢
      have HF : Hid (laterN t ls = t + ls.sum) := by
        unfold Hid laterN
        omega
      go_wp2_with fail
      go_ret
      exact ⟨congrArg U HF.out.symm, rfl⟩
set_option maxRecDepth 100000 in
set_option maxHeartbeats 2000000 in
theorem rlater_any (t : Nat) (v : Value) (ls : List Nat) (w : World) (hv : Rd 1 w v (ls.map fun n => [U n])) (ht : t < 18446744073709551616) (hls : ∀ n ∈ ls, n < 18446744073709551616) :
    Calls Tryd.prog 42 #[U t, v] w (Ret fun r w' => r = U (laterN t ls) ∧ w' = w) := by
  have HL : Hid ((ls.map fun n => [U n]).length = ls.length) := by simp [Hid]
  have hmax : ls.length ≤ maxLen := by
    have := hv.len
    rwa [HL.out] at this
  unfold maxLen at hmax
  have HLS := hide hls
  clear hls
  go_enter Tryd.func42, Tryd.ntmps42
  go_wp2_with (first
    | (show wpList _ _ _ (⟨_, .call ⟨.value (.func 55), _, _⟩, _, _, _, _⟩ :: _) _ _; refine wpList_val rfl (op_add64 rfl rfl rfl rfl rfl _ HS.out _ HC.out) ?_; go_frame)
    | (show wpList _ _ _ (⟨_, .call ⟨.builtin .len, _, _⟩, _, _, _, _⟩ :: _) _ _; refine wpList_val rfl (op_len slU rfl rfl rfl (by exact hv)) ?_; rw [HL.out]; go_frame)
    | (show wpList _ _ _ (⟨_, .indexAddr 70 _ _, _, _, _, _⟩ :: _) _ _; refine wpList_val rfl (op_indexAddr slU rfl rfl (k := k) rfl (by exact hv) hlt') ?_; go_frame)
    | (show wpList _ _ _ (⟨_, .load 33 _, _, _, _, _⟩ :: _) _ _; refine wpList_val rfl (op_loadE1 oneU rfl rfl (f := U) (by exact hv) hlt) ?_; rw [HX.out]; go_frame)
    )
  go_loop [0, 9] (fun a i => ∃ k : Nat, i = .int .i64 k ∧ k ≤ ls.length ∧ a = U (t + (ls.take k).sum) ∧ t + (ls.take k).sum < 18446744073709551616) (fun _ i => ls.length - (intOf i).toNat)
  case atStart => exact ⟨0, rfl, by omega, by simp, by simpa using ht⟩
  case round =>
    obtain ⟨k, rfl, hk, rfl, hM⟩ := hrel
    by_cases hlt : k < ls.length
    ·
      have hlt' : k < (ls.map fun n => [U n]).length := by simpa using hlt
      have hnx := sum_next ls k hlt
      have hle := sum_take ls (k + 1)
      have hxM : ls[k] < 18446744073709551616 := HLS.out _ (List.getElem_mem hlt)
      obtain ⟨x, hx⟩ : ∃ x, ls[k] = x := ⟨_, rfl⟩
      have HX := hide hx
      rw [hx] at hnx hxM
      clear hx
      obtain ⟨a, ha⟩ : ∃ a, t + (ls.take k).sum = a := ⟨_, rfl⟩
      obtain ⟨b, hb⟩ : ∃ b, t + (ls.take (k + 1)).sum = b := ⟨_, rfl⟩
      have hab : b = a + x := by omega
      have hbl : b ≤ t + ls.sum := by omega
      rw [ha] at hM
      simp only [ha]
      have HB := hide hb
      clear ha hb hnx hle
      obtain ⟨m, hm⟩ : ∃ m : Nat, ((18446744073709551615 : Nat) : Int) - a = m := ⟨18446744073709551615 - a, by omega⟩
      have HM : Hid ((((18446744073709551615 : Nat) : Int) - a) % 18446744073709551616 = m) := by
        unfold Hid
        omega
      by_cases ho : a + x < 18446744073709551616
      · have HS : Hid ((a + x) % 18446744073709551616 = b) := by
          unfold Hid
          omega
        have HNE : Hid (decide (m < x) = false) := decF (by omega)
        have HAB := hide hab
        clear hab hm
        go_wp2_with (first
          | (show wpList _ _ _ (⟨_, .call ⟨.value (.func 55), _, _⟩, _, _, _, _⟩ :: _) _ _; refine wpList_val rfl (op_add64 rfl rfl rfl rfl rfl _ HS.out _ HC.out) ?_; go_frame)
          | (show wpList _ _ _ (⟨_, .call ⟨.builtin .len, _, _⟩, _, _, _, _⟩ :: _) _ _; refine wpList_val rfl (op_len slU rfl rfl rfl (by exact hv)) ?_; rw [HL.out]; go_frame)
          | (show wpList _ _ _ (⟨_, .indexAddr 70 _ _, _, _, _, _⟩ :: _) _ _; refine wpList_val rfl (op_indexAddr slU rfl rfl (k := k) rfl (by exact hv) hlt') ?_; go_frame)
          | (show wpList _ _ _ (⟨_, .load 33 _, _, _, _, _⟩ :: _) _ _; refine wpList_val rfl (op_loadE1 oneU rfl rfl (f := U) (by exact hv) hlt) ?_; rw [HX.out]; go_frame)
          | (show wpList _ _ _ (⟨some 15, .binOp _ _ _ _ _, _, _, _, _⟩ :: _) _ _; refine wpList_val rfl (opU_subW rfl (a := 18446744073709551615) rfl rfl m HM.out) ?_; go_frame)
          | (show wpList _ _ _ (⟨some 16, .binOp _ _ _ _ _, _, _, _, _⟩ :: _) _ _; refine wpList_val rfl (opU_gtr rfl rfl rfl HNE.out) ?_; go_frame)
          | (show wpList _ _ _ (⟨some 19, .binOp _ _ _ _ _, _, _, _, _⟩ :: _) _ _; refine wpList_val rfl (opU_addW rfl rfl rfl b HS.out) ?_; go_frame)
          )
        go_round
        case rel => exact ⟨k + 1, by go_num, by omega, by rw [HB.out], by rw [HB.out, HAB.out]; exact ho⟩
        case measure => simp [intOf]; omega
      · have HNE : Hid (decide (m < x) = true) := decT (by omega)
        have hfin : laterN t ls = 18446744073709551615 := by
          unfold laterN
          omega
        have HF := hide hfin
        clear hab hfin hm
        go_wp2_with (first
          | (show wpList _ _ _ (⟨_, .call ⟨.value (.func 55), _, _⟩, _, _, _, _⟩ :: _) _ _; refine wpList_val rfl (op_add64 rfl rfl rfl rfl rfl _ HS.out _ HC.out) ?_; go_frame)
          | (show wpList _ _ _ (⟨_, .call ⟨.builtin .len, _, _⟩, _, _, _, _⟩ :: _) _ _; refine wpList_val rfl (op_len slU rfl rfl rfl (by exact hv)) ?_; rw [HL.out]; go_frame)
          | (show wpList _ _ _ (⟨_, .indexAddr 70 _ _, _, _, _, _⟩ :: _) _ _; refine wpList_val rfl (op_indexAddr slU rfl rfl (k := k) rfl (by exact hv) hlt') ?_; go_frame)
          | (show wpList _ _ _ (⟨_, .load 33 _, _, _, _, _⟩ :: _) _ _; refine wpList_val rfl (op_loadE1 oneU rfl rfl (f := U) (by exact hv) hlt) ?_; rw [HX.out]; go_frame)
          | (show wpList _ _ _ (⟨some 15, .binOp _ _ _ _ _, _, _, _, _⟩ :: _) _ _; refine wpList_val rfl (opU_subW rfl (a := 18446744073709551615) rfl rfl m HM.out) ?_; go_frame)
          | (show wpList _ _ _ (⟨some 16, .binOp _ _ _ _ _, _, _, _, _⟩ :: _) _ _; refine wpList_val rfl (opU_gtr rfl rfl rfl HNE.out) ?_; go_frame)
          )
        go_ret
        exact ⟨by rw [HF.out]; rfl, rfl⟩
    · have hk2 : k = ls.length := by omega
      subst hk2
      rw [List.take_length] at hM ⊢
      have HF : Hid (laterN t ls = t + ls.sum) := by
        unfold Hid laterN
        omega
      go_wp2_with fail
      go_ret
      exact ⟨congrArg U HF.out.symm, rfl⟩
attribute [irreducible] laterN
end Go.Proofs.YtlplgobkidpgkaaDoor
namespace Go.Proofs.YtlplgobkidpgkaaDoor
open Go Go.RowKit Go.Px Go.Sha
theorem cnt_snoc {but : List Int} {p : Int} : ∀ (r l : List Int), cnt but l (r ++ [p]) = if 0 ≤ p ∧ p ∉ cnt but l r ∧ p ∉ but then cnt but l r ++ [p] else cnt but l r
  | [], l => rfl
  | x :: r, l => by
    rw [List.cons_append]
    unfold cnt
    split
    · exact cnt_snoc r _
    · exact cnt_snoc r _
theorem cnt_le {but : List Int} : ∀ (r l : List Int), (cnt but l r).length ≤ l.length + r.length
  | [], l => by simp [cnt]
  | x :: r, l => by
    unfold cnt
    split
    · have := cnt_le (but := but) r (l ++ [x])
      simp only [List.length_append, List.length_cons, List.length_nil] at this ⊢
      omega
    · have := cnt_le (but := but) r l
      simp only [List.length_cons]
      omega
def U16 (d : Nat) : Value := .int .u16 (d : Int)
theorem undU16 : Tryd.prog.underlying 35 = some (.int .u16) := by kernel_rfl
theorem op_16toInt {P : Program} {o : Oper} {w : World} {ρ : Operand → Value} {s d : TypeId} {sd : TypeDesc} (hs : P.underlying s = some sd) (hd : P.underlying d = some (.int .i64)) {x : Operand} (ho : o.op = .convert s d x) {n : Nat} (hx : ρ x = .int .u16 n) (hn : n < 65536) : (execOp ρ o).run P w = .ok (.value (.int .i64 n)) w := by
  rw [op_convert hs hd ho hx]
  have e : IntKind.i64.wrap (n : Int) = n := IntWalk.i64_in _ (by omega)
  rw [e]
theorem pickI_at {l : List Int} {d : Nat} (h : d % l.length < l.length) : pickI l d = l[d % l.length] := by
  unfold pickI
  rw [if_neg (by rintro rfl; simp at h), List.getElem?_eq_getElem h]
  rfl
section
variable {R : Nat → Prop} {base w : World} {F : List Hp}
set_option maxRecDepth 100000 in
set_option maxHeartbeats 2000000 in
theorem choose_s {v : Value} {peers : List Int} (hS : SepL R base w F) (hv : RdIn R base 1 v (peers.map fun z => [I64 z])) (hlen : peers.length ≤ 1000000) (but : Int) {d : Nat} (hd : d < 65536) :
    Calls Tryd.prog 40 #[v, I64 but, .int .u16 d] w (Ret fun y w' => y = I64 (chooseP peers but d) ∧ SepL R base w' F) := by
  have HL : Hid ((peers.map fun z => [I64 z]).length = peers.length) := by simp [Hid]
  replace hS := hS.nilOwn 3 1
  go_enter Tryd.func40, Tryd.ntmps40
  go_wp2_with (first
    | (show wpList _ _ _ (⟨some 11, .call _, _, _, _, _⟩ :: _) _ _; refine wpList_val rfl (op_len slInt rfl rfl (v := v) rfl (by exact hS.rd hv)) ?_; rw [HL.out]; go_frame)
    )
  go_loopw [7, 12] (fun lv i wr => ∃ (k : Nat) (m : List Int), i = .int .i64 k ∧ k ≤ peers.length ∧ Hid (cnt [but] [] (peers.take k) = m) ∧ SepL R base wr (.own 3 1 lv (m.map fun z => [I64 z]) :: F)) (fun _ i _ => peers.length - (intOf i).toNat)
  case atStart => exact ⟨0, [], rfl, by omega, rfl, hS⟩
  case round =>
    clear hS
    obtain ⟨k, m, rfl, hk, HM, hS⟩ := hrel
    have hml : m.length ≤ k := by
      have h1 := cnt_le (but := [but]) (peers.take k) []
      rw [HM.out, List.length_nil, List.length_take] at h1
      omega
    by_cases hlt : k < peers.length
    · have hlt' : k < (peers.map fun z => [I64 z]).length := by simpa using hlt
      obtain ⟨y, hy⟩ : ∃ y, peers[k] = y := ⟨_, rfl⟩
      have HX := hide hy
      have hsn : cnt [but] [] (peers.take (k + 1)) = if 0 ≤ y ∧ y ∉ m ∧ y ∉ [but] then m ++ [y] else m := by
        rw [List.take_succ_eq_append_getElem hlt, hy, cnt_snoc, HM.out]
      clear hy
      by_cases h1 : 0 ≤ y
      · have HG : Hid (decide (0 ≤ y) = true) := decide_eq_true h1
        by_cases h2 : y = but
        · have HN := neF h2
          have HS : Hid (cnt [but] [] (peers.take (k + 1)) = m) := by
            unfold Hid
            rw [hsn, if_neg (by rintro ⟨_, _, h⟩; simp at h; exact h h2)]
          clear hsn h1 h2
          go_wp2_with (first
            | go_big_skip
            | (show wpList _ _ _ (⟨some 14, .indexAddr _ _ _, _, _, _, _⟩ :: _) _ _; refine wpList_val rfl (op_indexAddr slInt rfl (v := v) rfl (k := k) rfl (by exact hS.rd hv) hlt') ?_; go_frame)
            | (show wpList _ _ _ (⟨some 15, .load _ _, _, _, _, _⟩ :: _) _ _; refine wpList_val rfl (op_loadE1 oneInt rfl (v := v) rfl (f := I64) (by exact hS.rd hv) hlt) ?_; rw [HX.out]; go_frame)
            | (show wpList _ _ _ (⟨some 17, .binOp _ _ _ _ _, _, _, _, _⟩ :: _) _ _; refine wpList_val rfl (op_igeq rfl rfl rfl HG.out) ?_; go_frame)
            | (show wpList _ _ _ (⟨some 21, .binOp _ _ _ _ _, _, _, _, _⟩ :: _) _ _; refine wpList_val rfl (op_ineI rfl rfl rfl HN.out) ?_; go_frame)
            | (go_at_call 41; refine Ret.calls (contains_int u7 m y _ ((hS.bring (by repeat (first | exact t0 | apply tS))).getOwn.rd) HC) ?_; rintro r w' ⟨rfl, rfl⟩)
            )
          go_roundw
          case rel => exact ⟨k + 1, m, by go_num, by omega, HS, hS⟩
          case measure => simp [intOf]; omega
        · have HN := neT h2
          by_cases h3 : y ∈ m
          · have HC : Hid (decide (y ∈ m) = true) := decide_eq_true h3
            have HS : Hid (cnt [but] [] (peers.take (k + 1)) = m) := by
              unfold Hid
              rw [hsn, if_neg (by rintro ⟨_, h, _⟩; exact h h3)]
            clear hsn h1 h2 h3
            go_wp2_with (first
              | go_big_skip
              | (show wpList _ _ _ (⟨some 14, .indexAddr _ _ _, _, _, _, _⟩ :: _) _ _; refine wpList_val rfl (op_indexAddr slInt rfl (v := v) rfl (k := k) rfl (by exact hS.rd hv) hlt') ?_; go_frame)
              | (show wpList _ _ _ (⟨some 15, .load _ _, _, _, _, _⟩ :: _) _ _; refine wpList_val rfl (op_loadE1 oneInt rfl (v := v) rfl (f := I64) (by exact hS.rd hv) hlt) ?_; rw [HX.out]; go_frame)
              | (show wpList _ _ _ (⟨some 17, .binOp _ _ _ _ _, _, _, _, _⟩ :: _) _ _; refine wpList_val rfl (op_igeq rfl rfl rfl HG.out) ?_; go_frame)
              | (show wpList _ _ _ (⟨some 21, .binOp _ _ _ _ _, _, _, _, _⟩ :: _) _ _; refine wpList_val rfl (op_ineI rfl rfl rfl HN.out) ?_; go_frame)
              | (go_at_call 41; refine Ret.calls (contains_int u7 m y _ ((hS.bring (by repeat (first | exact t0 | apply tS))).getOwn.rd) HC) ?_; rintro r w' ⟨rfl, rfl⟩)
              )
            go_roundw
            case rel => exact ⟨k + 1, m, by go_num, by omega, HS, hS⟩
            case measure => simp [intOf]; omega
          · have HC : Hid (decide (y ∈ m) = false) := decide_eq_false h3
            have HS : Hid (cnt [but] [] (peers.take (k + 1)) = m ++ [y]) := by
              unfold Hid
              rw [hsn, if_pos ⟨h1, h3, by simpa using h2⟩]
            have HA1 : Hid (((m.map fun z => [I64 z]).length + [[I64 y]].length) * 8 ≤ 140737488355328) := by
              unfold Hid
              rw [List.length_map]
              simp only [List.length_cons, List.length_nil]
              omega
            have HA2 : Hid ((m.map fun z => [I64 z]).length + [[I64 y]].length ≤ maxLen) := by
              unfold Hid maxLen
              rw [List.length_map]
              simp only [List.length_cons, List.length_nil]
              omega
            have HAP : Hid ((m.map fun z => [I64 z]) ++ [[I64 y]] = (m ++ [y]).map fun z => [I64 z]) := by
              unfold Hid
              rw [List.map_append]
              rfl
            clear hsn h1 h2 h3
            go_wp2_with (first
              | go_big_skip
              | (show wpList _ _ _ (⟨some 14, .indexAddr _ _ _, _, _, _, _⟩ :: _) _ _; refine wpList_val rfl (op_indexAddr slInt rfl (v := v) rfl (k := k) rfl (by exact hS.rd hv) hlt') ?_; go_frame)
              | (show wpList _ _ _ (⟨some 15, .load _ _, _, _, _, _⟩ :: _) _ _; refine wpList_val rfl (op_loadE1 oneInt rfl (v := v) rfl (f := I64) (by exact hS.rd hv) hlt) ?_; rw [HX.out]; go_frame)
              | (show wpList _ _ _ (⟨some 17, .binOp _ _ _ _ _, _, _, _, _⟩ :: _) _ _; refine wpList_val rfl (op_igeq rfl rfl rfl HG.out) ?_; go_frame)
              | (show wpList _ _ _ (⟨some 21, .binOp _ _ _ _ _, _, _, _, _⟩ :: _) _ _; refine wpList_val rfl (op_ineI rfl rfl rfl HN.out) ?_; go_frame)
              | (go_at_call 41; refine Ret.calls (contains_int u7 m y _ ((hS.bring (by repeat (first | exact t0 | apply tS))).getOwn.rd) HC) ?_; rintro r w' ⟨rfl, rfl⟩)
              | (show wpList _ _ _ (⟨some 31, .buildSlice _ _ _, _, _, _, _⟩ :: _) _ _; refine wpS_build11 slInt hS rfl rfl (u := I64 y) rfl rfl ?_; clear hS; intro v31 w hS; go_frame)
              | (show wpList _ _ _ (⟨some 32, .call _, _, _, _, _⟩ :: _) _ _; (refine wpS_append slInt (hS.bring (by repeat (first | exact t0 | apply tS))) rfl rfl (sv := u7) (xs := m.map fun z => [I64 z]) (xv := v31) rfl rfl (ys := [[I64 y]]) ((hS.bring (by repeat (first | exact t0 | apply tS))).getOwn.rd) (flat_ints [y]) HA1.out HA2.out ?_); clear hS; intro v32 w hS; rw [HAP.out] at hS; go_frame)
              )
            go_roundw
            case rel => exact ⟨k + 1, m ++ [y], by go_num, by omega, HS, hS.sel (by repeat (first | exact Sel.refl | refine Sel.take (by repeat (first | exact t0 | apply tS)) ?_ | apply Sel.drop))⟩
            case measure => simp [intOf]; omega
      · have HG : Hid (decide (0 ≤ y) = false) := decide_eq_false h1
        have HS : Hid (cnt [but] [] (peers.take (k + 1)) = m) := by
          unfold Hid
          rw [hsn, if_neg (by rintro ⟨h, _⟩; exact h1 h)]
        clear hsn h1
        go_wp2_with (first
          | go_big_skip
          | (show wpList _ _ _ (⟨some 14, .indexAddr _ _ _, _, _, _, _⟩ :: _) _ _; refine wpList_val rfl (op_indexAddr slInt rfl (v := v) rfl (k := k) rfl (by exact hS.rd hv) hlt') ?_; go_frame)
          | (show wpList _ _ _ (⟨some 15, .load _ _, _, _, _, _⟩ :: _) _ _; refine wpList_val rfl (op_loadE1 oneInt rfl (v := v) rfl (f := I64) (by exact hS.rd hv) hlt) ?_; rw [HX.out]; go_frame)
          | (show wpList _ _ _ (⟨some 17, .binOp _ _ _ _ _, _, _, _, _⟩ :: _) _ _; refine wpList_val rfl (op_igeq rfl rfl rfl HG.out) ?_; go_frame)
          | (show wpList _ _ _ (⟨some 21, .binOp _ _ _ _ _, _, _, _, _⟩ :: _) _ _; refine wpList_val rfl (op_ineI rfl rfl rfl HN.out) ?_; go_frame)
          | (go_at_call 41; refine Ret.calls (contains_int u7 m y _ ((hS.bring (by repeat (first | exact t0 | apply tS))).getOwn.rd) HC) ?_; rintro r w' ⟨rfl, rfl⟩)
          )
        go_roundw
        case rel => exact ⟨k + 1, m, by go_num, by omega, HS, hS⟩
        case measure => simp [intOf]; omega
    · have hk2 : k = peers.length := by omega
      subst hk2
      rw [List.take_length] at HM
      have HML : Hid ((m.map fun z => [I64 z]).length = m.length) := by simp [Hid]
      by_cases hm : m.length = 0
      · have HZ : Hid ((((m.length : Nat) : Int) == 0) = true) := eqT (by omega)
        have HR : Hid (chooseP peers but d = -1) := by
          unfold Hid chooseP cntP
          rw [HM.out]
          unfold pickI
          rw [if_pos (List.length_eq_zero_iff.1 hm)]
        go_wp2_with (first
          | (show wpList _ _ _ (⟨some 35, .call _, _, _, _, _⟩ :: _) _ _; refine wpList_val rfl (op_len slInt rfl rfl (v := u7) rfl (by exact hS.getOwn.rd)) ?_; rw [HML.out]; go_frame)
          | (show wpList _ _ _ (⟨some 36, .binOp _ _ _ _ _, _, _, _, _⟩ :: _) _ _; refine wpList_val rfl (op_eqI' rfl rfl rfl HZ.out) ?_; go_frame)
          )
        go_ret
        exact ⟨by rw [HR.out]; rfl, hS.tail⟩
      · have HZ : Hid ((((m.length : Nat) : Int) == 0) = false) := eqF (by omega)
        have hlt2 : d % m.length < m.length := Nat.mod_lt _ (by omega)
        have hP := pickI_at hlt2
        obtain ⟨j, hj⟩ : ∃ j, d % m.length = j := ⟨_, rfl⟩
        have HJ := hide hj
        have hjm : j < m.length := by rw [← hj]; exact hlt2
        have hjm' : j < (m.map fun z => [I64 z]).length := by simpa using hjm
        obtain ⟨y, hy⟩ : ∃ y, m[j] = y := ⟨_, rfl⟩
        have HX := hide hy
        have HR : Hid (chooseP peers but d = y) := by
          unfold Hid chooseP cntP
          rw [HM.out, hP]
          simp only [hj, hy]
        have hm0 : 0 < m.length := by omega
        clear hm hlt2 hP hj hy
        go_wp2_with (first
          | (show wpList _ _ _ (⟨some 35, .call _, _, _, _, _⟩ :: _) _ _; refine wpList_val rfl (op_len slInt rfl rfl (v := u7) rfl (by exact hS.getOwn.rd)) ?_; rw [HML.out]; go_frame)
          | (show wpList _ _ _ (⟨some 36, .binOp _ _ _ _ _, _, _, _, _⟩ :: _) _ _; refine wpList_val rfl (op_eqI' rfl rfl rfl HZ.out) ?_; go_frame)
          | (show wpList _ _ _ (⟨some 39, .convert _ _ _, _, _, _, _⟩ :: _) _ _; refine wpList_val rfl (op_16toInt undU16 undInt rfl (n := d) rfl hd) ?_; go_frame)
          | (show wpList _ _ _ (⟨some 41, .call _, _, _, _, _⟩ :: _) _ _; refine wpList_val rfl (op_len slInt rfl rfl (v := u7) rfl (by exact hS.getOwn.rd)) ?_; rw [HML.out]; go_frame)
          | (show wpList _ _ _ (⟨some 42, .binOp _ _ _ _ _, _, _, _, _⟩ :: _) _ _; refine wpList_val rfl (op_iremN rfl (a := d) (b := m.length) rfl rfl hm0) ?_; rw [HJ.out]; go_frame)
          | (show wpList _ _ _ (⟨some 43, .indexAddr _ _ _, _, _, _, _⟩ :: _) _ _; refine wpList_val rfl (op_indexAddr slInt rfl (v := u7) rfl (k := j) rfl (by exact hS.getOwn.rd) hjm') ?_; go_frame)
          | (show wpList _ _ _ (⟨some 44, .load _ _, _, _, _, _⟩ :: _) _ _; refine wpList_val rfl (op_loadE1 oneInt rfl (v := u7) rfl (f := I64) (by exact hS.getOwn.rd) hjm) ?_; rw [HX.out]; go_frame)
          )
        go_ret
        exact ⟨by rw [HR.out]; rfl, hS.tail⟩
end
end Go.Proofs.YtlplgobkidpgkaaDoor
namespace Go.Proofs.YtlplgobkidpgkaaDoor
open Go Go.RowKit Go.Px Go.Sha
theorem arr2i : ArrTy Tryd.prog 29 3 2 := ArrTy.of (d := .int .i64) (by kernel_rfl) (by kernel_rfl) rfl (by kernel_rfl)
theorem hd_set {sa : List Byte} (h : sa.length = 32) (r : Rt) (X : List Value) {j : Nat} (hj : j < 5) (v : Value) : (headC sa r ++ X).set (32 + j) v = (sa.map B8 ++ [U r.epoch, U r.fin, .bool r.stems, I64 r.s0, I64 r.s1].set j v) ++ X := by
  rw [List.set_append_left _ _ (by rw [headC_len h]; omega)]
  unfold headC
  rw [List.set_append_right _ _ (by rw [List.length_map]; omega), List.length_map, h, Nat.add_sub_cancel_left]
theorem rt_e {sa : List Byte} (h : sa.length = 32) (r : Rt) (n : Nat) : (rtC sa r).set 32 (U n) = rtC sa { r with epoch := n } := hd_set h r _ (j := 0) (by omega) _
theorem rt_f {sa : List Byte} (h : sa.length = 32) (r : Rt) (n : Nat) : (rtC sa r).set 33 (U n) = rtC sa { r with fin := n } := hd_set h r _ (j := 1) (by omega) _
theorem rt_b {sa : List Byte} (h : sa.length = 32) (r : Rt) (b : Bool) : (rtC sa r).set 34 (.bool b) = rtC sa { r with stems := b } := hd_set h r _ (j := 2) (by omega) _
theorem rt_0 {sa : List Byte} (h : sa.length = 32) (r : Rt) (z : Int) : (rtC sa r).set 35 (I64 z) = rtC sa { r with s0 := z } := hd_set h r _ (j := 3) (by omega) _
theorem rt_1 {sa : List Byte} (h : sa.length = 32) (r : Rt) (z : Int) : (rtC sa r).set 36 (I64 z) = rtC sa { r with s1 := z } := hd_set h r _ (j := 4) (by omega) _
theorem rr_e {sa : List Byte} (h : sa.length = 32) (r : Rt) (n : Nat) : (rrC sa r).set 32 (U n) = rrC sa { r with epoch := n } := hd_set h r _ (j := 0) (by omega) _
theorem rr_f {sa : List Byte} (h : sa.length = 32) (r : Rt) (n : Nat) : (rrC sa r).set 33 (U n) = rrC sa { r with fin := n } := hd_set h r _ (j := 1) (by omega) _
theorem rr_b {sa : List Byte} (h : sa.length = 32) (r : Rt) (b : Bool) : (rrC sa r).set 34 (.bool b) = rrC sa { r with stems := b } := hd_set h r _ (j := 2) (by omega) _
theorem rr_0 {sa : List Byte} (h : sa.length = 32) (r : Rt) (z : Int) : (rrC sa r).set 35 (I64 z) = rrC sa { r with s0 := z } := hd_set h r _ (j := 3) (by omega) _
theorem rr_1 {sa : List Byte} (h : sa.length = 32) (r : Rt) (z : Int) : (rrC sa r).set 36 (I64 z) = rrC sa { r with s1 := z } := hd_set h r _ (j := 4) (by omega) _
theorem rt_lt {sa : List Byte} (h : sa.length = 32) (r : Rt) : 37 ≤ (rtC sa r).length := by
  unfold rtC
  rw [List.length_append, headC_len h]
  omega
theorem rr_lt {sa : List Byte} (h : sa.length = 32) (r : Rt) : 37 ≤ (rrC sa r).length := by
  unfold rrC
  rw [List.length_append, headC_len h]
  omega
theorem rd_succ {w : World} {p : Nat} {T : TypeId} {sa : List Byte} {r : Rt} {X : List Value} (h : Blk w p T (headC sa r ++ X)) (hsa : sa.length = 32) : Rd 1 w (.slice (some ⟨p, 35, none⟩) 2 2) ([r.s0, r.s1].map fun z => [I64 z]) := by
  refine ⟨some ⟨p, 35, none⟩, 2, rfl, by simp, by simp [maxLen], ?_, fun _ => ⟨p, 35, rfl, ?_⟩⟩
  · intro x hx
    simp only [List.map_cons, List.map_nil, List.mem_cons, List.not_mem_nil, or_false] at hx
    rcases hx with rfl | rfl <;> rfl
  · have h1 := h.cells.subN 35 2 (head_succ hsa r X)
    rw [Nat.zero_add] at h1
    exact h1
theorem ix_0 {a b : Int} (h : a = -1) : ixOf (-1) [a, b] = 0 := by
  unfold ixOf
  rw [if_pos h]
theorem ix_1 {a b : Int} (ha : a ≠ -1) (h : b = -1) : ixOf (-1) [a, b] = 1 := by
  unfold ixOf
  rw [if_neg ha]
  unfold ixOf
  rw [if_pos h]
  rfl
theorem ix_no {a b : Int} (ha : a ≠ -1) (h : b ≠ -1) : ixOf (-1) [a, b] = -1 := by
  apply ix_none
  simp only [List.mem_cons, List.not_mem_nil, or_false, not_or]
  exact ⟨fun e => ha e.symm, fun e => h e.symm⟩
section
variable {R : Nat → Prop} {base w : World} {F : List Hp}
set_option maxRecDepth 100000 in
set_option maxHeartbeats 1000000 in
theorem joined_s {p : Nat} {sa : List Byte} {r : Rt} {q : Int} (hS : SepL R base w (.blk p 58 (rtC sa r) :: F)) (hsa : sa.length = 32) :
    Calls Tryd.prog 16 #[.pointer (some ⟨p, 0, none⟩), I64 q] w (Ret fun _ w' => SepL R base w' (.blk p 58 (rtC sa (joinR r q)) :: F)) := by
  have HLN := hide (rt_lt hsa r)
  by_cases h1 : q < 0
  · have H1 : Hid (decide (q < 0) = true) := decide_eq_true h1
    have HE : Hid (joinR r q = r) := if_pos (.inl h1)
    clear h1
    go_enter Tryd.func16, Tryd.ntmps16
    go_wp2_with (first
      | go_big_skip
      | (show wpList _ _ _ (⟨some 9, .binOp _ _ _ _ _, _, _, _, _⟩ :: _) _ _; refine wpList_val rfl (op_ilss rfl rfl rfl H1.out) ?_; go_frame)
      | (show wpList _ _ _ (⟨_, .slice _ _ _ _ _, _, _, _, _⟩ :: _) _ _; refine wpList_val rfl (op_sliceArr arr2i rfl (b := p) (off := 35) rfl (l := 0) (h := 2) (Or.inl ⟨rfl, rfl⟩) (Or.inl ⟨rfl, rfl⟩) (by omega) (by omega)) ?_; rw [if_neg (by omega)]; go_frame)
      | (go_at_call 41; refine Ret.calls (contains_int (.slice (some ⟨p, 35, none⟩) 2 2) [r.s0, r.s1] q _ (rd_succ ((hS.bring (by repeat (first | exact t0 | apply tS))).getBlk) hsa) H2) ?_; rintro r1 w' ⟨rfl, rfl⟩)
      | (go_at_call 36; refine Ret.calls (index_int (.slice (some ⟨p, 35, none⟩) 2 2) [r.s0, r.s1] (-1) _ (rd_succ ((hS.bring (by repeat (first | exact t0 | apply tS))).getBlk) hsa)) ?_; rintro r1 w' ⟨rfl, rfl⟩; rw [H3.out])
      | (show wpList _ _ _ (⟨some 25, .binOp _ _ _ _ _, _, _, _, _⟩ :: _) _ _; refine wpList_val rfl (op_igeq rfl rfl rfl H4.out) ?_; go_frame)
      )
    refine bodyPost_end (results_none rfl _ _ _) rfl ?_
    rw [HE.out]
    exact hS
  · have H1 : Hid (decide (q < 0) = false) := decide_eq_false h1
    by_cases h2 : q ∈ [r.s0, r.s1]
    · have H2 : Hid (decide (q ∈ [r.s0, r.s1]) = true) := decide_eq_true h2
      have HE : Hid (joinR r q = r) := by
        refine if_pos ?_
        simp only [List.mem_cons, List.not_mem_nil, or_false] at h2
        rcases h2 with h2 | h2
        · exact .inr (.inl h2.symm)
        · exact .inr (.inr h2.symm)
      clear h1 h2
      go_enter Tryd.func16, Tryd.ntmps16
      go_wp2_with (first
        | go_big_skip
        | (show wpList _ _ _ (⟨some 9, .binOp _ _ _ _ _, _, _, _, _⟩ :: _) _ _; refine wpList_val rfl (op_ilss rfl rfl rfl H1.out) ?_; go_frame)
        | (show wpList _ _ _ (⟨_, .slice _ _ _ _ _, _, _, _, _⟩ :: _) _ _; refine wpList_val rfl (op_sliceArr arr2i rfl (b := p) (off := 35) rfl (l := 0) (h := 2) (Or.inl ⟨rfl, rfl⟩) (Or.inl ⟨rfl, rfl⟩) (by omega) (by omega)) ?_; rw [if_neg (by omega)]; go_frame)
        | (go_at_call 41; refine Ret.calls (contains_int (.slice (some ⟨p, 35, none⟩) 2 2) [r.s0, r.s1] q _ (rd_succ ((hS.bring (by repeat (first | exact t0 | apply tS))).getBlk) hsa) H2) ?_; rintro r1 w' ⟨rfl, rfl⟩)
        | (go_at_call 36; refine Ret.calls (index_int (.slice (some ⟨p, 35, none⟩) 2 2) [r.s0, r.s1] (-1) _ (rd_succ ((hS.bring (by repeat (first | exact t0 | apply tS))).getBlk) hsa)) ?_; rintro r1 w' ⟨rfl, rfl⟩; rw [H3.out])
        | (show wpList _ _ _ (⟨some 25, .binOp _ _ _ _ _, _, _, _, _⟩ :: _) _ _; refine wpList_val rfl (op_igeq rfl rfl rfl H4.out) ?_; go_frame)
        )
      refine bodyPost_end (results_none rfl _ _ _) rfl ?_
      rw [HE.out]
      exact hS
    · have H2 : Hid (decide (q ∈ [r.s0, r.s1]) = false) := decide_eq_false h2
      have h12 : ¬ (q < 0 ∨ r.s0 = q ∨ r.s1 = q) := by
        simp only [List.mem_cons, List.not_mem_nil, or_false, not_or] at h2
        rintro (h | h | h)
        · exact h1 h
        · exact h2.1 h.symm
        · exact h2.2 h.symm
      by_cases h3 : r.s0 = -1
      · have H3 := hide (ix_0 (b := r.s1) h3)
        have H4 : Hid (decide ((0 : Int) ≤ 0) = true) := decide_eq_true (by omega)
        have HE : Hid (joinR r q = { r with s0 := q }) := by
          unfold Hid joinR
          rw [if_neg h12, if_pos h3]
        have HST := hide (rt_0 hsa r q)
        clear h1 h2 h12 h3
        go_enter Tryd.func16, Tryd.ntmps16
        go_wp2_with (first
          | go_big_skip
          | (show wpList _ _ _ (⟨some 9, .binOp _ _ _ _ _, _, _, _, _⟩ :: _) _ _; refine wpList_val rfl (op_ilss rfl rfl rfl H1.out) ?_; go_frame)
          | (show wpList _ _ _ (⟨_, .slice _ _ _ _ _, _, _, _, _⟩ :: _) _ _; refine wpList_val rfl (op_sliceArr arr2i rfl (b := p) (off := 35) rfl (l := 0) (h := 2) (Or.inl ⟨rfl, rfl⟩) (Or.inl ⟨rfl, rfl⟩) (by omega) (by omega)) ?_; rw [if_neg (by omega)]; go_frame)
          | (go_at_call 41; refine Ret.calls (contains_int (.slice (some ⟨p, 35, none⟩) 2 2) [r.s0, r.s1] q _ (rd_succ ((hS.bring (by repeat (first | exact t0 | apply tS))).getBlk) hsa) H2) ?_; rintro r1 w' ⟨rfl, rfl⟩)
          | (go_at_call 36; refine Ret.calls (index_int (.slice (some ⟨p, 35, none⟩) 2 2) [r.s0, r.s1] (-1) _ (rd_succ ((hS.bring (by repeat (first | exact t0 | apply tS))).getBlk) hsa)) ?_; rintro r1 w' ⟨rfl, rfl⟩; rw [H3.out])
          | (show wpList _ _ _ (⟨some 25, .binOp _ _ _ _ _, _, _, _, _⟩ :: _) _ _; refine wpList_val rfl (op_igeq rfl rfl rfl H4.out) ?_; go_frame)
          | (show wpList _ _ _ (⟨some 31, .indexAddr _ _ _, _, _, _, _⟩ :: _) _ _; refine wpList_val rfl (op_indexArrZ arr2i rfl (b := p) (off := 35) rfl rfl 0 rfl (by omega)) ?_; go_frame)
          | (show wpList _ _ _ (⟨_, .store 3 _ _, _, _, _, _⟩ :: _) _ _; refine wpS_store1 (b := p) (i := 35) (T := 58) (by kernel_rfl) hS rfl rfl rfl (v := I64 q) rfl rfl rfl (by have := HLN.out; omega) ?_; clear hS; intro w hS; rw [HST.out] at hS; go_frame)
          )
        refine bodyPost_end (results_none rfl _ _ _) rfl ?_
        rw [HE.out]
        exact hS
      · by_cases h4 : r.s1 = -1
        · have H3 := hide (ix_1 h3 h4)
          have H4 : Hid (decide ((0 : Int) ≤ 1) = true) := decide_eq_true (by omega)
          have HE : Hid (joinR r q = { r with s1 := q }) := by
            unfold Hid joinR
            rw [if_neg h12, if_neg h3, if_pos h4]
          have HST := hide (rt_1 hsa r q)
          clear h1 h2 h12 h3 h4
          go_enter Tryd.func16, Tryd.ntmps16
          go_wp2_with (first
            | go_big_skip
            | (show wpList _ _ _ (⟨some 9, .binOp _ _ _ _ _, _, _, _, _⟩ :: _) _ _; refine wpList_val rfl (op_ilss rfl rfl rfl H1.out) ?_; go_frame)
            | (show wpList _ _ _ (⟨_, .slice _ _ _ _ _, _, _, _, _⟩ :: _) _ _; refine wpList_val rfl (op_sliceArr arr2i rfl (b := p) (off := 35) rfl (l := 0) (h := 2) (Or.inl ⟨rfl, rfl⟩) (Or.inl ⟨rfl, rfl⟩) (by omega) (by omega)) ?_; rw [if_neg (by omega)]; go_frame)
            | (go_at_call 41; refine Ret.calls (contains_int (.slice (some ⟨p, 35, none⟩) 2 2) [r.s0, r.s1] q _ (rd_succ ((hS.bring (by repeat (first | exact t0 | apply tS))).getBlk) hsa) H2) ?_; rintro r1 w' ⟨rfl, rfl⟩)
            | (go_at_call 36; refine Ret.calls (index_int (.slice (some ⟨p, 35, none⟩) 2 2) [r.s0, r.s1] (-1) _ (rd_succ ((hS.bring (by repeat (first | exact t0 | apply tS))).getBlk) hsa)) ?_; rintro r1 w' ⟨rfl, rfl⟩; rw [H3.out])
            | (show wpList _ _ _ (⟨some 25, .binOp _ _ _ _ _, _, _, _, _⟩ :: _) _ _; refine wpList_val rfl (op_igeq rfl rfl rfl H4.out) ?_; go_frame)
            | (show wpList _ _ _ (⟨some 31, .indexAddr _ _ _, _, _, _, _⟩ :: _) _ _; refine wpList_val rfl (op_indexArrZ arr2i rfl (b := p) (off := 35) rfl rfl 1 rfl (by omega)) ?_; go_frame)
            | (show wpList _ _ _ (⟨_, .store 3 _ _, _, _, _, _⟩ :: _) _ _; refine wpS_store1 (b := p) (i := 36) (T := 58) (by kernel_rfl) hS rfl rfl rfl (v := I64 q) rfl rfl rfl (by have := HLN.out; omega) ?_; clear hS; intro w hS; rw [HST.out] at hS; go_frame)
            )
          refine bodyPost_end (results_none rfl _ _ _) rfl ?_
          rw [HE.out]
          exact hS
        · have H3 := hide (ix_no h3 h4)
          have H4 : Hid (decide ((0 : Int) ≤ -1) = false) := decide_eq_false (by omega)
          have HE : Hid (joinR r q = r) := by
            unfold Hid joinR
            rw [if_neg h12, if_neg h3, if_neg h4]
          clear h1 h2 h12 h3 h4
          go_enter Tryd.func16, Tryd.ntmps16
          go_wp2_with (first
            | go_big_skip
            | (show wpList _ _ _ (⟨some 9, .binOp _ _ _ _ _, _, _, _, _⟩ :: _) _ _; refine wpList_val rfl (op_ilss rfl rfl rfl H1.out) ?_; go_frame)
            | (show wpList _ _ _ (⟨_, .slice _ _ _ _ _, _, _, _, _⟩ :: _) _ _; refine wpList_val rfl (op_sliceArr arr2i rfl (b := p) (off := 35) rfl (l := 0) (h := 2) (Or.inl ⟨rfl, rfl⟩) (Or.inl ⟨rfl, rfl⟩) (by omega) (by omega)) ?_; rw [if_neg (by omega)]; go_frame)
            | (go_at_call 41; refine Ret.calls (contains_int (.slice (some ⟨p, 35, none⟩) 2 2) [r.s0, r.s1] q _ (rd_succ ((hS.bring (by repeat (first | exact t0 | apply tS))).getBlk) hsa) H2) ?_; rintro r1 w' ⟨rfl, rfl⟩)
            | (go_at_call 36; refine Ret.calls (index_int (.slice (some ⟨p, 35, none⟩) 2 2) [r.s0, r.s1] (-1) _ (rd_succ ((hS.bring (by repeat (first | exact t0 | apply tS))).getBlk) hsa)) ?_; rintro r1 w' ⟨rfl, rfl⟩; rw [H3.out])
            | (show wpList _ _ _ (⟨some 25, .binOp _ _ _ _ _, _, _, _, _⟩ :: _) _ _; refine wpList_val rfl (op_igeq rfl rfl rfl H4.out) ?_; go_frame)
            )
          refine bodyPost_end (results_none rfl _ _ _) rfl ?_
          rw [HE.out]
          exact hS
end
end Go.Proofs.YtlplgobkidpgkaaDoor
namespace Go.Proofs.YtlplgobkidpgkaaDoor
open Go Go.RowKit Go.Px Go.Sha
theorem ixq_0 {x a b : Int} (h : a = x) : ixOf x [a, b] = 0 := by
  unfold ixOf
  rw [if_pos h]
theorem ixq_1 {x a b : Int} (ha : a ≠ x) (h : b = x) : ixOf x [a, b] = 1 := by
  unfold ixOf
  rw [if_neg ha]
  unfold ixOf
  rw [if_pos h]
  rfl
theorem ixq_no {x a b : Int} (ha : a ≠ x) (h : b ≠ x) : ixOf x [a, b] = -1 := by
  apply ix_none
  simp only [List.mem_cons, List.not_mem_nil, or_false, not_or]
  exact ⟨fun e => ha e.symm, fun e => h e.symm⟩
theorem choose_out (q o : Int) (l : List Int) (d : Nat) : chooseP (wout q l) o d = pickI (cntP l [q, o]) d := by
  unfold chooseP cntP wout
  rw [← cnt_filter]
  congr 2
  apply List.filter_congr
  intro x _
  simp [bne, Bool.beq_eq_decide_eq]
theorem wout_le (q : Int) (l : List Int) : (wout q l).length ≤ l.length := List.length_filter_le _ _
section
variable {R : Nat → Prop} {base w : World} {F : List Hp}
theorem choose_o {v : Value} {l : List Int} (hS : SepL R base w (.own 3 1 v (l.map fun z => [I64 z]) :: F)) (hlen : l.length ≤ 1000000) (but : Int) {d : Nat} (hd : d < 65536) :
    Calls Tryd.prog 40 #[v, I64 but, .int .u16 d] w (Ret fun y w' => y = I64 (chooseP l but d) ∧ SepL R base w' (.own 3 1 v (l.map fun z => [I64 z]) :: F)) := by
  obtain ⟨R1, h1, h2, h3, h4⟩ := hS.freezeOwn
  refine Ret.calls (choose_s h1 h2 hlen but hd) ?_
  rintro r w' ⟨h5, h6⟩
  exact ⟨h5, h4 w' _ h6⟩
set_option maxRecDepth 100000 in
set_option maxHeartbeats 2000000 in
theorem left_s {p : Nat} {sa : List Byte} {r : Rt} {q : Int} {v : Value} {peers : List Int} (hS : SepL R base w (.blk p 58 (rtC sa r) :: F)) (hsa : sa.length = 32) (hv : RdIn R base 1 v (peers.map fun z => [I64 z])) (hlen : peers.length ≤ 1000000) {d : Nat} (hd : d < 65536) :
    Calls Tryd.prog 15 #[.pointer (some ⟨p, 0, none⟩), I64 q, v, .int .u16 d] w (Ret fun _ w' => SepL R base w' (.blk p 58 (rtC sa (leftR r q peers d)) :: F)) := by
  have HLN := hide (rt_lt hsa r)
  have HLP : Hid ((peers.map fun z => [I64 z]).length ≤ 1000000) := by
    unfold Hid
    rw [List.length_map]
    exact hlen
  have HWL : Hid ((wout q peers).length ≤ 1000000) := by
    have := wout_le q peers
    unfold Hid
    omega
  by_cases h1 : q < 0
  · have H1 : Hid (decide (q < 0) = true) := decide_eq_true h1
    have HE : Hid (leftR r q peers d = r) := if_pos h1
    clear h1
    go_enter Tryd.func15, Tryd.ntmps15
    go_wp2_with (first
      | go_big_skip
      | (show wpList _ _ _ (⟨some 5, .box _ _, _, _, _, _⟩ :: _) _ _; refine wpS_box1 hS rfl rfl (v := I64 q) rfl rfl ?_; clear hS; intro nb w hS; go_frame)
      | (show wpList _ _ _ (⟨_, .load 3 (.tmp 5), _, _, _, _⟩ :: _) _ _; refine wpList_val rfl (op_load1S (b := nb) (T := 3) oneInt ((hS.bring (by repeat (first | exact t0 | apply tS)))) rfl rfl rfl) ?_; go_frame)
      | (show wpList _ _ _ (⟨some 14, .binOp _ _ _ _ _, _, _, _, _⟩ :: _) _ _; refine wpList_val rfl (op_ilss rfl rfl rfl H1.out) ?_; go_frame)
      )
    refine bodyPost_end (results_none rfl _ _ _) rfl ?_
    rw [HE.out]
    exact hS.sel (by repeat (first | exact Sel.refl | refine Sel.take (by repeat (first | exact t0 | apply tS)) ?_ | apply Sel.drop))
  · have H1 : Hid (decide (q < 0) = false) := decide_eq_false h1
    by_cases h3 : r.s0 = q
    · have H3 := hide (ixq_0 (b := r.s1) h3)
      have H4 : Hid (decide ((0 : Int) < 0) = false) := decide_eq_false (by omega)
      obtain ⟨z, hz⟩ : ∃ z, pickI (cntP peers [q, r.s1]) d = z := ⟨_, rfl⟩
      have HCH : Hid (chooseP (wout q peers) r.s1 d = z) := (choose_out _ _ _ _).trans hz
      have HE : Hid (leftR r q peers d = { r with s0 := z }) := by
        unfold Hid leftR
        rw [if_neg h1, if_pos h3, hz]
      have HST := hide (rt_0 hsa r z)
      have HO : Hid ((rtC sa r)[36]? = some (I64 r.s1)) := head_at hsa r _ (k := 4) (by omega)
      clear h1 h3 hz
      go_enter Tryd.func15, Tryd.ntmps15
      go_wp2_with (first
        | go_big_skip
        | (show wpList _ _ _ (⟨some 5, .box _ _, _, _, _, _⟩ :: _) _ _; refine wpS_box1 hS rfl rfl (v := I64 q) rfl rfl ?_; clear hS; intro nb w hS; go_frame)
        | (show wpList _ _ _ (⟨_, .load 3 (.tmp 5), _, _, _, _⟩ :: _) _ _; refine wpList_val rfl (op_load1S (b := nb) (T := 3) oneInt ((hS.bring (by repeat (first | exact t0 | apply tS)))) rfl rfl rfl) ?_; go_frame)
        | (show wpList _ _ _ (⟨some 14, .binOp _ _ _ _ _, _, _, _, _⟩ :: _) _ _; refine wpList_val rfl (op_ilss rfl rfl rfl H1.out) ?_; go_frame)
        )
      refine wp_region_text (by kernel_rfl) (by kernel_rfl) (by repeat (first | exact Clean.body | refine Clean.then ?_ | refine Clean.inBlock ?_)) ?_
      replace hS := hS.drew
      go_wp2_with (first
        | (show wpList _ _ _ (⟨some 19, .slice _ _ _ _ _, _, _, _, _⟩ :: _) _ _; refine wpList_val rfl (op_sliceArr arr2i rfl (b := p) (off := 35) rfl (l := 0) (h := 2) (Or.inl ⟨rfl, rfl⟩) (Or.inl ⟨rfl, rfl⟩) (by omega) (by omega)) ?_; rw [if_neg (by omega)]; go_frame)
        | (show wpList _ _ _ (⟨_, .load 3 (.tmp 5), _, _, _, _⟩ :: _) _ _; refine wpList_val rfl (op_load1S (b := nb) (T := 3) oneInt ((hS.bring (by repeat (first | exact t0 | apply tS)))) rfl rfl rfl) ?_; go_frame)
        | (go_at_call 36; refine Ret.calls (index_int (.slice (some ⟨p, 35, none⟩) 2 2) [r.s0, r.s1] q _ (rd_succ (p := p) (r := r) (T := 58) (SepL.getBlk ((hS.bring (by repeat (first | exact t0 | apply tS))))) hsa)) ?_; rintro r1 w' ⟨rfl, rfl⟩; rw [H3.out])
        | (show wpList _ _ _ (⟨some 23, .binOp _ _ _ _ _, _, _, _, _⟩ :: _) _ _; refine wpList_val rfl (op_ilss rfl rfl rfl H4.out) ?_; go_frame)
        | (refine fin_mk (by kernel_rfl) ?_)
        )
      go_wp2_with (first
        | (go_at_call 38; refine Ret.calls (clone_int v _ _ (hS.rd hv) (flat_ints peers) HLP.out) ?_; rintro v2 w2 hC; replace hS := hS.frameNew hC; clear hC)
        | (go_at_call 37; (refine Ret.calls (deleteFunc (l := peers) (q := q) (hS.bring (by repeat (first | exact t0 | apply tS))) hlen) ?_); clear hS; rintro v3 w hS)
        )
      refine wp_region_text (by kernel_rfl) (by kernel_rfl) (by repeat (first | exact Clean.body | refine Clean.then ?_ | refine Clean.inBlock ?_)) ?_
      replace hS := hS.drew
      go_wp2_with (first
        | (show wpList _ _ _ (⟨some 33, .binOp _ _ _ _ _, _, _, _, _⟩ :: _) _ _; refine wpList_val rfl (op_isubN rfl rfl rfl 1 (by omega) (by omega)) ?_; go_frame)
        | (show wpList _ _ _ (⟨some 36, .indexAddr _ _ _, _, _, _, _⟩ :: _) _ _; refine wpList_val rfl (op_indexArr arr2i rfl (b := p) (off := 35) rfl (k := 1) rfl (by omega)) ?_; go_frame)
        | (show wpList _ _ _ (⟨some 37, .load _ _, _, _, _, _⟩ :: _) _ _; refine wpList_val rfl (op_load1S (b := p) (T := 58) oneInt ((hS.bring (by repeat (first | exact t0 | apply tS)))) rfl rfl HO.out) ?_; go_frame)
        | (go_at_call 40; (refine Ret.calls (choose_o (l := wout q peers) (hS.bring (by repeat (first | exact t0 | apply tS))) HWL.out _ hd) ?_); clear hS; rintro r1 w ⟨rfl, hS⟩; rw [HCH.out])
        | (show wpList _ _ _ (⟨some 42, .indexAddr _ _ _, _, _, _, _⟩ :: _) _ _; refine wpList_val rfl (op_indexArrZ arr2i rfl (b := p) (off := 35) rfl rfl 0 rfl (by omega)) ?_; go_frame)
        | (show wpList _ _ _ (⟨_, .store 3 _ _, _, _, _, _⟩ :: _) _ _; (refine wpS_store1 (b := p) (i := 35) (T := 58) (by kernel_rfl) (hS.bring (by repeat (first | exact t0 | apply tS))) rfl rfl rfl (v := I64 z) rfl rfl rfl (by have := HLN.out; omega) ?_); clear hS; intro w hS; rw [HST.out] at hS; go_frame)
        | (refine fin_mk (by kernel_rfl) ?_)
        )
      refine bodyPost_end (results_none rfl _ _ _) rfl ?_
      rw [HE.out]
      exact hS.sel (by repeat (first | exact Sel.refl | refine Sel.take (by repeat (first | exact t0 | apply tS)) ?_ | apply Sel.drop))
    · by_cases h4 : r.s1 = q
      · have H3 := hide (ixq_1 h3 h4)
        have H4 : Hid (decide ((1 : Int) < 0) = false) := decide_eq_false (by omega)
        obtain ⟨z, hz⟩ : ∃ z, pickI (cntP peers [q, r.s0]) d = z := ⟨_, rfl⟩
        have HCH : Hid (chooseP (wout q peers) r.s0 d = z) := (choose_out _ _ _ _).trans hz
        have HE : Hid (leftR r q peers d = { r with s1 := z }) := by
          unfold Hid leftR
          rw [if_neg h1, if_neg h3, if_pos h4, hz]
        have HST := hide (rt_1 hsa r z)
        have HO : Hid ((rtC sa r)[35]? = some (I64 r.s0)) := head_at hsa r _ (k := 3) (by omega)
        clear h1 h3 h4 hz
        go_enter Tryd.func15, Tryd.ntmps15
        go_wp2_with (first
          | go_big_skip
          | (show wpList _ _ _ (⟨some 5, .box _ _, _, _, _, _⟩ :: _) _ _; refine wpS_box1 hS rfl rfl (v := I64 q) rfl rfl ?_; clear hS; intro nb w hS; go_frame)
          | (show wpList _ _ _ (⟨_, .load 3 (.tmp 5), _, _, _, _⟩ :: _) _ _; refine wpList_val rfl (op_load1S (b := nb) (T := 3) oneInt ((hS.bring (by repeat (first | exact t0 | apply tS)))) rfl rfl rfl) ?_; go_frame)
          | (show wpList _ _ _ (⟨some 14, .binOp _ _ _ _ _, _, _, _, _⟩ :: _) _ _; refine wpList_val rfl (op_ilss rfl rfl rfl H1.out) ?_; go_frame)
          )
        refine wp_region_text (by kernel_rfl) (by kernel_rfl) (by repeat (first | exact Clean.body | refine Clean.then ?_ | refine Clean.inBlock ?_)) ?_
        replace hS := hS.drew
        go_wp2_with (first
          | (show wpList _ _ _ (⟨some 19, .slice _ _ _ _ _, _, _, _, _⟩ :: _) _ _; refine wpList_val rfl (op_sliceArr arr2i rfl (b := p) (off := 35) rfl (l := 0) (h := 2) (Or.inl ⟨rfl, rfl⟩) (Or.inl ⟨rfl, rfl⟩) (by omega) (by omega)) ?_; rw [if_neg (by omega)]; go_frame)
          | (show wpList _ _ _ (⟨_, .load 3 (.tmp 5), _, _, _, _⟩ :: _) _ _; refine wpList_val rfl (op_load1S (b := nb) (T := 3) oneInt ((hS.bring (by repeat (first | exact t0 | apply tS)))) rfl rfl rfl) ?_; go_frame)
          | (go_at_call 36; refine Ret.calls (index_int (.slice (some ⟨p, 35, none⟩) 2 2) [r.s0, r.s1] q _ (rd_succ (p := p) (r := r) (T := 58) (SepL.getBlk ((hS.bring (by repeat (first | exact t0 | apply tS))))) hsa)) ?_; rintro r1 w' ⟨rfl, rfl⟩; rw [H3.out])
          | (show wpList _ _ _ (⟨some 23, .binOp _ _ _ _ _, _, _, _, _⟩ :: _) _ _; refine wpList_val rfl (op_ilss rfl rfl rfl H4.out) ?_; go_frame)
          | (refine fin_mk (by kernel_rfl) ?_)
          )
        go_wp2_with (first
          | (go_at_call 38; refine Ret.calls (clone_int v _ _ (hS.rd hv) (flat_ints peers) HLP.out) ?_; rintro v2 w2 hC; replace hS := hS.frameNew hC; clear hC)
          | (go_at_call 37; (refine Ret.calls (deleteFunc (l := peers) (q := q) (hS.bring (by repeat (first | exact t0 | apply tS))) hlen) ?_); clear hS; rintro v3 w hS)
          )
        refine wp_region_text (by kernel_rfl) (by kernel_rfl) (by repeat (first | exact Clean.body | refine Clean.then ?_ | refine Clean.inBlock ?_)) ?_
        replace hS := hS.drew
        go_wp2_with (first
          | (show wpList _ _ _ (⟨some 33, .binOp _ _ _ _ _, _, _, _, _⟩ :: _) _ _; refine wpList_val rfl (op_isubN rfl rfl rfl 0 (by omega) (by omega)) ?_; go_frame)
          | (show wpList _ _ _ (⟨some 36, .indexAddr _ _ _, _, _, _, _⟩ :: _) _ _; refine wpList_val rfl (op_indexArr arr2i rfl (b := p) (off := 35) rfl (k := 0) rfl (by omega)) ?_; go_frame)
          | (show wpList _ _ _ (⟨some 37, .load _ _, _, _, _, _⟩ :: _) _ _; refine wpList_val rfl (op_load1S (b := p) (T := 58) oneInt ((hS.bring (by repeat (first | exact t0 | apply tS)))) rfl rfl HO.out) ?_; go_frame)
          | (go_at_call 40; (refine Ret.calls (choose_o (l := wout q peers) (hS.bring (by repeat (first | exact t0 | apply tS))) HWL.out _ hd) ?_); clear hS; rintro r1 w ⟨rfl, hS⟩; rw [HCH.out])
          | (show wpList _ _ _ (⟨some 42, .indexAddr _ _ _, _, _, _, _⟩ :: _) _ _; refine wpList_val rfl (op_indexArrZ arr2i rfl (b := p) (off := 35) rfl rfl 1 rfl (by omega)) ?_; go_frame)
          | (show wpList _ _ _ (⟨_, .store 3 _ _, _, _, _, _⟩ :: _) _ _; (refine wpS_store1 (b := p) (i := 36) (T := 58) (by kernel_rfl) (hS.bring (by repeat (first | exact t0 | apply tS))) rfl rfl rfl (v := I64 z) rfl rfl rfl (by have := HLN.out; omega) ?_); clear hS; intro w hS; rw [HST.out] at hS; go_frame)
          | (refine fin_mk (by kernel_rfl) ?_)
          )
        refine bodyPost_end (results_none rfl _ _ _) rfl ?_
        rw [HE.out]
        exact hS.sel (by repeat (first | exact Sel.refl | refine Sel.take (by repeat (first | exact t0 | apply tS)) ?_ | apply Sel.drop))
      · have H3 := hide (ixq_no h3 h4)
        have H4 : Hid (decide ((-1 : Int) < 0) = true) := decide_eq_true (by omega)
        have HE : Hid (leftR r q peers d = r) := by
          unfold Hid leftR
          rw [if_neg h1, if_neg h3, if_neg h4]
        clear h1 h3 h4
        go_enter Tryd.func15, Tryd.ntmps15
        go_wp2_with (first
          | go_big_skip
          | (show wpList _ _ _ (⟨some 5, .box _ _, _, _, _, _⟩ :: _) _ _; refine wpS_box1 hS rfl rfl (v := I64 q) rfl rfl ?_; clear hS; intro nb w hS; go_frame)
          | (show wpList _ _ _ (⟨_, .load 3 (.tmp 5), _, _, _, _⟩ :: _) _ _; refine wpList_val rfl (op_load1S (b := nb) (T := 3) oneInt ((hS.bring (by repeat (first | exact t0 | apply tS)))) rfl rfl rfl) ?_; go_frame)
          | (show wpList _ _ _ (⟨some 14, .binOp _ _ _ _ _, _, _, _, _⟩ :: _) _ _; refine wpList_val rfl (op_ilss rfl rfl rfl H1.out) ?_; go_frame)
          )
        refine wp_region_text (by kernel_rfl) (by kernel_rfl) (by repeat (first | exact Clean.body | refine Clean.then ?_ | refine Clean.inBlock ?_)) ?_
        replace hS := hS.drew
        go_wp2_with (first
          | (show wpList _ _ _ (⟨some 19, .slice _ _ _ _ _, _, _, _, _⟩ :: _) _ _; refine wpList_val rfl (op_sliceArr arr2i rfl (b := p) (off := 35) rfl (l := 0) (h := 2) (Or.inl ⟨rfl, rfl⟩) (Or.inl ⟨rfl, rfl⟩) (by omega) (by omega)) ?_; rw [if_neg (by omega)]; go_frame)
          | (show wpList _ _ _ (⟨_, .load 3 (.tmp 5), _, _, _, _⟩ :: _) _ _; refine wpList_val rfl (op_load1S (b := nb) (T := 3) oneInt ((hS.bring (by repeat (first | exact t0 | apply tS)))) rfl rfl rfl) ?_; go_frame)
          | (go_at_call 36; refine Ret.calls (index_int (.slice (some ⟨p, 35, none⟩) 2 2) [r.s0, r.s1] q _ (rd_succ (p := p) (r := r) (T := 58) (SepL.getBlk ((hS.bring (by repeat (first | exact t0 | apply tS))))) hsa)) ?_; rintro r1 w' ⟨rfl, rfl⟩; rw [H3.out])
          | (show wpList _ _ _ (⟨some 23, .binOp _ _ _ _ _, _, _, _, _⟩ :: _) _ _; refine wpList_val rfl (op_ilss rfl rfl rfl H4.out) ?_; go_frame)
          | (refine fin_mk (by kernel_rfl) ?_)
          )
        refine bodyPost_end (results_none rfl _ _ _) rfl ?_
        rw [HE.out]
        exact hS.sel (by repeat (first | exact Sel.refl | refine Sel.take (by repeat (first | exact t0 | apply tS)) ?_ | apply Sel.drop))
end
end Go.Proofs.YtlplgobkidpgkaaDoor
namespace Go.Proofs.YtlplgobkidpgkaaDoor
open Go Go.RowKit Go.Px Go.Sha
theorem list32 {α : Type} : ∀ {l : List α}, l.length = 32 → ∃ a0 a1 a2 a3 a4 a5 a6 a7 a8 a9 a10 a11 a12 a13 a14 a15 a16 a17 a18 a19 a20 a21 a22 a23 a24 a25 a26 a27 a28 a29 a30 a31, l = [a0, a1, a2, a3, a4, a5, a6, a7, a8, a9, a10, a11, a12, a13, a14, a15, a16, a17, a18, a19, a20, a21, a22, a23, a24, a25, a26, a27, a28, a29, a30, a31]
  | [a0, a1, a2, a3, a4, a5, a6, a7, a8, a9, a10, a11, a12, a13, a14, a15, a16, a17, a18, a19, a20, a21, a22, a23, a24, a25, a26, a27, a28, a29, a30, a31], _ => ⟨a0, a1, a2, a3, a4, a5, a6, a7, a8, a9, a10, a11, a12, a13, a14, a15, a16, a17, a18, a19, a20, a21, a22, a23, a24, a25, a26, a27, a28, a29, a30, a31, rfl⟩
theorem buildSucc (a b : Int) (w : World) : (Instr.build 29 #[(0, .int .i64 a), (1, .int .i64 b)]).run Tryd.prog w = .ok (.agg #[.int .i64 a, .int .i64 b]) w := run_build w 29 _ _ (by kernel_rfl)
theorem buildRt (sa : List Byte) (h : sa.length = 32) (w : World) : (Instr.build 58 #[(0, .agg (sa.map B8).toArray), (4, .agg #[.int .i64 (-1), .int .i64 (-1)])]).run Tryd.prog w = .ok (.agg (rtC sa rt0).toArray) w := by
  have hi : (sa.map B8).length = 32 := by simp [h]
  unfold rtC headC
  generalize sa.map B8 = l at *
  obtain ⟨a0, a1, a2, a3, a4, a5, a6, a7, a8, a9, a10, a11, a12, a13, a14, a15, a16, a17, a18, a19, a20, a21, a22, a23, a24, a25, a26, a27, a28, a29, a30, a31, rfl⟩ := list32 hi
  exact run_build w 58 _ _ (by kernel_rfl)
theorem buildRr (sa : List Byte) (h : sa.length = 32) (w : World) : (Instr.build 52 #[(0, .agg (sa.map B8).toArray), (4, .agg #[.int .i64 (-1), .int .i64 (-1)])]).run Tryd.prog w = .ok (.agg (rrC sa rt0).toArray) w := by
  have hi : (sa.map B8).length = 32 := by simp [h]
  unfold rrC headC
  generalize sa.map B8 = l at *
  obtain ⟨a0, a1, a2, a3, a4, a5, a6, a7, a8, a9, a10, a11, a12, a13, a14, a15, a16, a17, a18, a19, a20, a21, a22, a23, a24, a25, a26, a27, a28, a29, a30, a31, rfl⟩ := list32 hi
  exact run_build w 52 _ _ (by kernel_rfl)
section
variable {R : Nat → Prop} {base w : World} {F : List Hp}
set_option maxRecDepth 100000 in
theorem rtNew_s {sa : List Byte} (hS : SepL R base w F) (hsa : sa.length = 32) :
    Calls Tryd.prog 17 #[HV sa] w (Ret fun y w' => ∃ p, y = .pointer (some ⟨p, 0, none⟩) ∧ SepL R base w' (.blk p 58 (rtC sa rt0) :: F)) := by
  have HSL : Hid ((sa.map B8).length = 32) := by simp [Hid, hsa]
  have HB := hide (buildRt sa hsa)
  unfold HV
  go_enter Tryd.func17, Tryd.ntmps17
  go_wp2_with (first
    | (show wpList _ _ _ (⟨some 1, .box _ _, _, _, _, _⟩ :: _) _ _; refine wpS_boxA (cs := sa.map B8) hS rfl rfl rfl ?_; clear hS; intro nb w hS; go_frame)
    | (show wpList _ _ _ (⟨some 3, .load _ _, _, _, _, _⟩ :: _) _ _; refine wpList_val rfl (op_load agg32b rfl rfl (SepL.getBlk (b := nb) (T := 23) ((hS.bring (by repeat (first | exact t0 | apply tS))))).cells HSL.out) ?_; go_frame)
    | (show wpList _ _ _ (⟨some 4, .build _ _, _, _, _, _⟩ :: _) _ _; refine wpList_val rfl (op_build (ps := #[(0, .int .i64 (-1)), (1, .int .i64 (-1))]) rfl rfl (buildSucc (-1) (-1)) _) ?_; go_frame)
    | (show wpList _ _ _ (⟨some 5, .build _ _, _, _, _, _⟩ :: _) _ _; refine wpList_val rfl (op_build (ps := #[(0, .agg (sa.map B8).toArray), (4, .agg #[.int .i64 (-1), .int .i64 (-1)])]) rfl rfl HB.out _) ?_; go_frame)
    | (show wpList _ _ _ (⟨some 6, .box _ _, _, _, _, _⟩ :: _) _ _; refine wpS_boxA (cs := rtC sa rt0) hS rfl rfl rfl ?_; clear hS; intro p w hS; go_frame)
    )
  go_ret
  exact ⟨p, rfl, hS.sel (by repeat (first | exact Sel.refl | refine Sel.take (by repeat (first | exact t0 | apply tS)) ?_ | apply Sel.drop))⟩
set_option maxRecDepth 100000 in
theorem rrNew_s {sa : List Byte} (hS : SepL R base w F) (hsa : sa.length = 32) :
    Calls Tryd.prog 18 #[HV sa] w (Ret fun y w' => ∃ p, y = .pointer (some ⟨p, 0, none⟩) ∧ SepL R base w' (.blk p 52 (rrC sa rt0) :: F)) := by
  have HSL : Hid ((sa.map B8).length = 32) := by simp [Hid, hsa]
  have HB := hide (buildRr sa hsa)
  unfold HV
  go_enter Tryd.func18, Tryd.ntmps18
  go_wp2_with (first
    | (show wpList _ _ _ (⟨some 1, .box _ _, _, _, _, _⟩ :: _) _ _; refine wpS_boxA (cs := sa.map B8) hS rfl rfl rfl ?_; clear hS; intro nb w hS; go_frame)
    | (show wpList _ _ _ (⟨some 3, .load _ _, _, _, _, _⟩ :: _) _ _; refine wpList_val rfl (op_load agg32b rfl rfl (SepL.getBlk (b := nb) (T := 23) ((hS.bring (by repeat (first | exact t0 | apply tS))))).cells HSL.out) ?_; go_frame)
    | (show wpList _ _ _ (⟨some 4, .build _ _, _, _, _, _⟩ :: _) _ _; refine wpList_val rfl (op_build (ps := #[(0, .int .i64 (-1)), (1, .int .i64 (-1))]) rfl rfl (buildSucc (-1) (-1)) _) ?_; go_frame)
    | (show wpList _ _ _ (⟨some 5, .build _ _, _, _, _, _⟩ :: _) _ _; refine wpList_val rfl (op_build (ps := #[(0, .agg (sa.map B8).toArray), (4, .agg #[.int .i64 (-1), .int .i64 (-1)])]) rfl rfl HB.out _) ?_; go_frame)
    | (show wpList _ _ _ (⟨some 6, .box _ _, _, _, _, _⟩ :: _) _ _; refine wpS_boxA (cs := rrC sa rt0) hS rfl rfl rfl ?_; clear hS; intro p w hS; go_frame)
    )
  go_ret
  exact ⟨p, rfl, hS.sel (by repeat (first | exact Sel.refl | refine Sel.take (by repeat (first | exact t0 | apply tS)) ?_ | apply Sel.drop))⟩
end
end Go.Proofs.YtlplgobkidpgkaaDoor
