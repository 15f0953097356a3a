/- Times; the book as a list of entries, and how it lies in memory. Conditions: those that stand ahead of each theorem. -/
import Derived.Test.YtafpdpcbckpkjaaGSl
import Derived.Shelf.Spec.BitsCarry
namespace Go.Proofs.Ytafpdpcbckpkjaa
open Go.RowKit Go.Px Go.Shelf
def ren7 : Ren := ⟨fun n => if n = 25 then 43 else n, fun n => if n = 22 then 23 else n, fun n => n⟩
theorem lays25 : Lays7.n25 Try.prog ren7 where
  mixed := by kernel_rfl
  f25 := Try.func43.trans (congrArg some (by kernel_rfl))
  t22 := Try.underlying23
  a22 := Try.isAgg23
  z22 := Try.sizeOf23
  v22 := Try.zeroValue23
  i22 := by kernel_rfl
theorem add64_any (x y c : Nat) (hc : c ≤ 1) (w : World) : (callFunc 43 #[U x, U y, U c]).run Try.prog w =
    .ok (.value (.tuple #[U ((x + y + c) % 18446744073709551616), U ((x + y + c) / 18446744073709551616)])) w := Any7.bits_Add64 lays25 x y c hc w
theorem beqF {a b : Nat} (h : a ≠ b) : Hid ((a == b) = false) := by
  unfold Hid
  rw [beq_eq_false_iff_ne]
  exact h
theorem decF {p : Prop} [Decidable p] (h : ¬ p) : Hid (decide p = false) := decide_eq_false h
theorem decT {p : Prop} [Decidable p] (h : p) : Hid (decide p = true) := decide_eq_true h
section
variable {o : Oper} {w : World} {ρ : Operand → Value} {x y z : Operand} {a b c : Nat} {ts : Array TypeId}
theorem op_add64 (ho : o.op = .call { callee := .value (.func 43), args := #[x, y, z], argTypes := ts }) (hx : ρ x = U a) (hy : ρ y = U b) (hz : ρ z = U 0) (hf : ρ (.func 43) = .func (.func 43) #[] #[]) (s : Nat) (hs : (a + b) % 18446744073709551616 = s) (r : Nat) (hr : (a + b) / 18446744073709551616 = r) :
    (execOp ρ o).run Try.prog w = .ok (.value (.tuple #[U s, U r])) w := by
  have h := add64_any a b 0 (by omega) w
  rw [Nat.add_zero, hs, hr] at h
  unfold execOp
  simp [ho, resolve, invoke, hf, Deferred.ofValue, hx, hy, hz, h]
end
def laterN (t : Nat) (l : List Nat) : Nat := min (t + l.sum) 18446744073709551615
theorem sum_take : ∀ (l : List Nat) (k : Nat), (l.take k).sum ≤ l.sum
  | [], k => by simp
  | x :: l, 0 => by simp
  | x :: l, k + 1 => by
    have := sum_take l k
    simp only [List.take_succ_cons, List.sum_cons]
    omega
theorem sum_next (l : List Nat) (k : Nat) (h : k < l.length) : (l.take (k + 1)).sum = (l.take k).sum + l[k] := by
  rw [List.take_succ_eq_append_getElem h, List.sum_append, List.sum_cons, List.sum_nil, Nat.add_zero]
set_option maxRecDepth 100000 in
set_option maxHeartbeats 2000000 in
theorem later_any (t : Nat) (v : Value) (ls : List Nat) (w : World) (hv : Rd 1 w v (ls.map fun n => [U n])) (ht : t < 18446744073709551616) (hls : ∀ n ∈ ls, n < 18446744073709551616) :
    Calls Try.prog 29 #[U t, v] w (Ret fun r w' => r = U (laterN t ls) ∧ w' = w) := by
  have HL : Hid ((ls.map fun n => [U n]).length = ls.length) := by simp [Hid]
  have hmax : ls.length ≤ maxLen := by
    have := hv.len
    rwa [HL.out] at this
  unfold maxLen at hmax
  have HLS := hide hls
  clear hls
  go_enter Try.func29, Try.ntmps29
  go_wp2_with (first
    | (show wpList _ _ _ (⟨_, .call ⟨.builtin .len, _, _⟩, _, _, _, _⟩ :: _) _ _; refine wpList_val rfl (op_len slU rfl rfl rfl (by exact hv)) ?_; rw [HL.out]; go_frame)
    )
  go_loop [0, 11] (fun a i => ∃ k : Nat, i = .int .i64 k ∧ k ≤ ls.length ∧ a = U (t + (ls.take k).sum) ∧ t + (ls.take k).sum < 18446744073709551616) (fun _ i => ls.length - (intOf i).toNat)
  case atStart => exact ⟨0, rfl, by omega, by simp, by simpa using ht⟩
  case round =>
    obtain ⟨k, rfl, hk, rfl, hM⟩ := hrel
    by_cases hlt : k < ls.length
    · have hlt' : k < (ls.map fun n => [U n]).length := by simpa using hlt
      have hnx := sum_next ls k hlt
      have hle := sum_take ls (k + 1)
      have hxM : ls[k] < 18446744073709551616 := HLS.out _ (List.getElem_mem hlt)
      obtain ⟨x, hx⟩ : ∃ x, ls[k] = x := ⟨_, rfl⟩
      have HX := hide hx
      rw [hx] at hnx hxM
      clear hx
      obtain ⟨a, ha⟩ : ∃ a, t + (ls.take k).sum = a := ⟨_, rfl⟩
      obtain ⟨b, hb⟩ : ∃ b, t + (ls.take (k + 1)).sum = b := ⟨_, rfl⟩
      have hab : b = a + x := by omega
      have hbl : b ≤ t + ls.sum := by omega
      rw [ha] at hM
      simp only [ha]
      have HB := hide hb
      clear ha hb hnx hle
      by_cases ho : a + x < 18446744073709551616
      · have HS : Hid ((a + x) % 18446744073709551616 = b) := by
          unfold Hid
          omega
        have HC : Hid ((a + x) / 18446744073709551616 = 0) := by
          unfold Hid
          omega
        have HNE : Hid (((0 : Nat) != 0) = false) := rfl
        have HAB := hide hab
        clear hab
        go_wp2_with (first
          | (show wpList _ _ _ (⟨_, .call ⟨.value (.func 43), _, _⟩, _, _, _, _⟩ :: _) _ _; refine wpList_val rfl (op_add64 rfl rfl rfl rfl rfl _ HS.out _ HC.out) ?_; go_frame)
          | (show wpList _ _ _ (⟨_, .indexAddr 87 _ _, _, _, _, _⟩ :: _) _ _; refine wpList_val rfl (op_indexAddr slU rfl rfl (k := k) rfl (by exact hv) hlt') ?_; go_frame)
          | (show wpList _ _ _ (⟨_, .load 23 _, _, _, _, _⟩ :: _) _ _; refine wpList_val rfl (op_loadE1 oneU rfl rfl (f := U) (by exact hv) hlt) ?_; rw [HX.out]; go_frame)
          | (show wpList _ _ _ (⟨some 22, .binOp _ _ _ _ _, _, _, _, _⟩ :: _) _ _; refine wpList_val rfl (opU_neq rfl rfl (b := 0) rfl HNE.out) ?_; go_frame)
          )
        go_round
        case rel => exact ⟨k + 1, by go_num, by omega, by rw [HB.out], by rw [HB.out, HAB.out]; exact ho⟩
        case measure => simp [intOf]; omega
      · obtain ⟨s, hs⟩ : ∃ s, (a + x) % 18446744073709551616 = s := ⟨_, rfl⟩
        have HS := hide hs
        have HC : Hid ((a + x) / 18446744073709551616 = 1) := by
          unfold Hid
          omega
        have HNE : Hid (((1 : Nat) != 0) = true) := rfl
        have hfin : laterN t ls = 18446744073709551615 := by
          unfold laterN
          omega
        have HF := hide hfin
        clear hs hab hfin
        go_wp2_with (first
          | (show wpList _ _ _ (⟨_, .call ⟨.value (.func 43), _, _⟩, _, _, _, _⟩ :: _) _ _; refine wpList_val rfl (op_add64 rfl rfl rfl rfl rfl _ HS.out _ HC.out) ?_; go_frame)
          | (show wpList _ _ _ (⟨_, .indexAddr 87 _ _, _, _, _, _⟩ :: _) _ _; refine wpList_val rfl (op_indexAddr slU rfl rfl (k := k) rfl (by exact hv) hlt') ?_; go_frame)
          | (show wpList _ _ _ (⟨_, .load 23 _, _, _, _, _⟩ :: _) _ _; refine wpList_val rfl (op_loadE1 oneU rfl rfl (f := U) (by exact hv) hlt) ?_; rw [HX.out]; go_frame)
          | (show wpList _ _ _ (⟨some 22, .binOp _ _ _ _ _, _, _, _, _⟩ :: _) _ _; refine wpList_val rfl (opU_neq rfl rfl (b := 0) rfl HNE.out) ?_; go_frame)
          )
        go_ret
        exact ⟨by rw [HF.out]; rfl, rfl⟩
    · have hk2 : k = ls.length := by omega
      subst hk2
      rw [List.take_length] at hM ⊢
      have HF : Hid (laterN t ls = t + ls.sum) := by
        unfold Hid laterN
        omega
      go_wp2_with fail
      go_ret
      exact ⟨congrArg U HF.out.symm, rfl⟩
set_option maxRecDepth 100000 in
set_option maxHeartbeats 2000000 in
theorem rlater_any (t : Nat) (v : Value) (ls : List Nat) (w : World) (hv : Rd 1 w v (ls.map fun n => [U n])) (ht : t < 18446744073709551616) (hls : ∀ n ∈ ls, n < 18446744073709551616) :
    Calls Try.prog 47 #[U t, v] w (Ret fun r w' => r = U (laterN t ls) ∧ w' = w) := by
  have HL : Hid ((ls.map fun n => [U n]).length = ls.length) := by simp [Hid]
  have hmax : ls.length ≤ maxLen := by
    have := hv.len
    rwa [HL.out] at this
  unfold maxLen at hmax
  have HLS := hide hls
  clear hls
  go_enter Try.func47, Try.ntmps47
  go_wp2_with (first
    | (show wpList _ _ _ (⟨_, .call ⟨.builtin .len, _, _⟩, _, _, _, _⟩ :: _) _ _; refine wpList_val rfl (op_len slU rfl rfl rfl (by exact hv)) ?_; rw [HL.out]; go_frame)
    )
  go_loop [0, 9] (fun a i => ∃ k : Nat, i = .int .i64 k ∧ k ≤ ls.length ∧ a = U (t + (ls.take k).sum) ∧ t + (ls.take k).sum < 18446744073709551616) (fun _ i => ls.length - (intOf i).toNat)
  case atStart => exact ⟨0, rfl, by omega, by simp, by simpa using ht⟩
  case round =>
    obtain ⟨k, rfl, hk, rfl, hM⟩ := hrel
    by_cases hlt : k < ls.length
    ·
      have hlt' : k < (ls.map fun n => [U n]).length := by simpa using hlt
      have hnx := sum_next ls k hlt
      have hle := sum_take ls (k + 1)
      have hxM : ls[k] < 18446744073709551616 := HLS.out _ (List.getElem_mem hlt)
      obtain ⟨x, hx⟩ : ∃ x, ls[k] = x := ⟨_, rfl⟩
      have HX := hide hx
      rw [hx] at hnx hxM
      clear hx
      obtain ⟨a, ha⟩ : ∃ a, t + (ls.take k).sum = a := ⟨_, rfl⟩
      obtain ⟨b, hb⟩ : ∃ b, t + (ls.take (k + 1)).sum = b := ⟨_, rfl⟩
      have hab : b = a + x := by omega
      have hbl : b ≤ t + ls.sum := by omega
      rw [ha] at hM
      simp only [ha]
      have HB := hide hb
      clear ha hb hnx hle
      obtain ⟨m, hm⟩ : ∃ m : Nat, ((18446744073709551615 : Nat) : Int) - a = m := ⟨18446744073709551615 - a, by omega⟩
      have HM : Hid ((((18446744073709551615 : Nat) : Int) - a) % 18446744073709551616 = m) := by
        unfold Hid
        omega
      by_cases ho : a + x < 18446744073709551616
      · have HS : Hid ((a + x) % 18446744073709551616 = b) := by
          unfold Hid
          omega
        have HNE : Hid (decide (m < x) = false) := decF (by omega)
        have HAB := hide hab
        clear hab hm
        go_wp2_with (first
          | (show wpList _ _ _ (⟨_, .indexAddr 87 _ _, _, _, _, _⟩ :: _) _ _; refine wpList_val rfl (op_indexAddr slU rfl rfl (k := k) rfl (by exact hv) hlt') ?_; go_frame)
          | (show wpList _ _ _ (⟨_, .load 23 _, _, _, _, _⟩ :: _) _ _; refine wpList_val rfl (op_loadE1 oneU rfl rfl (f := U) (by exact hv) hlt) ?_; rw [HX.out]; go_frame)
          | (show wpList _ _ _ (⟨some 15, .binOp _ _ _ _ _, _, _, _, _⟩ :: _) _ _; refine wpList_val rfl (opU_subW rfl (a := 18446744073709551615) rfl rfl m HM.out) ?_; go_frame)
          | (show wpList _ _ _ (⟨some 16, .binOp _ _ _ _ _, _, _, _, _⟩ :: _) _ _; refine wpList_val rfl (opU_gtr rfl rfl rfl HNE.out) ?_; go_frame)
          | (show wpList _ _ _ (⟨some 19, .binOp _ _ _ _ _, _, _, _, _⟩ :: _) _ _; refine wpList_val rfl (opU_addW rfl rfl rfl b HS.out) ?_; go_frame)
          )
        go_round
        case rel => exact ⟨k + 1, by go_num, by omega, by rw [HB.out], by rw [HB.out, HAB.out]; exact ho⟩
        case measure => simp [intOf]; omega
      · have HNE : Hid (decide (m < x) = true) := decT (by omega)
        have hfin : laterN t ls = 18446744073709551615 := by
          unfold laterN
          omega
        have HF := hide hfin
        clear hab hfin hm
        go_wp2_with (first
          | (show wpList _ _ _ (⟨_, .indexAddr 87 _ _, _, _, _, _⟩ :: _) _ _; refine wpList_val rfl (op_indexAddr slU rfl rfl (k := k) rfl (by exact hv) hlt') ?_; go_frame)
          | (show wpList _ _ _ (⟨_, .load 23 _, _, _, _, _⟩ :: _) _ _; refine wpList_val rfl (op_loadE1 oneU rfl rfl (f := U) (by exact hv) hlt) ?_; rw [HX.out]; go_frame)
          | (show wpList _ _ _ (⟨some 15, .binOp _ _ _ _ _, _, _, _, _⟩ :: _) _ _; refine wpList_val rfl (opU_subW rfl (a := 18446744073709551615) rfl rfl m HM.out) ?_; go_frame)
          | (show wpList _ _ _ (⟨some 16, .binOp _ _ _ _ _, _, _, _, _⟩ :: _) _ _; refine wpList_val rfl (opU_gtr rfl rfl rfl HNE.out) ?_; go_frame)
          )
        go_ret
        exact ⟨by rw [HF.out]; rfl, rfl⟩
    · have hk2 : k = ls.length := by omega
      subst hk2
      rw [List.take_length] at hM ⊢
      have HF : Hid (laterN t ls = t + ls.sum) := by
        unfold Hid laterN
        omega
      go_wp2_with fail
      go_ret
      exact ⟨congrArg U HF.out.symm, rfl⟩
attribute [irreducible] laterN
end Go.Proofs.Ytafpdpcbckpkjaa
namespace Go.Proofs.Ytafpdpcbckpkjaa
open Go.RowKit Go.Px
structure Ent where
  id : List Byte
  peer : Int
  since : Nat
  waits : List Int
def ids (B : List Ent) : List (List Byte) := B.map fun e => e.id
/-- what holds of every book -/
structure BOk (B : List Ent) : Prop where
  nodup : (ids B).Nodup
  len : ∀ e ∈ B, e.id.length = 32
  few : B.length ≤ 32
  wait : ∀ e ∈ B, (e.peer :: e.waits).Nodup ∧ e.waits.length ≤ 3
  since : ∀ e ∈ B, e.since < 18446744073709551616
theorem BOk.nil : BOk [] := ⟨by simp [ids], by simp, by simp, by simp, by simp⟩
/-- one entry goes on with the next that waits -/
def goE (t : Nat) (e : Ent) : Option Ent := match e.waits with
  | [] => none
  | h :: r => some { e with peer := h, since := t, waits := r }
def quitE (p : Int) (e : Ent) : Ent := { e with waits := wout p e.waits }
/-- the entries with one id are turned, or taken out -/
def turnB (i : List Byte) (f : Ent → Option Ent) (B : List Ent) : List Ent := B.filterMap fun e => if e.id = i then f e else some e
def joinE (p : Int) (e : Ent) : Ent := if e.peer ≠ p ∧ p ∉ e.waits ∧ 1 + e.waits.length < 4 then { e with waits := e.waits ++ [p] } else e
def offerB (i : List Byte) (p : Int) (t : Nat) (B : List Ent) : List Ent :=
  if i ∈ ids B then turnB i (fun e => some (joinE p e)) B else if B.length < 32 then B ++ [⟨i, p, t, []⟩] else B
def offerA (i : List Byte) (B : List Ent) : Bool := decide (i ∉ ids B) && decide (B.length < 32)
def lackE (p : Int) (t : Nat) (e : Ent) : Option Ent := if e.peer ≠ p then some (quitE p e) else goE t e
def lackB (i : List Byte) (p : Int) (t : Nat) (B : List Ent) : List Ent := turnB i (lackE p t) B
def gotB (i : List Byte) (B : List Ent) : List Ent := turnB i (fun _ => none) B
/-- all entries for which a question is answered yes go on -/
def eachE (on : Ent → Ent × Bool) (t : Nat) (e : Ent) : Option Ent := if (on e).2 then goE t (on e).1 else some (on e).1
def eachB (on : Ent → Ent × Bool) (t : Nat) (B : List Ent) : List Ent := B.filterMap (eachE on t)
def wantE (on : Ent → Ent × Bool) (e : Ent) : Option (List Byte × Int) := if (on e).2 then (on e).1.waits.head?.map fun h => (e.id, h) else none
def eachW (on : Ent → Ent × Bool) (B : List Ent) : List (List Byte × Int) := B.filterMap (wantE on)
def lateOn (now : Nat) (e : Ent) : Ent × Bool := (e, decide (laterN e.since [30] ≤ now))
def goneOn (p : Int) (e : Ent) : Ent × Bool := (quitE p e, decide (e.peer = p))
def allB (B : List Ent) : List (List Byte × Int) := B.map fun e => (e.id, e.peer)

theorem turn_other {i : List Byte} {f : Ent → Option Ent} : ∀ {B : List Ent}, i ∉ ids B → turnB i f B = B
  | [], _ => rfl
  | e :: B, h => by
    simp only [ids, List.map_cons, List.mem_cons, not_or] at h
    unfold turnB
    rw [List.filterMap_cons, if_neg (fun he => h.1 he.symm)]
    show e :: turnB i f B = e :: B
    rw [turn_other h.2]
theorem turn_at {f : Ent → Option Ent} {A B : List Ent} {e : Ent} (hA : e.id ∉ ids A) (hB : e.id ∉ ids B) : turnB e.id f (A ++ e :: B) = A ++ (f e).toList ++ B := by
  have h1 := turn_other (f := f) hA
  have h2 := turn_other (f := f) hB
  unfold turnB at *
  rw [List.filterMap_append, List.filterMap_cons, if_pos rfl, h1]
  cases hfe : f e with
  | none => simp [h2]
  | some x => simp [h2]
theorem split_at {B : List Ent} {i : List Byte} (hn : (ids B).Nodup) (h : i ∈ ids B) : ∃ A e C, B = A ++ e :: C ∧ e.id = i ∧ e.id ∉ ids A ∧ e.id ∉ ids C := by
  obtain ⟨e, he, rfl⟩ := List.mem_map.1 h
  obtain ⟨A, C, rfl⟩ := List.append_of_mem he
  unfold ids at hn
  rw [List.map_append, List.map_cons, List.nodup_append] at hn
  obtain ⟨h1, h2, h3⟩ := hn
  rw [List.nodup_cons] at h2
  exact ⟨A, e, C, rfl, rfl, fun ha => h3 _ ha _ (by simp) rfl, h2.1⟩
theorem turn_ids {i : List Byte} {f : Ent → Option Ent} (hf : ∀ e x, f e = some x → x.id = e.id) : ∀ B : List Ent, List.Sublist (ids (turnB i f B)) (ids B)
  | [] => by simp [turnB, ids]
  | e :: B => by
    have ih := turn_ids (i := i) hf B
    have hc : turnB i f (e :: B) = (if e.id = i then f e else some e).toList ++ turnB i f B := by
      unfold turnB
      rw [List.filterMap_cons]
      cases (if e.id = i then f e else some e) <;> rfl
    rw [hc]
    cases hx : (if e.id = i then f e else some e) with
    | none => exact ih.cons _
    | some x =>
      have hid : x.id = e.id := by
        split at hx
        · exact hf e x hx
        · injection hx with hx
          rw [hx]
      show List.Sublist (x.id :: ids (turnB i f B)) (e.id :: ids B)
      rw [hid]
      exact ih.cons_cons _
theorem turn_ok {i : List Byte} {f : Ent → Option Ent} {B : List Ent} (hB : BOk B) (hid : ∀ e x, f e = some x → x.id = e.id) (hw : ∀ e ∈ B, ∀ x, f e = some x → ((x.peer :: x.waits).Nodup ∧ x.waits.length ≤ 3) ∧ x.since < 18446744073709551616) : BOk (turnB i f B) := by
  have hs := turn_ids (i := i) hid B
  have key : ∀ x ∈ turnB i f B, ∃ e ∈ B, x = e ∨ f e = some x := by
    intro x hx
    unfold turnB at hx
    rw [List.mem_filterMap] at hx
    obtain ⟨e, he, h⟩ := hx
    refine ⟨e, he, ?_⟩
    split at h
    · exact .inr h
    · injection h with h
      exact .inl h.symm
  refine ⟨hB.nodup.sublist hs, ?_, ?_, ?_, ?_⟩
  · intro x hx
    obtain ⟨e, he, h⟩ := key x hx
    rcases h with rfl | h
    · exact hB.len _ he
    · rw [hid e x h]
      exact hB.len e he
  · have h1 := hs.length_le
    have h2 := hB.few
    simp only [ids, List.length_map] at h1
    omega
  · intro x hx
    obtain ⟨e, he, h⟩ := key x hx
    rcases h with rfl | h
    · exact hB.wait _ he
    · exact (hw e he x h).1
  · intro x hx
    obtain ⟨e, he, h⟩ := key x hx
    rcases h with rfl | h
    · exact hB.since _ he
    · exact (hw e he x h).2
theorem goE_id {t : Nat} {e x : Ent} (h : goE t e = some x) : x.id = e.id := by
  unfold goE at h
  split at h
  · cases h
  · injection h with h
    rw [← h]
theorem goE_ok {t : Nat} {e x : Ent} (ht : t < 18446744073709551616) (hw : (e.peer :: e.waits).Nodup ∧ e.waits.length ≤ 3) (h : goE t e = some x) : ((x.peer :: x.waits).Nodup ∧ x.waits.length ≤ 3) ∧ x.since < 18446744073709551616 := by
  unfold goE at h
  split at h
  · cases h
  · rename_i p r hr
    injection h with h
    rw [← h]
    rw [hr] at hw
    exact ⟨⟨(List.nodup_cons.1 hw.1).2, by have := hw.2; simp at this ⊢; omega⟩, ht⟩
theorem quitE_ok {p : Int} {e : Ent} (hw : (e.peer :: e.waits).Nodup ∧ e.waits.length ≤ 3) : ((quitE p e).peer :: (quitE p e).waits).Nodup ∧ (quitE p e).waits.length ≤ 3 := by
  refine ⟨?_, Nat.le_trans (List.length_filter_le _ _) hw.2⟩
  exact hw.1.sublist (List.Sublist.cons_cons _ List.filter_sublist)
theorem joinE_ok {p : Int} {e : Ent} (hw : (e.peer :: e.waits).Nodup ∧ e.waits.length ≤ 3) : ((joinE p e).peer :: (joinE p e).waits).Nodup ∧ (joinE p e).waits.length ≤ 3 := by
  unfold joinE
  split
  · rename_i h
    refine ⟨?_, by simp; omega⟩
    rw [← List.cons_append, List.nodup_append]
    refine ⟨hw.1, by simp, ?_⟩
    intro a ha b hb
    rw [List.mem_singleton.1 hb]
    rintro rfl
    rcases List.mem_cons.1 ha with ha | ha
    · exact h.1 ha.symm
    · exact h.2.1 ha
  · exact hw
theorem joinE_id (p : Int) (e : Ent) : (joinE p e).id = e.id := by
  unfold joinE
  split <;> rfl
theorem joinE_since (p : Int) (e : Ent) : (joinE p e).since = e.since := by
  unfold joinE
  split <;> rfl
theorem offer_ok {i : List Byte} {p : Int} {t : Nat} {B : List Ent} (hB : BOk B) (hi : i.length = 32) (ht : t < 18446744073709551616) : BOk (offerB i p t B) := by
  unfold offerB
  split
  · refine turn_ok hB (fun e x h => ?_) (fun e he x h => ?_)
    · injection h with h
      rw [← h, joinE_id]
    · injection h with h
      rw [← h, joinE_since]
      exact ⟨joinE_ok (hB.wait e he), hB.since e he⟩
  · rename_i hn
    split
    · rename_i hl
      refine ⟨?_, ?_, by simp; omega, ?_, ?_⟩
      · unfold ids at *
        rw [List.map_append, List.nodup_append]
        refine ⟨hB.nodup, by simp, ?_⟩
        intro a ha b hb
        simp at hb
        rw [hb]
        rintro rfl
        exact hn ha
      · intro e he
        rcases List.mem_append.1 he with he | he
        · exact hB.len e he
        · rw [List.mem_singleton.1 he]; exact hi
      · intro e he
        rcases List.mem_append.1 he with he | he
        · exact hB.wait e he
        · rw [List.mem_singleton.1 he]; simp
      · intro e he
        rcases List.mem_append.1 he with he | he
        · exact hB.since e he
        · rw [List.mem_singleton.1 he]; exact ht
    · exact hB
theorem lackE_id {p : Int} {t : Nat} {e x : Ent} (h : lackE p t e = some x) : x.id = e.id := by
  unfold lackE at h
  split at h
  · injection h with h
    rw [← h]
    rfl
  · exact goE_id h
theorem lack_ok {i : List Byte} {p : Int} {t : Nat} {B : List Ent} (hB : BOk B) (ht : t < 18446744073709551616) : BOk (lackB i p t B) := by
  refine turn_ok hB (fun e x h => lackE_id h) (fun e he x h => ?_)
  unfold lackE at h
  split at h
  · injection h with h
    rw [← h]
    exact ⟨quitE_ok (hB.wait e he), hB.since e he⟩
  · exact goE_ok ht (hB.wait e he) h
theorem got_ok {i : List Byte} {B : List Ent} (hB : BOk B) : BOk (gotB i B) := turn_ok hB (fun _ _ h => by cases h) (fun _ _ _ h => by cases h)
theorem each_ids {on : Ent → Ent × Bool} {t : Nat} (hon : ∀ e, (on e).1.id = e.id) : ∀ B : List Ent, List.Sublist (ids (eachB on t B)) (ids B)
  | [] => by simp [eachB, ids]
  | e :: B => by
    have ih := each_ids (t := t) hon B
    have hc : eachB on t (e :: B) = (eachE on t e).toList ++ eachB on t B := by
      unfold eachB
      rw [List.filterMap_cons]
      cases eachE on t e <;> rfl
    rw [hc]
    cases hx : eachE on t e with
    | none => exact ih.cons _
    | some x =>
      have hid : x.id = e.id := by
        unfold eachE at hx
        split at hx
        · rw [goE_id hx, hon]
        · injection hx with hx
          rw [← hx, hon]
      show List.Sublist (x.id :: ids (eachB on t B)) (e.id :: ids B)
      rw [hid]
      exact ih.cons_cons _
theorem each_ok {on : Ent → Ent × Bool} {t : Nat} {B : List Ent} (hB : BOk B) (ht : t < 18446744073709551616) (hon : ∀ e, (on e).1.id = e.id) (hw : ∀ e, ((e.peer :: e.waits).Nodup ∧ e.waits.length ≤ 3) → (((on e).1.peer :: (on e).1.waits).Nodup ∧ (on e).1.waits.length ≤ 3)) (hs : ∀ e, (on e).1.since = e.since) : BOk (eachB on t B) := by
  have hsub := each_ids (t := t) hon B
  have key : ∀ x ∈ eachB on t B, ∃ e ∈ B, eachE on t e = some x := by
    intro x hx
    unfold eachB at hx
    rw [List.mem_filterMap] at hx
    exact hx
  have kid : ∀ x e, eachE on t e = some x → x.id = e.id := by
    intro x e h
    unfold eachE at h
    split at h
    · rw [goE_id h, hon]
    · injection h with h
      rw [← h, hon]
  have kok : ∀ x e, e ∈ B → eachE on t e = some x → ((x.peer :: x.waits).Nodup ∧ x.waits.length ≤ 3) ∧ x.since < 18446744073709551616 := by
    intro x e he h
    unfold eachE at h
    split at h
    · exact goE_ok ht (hw e (hB.wait e he)) h
    · injection h with h
      rw [← h, hs]
      exact ⟨hw e (hB.wait e he), hB.since e he⟩
  refine ⟨hB.nodup.sublist hsub, ?_, ?_, ?_, ?_⟩
  · intro x hx
    obtain ⟨e, he, h⟩ := key x hx
    rw [kid x e h]
    exact hB.len e he
  · have h1 := hsub.length_le
    have h2 := hB.few
    simp only [ids, List.length_map] at h1
    omega
  · intro x hx
    obtain ⟨e, he, h⟩ := key x hx
    exact (kok x e he h).1
  · intro x hx
    obtain ⟨e, he, h⟩ := key x hx
    exact (kok x e he h).2
theorem late_ok {now : Nat} {B : List Ent} (hB : BOk B) (ht : now < 18446744073709551616) : BOk (eachB (lateOn now) now B) := each_ok hB ht (fun _ => rfl) (fun _ h => h) (fun _ => rfl)
theorem gone_ok {p : Int} {now : Nat} {B : List Ent} (hB : BOk B) (ht : now < 18446744073709551616) : BOk (eachB (goneOn p) now B) := each_ok hB ht (fun _ => rfl) (fun _ h => quitE_ok h) (fun _ => rfl)
end Go.Proofs.Ytafpdpcbckpkjaa
namespace Go.Proofs.Ytafpdpcbckpkjaa
open Go.RowKit Go.Px
abbrev LE := (Nat × Value) × Ent
def elist (l : List LE) : List Ent := l.map fun x => x.2
def entC (x : LE) : List Value := [.int .i64 x.2.peer, U x.2.since, x.1.2]
def entP (x : LE) : List Hp := [.blk x.1.1 71 (entC x), .own 3 1 x.1.2 (x.2.waits.map fun z => [I64 z])]
def entsP (l : List LE) : List Hp := l.flatMap entP
def keysM (l : List LE) : List (Value × Value) := l.map fun x => (HV x.2.id, .pointer (some ⟨x.1.1, 0, none⟩))
def bookP (p m : Nat) (ov : Value) (l : List LE) : List Hp := [.blk p 68 [.map (some m), ov], .map Try.prog 28 m (keysM l), .own 28 32 ov (bys (ids (elist l)))]
def hB (p : Nat) (B : List Ent) : Hp := hEx fun x : Nat × Value × List LE => hPure (elist x.2.2 = B) :: (bookP p x.1 x.2.1 x.2.2 ++ entsP x.2.2)
theorem entsP_mid (l1 l2 : List LE) (x : LE) : (entsP (l1 ++ x :: l2)).Perm (entP x ++ entsP (l1 ++ l2)) := by
  unfold entsP
  rw [List.flatMap_append, List.flatMap_cons, List.flatMap_append, ← List.append_assoc, ← List.append_assoc]
  exact List.perm_append_comm.append_right _
section
variable {R : Nat → Prop} {base w : World} {F : List Hp} {p : Nat} {B : List Ent}
theorem hB_open (hS : SepL R base w (hB p B :: F)) : ∃ m ov l, elist l = B ∧ SepL R base w (bookP p m ov l ++ (entsP l ++ F)) := by
  obtain ⟨⟨m, ov, l⟩, h⟩ := SepL.unpack hS
  have h1 := SepL.getPure h
  refine ⟨m, ov, l, h1, ?_⟩
  have h2 : SepL R base w ((bookP p m ov l ++ entsP l) ++ F) := SepL.tail h
  rwa [List.append_assoc] at h2
theorem hB_close {m : Nat} {ov : Value} {l : List LE} (hS : SepL R base w (bookP p m ov l ++ (entsP l ++ F))) : SepL R base w (hB p (elist l) :: F) := by
  rw [← List.append_assoc] at hS
  exact SepL.pack (l := fun x : Nat × Value × List LE => hPure (elist x.2.2 = elist l) :: (bookP p x.1 x.2.1 x.2.2 ++ entsP x.2.2)) (m, ov, l) (SepL.putPure hS rfl)
/-- an entry's two parts ahead of all -/
theorem pull {A : List Hp} {l1 l2 : List LE} {x : LE} (hS : SepL R base w (A ++ (entsP (l1 ++ x :: l2) ++ F))) : SepL R base w (entP x ++ (A ++ (entsP (l1 ++ l2) ++ F))) := by
  refine hS.perm (((entsP_mid l1 l2 x).append_right F).append_left A |>.trans ?_)
  simp only [← List.append_assoc]
  exact (List.perm_append_comm.append_right _).append_right _
theorem push {A : List Hp} {l1 l2 : List LE} {x : LE} (hS : SepL R base w (entP x ++ (A ++ (entsP (l1 ++ l2) ++ F)))) : SepL R base w (A ++ (entsP (l1 ++ x :: l2) ++ F)) := by
  refine hS.perm (List.Perm.symm (((entsP_mid l1 l2 x).append_right F).append_left A |>.trans ?_))
  simp only [← List.append_assoc]
  exact (List.perm_append_comm.append_right _).append_right _
/-- the cell of an entry, read -/
theorem entBlk {A : List Hp} {l : List LE} (hS : SepL R base w (A ++ (entsP l ++ F))) {x : LE} (hx : x ∈ l) : Blk w x.1.1 71 (entC x) := by
  obtain ⟨l1, l2, rfl⟩ := List.append_of_mem hx
  exact SepL.getBlk (pull hS)
end
theorem ids_elist (l : List LE) : ids (elist l) = l.map fun x => x.2.id := by simp [ids, elist]
theorem ids_keys {l : List LE} (h : (ids (elist l)).Nodup) : ((keysM l).map (·.1)).Nodup := by
  rw [ids_elist] at h
  unfold keysM
  rw [List.map_map]
  have : (l.map fun x => x.2.id).map HV = l.map ((fun p : Value × Value => p.1) ∘ fun x => (HV x.2.id, Value.pointer (some ⟨x.1.1, 0, none⟩))) := by simp
  rw [← this]
  exact List.Pairwise.map _ (fun a b hab he => hab (HV_inj he)) h
theorem get_in {l1 l2 : List LE} {x : LE} (h : (ids (elist (l1 ++ x :: l2))).Nodup) : (mget (keysM (l1 ++ x :: l2)) (HV x.2.id)).getD (.pointer none) = .pointer (some ⟨x.1.1, 0, none⟩) := by
  rw [mget_some (v := .pointer (some ⟨x.1.1, 0, none⟩)) (ids_keys h) (by simp [keysM])]
  rfl
theorem get_out {l : List LE} {i : List Byte} (h : i ∉ ids (elist l)) : (mget (keysM l) (HV i)).getD (.pointer none) = .pointer none := by
  rw [mget_none]
  · rfl
  · intro q hq
    unfold keysM at hq
    obtain ⟨x, hx, rfl⟩ := List.mem_map.1 hq
    intro he
    apply h
    rw [ids_elist]
    exact List.mem_map.2 ⟨x, hx, HV_inj he⟩
theorem split_le {l : List LE} {i : List Byte} (h : i ∈ ids (elist l)) : ∃ l1 x l2, l = l1 ++ x :: l2 ∧ x.2.id = i := by
  rw [ids_elist] at h
  obtain ⟨x, hx, rfl⟩ := List.mem_map.1 h
  obtain ⟨l1, l2, rfl⟩ := List.append_of_mem hx
  exact ⟨l1, x, l2, rfl, rfl⟩
theorem ents_mid (l1 l2 : List LE) (x : LE) : elist (l1 ++ x :: l2) = elist l1 ++ x.2 :: elist l2 := by simp [elist]
theorem ents_app (l1 l2 : List LE) : elist (l1 ++ l2) = elist l1 ++ elist l2 := by simp [elist]
theorem nodup_mid {l1 l2 : List LE} {x : LE} (h : (ids (elist (l1 ++ x :: l2))).Nodup) : x.2.id ∉ ids (elist l1) ∧ x.2.id ∉ ids (elist l2) := by
  rw [ents_mid] at h
  unfold ids at h ⊢
  rw [List.map_append, List.map_cons, List.nodup_append] at h
  obtain ⟨h1, h2, h3⟩ := h
  exact ⟨fun ha => h3 _ ha _ (by simp) rfl, (List.nodup_cons.1 h2).1⟩
theorem turn_le {f : Ent → Option Ent} {l1 l2 : List LE} {x : LE} (h : (ids (elist (l1 ++ x :: l2))).Nodup) : turnB x.2.id f (elist (l1 ++ x :: l2)) = elist l1 ++ (f x.2).toList ++ elist l2 := by
  obtain ⟨h1, h2⟩ := nodup_mid h
  rw [ents_mid]
  exact turn_at h1 h2
theorem keys_mid (l1 l2 : List LE) (x : LE) (q : Ent) (v : Value) (h : q.id = x.2.id) : keysM (l1 ++ ((x.1.1, v), q) :: l2) = keysM (l1 ++ x :: l2) := by simp [keysM, h]
theorem ids_mid (l1 l2 : List LE) (x : LE) (q : Ent) (v : Value) (h : q.id = x.2.id) : ids (elist (l1 ++ ((x.1.1, v), q) :: l2)) = ids (elist (l1 ++ x :: l2)) := by simp [ids, elist, h]
section
variable {R : Nat → Prop} {base w : World} {F : List Hp} {p m : Nat} {ov : Value} {l1 l2 : List LE} {x : LE}
/-- an entry is laid back, turned -/
theorem relay {e : Ent} {v : Value} (hS : SepL R base w (.blk x.1.1 71 [.int .i64 e.peer, U e.since, v] :: .own 3 1 v (e.waits.map fun z => [I64 z]) :: (bookP p m ov (l1 ++ x :: l2) ++ (entsP (l1 ++ l2) ++ F)))) (he : e.id = x.2.id) :
    SepL R base w (hB p (elist l1 ++ [e] ++ elist l2) :: F) := by
  have h1 : bookP p m ov (l1 ++ ((x.1.1, v), e) :: l2) = bookP p m ov (l1 ++ x :: l2) := by
    unfold bookP
    rw [keys_mid l1 l2 x e v he, ids_mid l1 l2 x e v he]
  rw [← h1] at hS
  have h2 := hB_close (push (x := ((x.1.1, v), e)) hS)
  rw [ents_mid] at h2
  simpa using h2
theorem hB_closeR {a : Hp} {l : List LE} (hS : SepL R base w (a :: (bookP p m ov l ++ (entsP l ++ F)))) : SepL R base w (a :: hB p (elist l) :: F) := by
  rw [← List.append_assoc] at hS
  have h1 := hS.perm (List.perm_middle (l₁ := bookP p m ov l ++ entsP l) (a := a) (l₂ := F)).symm
  rw [List.append_assoc] at h1
  exact (hB_close h1).perm (.swap _ _ _)
/-- a new entry is laid behind the others -/
theorem lay_new {l : List LE} {ne t : Nat} {v2 : Value} {i : List Byte} {q : Int} (hS : SepL R base w (.blk ne 71 [.int .i64 q, U t, .slice none 0 0] :: .own 3 1 (.slice none 0 0) [] :: .blk p 68 [.map (some m), v2] :: .map Try.prog 28 m (keysM l ++ [(.agg (i.map B8).toArray, .pointer (some ⟨ne, 0, none⟩))]) :: .own 28 32 v2 (bys (ids (elist l)) ++ [i.map B8]) :: (entsP l ++ F))) :
    SepL R base w (hB p (elist l ++ [⟨i, q, t, []⟩]) :: F) := by
  have h1 : bookP p m v2 (l ++ [((ne, .slice none 0 0), ⟨i, q, t, []⟩)]) = [.blk p 68 [.map (some m), v2], .map Try.prog 28 m (keysM l ++ [(.agg (i.map B8).toArray, .pointer (some ⟨ne, 0, none⟩))]), .own 28 32 v2 (bys (ids (elist l)) ++ [i.map B8])] := by
    simp [bookP, keysM, HV, bys, ids, elist]
  have h2 : SepL R base w (entP ((ne, .slice none 0 0), ⟨i, q, t, []⟩) ++ (bookP p m v2 (l ++ [((ne, .slice none 0 0), ⟨i, q, t, []⟩)]) ++ (entsP (l ++ []) ++ F))) := by
    rw [h1, List.append_nil]
    exact hS
  have h3 := hB_close (push h2)
  rw [ents_mid] at h3
  exact h3
/-- an entry is laid back as it was -/
theorem relay_same (hS : SepL R base w (entP x ++ (bookP p m ov (l1 ++ x :: l2) ++ (entsP (l1 ++ l2) ++ F)))) : SepL R base w (hB p (elist l1 ++ [x.2] ++ elist l2) :: F) := by
  have := hB_close (push hS)
  rw [ents_mid] at this
  simpa using this
end
attribute [irreducible] hB
end Go.Proofs.Ytafpdpcbckpkjaa
