/- The book is alive; what the law about late entries says in plain numbers. Conditions: those that stand ahead of each theorem. -/
import Derived.Test.YtafpdpcbckpkjaaGRAlb
namespace Go.Proofs.Ytafpdpcbckpkjaa
open Go.RowKit Go.Px
/-- every entry was asked of peer 1 at t, and peer 2 waits -/
def OneTwo (t : Nat) (B : List Ent) : Prop := ∀ e ∈ B, e.peer = 1 ∧ e.waits = [2] ∧ e.since = t
theorem fm_congr {α β : Type} {f g : α → Option β} : ∀ {B : List α}, (∀ e ∈ B, f e = g e) → B.filterMap f = B.filterMap g
  | [], _ => rfl
  | a :: B, h => by
    rw [List.filterMap_cons, List.filterMap_cons, h a (by simp), fm_congr fun e he => h e (List.mem_cons_of_mem _ he)]
theorem mem_turn {i : List Byte} {f : Ent → Option Ent} {B : List Ent} {x : Ent} (h : x ∈ turnB i f B) : ∃ e ∈ B, (e.id = i ∧ f e = some x) ∨ (e.id ≠ i ∧ e = x) := by
  unfold turnB at h
  obtain ⟨e, he, h⟩ := List.mem_filterMap.1 h
  refine ⟨e, he, ?_⟩
  split at h
  · rename_i hi
    exact .inl ⟨hi, h⟩
  · rename_i hi
    injection h with h
    exact .inr ⟨hi, h⟩
theorem join_same {t : Nat} {e : Ent} {q : Int} (h : e.peer = 1 ∧ e.waits = [2] ∧ e.since = t) (hq : q = 1 ∨ q = 2) : joinE q e = e := by
  unfold joinE
  rw [if_neg]
  rintro ⟨h1, h2, _⟩
  rcases hq with rfl | rfl
  · exact h1 h.1
  · exact h2 (by rw [h.2.1]; simp)
theorem offer_two {t : Nat} {B : List Ent} {i : List Byte} (h : OneTwo t B) : OneTwo t (offerB i 2 t (offerB i 1 t B)) := by
  by_cases hin : i ∈ ids B
  · have h1 : offerB i 1 t B = turnB i (fun e => some (joinE 1 e)) B := if_pos hin
    have h1' : OneTwo t (offerB i 1 t B) := by
      rw [h1]
      intro x hx
      obtain ⟨e, he, h2⟩ := mem_turn hx
      rcases h2 with ⟨_, h2⟩ | ⟨_, rfl⟩
      · injection h2 with h2
        rw [← h2, join_same (h e he) (.inl rfl)]
        exact h e he
      · exact h e he
    have hin2 : i ∈ ids (offerB i 1 t B) := by
      rw [h1]
      obtain ⟨e, he, hei⟩ := List.mem_map.1 hin
      refine List.mem_map.2 ⟨joinE 1 e, ?_, by rw [joinE_id]; exact hei⟩
      unfold turnB
      exact List.mem_filterMap.2 ⟨e, he, by rw [if_pos hei]⟩
    have h2 : offerB i 2 t (offerB i 1 t B) = turnB i (fun e => some (joinE 2 e)) (offerB i 1 t B) := if_pos hin2
    rw [h2]
    intro x hx
    obtain ⟨e, he, h2⟩ := mem_turn hx
    have he1 := h1' e he
    rcases h2 with ⟨_, h2⟩ | ⟨_, rfl⟩
    · injection h2 with h2
      rw [← h2, join_same he1 (.inr rfl)]
      exact he1
    · exact he1
  · by_cases hl : B.length < 32
    · have h1 : offerB i 1 t B = B ++ [⟨i, 1, t, []⟩] := by
        unfold offerB
        rw [if_neg hin, if_pos hl]
      rw [h1]
      have hin2 : i ∈ ids (B ++ [⟨i, 1, t, []⟩]) := by simp [ids]
      unfold offerB
      rw [if_pos hin2]
      intro x hx
      obtain ⟨e, he, h2⟩ := mem_turn hx
      rcases List.mem_append.1 he with he | he
      · rcases h2 with ⟨h3, _⟩ | ⟨_, rfl⟩
        · exact absurd (List.mem_map.2 ⟨e, he, h3⟩) hin
        · exact h e he
      · rw [List.mem_singleton.1 he] at h2
        rcases h2 with ⟨_, h2⟩ | ⟨h3, _⟩
        · injection h2 with h2
          rw [← h2]
          simp [joinE]
        · exact absurd rfl h3
    · have h1 : ∀ q, offerB i q t B = B := by
        intro q
        unfold offerB
        rw [if_neg hin, if_neg hl]
      rw [h1, h1]
      exact h
/-- nobody is late: nothing changes -/
theorem late_none {now : Nat} {B : List Ent} (h : ∀ e ∈ B, ¬ laterN e.since [30] ≤ now) : eachB (lateOn now) now B = B ∧ eachW (lateOn now) B = [] := by
  have hon : ∀ e ∈ B, ¬ (lateOn now e).2 = true := fun e he hd => h e he (of_decide_eq_true hd)
  constructor
  · unfold eachB
    conv => rhs; rw [← List.filterMap_some (l := B)]
    refine fm_congr fun e he => ?_
    unfold eachE
    rw [if_neg (hon e he)]
    rfl
  · unfold eachW
    rw [List.filterMap_eq_nil_iff]
    intro e he
    unfold wantE
    rw [if_neg (hon e he)]
/-- all are late, and each has somebody that waits -/
theorem late_all {now t : Nat} {B : List Ent} (h : OneTwo t B) (hl : laterN t [30] ≤ now) : eachB (lateOn now) now B = B.map (fun e => { e with peer := 2, since := now, waits := [] }) ∧ (eachW (lateOn now) B).length = B.length := by
  have hon : ∀ e ∈ B, (lateOn now e).2 = true := fun e he => decide_eq_true (by rw [(h e he).2.2]; exact hl)
  constructor
  · unfold eachB
    rw [← List.filterMap_eq_map]
    refine fm_congr fun e he => ?_
    unfold eachE
    rw [if_pos (hon e he)]
    show goE now e = _
    unfold goE
    rw [(h e he).2.1]
    rfl
  · have : eachW (lateOn now) B = B.map fun e => (e.id, (2 : Int)) := by
      unfold eachW
      rw [← List.filterMap_eq_map]
      refine fm_congr fun e he => ?_
      unfold wantE
      rw [if_pos (hon e he)]
      show (e.waits.head?.map fun h => (e.id, h)) = _
      rw [(h e he).2.1]
      rfl
    rw [this, List.length_map]
end Go.Proofs.Ytafpdpcbckpkjaa
namespace Go.Proofs.Ytafpdpcbckpkjaa
open Go.RowKit Go.Px Go.WideMaps
theorem keyWant : Key Try.prog 55 where
  law := Maps.Keyed.of_law (deep_law_laid Try.laidOut (m := 3) (by omega) (of_decide_eq_true (by kernel_rfl)) (by kernel_rfl) (by kernel_rfl))
  eq := fun w {x y lx ly} hx hy => run_equal_deep w (m := 3) (by omega) (by kernel_rfl) (by kernel_rfl) hx hy
  guard := by kernel_rfl
/-- the id that `alive` asks for -/
def idOne : List Byte := 1#8 :: List.replicate 31 0#8
theorem idOne_len : idOne.length = 32 := rfl
theorem buildOne (w : World) : (Instr.build 28 #[(0, .int .u8 1)]).run Try.prog w = .ok (.agg (idOne.map B8).toArray) w := run_build w 28 _ _ (by kernel_rfl)
theorem isKeyW1 : IsKey Try.prog 55 (.agg (idOne.map B8 ++ [Value.int .i64 2]).toArray) := Option.isSome_iff_exists.1 (by kernel_rfl)
end Go.Proofs.Ytafpdpcbckpkjaa
namespace Go.Proofs.Ytafpdpcbckpkjaa
open Go.RowKit Go.Px
section
variable {R : Nat → Prop} {base w : World} {F : List Hp}
theorem a1 (i : List Byte) : offerB i 1 0 [] = [⟨i, 1, 0, []⟩] := by simp [offerB, ids]
theorem a2 (i : List Byte) : offerB i 2 0 [⟨i, 1, 0, []⟩] = [⟨i, 1, 0, [2]⟩] := by simp [offerB, ids, turnB, joinE]
theorem a3 (i : List Byte) : eachB (lateOn 29) 29 [⟨i, 1, 0, [2]⟩] = [⟨i, 1, 0, [2]⟩] ∧ eachW (lateOn 29) [⟨i, 1, 0, [2]⟩] = [] := by simp [eachB, eachE, eachW, wantE, lateOn, laterN]
theorem a4 (i : List Byte) : eachB (lateOn 30) 30 [⟨i, 1, 0, [2]⟩] = [⟨i, 2, 30, []⟩] ∧ eachW (lateOn 30) [⟨i, 1, 0, [2]⟩] = [(i, 2)] := by simp [eachB, eachE, eachW, wantE, lateOn, laterN, goE]
theorem a5 (i : List Byte) : eachB (lateOn 60) 60 [⟨i, 2, 30, []⟩] = [] ∧ eachW (lateOn 60) [⟨i, 2, 30, []⟩] = [] := by simp [eachB, eachE, eachW, wantE, lateOn, laterN, goE]
set_option maxRecDepth 100000 in
set_option maxHeartbeats 2000000 in
theorem alive_s (hS : SepL R base w F) : Calls Try.prog 9 #[] w (Ret fun r w' => r = .bool true ∧ SepL R base w' F) := by
  have HI32 : Hid ((idOne.map B8).length = 32) := rfl
  have k1 : BOk [⟨idOne, 1, 0, []⟩] := by rw [← a1]; exact offer_ok BOk.nil idOne_len (by omega)
  have k2 : BOk [⟨idOne, 1, 0, [2]⟩] := by rw [← a2]; exact offer_ok k1 idOne_len (by omega)
  have k4 : BOk [⟨idOne, 2, 30, []⟩] := by rw [← (a4 idOne).1]; exact late_ok k2 (by omega)
  have C1 : ∀ {w : World} {p nb : Nat}, SepL R base w (hB p [] :: .blk nb 28 (idOne.map B8) :: F) → Calls Try.prog 11 #[.pointer (some ⟨p, 0, none⟩), .agg (idOne.map B8).toArray, .int .i64 1, .int .u64 0] w (Ret fun r w' => r = .bool true ∧ SepL R base w' (hB p [⟨idOne, 1, 0, []⟩] :: .blk nb 28 (idOne.map B8) :: F)) := by
    intro w p nb h
    have := offer_any (q := 1) (t := 0) h BOk.nil idOne_len (by omega)
    rw [a1] at this
    exact this
  have C2 : ∀ {w : World} {p nb : Nat}, SepL R base w (hB p [⟨idOne, 1, 0, []⟩] :: .blk nb 28 (idOne.map B8) :: F) → Calls Try.prog 11 #[.pointer (some ⟨p, 0, none⟩), .agg (idOne.map B8).toArray, .int .i64 2, .int .u64 0] w (Ret fun r w' => r = .bool false ∧ SepL R base w' (hB p [⟨idOne, 1, 0, [2]⟩] :: .blk nb 28 (idOne.map B8) :: F)) := by
    intro w p nb h
    have := offer_any (q := 2) (t := 0) h k1 idOne_len (by omega)
    rw [a2, show offerA idOne [⟨idOne, 1, 0, []⟩] = false by simp [offerA, ids]] at this
    exact this
  have C3 : ∀ {w : World} {p nb : Nat}, SepL R base w (hB p [⟨idOne, 1, 0, [2]⟩] :: .blk nb 28 (idOne.map B8) :: F) → Calls Try.prog 13 #[.pointer (some ⟨p, 0, none⟩), .int .u64 29] w (Ret fun r w' => SepL R base w' (.own 55 33 r [] :: hB p [⟨idOne, 1, 0, [2]⟩] :: .blk nb 28 (idOne.map B8) :: F)) := by
    intro w p nb h
    have := late_s (now := 29) h k2 (by omega)
    rw [(a3 idOne).1, (a3 idOne).2] at this
    exact this
  have C4 : ∀ {w : World} {p nb : Nat}, SepL R base w (hB p [⟨idOne, 1, 0, [2]⟩] :: .blk nb 28 (idOne.map B8) :: F) → Calls Try.prog 13 #[.pointer (some ⟨p, 0, none⟩), .int .u64 30] w (Ret fun r w' => SepL R base w' (.own 55 33 r [idOne.map B8 ++ [.int .i64 2]] :: hB p [⟨idOne, 2, 30, []⟩] :: .blk nb 28 (idOne.map B8) :: F)) := by
    intro w p nb h
    have := late_s (now := 30) h k2 (by omega)
    rw [(a4 idOne).1, (a4 idOne).2] at this
    exact this
  have C5 : ∀ {w : World} {p nb : Nat}, SepL R base w (hB p [⟨idOne, 2, 30, []⟩] :: .blk nb 28 (idOne.map B8) :: F) → Calls Try.prog 13 #[.pointer (some ⟨p, 0, none⟩), .int .u64 60] w (Ret fun r w' => SepL R base w' (.own 55 33 r [] :: hB p [] :: .blk nb 28 (idOne.map B8) :: F)) := by
    intro w p nb h
    have := late_s (now := 60) h k4 (by omega)
    rw [(a5 idOne).1, (a5 idOne).2] at this
    exact this
  have C6 : ∀ {w : World} {p nb : Nat}, SepL R base w (hB p [] :: .blk nb 28 (idOne.map B8) :: F) → Calls Try.prog 12 #[.pointer (some ⟨p, 0, none⟩)] w (Ret fun r w' => SepL R base w' (.own 55 33 r [] :: hB p [] :: .blk nb 28 (idOne.map B8) :: F)) := by
    intro w p nb h
    exact all_s h BOk.nil
  clear k1 k2 k4
  go_enter Try.func9, Try.ntmps9
  go_wp2_with (first
    | (go_at_call 10; refine Ret.calls (new_s hS) ?_; clear hS; rintro r w ⟨p, rfl, hS⟩)
    | (show wpList _ _ _ (⟨_, .alloc 28, _, _, _, _⟩ :: _) _ _; refine wpS_alloc hS rfl rfl Try.zeroValue28 (zs := List.replicate 32 (.int .u8 0)) rfl ?_; clear hS; intro nb w hS; go_frame)
    | (show wpList _ _ _ (⟨_, .store 28 _ _, _, _, _, _⟩ :: _) _ _; (refine wpS_storeAll aggHash (hS.bring (by repeat (first | exact t0 | apply tS))) rfl rfl rfl (vs := idOne.map B8) rfl HI32.out (flat_B8 _) (by simp) ?_); clear hS; intro w hS; go_frame)
    | (show wpList _ _ _ (⟨_, .load 28 _, _, _, _, _⟩ :: _) _ _; refine wpList_val rfl (op_load aggHash rfl rfl ((hS.bring (by repeat (first | exact t0 | apply tS))).getBlk.cells) HI32.out) ?_; go_frame)
    | (go_at_call 11; with_reducible refine Ret.calls (C1 (nb := nb) (by exact hS.sel (by repeat (first | exact Sel.refl | refine Sel.take (by repeat (first | exact t0 | apply tS)) ?_ | apply Sel.drop)))) ?_; clear hS; rintro r w ⟨rfl, hS⟩)
    | (go_at_call 11; with_reducible refine Ret.calls (C2 (nb := nb) (by exact hS.sel (by repeat (first | exact Sel.refl | refine Sel.take (by repeat (first | exact t0 | apply tS)) ?_ | apply Sel.drop)))) ?_; clear hS; rintro r w ⟨rfl, hS⟩)
    | (go_at_call 13; with_reducible refine Ret.calls (C3 (nb := nb) (by exact hS.sel (by repeat (first | exact Sel.refl | refine Sel.take (by repeat (first | exact t0 | apply tS)) ?_ | apply Sel.drop)))) ?_; clear hS; rintro r1 w hS)
    | (go_at_call 13; with_reducible refine Ret.calls (C4 (nb := nb) (by exact hS.sel (by repeat (first | exact Sel.refl | refine Sel.take (by repeat (first | exact t0 | apply tS)) ?_ | apply Sel.drop)))) ?_; clear hS; rintro r2 w hS)
    | (show wpList _ _ _ (⟨some 22, .call _, _, _, _, _⟩ :: _) _ _; refine wpList_val rfl (op_len slWant rfl rfl (v := r1) (xs := []) rfl ((hS.bring (by repeat (first | exact t0 | apply tS))).getOwn.rd)) ?_; go_frame)
    )
  refine wp_region_text (by kernel_rfl) (by kernel_rfl) (by repeat (first | exact Clean.body | refine Clean.then ?_ | refine Clean.inBlock ?_)) ?_
  replace hS := hS.drew
  go_wp2_with (first
    | (show wpList _ _ _ (⟨_, .load 28 _, _, _, _, _⟩ :: _) _ _; refine wpList_val rfl (op_load aggHash rfl rfl ((hS.bring (by repeat (first | exact t0 | apply tS))).getBlk.cells) HI32.out) ?_; go_frame)
    | (go_at_call 13; with_reducible refine Ret.calls (C5 (nb := nb) (by exact hS.sel (by repeat (first | exact Sel.refl | refine Sel.take (by repeat (first | exact t0 | apply tS)) ?_ | apply Sel.drop)))) ?_; clear hS; rintro r3 w hS)
    | (go_at_call 12; with_reducible refine Ret.calls (C6 (nb := nb) (by exact hS.sel (by repeat (first | exact Sel.refl | refine Sel.take (by repeat (first | exact t0 | apply tS)) ?_ | apply Sel.drop)))) ?_; clear hS; rintro r4 w hS)
    | (show wpList _ _ _ (⟨some 28, .call _, _, _, _, _⟩ :: _) _ _; refine wpList_val rfl (op_len slWant rfl rfl (v := r2) (xs := [idOne.map B8 ++ [.int .i64 2]]) rfl ((hS.bring (by repeat (first | exact t0 | apply tS))).getOwn.rd)) ?_; go_frame)
    | (show wpList _ _ _ (⟨some 41, .call _, _, _, _, _⟩ :: _) _ _; refine wpList_val rfl (op_len slWant rfl rfl (v := r3) (xs := []) rfl ((hS.bring (by repeat (first | exact t0 | apply tS))).getOwn.rd)) ?_; go_frame)
    | (show wpList _ _ _ (⟨some 47, .call _, _, _, _, _⟩ :: _) _ _; refine wpList_val rfl (op_len slWant rfl rfl (v := r4) (xs := []) rfl ((hS.bring (by repeat (first | exact t0 | apply tS))).getOwn.rd)) ?_; go_frame)
    | (show wpList _ _ _ (⟨some 32, .indexAddr _ _ _, _, _, _, _⟩ :: _) _ _; refine wpList_val rfl (op_indexAddrZ slWant rfl (v := r2) (xs := [idOne.map B8 ++ [.int .i64 2]]) rfl rfl ((hS.bring (by repeat (first | exact t0 | apply tS))).getOwn.rd) 0 rfl (by simp)) ?_; go_frame)
    | (show wpList _ _ _ (⟨some 33, .load _ _, _, _, _, _⟩ :: _) _ _; refine wpList_val rfl (op_loadE aggWant rfl (v := r2) (k := 0) (xs := [idOne.map B8 ++ [.int .i64 2]]) rfl ((hS.bring (by repeat (first | exact t0 | apply tS))).getOwn.rd) (by simp)) ?_; rw [List.getElem_cons_zero]; go_frame)
    | (show wpList _ _ _ (⟨_, .build 55 _, _, _, _, _⟩ :: _) _ _; refine wpList_val rfl (op_build (ps := #[(0, .agg (idOne.map B8).toArray), (1, .int .i64 2)]) rfl rfl (buildWant idOne HI32.out 2) _) ?_; go_frame)
    | (show wpList _ _ _ (⟨some 36, .binOp _ _ _ _ _, _, _, _, _⟩ :: _) _ _; refine wpList_val rfl (op_eql keyWant rfl rfl rfl isKeyW1 isKeyW1) ?_; rw [eqv_self]; go_frame)
    | (refine fin_mk (by kernel_rfl) ?_)
    )
  go_ret
  exact ⟨rfl, hS.sel (by repeat (first | exact Sel.refl | refine Sel.take (by repeat (first | exact t0 | apply tS)) ?_ | apply Sel.drop))⟩
end
end Go.Proofs.Ytafpdpcbckpkjaa
