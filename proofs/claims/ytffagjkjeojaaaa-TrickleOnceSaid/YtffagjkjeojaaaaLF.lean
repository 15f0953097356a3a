/- Acts, whether they are too many, a queue behind acts, and the document's example. Conditions: those that stand ahead of each theorem. -/
import Derived.Test.YtffagjkjeojaaaaRQ
import Derived.Test.YtffagjkjeojaaaaInts
namespace Go.Proofs.Ytffagjkjeojaaaa
open Go.RowKit Go.Px
/-- what is done to a queue -/
structure PA where
  kind : Int
  ids : List Id
/-- an act's cells: its ids lie at x -/
def aC (x : Value × PA) : List Value := [I64 x.2.kind, x.1]
theorem aC_flat {x : Value × PA} (h : x.1.oneCell' = true) : ∀ v ∈ aC x, v.oneCell' = true := by
  intro v hv
  unfold aC at hv
  simp only [List.mem_cons, List.not_mem_nil, or_false] at hv
  rcases hv with rfl | rfl
  · rfl
  · exact h
structure AIn (R : Nat → Prop) (base : World) (v : Value) (l : List (Value × PA)) : Prop where
  rd : RdIn R base 2 v (l.map aC)
  at_ : ∀ x ∈ l, RdIn R base 32 x.1 (bys x.2.ids)
def greatA (L : List PA) : Bool := decide (60 < L.length) || decide (1000 < (L.map fun s => min s.ids.length 1001).sum)
def runA (q : Qu) (a : PA) : Qu := if a.kind = 0 then putQ q a.ids else if a.kind = 1 then learnQ q a.ids else if a.kind = 2 then flushQ q a.ids else q
def runs (L : List PA) : Qu := L.foldl runA ⟨[], []⟩
theorem runs_next {L : List PA} {k : Nat} (h : k < L.length) : runs (L.take (k + 1)) = runA (runs (L.take k)) L[k] := by
  unfold runs
  rw [List.take_succ_eq_append_getElem h, List.foldl_append]
  rfl
theorem run_0 {q : Qu} {a : PA} (h : a.kind = 0) : runA q a = putQ q a.ids := if_pos h
theorem run_1 {q : Qu} {a : PA} (h0 : a.kind ≠ 0) (h : a.kind = 1) : runA q a = learnQ q a.ids := (if_neg h0).trans (if_pos h)
theorem run_2 {q : Qu} {a : PA} (h0 : a.kind ≠ 0) (h1 : a.kind ≠ 1) (h : a.kind = 2) : runA q a = flushQ q a.ids := (if_neg h0).trans ((if_neg h1).trans (if_pos h))
theorem run_3 {q : Qu} {a : PA} (h0 : a.kind ≠ 0) (h1 : a.kind ≠ 1) (h : a.kind ≠ 2) : runA q a = q := (if_neg h0).trans ((if_neg h1).trans (if_neg h))
theorem QOk.run {q : Qu} {a : PA} (h : QOk q) (ha : Is32 a.ids) : QOk (runA q a) := by
  unfold runA
  split
  · exact h.put ha
  · split
    · exact h.learn ha
    · split
      · exact h.flush
      · exact h
theorem QOk.runs : ∀ {L : List PA} {q : Qu}, QOk q → (∀ a ∈ L, Is32 a.ids) → QOk (L.foldl runA q)
  | [], _, h, _ => h
  | a :: L, _, h, hL => QOk.runs (L := L) (h.run (hL a (by simp))) fun b hb => hL b (by simp [hb])
theorem le_sumN : ∀ (l : List Nat) {n : Nat}, n ∈ l → n ≤ l.sum
  | a :: l, n, h => by
    rw [List.sum_cons]
    rcases List.mem_cons.1 h with rfl | h
    · omega
    · have := le_sumN l h
      omega
theorem few_le {L : List PA} (h : greatA L = false) : L.length ≤ 60 ∧ ∀ s ∈ L, s.ids.length ≤ 1000 := by
  unfold greatA at h
  simp only [Bool.or_eq_false_iff, decide_eq_false_iff_not] at h
  refine ⟨by omega, fun s hs => ?_⟩
  have h2 := le_sumN (L.map fun s => min s.ids.length 1001) (List.mem_map.2 ⟨s, hs, rfl⟩)
  omega
theorem eqT {z : Int} {j : Int} (h : z = j) : Hid ((z == j) = true) := by unfold Hid; simp [h]
theorem eqF {z : Int} {j : Int} (h : z ≠ j) : Hid ((z == j) = false) := by unfold Hid; simp [h]
theorem sumN_take (l : List Nat) {k : Nat} (hk : k < l.length) : (l.take (k + 1)).sum = (l.take k).sum + l[k] := by
  rw [List.take_succ_eq_append_getElem hk, List.sum_append]
  simp
theorem sumN_le (l : List Nat) (k : Nat) : (l.take k).sum ≤ l.sum := by
  conv => rhs; rw [← List.take_append_drop k l]
  rw [List.sum_append]
  omega
section
variable {R : Nat → Prop} {base w : World} {F : List Hp}
set_option maxRecDepth 100000 in
set_option maxHeartbeats 4000000 in
theorem great_s (hS : SepL R base w F) {v : Value} {L : List (Value × PA)} (hv : AIn R base v L) {b : Bool} (hb : greatA (L.map (·.2)) = b) :
    Calls Try.prog 10 #[v] w (Ret fun r w' => r = .bool b ∧ SepL R base w' F) := by
  have HL : Hid ((L.map aC).length = L.length) := by simp [Hid]
  have hmax := (hS.rd hv.rd).len
  rw [HL.out] at hmax
  unfold maxLen at hmax
  unfold greatA at hb
  rw [List.length_map] at hb
  by_cases h1 : 60 < L.length
  · have HG : Hid (decide ((60 : Int) < (L.length : Int)) = true) := decide_eq_true (by omega)
    rw [decide_eq_true h1, Bool.true_or] at hb
    subst hb
    clear h1
    go_enter Try.func10, Try.ntmps10
    go_wp2_with (first
      | (show wpList _ _ _ (⟨some 7, .call _, _, _, _, _⟩ :: _) _ _; refine wpList_val rfl (op_len slAct rfl rfl (v := v) (xs := L.map aC) rfl (by exact hS.rd hv.rd)) ?_; rw [HL.out]; go_frame)
      | (show wpList _ _ _ (⟨some 8, .binOp _ _ _ _ _, _, _, _, _⟩ :: _) _ _; refine wpList_val rfl (op_igtr rfl rfl rfl HG.out) ?_; go_frame)
      | (show wpList _ _ _ (⟨some 10, .call _, _, _, _, _⟩ :: _) _ _; refine wpList_val rfl (op_len slAct rfl rfl (v := v) (xs := L.map aC) rfl (by exact hS.rd hv.rd)) ?_; rw [HL.out]; go_frame)
      )
    go_ret
    exact ⟨rfl, hS⟩
  · have HG : Hid (decide ((60 : Int) < (L.length : Int)) = false) := decide_eq_false (by omega)
    rw [decide_eq_false h1, Bool.false_or] at hb
    obtain ⟨N, hN⟩ : ∃ N, (L.map (·.2)).map (fun s => min s.ids.length 1001) = N := ⟨_, rfl⟩
    rw [hN] at hb
    have hnl : N.length = L.length := by rw [← hN, List.length_map, List.length_map]
    have HB := hide hb
    have HNN := hide hN
    have HNL := hide hnl
    clear h1 hb hN hnl
    go_enter Try.func10, Try.ntmps10
    go_wp2_with (first
      | (show wpList _ _ _ (⟨some 7, .call _, _, _, _, _⟩ :: _) _ _; refine wpList_val rfl (op_len slAct rfl rfl (v := v) (xs := L.map aC) rfl (by exact hS.rd hv.rd)) ?_; rw [HL.out]; go_frame)
      | (show wpList _ _ _ (⟨some 8, .binOp _ _ _ _ _, _, _, _, _⟩ :: _) _ _; refine wpList_val rfl (op_igtr rfl rfl rfl HG.out) ?_; go_frame)
      | (show wpList _ _ _ (⟨some 10, .call _, _, _, _, _⟩ :: _) _ _; refine wpList_val rfl (op_len slAct rfl rfl (v := v) (xs := L.map aC) rfl (by exact hS.rd hv.rd)) ?_; rw [HL.out]; go_frame)
      )
    go_loopw [3, 11] (fun nv iv wr => ∃ k s0 : Nat, iv = .int .i64 k ∧ nv = .int .i64 s0 ∧ k ≤ L.length ∧ s0 ≤ 1000 ∧ Hid ((N.take k).sum = s0) ∧ SepL R base wr F) (fun _ iv _ => L.length - (intOf iv).toNat)
    case atStart => exact ⟨0, 0, rfl, rfl, by omega, by omega, rfl, hS⟩
    case round =>
      clear hS
      obtain ⟨k, s0, rfl, rfl, hk, hs0, HS0, hS⟩ := hrel
      by_cases hlt : k < L.length
      ·
        have hlk : k < (L.map aC).length := by rw [HL.out]; exact hlt
        obtain ⟨⟨u, s⟩, hx⟩ : ∃ x, L[k] = x := ⟨_, rfl⟩
        have hxm : (u, s) ∈ L := by rw [← hx]; exact List.getElem_mem hlt
        have HX : Hid ((L.map aC)[k] = aC (u, s)) := by
          unfold Hid
          rw [List.getElem_map, hx]
        have HUR := hide (hv.at_ _ hxm)
        have HU1 := hide (hS.rd HUR.out).one1
        have HUF := hide (aC_flat (x := (u, s)) HU1.out)
        have hnk : k < N.length := by rw [HNL.out]; exact hlt
        have HBN : Hid ((bys s.ids).length = s.ids.length) := bys_length _
        obtain ⟨q, hq⟩ : ∃ q, min s.ids.length 1001 = q := ⟨_, rfl⟩
        have HQ := hide hq
        have hq1 : q ≤ 1001 := by omega
        have hnq : N[k] = q := by
          simp only [← HNN.out, List.getElem_map, hx]
          exact hq
        obtain ⟨s1, hs1⟩ : ∃ s, s0 + q = s := ⟨_, rfl⟩
        have hst := sumN_take N hnk
        rw [HS0.out, hnq, hs1] at hst
        by_cases hg : 1000 < s1
        · have HG5 : Hid (decide ((1000 : Int) < (s1 : Int)) = true) := decide_eq_true (by omega)
          have hbt : b = true := by
            rw [← HB.out, decide_eq_true_eq]
            have := sumN_le N (k + 1)
            omega
          subst hbt
          clear hx hxm hq hnq hst hnk hg
          go_wp2_with (first
            | (show wpList _ _ _ (⟨some 13, .indexAddr _ _ _, _, _, _, _⟩ :: _) _ _; refine wpList_val rfl (op_indexAddr slAct rfl (v := v) (xs := L.map aC) rfl (k := k) rfl (by exact hS.rd hv.rd) hlk) ?_; go_frame)
            | (show wpList _ _ _ (⟨some 14, .load _ _, _, _, _, _⟩ :: _) _ _; refine wpList_val rfl (op_loadE aggAct rfl (v := v) (xs := L.map aC) (k := k) rfl (by exact hS.rd hv.rd) hlk) ?_; rw [HX.out]; go_frame)
            | (show wpList _ _ _ (⟨_, .alloc 33, _, _, _, _⟩ :: _) _ _; refine wpS_alloc hS rfl rfl Try.zeroValue33 (zs := [.int .i64 0, .slice none 0 0]) rfl ?_; clear hS; intro nb w hS; go_frame)
            | (show wpList _ _ _ (⟨_, .store 33 _ _, _, _, _, _⟩ :: _) _ _; (refine wpS_storeAll (b := nb) aggAct (hS.bring (by repeat (first | exact t0 | apply tS))) rfl rfl rfl (vs := aC (u, s)) rfl rfl HUF.out rfl ?_); clear hS; intro w hS; go_frame)
            | (show wpList _ _ _ (⟨some 17, .load _ _, _, _, _, _⟩ :: _) _ _; refine wpList_val rfl (op_load1S (b := nb) (T := 33) oneHashes ((hS.bring (by repeat (first | exact t0 | apply tS)))) rfl rfl rfl) ?_; go_frame)
            | (show wpList _ _ _ (⟨some 18, .call _, _, _, _, _⟩ :: _) _ _; refine wpList_val rfl (op_len slHash rfl rfl (v := u) (xs := bys s.ids) rfl (hS.rd HUR.out)) ?_; rw [HBN.out]; go_frame)
            | (show wpList _ _ _ (⟨some 19, .call _, _, _, _, _⟩ :: _) _ _; refine wpList_val rfl (op_minN (b := 1001) rfl rfl rfl) ?_; rw [HQ.out]; go_frame)
            | (show wpList _ _ _ (⟨some 20, .binOp _ _ _ _ _, _, _, _, _⟩ :: _) _ _; refine wpList_val rfl (op_iaddN rfl rfl rfl s1 (by omega) (by omega)) ?_; go_frame)
            | (show wpList _ _ _ (⟨some 22, .binOp _ _ _ _ _, _, _, _, _⟩ :: _) _ _; refine wpList_val rfl (op_igtr rfl rfl rfl HG5.out) ?_; go_frame)
            )
          go_ret
          exact ⟨rfl, hS.sel (by repeat (first | exact Sel.refl | refine Sel.take (by repeat (first | exact t0 | apply tS)) ?_ | apply Sel.drop))⟩
        · have HG5 : Hid (decide ((1000 : Int) < (s1 : Int)) = false) := decide_eq_false (by omega)
          have hs15 : s1 ≤ 1000 := by omega
          have HST := hide hst
          clear hx hxm hq hnq hst hnk hg
          go_wp2_with (first
            | (show wpList _ _ _ (⟨some 13, .indexAddr _ _ _, _, _, _, _⟩ :: _) _ _; refine wpList_val rfl (op_indexAddr slAct rfl (v := v) (xs := L.map aC) rfl (k := k) rfl (by exact hS.rd hv.rd) hlk) ?_; go_frame)
            | (show wpList _ _ _ (⟨some 14, .load _ _, _, _, _, _⟩ :: _) _ _; refine wpList_val rfl (op_loadE aggAct rfl (v := v) (xs := L.map aC) (k := k) rfl (by exact hS.rd hv.rd) hlk) ?_; rw [HX.out]; go_frame)
            | (show wpList _ _ _ (⟨_, .alloc 33, _, _, _, _⟩ :: _) _ _; refine wpS_alloc hS rfl rfl Try.zeroValue33 (zs := [.int .i64 0, .slice none 0 0]) rfl ?_; clear hS; intro nb w hS; go_frame)
            | (show wpList _ _ _ (⟨_, .store 33 _ _, _, _, _, _⟩ :: _) _ _; (refine wpS_storeAll (b := nb) aggAct (hS.bring (by repeat (first | exact t0 | apply tS))) rfl rfl rfl (vs := aC (u, s)) rfl rfl HUF.out rfl ?_); clear hS; intro w hS; go_frame)
            | (show wpList _ _ _ (⟨some 17, .load _ _, _, _, _, _⟩ :: _) _ _; refine wpList_val rfl (op_load1S (b := nb) (T := 33) oneHashes ((hS.bring (by repeat (first | exact t0 | apply tS)))) rfl rfl rfl) ?_; go_frame)
            | (show wpList _ _ _ (⟨some 18, .call _, _, _, _, _⟩ :: _) _ _; refine wpList_val rfl (op_len slHash rfl rfl (v := u) (xs := bys s.ids) rfl (hS.rd HUR.out)) ?_; rw [HBN.out]; go_frame)
            | (show wpList _ _ _ (⟨some 19, .call _, _, _, _, _⟩ :: _) _ _; refine wpList_val rfl (op_minN (b := 1001) rfl rfl rfl) ?_; rw [HQ.out]; go_frame)
            | (show wpList _ _ _ (⟨some 20, .binOp _ _ _ _ _, _, _, _, _⟩ :: _) _ _; refine wpList_val rfl (op_iaddN rfl rfl rfl s1 (by omega) (by omega)) ?_; go_frame)
            | (show wpList _ _ _ (⟨some 22, .binOp _ _ _ _ _, _, _, _, _⟩ :: _) _ _; refine wpList_val rfl (op_igtr rfl rfl rfl HG5.out) ?_; go_frame)
            )
          go_roundw
          case rel => exact ⟨k + 1, s1, by go_num, rfl, by omega, hs15, HST, hS.sel (by repeat (first | exact Sel.refl | refine Sel.take (by repeat (first | exact t0 | apply tS)) ?_ | apply Sel.drop))⟩
          case measure => simp [intOf]; omega
      · have hk2 : k = L.length := by omega
        subst hk2
        have hs := HS0.out
        rw [List.take_of_length_le (by rw [HNL.out]; exact Nat.le_refl _)] at hs
        have hbf : b = false := by
          rw [← HB.out, decide_eq_false_iff_not]
          omega
        subst hbf
        go_wp2_with fail
        go_ret
        exact ⟨rfl, hS⟩
set_option maxRecDepth 100000 in
set_option maxHeartbeats 4000000 in
theorem grown_s (hS : SepL R base w F) {v : Value} {L : List (Value × PA)} (hv : AIn R base v L) (h32 : ∀ x ∈ L, Is32 x.2.ids) (hg : greatA (L.map (·.2)) = false) :
    Calls Try.prog 24 #[v] w (Ret fun r w' => ∃ p, r = .pointer (some ⟨p, 0, none⟩) ∧ SepL R base w' (hQ p (runs (L.map (·.2))) :: F)) := by
  have HL : Hid ((L.map aC).length = L.length) := by simp [Hid]
  have hfw := few_le hg
  rw [List.length_map] at hfw
  have hll := hfw.1
  have HFW := hide hfw.2
  have H32 := hide h32
  obtain ⟨T, hT⟩ : ∃ T, L.map (·.2) = T := ⟨_, rfl⟩
  have HTL : Hid (T.length = L.length) := by unfold Hid; rw [← hT, List.length_map]
  have HT := hide hT
  rw [hT]
  have HTK : Hid (∀ a ∈ T, Is32 a.ids) := by
    intro a ha
    rw [← hT] at ha
    obtain ⟨x, hx, rfl⟩ := List.mem_map.1 ha
    exact h32 x hx
  clear hg hfw h32 hT
  go_enter Try.func24, Try.ntmps24
  go_wp2_with (first
    | (go_at_call 11; refine Ret.calls (qnew_s hS) ?_; clear hS; rintro r w ⟨p, rfl, hS⟩)
    | (show wpList _ _ _ (⟨some 8, .call _, _, _, _, _⟩ :: _) _ _; refine wpList_val rfl (op_len slAct rfl rfl (v := v) (xs := L.map aC) rfl (by exact hS.rd hv.rd)) ?_; rw [HL.out]; go_frame)
    )
  go_loopw [9] (fun iv wr => ∃ k : Nat, iv = .int .i64 k ∧ k ≤ L.length ∧ SepL R base wr (hQ p (runs (T.take k)) :: F)) (fun iv _ => L.length - (intOf iv).toNat)
  case atStart => exact ⟨0, rfl, by omega, hS⟩
  case round =>
    clear hS
    obtain ⟨k, rfl, hk, hS⟩ := hrel
    by_cases hlt : k < L.length
    · have hkt : k < T.length := by rw [HTL.out]; exact hlt
      have hlk : k < (L.map aC).length := by rw [HL.out]; exact hlt
      obtain ⟨⟨u, s⟩, hx⟩ : ∃ x, L[k] = x := ⟨_, rfl⟩
      have hxm : (u, s) ∈ L := by rw [← hx]; exact List.getElem_mem hlt
      have HX : Hid ((L.map aC)[k] = aC (u, s)) := by
        unfold Hid
        rw [List.getElem_map, hx]
      have HUR := hide (hv.at_ _ hxm)
      have HU1 := hide (hS.rd HUR.out).one1
      have HUF := hide (aC_flat (x := (u, s)) HU1.out)
      have hsk : T[k] = s := by simp only [← HT.out, List.getElem_map, hx]
      have HS32 := hide (H32.out _ hxm)
      have HFEW : Hid (s.ids.length ≤ 100000) := by
        have := HFW.out s (List.mem_map.2 ⟨(u, s), hxm, rfl⟩)
        unfold Hid
        omega
      have hqo : QOk (runs (T.take k)) := QOk.nil.runs fun a ha => HTK.out a (List.mem_of_mem_take ha)
      have hsn := runs_next hkt
      rw [hsk] at hsn
      obtain ⟨q, hq⟩ : ∃ q, runs (T.take k) = q := ⟨_, rfl⟩
      rw [hq] at hS hqo hsn
      have HQO := hide hqo
      have HSN := hide hsn
      clear hx hxm hsk hqo hsn hq hkt
      by_cases h0 : s.kind = 0
      · have HK0 := eqT h0
        have HRA := hide (run_0 (q := q) h0)
        clear h0
        go_wp2_with (first
          | (show wpList _ _ _ (⟨some 11, .indexAddr _ _ _, _, _, _, _⟩ :: _) _ _; refine wpList_val rfl (op_indexAddr slAct rfl (v := v) (xs := L.map aC) rfl (k := k) rfl (by exact hS.rd hv.rd) hlk) ?_; go_frame)
          | (show wpList _ _ _ (⟨some 12, .load _ _, _, _, _, _⟩ :: _) _ _; refine wpList_val rfl (op_loadE aggAct rfl (v := v) (xs := L.map aC) (k := k) rfl (by exact hS.rd hv.rd) hlk) ?_; rw [HX.out]; go_frame)
          | (show wpList _ _ _ (⟨_, .alloc 33, _, _, _, _⟩ :: _) _ _; refine wpS_alloc hS rfl rfl Try.zeroValue33 (zs := [.int .i64 0, .slice none 0 0]) rfl ?_; clear hS; intro nb w hS; go_frame)
          | (show wpList _ _ _ (⟨_, .store 33 _ _, _, _, _, _⟩ :: _) _ _; (refine wpS_storeAll (b := nb) aggAct (hS.bring (by repeat (first | exact t0 | apply tS))) rfl rfl rfl (vs := aC (u, s)) rfl rfl HUF.out rfl ?_); clear hS; intro w hS; go_frame)
          | (show wpList _ _ _ (⟨_, .load 3 _, _, _, _, _⟩ :: _) _ _; refine wpList_val rfl (op_load1S (b := nb) (T := 33) oneInt ((hS.bring (by repeat (first | exact t0 | apply tS)))) rfl rfl rfl) ?_; go_frame)
          | (show wpList _ _ _ (⟨_, .load 31 _, _, _, _, _⟩ :: _) _ _; refine wpList_val rfl (op_load1S (b := nb) (T := 33) oneHashes ((hS.bring (by repeat (first | exact t0 | apply tS)))) rfl rfl rfl) ?_; go_frame)
          | (show wpList _ _ _ (⟨some 16, .binOp _ _ _ _ _, _, _, _, _⟩ :: _) _ _; refine wpList_val rfl (op_eqI' rfl rfl rfl HK0.out) ?_; go_frame)
          | (show wpList _ _ _ (⟨some 22, .binOp _ _ _ _ _, _, _, _, _⟩ :: _) _ _; refine wpList_val rfl (op_eqI' rfl rfl rfl HK1.out) ?_; go_frame)
          | (show wpList _ _ _ (⟨some 28, .binOp _ _ _ _ _, _, _, _, _⟩ :: _) _ _; refine wpList_val rfl (op_eqI' rfl rfl rfl HK2.out) ?_; go_frame)
          | (go_at_call 13; (refine Ret.calls (qput_s (p := p) (q0 := q) (hS.bring (by repeat (first | exact t0 | apply tS))) HQO.out HUR.out HS32.out) ?_); clear hS; rintro r1 w hS)
          | (go_at_call 15; (refine Ret.calls (qlearn_s (p := p) (q := q) (hS.bring (by repeat (first | exact t0 | apply tS))) HQO.out HUR.out HS32.out HFEW.out) ?_); clear hS; rintro r1 w hS)
          | (go_at_call 18; (refine Ret.calls (qflush_s (p := p) (q := q) (hS.bring (by repeat (first | exact t0 | apply tS))) HQO.out HUR.out HS32.out) ?_); clear hS; rintro r1 w hS)
          )
        go_roundw
        case rel =>
          refine ⟨k + 1, by go_num, by omega, ?_⟩
          rw [HSN.out, HRA.out]
          exact hS.sel (by repeat (first | exact Sel.refl | refine Sel.take (by repeat (first | exact t0 | apply tS)) ?_ | apply Sel.drop))
        case measure => simp [intOf]; omega
      · have HK0 := eqF h0
        by_cases h1 : s.kind = 1
        · have HK1 := eqT h1
          have HRA := hide (run_1 (q := q) h0 h1)
          clear h0 h1
          go_wp2_with (first
            | (show wpList _ _ _ (⟨some 11, .indexAddr _ _ _, _, _, _, _⟩ :: _) _ _; refine wpList_val rfl (op_indexAddr slAct rfl (v := v) (xs := L.map aC) rfl (k := k) rfl (by exact hS.rd hv.rd) hlk) ?_; go_frame)
            | (show wpList _ _ _ (⟨some 12, .load _ _, _, _, _, _⟩ :: _) _ _; refine wpList_val rfl (op_loadE aggAct rfl (v := v) (xs := L.map aC) (k := k) rfl (by exact hS.rd hv.rd) hlk) ?_; rw [HX.out]; go_frame)
            | (show wpList _ _ _ (⟨_, .alloc 33, _, _, _, _⟩ :: _) _ _; refine wpS_alloc hS rfl rfl Try.zeroValue33 (zs := [.int .i64 0, .slice none 0 0]) rfl ?_; clear hS; intro nb w hS; go_frame)
            | (show wpList _ _ _ (⟨_, .store 33 _ _, _, _, _, _⟩ :: _) _ _; (refine wpS_storeAll (b := nb) aggAct (hS.bring (by repeat (first | exact t0 | apply tS))) rfl rfl rfl (vs := aC (u, s)) rfl rfl HUF.out rfl ?_); clear hS; intro w hS; go_frame)
            | (show wpList _ _ _ (⟨_, .load 3 _, _, _, _, _⟩ :: _) _ _; refine wpList_val rfl (op_load1S (b := nb) (T := 33) oneInt ((hS.bring (by repeat (first | exact t0 | apply tS)))) rfl rfl rfl) ?_; go_frame)
            | (show wpList _ _ _ (⟨_, .load 31 _, _, _, _, _⟩ :: _) _ _; refine wpList_val rfl (op_load1S (b := nb) (T := 33) oneHashes ((hS.bring (by repeat (first | exact t0 | apply tS)))) rfl rfl rfl) ?_; go_frame)
            | (show wpList _ _ _ (⟨some 16, .binOp _ _ _ _ _, _, _, _, _⟩ :: _) _ _; refine wpList_val rfl (op_eqI' rfl rfl rfl HK0.out) ?_; go_frame)
            | (show wpList _ _ _ (⟨some 22, .binOp _ _ _ _ _, _, _, _, _⟩ :: _) _ _; refine wpList_val rfl (op_eqI' rfl rfl rfl HK1.out) ?_; go_frame)
            | (show wpList _ _ _ (⟨some 28, .binOp _ _ _ _ _, _, _, _, _⟩ :: _) _ _; refine wpList_val rfl (op_eqI' rfl rfl rfl HK2.out) ?_; go_frame)
            | (go_at_call 13; (refine Ret.calls (qput_s (p := p) (q0 := q) (hS.bring (by repeat (first | exact t0 | apply tS))) HQO.out HUR.out HS32.out) ?_); clear hS; rintro r1 w hS)
            | (go_at_call 15; (refine Ret.calls (qlearn_s (p := p) (q := q) (hS.bring (by repeat (first | exact t0 | apply tS))) HQO.out HUR.out HS32.out HFEW.out) ?_); clear hS; rintro r1 w hS)
            | (go_at_call 18; (refine Ret.calls (qflush_s (p := p) (q := q) (hS.bring (by repeat (first | exact t0 | apply tS))) HQO.out HUR.out HS32.out) ?_); clear hS; rintro r1 w hS)
            )
          go_roundw
          case rel =>
            refine ⟨k + 1, by go_num, by omega, ?_⟩
            rw [HSN.out, HRA.out]
            exact hS.sel (by repeat (first | exact Sel.refl | refine Sel.take (by repeat (first | exact t0 | apply tS)) ?_ | apply Sel.drop))
          case measure => simp [intOf]; omega
        · have HK1 := eqF h1
          by_cases h2 : s.kind = 2
          · have HK2 := eqT h2
            have HRA := hide (run_2 (q := q) h0 h1 h2)
            clear h0 h1 h2
            go_wp2_with (first
              | (show wpList _ _ _ (⟨some 11, .indexAddr _ _ _, _, _, _, _⟩ :: _) _ _; refine wpList_val rfl (op_indexAddr slAct rfl (v := v) (xs := L.map aC) rfl (k := k) rfl (by exact hS.rd hv.rd) hlk) ?_; go_frame)
              | (show wpList _ _ _ (⟨some 12, .load _ _, _, _, _, _⟩ :: _) _ _; refine wpList_val rfl (op_loadE aggAct rfl (v := v) (xs := L.map aC) (k := k) rfl (by exact hS.rd hv.rd) hlk) ?_; rw [HX.out]; go_frame)
              | (show wpList _ _ _ (⟨_, .alloc 33, _, _, _, _⟩ :: _) _ _; refine wpS_alloc hS rfl rfl Try.zeroValue33 (zs := [.int .i64 0, .slice none 0 0]) rfl ?_; clear hS; intro nb w hS; go_frame)
              | (show wpList _ _ _ (⟨_, .store 33 _ _, _, _, _, _⟩ :: _) _ _; (refine wpS_storeAll (b := nb) aggAct (hS.bring (by repeat (first | exact t0 | apply tS))) rfl rfl rfl (vs := aC (u, s)) rfl rfl HUF.out rfl ?_); clear hS; intro w hS; go_frame)
              | (show wpList _ _ _ (⟨_, .load 3 _, _, _, _, _⟩ :: _) _ _; refine wpList_val rfl (op_load1S (b := nb) (T := 33) oneInt ((hS.bring (by repeat (first | exact t0 | apply tS)))) rfl rfl rfl) ?_; go_frame)
              | (show wpList _ _ _ (⟨_, .load 31 _, _, _, _, _⟩ :: _) _ _; refine wpList_val rfl (op_load1S (b := nb) (T := 33) oneHashes ((hS.bring (by repeat (first | exact t0 | apply tS)))) rfl rfl rfl) ?_; go_frame)
              | (show wpList _ _ _ (⟨some 16, .binOp _ _ _ _ _, _, _, _, _⟩ :: _) _ _; refine wpList_val rfl (op_eqI' rfl rfl rfl HK0.out) ?_; go_frame)
              | (show wpList _ _ _ (⟨some 22, .binOp _ _ _ _ _, _, _, _, _⟩ :: _) _ _; refine wpList_val rfl (op_eqI' rfl rfl rfl HK1.out) ?_; go_frame)
              | (show wpList _ _ _ (⟨some 28, .binOp _ _ _ _ _, _, _, _, _⟩ :: _) _ _; refine wpList_val rfl (op_eqI' rfl rfl rfl HK2.out) ?_; go_frame)
              | (go_at_call 13; (refine Ret.calls (qput_s (p := p) (q0 := q) (hS.bring (by repeat (first | exact t0 | apply tS))) HQO.out HUR.out HS32.out) ?_); clear hS; rintro r1 w hS)
              | (go_at_call 15; (refine Ret.calls (qlearn_s (p := p) (q := q) (hS.bring (by repeat (first | exact t0 | apply tS))) HQO.out HUR.out HS32.out HFEW.out) ?_); clear hS; rintro r1 w hS)
              | (go_at_call 18; (refine Ret.calls (qflush_s (p := p) (q := q) (hS.bring (by repeat (first | exact t0 | apply tS))) HQO.out HUR.out HS32.out) ?_); clear hS; rintro r1 w hS)
              )
            go_roundw
            case rel =>
              refine ⟨k + 1, by go_num, by omega, ?_⟩
              rw [HSN.out, HRA.out]
              exact hS.sel (by repeat (first | exact Sel.refl | refine Sel.take (by repeat (first | exact t0 | apply tS)) ?_ | apply Sel.drop))
            case measure => simp [intOf]; omega
          · have HK2 := eqF h2
            have HRA := hide (run_3 (q := q) h0 h1 h2)
            clear h0 h1 h2
            go_wp2_with (first
              | (show wpList _ _ _ (⟨some 11, .indexAddr _ _ _, _, _, _, _⟩ :: _) _ _; refine wpList_val rfl (op_indexAddr slAct rfl (v := v) (xs := L.map aC) rfl (k := k) rfl (by exact hS.rd hv.rd) hlk) ?_; go_frame)
              | (show wpList _ _ _ (⟨some 12, .load _ _, _, _, _, _⟩ :: _) _ _; refine wpList_val rfl (op_loadE aggAct rfl (v := v) (xs := L.map aC) (k := k) rfl (by exact hS.rd hv.rd) hlk) ?_; rw [HX.out]; go_frame)
              | (show wpList _ _ _ (⟨_, .alloc 33, _, _, _, _⟩ :: _) _ _; refine wpS_alloc hS rfl rfl Try.zeroValue33 (zs := [.int .i64 0, .slice none 0 0]) rfl ?_; clear hS; intro nb w hS; go_frame)
              | (show wpList _ _ _ (⟨_, .store 33 _ _, _, _, _, _⟩ :: _) _ _; (refine wpS_storeAll (b := nb) aggAct (hS.bring (by repeat (first | exact t0 | apply tS))) rfl rfl rfl (vs := aC (u, s)) rfl rfl HUF.out rfl ?_); clear hS; intro w hS; go_frame)
              | (show wpList _ _ _ (⟨_, .load 3 _, _, _, _, _⟩ :: _) _ _; refine wpList_val rfl (op_load1S (b := nb) (T := 33) oneInt ((hS.bring (by repeat (first | exact t0 | apply tS)))) rfl rfl rfl) ?_; go_frame)
              | (show wpList _ _ _ (⟨_, .load 31 _, _, _, _, _⟩ :: _) _ _; refine wpList_val rfl (op_load1S (b := nb) (T := 33) oneHashes ((hS.bring (by repeat (first | exact t0 | apply tS)))) rfl rfl rfl) ?_; go_frame)
              | (show wpList _ _ _ (⟨some 16, .binOp _ _ _ _ _, _, _, _, _⟩ :: _) _ _; refine wpList_val rfl (op_eqI' rfl rfl rfl HK0.out) ?_; go_frame)
              | (show wpList _ _ _ (⟨some 22, .binOp _ _ _ _ _, _, _, _, _⟩ :: _) _ _; refine wpList_val rfl (op_eqI' rfl rfl rfl HK1.out) ?_; go_frame)
              | (show wpList _ _ _ (⟨some 28, .binOp _ _ _ _ _, _, _, _, _⟩ :: _) _ _; refine wpList_val rfl (op_eqI' rfl rfl rfl HK2.out) ?_; go_frame)
              | (go_at_call 13; (refine Ret.calls (qput_s (p := p) (q0 := q) (hS.bring (by repeat (first | exact t0 | apply tS))) HQO.out HUR.out HS32.out) ?_); clear hS; rintro r1 w hS)
              | (go_at_call 15; (refine Ret.calls (qlearn_s (p := p) (q := q) (hS.bring (by repeat (first | exact t0 | apply tS))) HQO.out HUR.out HS32.out HFEW.out) ?_); clear hS; rintro r1 w hS)
              | (go_at_call 18; (refine Ret.calls (qflush_s (p := p) (q := q) (hS.bring (by repeat (first | exact t0 | apply tS))) HQO.out HUR.out HS32.out) ?_); clear hS; rintro r1 w hS)
              )
            go_roundw
            case rel =>
              refine ⟨k + 1, by go_num, by omega, ?_⟩
              rw [HSN.out, HRA.out]
              exact hS.sel (by repeat (first | exact Sel.refl | refine Sel.take (by repeat (first | exact t0 | apply tS)) ?_ | apply Sel.drop))
            case measure => simp [intOf]; omega
    · have hk2 : k = L.length := by omega
      rw [hk2, ← HTL.out, List.take_length] at hS
      go_wp2_with fail
      go_ret
      exact ⟨p, rfl, hS⟩
end
end Go.Proofs.Ytffagjkjeojaaaa
