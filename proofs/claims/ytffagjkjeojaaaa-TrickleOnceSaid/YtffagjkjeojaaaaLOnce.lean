/- Of so few ids that all can be remembered none is told twice, nor to who told it: the law returns true. Conditions: those that stand ahead of each theorem. -/
import Derived.Test.YtffagjkjeojaaaaLAl
namespace Go.Proofs.Ytffagjkjeojaaaa
open Go.RowKit Go.Px
/-- one more of the ids that are put or learned, each once -/
def addO (A : List Id) (x : Id) : List Id := if x ∈ A then A else A ++ [x]
def allA (A : List Id) (a : PA) : List Id := if a.kind < 2 then a.ids.foldl addO A else A
def alls (T : List PA) : List Id := T.foldl allA []
theorem addO_mem {A : List Id} {x y : Id} (h : y ∈ A ∨ y = x) : y ∈ addO A x := by
  unfold addO
  split
  · rename_i hx
    rcases h with h | h
    · exact h
    · rw [h]; exact hx
  · simpa using h
theorem addOs_mem : ∀ {l A : List Id} {y : Id}, (y ∈ A ∨ y ∈ l) → y ∈ l.foldl addO A
  | [], _, _, h => h.elim id fun h => by cases h
  | x :: l, A, y, h => addOs_mem (l := l) (by
      rcases h with h | h
      · exact .inl (addO_mem (.inl h))
      · rcases List.mem_cons.1 h with h | h
        · exact .inl (addO_mem (.inr h))
        · exact .inr h)
theorem addO_32 {A : List Id} {x : Id} (h : Is32 A) (hx : x.length = 32) : Is32 (addO A x) := by
  unfold addO
  split
  · exact h
  · exact h.app (is32_1 hx)
theorem alls_next {T : List PA} {k : Nat} (h : k < T.length) : alls (T.take (k + 1)) = allA (alls (T.take k)) T[k] := by
  unfold alls
  rw [List.take_succ_eq_append_getElem h, List.foldl_append]
  rfl
theorem allA_mem {A : List Id} {a : PA} {y : Id} (h : y ∈ A ∨ (a.kind < 2 ∧ y ∈ a.ids)) : y ∈ allA A a := by
  unfold allA
  split
  · exact addOs_mem (h.imp id fun h => h.2)
  · rename_i hk
    rcases h with h | h
    · exact h
    · exact absurd h.1 hk
theorem alls_mem : ∀ {T : List PA} {A : List Id} {y : Id}, (y ∈ A ∨ ∃ a ∈ T, a.kind < 2 ∧ y ∈ a.ids) → y ∈ T.foldl allA A
  | [], _, _, h => h.elim id fun ⟨_, h, _⟩ => by cases h
  | a :: T, A, y, h => alls_mem (T := T) (by
      rcases h with h | ⟨b, hb, h1, h2⟩
      · exact .inl (allA_mem (.inl h))
      · rcases List.mem_cons.1 hb with rfl | hb
        · exact .inl (allA_mem (.inr ⟨h1, h2⟩))
        · exact .inr ⟨b, hb, h1, h2⟩)
/-- what holds of a queue whose ids are few, and of those that were learned or told -/
structure OnceOk (A : List Id) (q : Qu) (Z : List Id) : Prop where
  kn : ∀ x ∈ q.known, x ∈ A
  wt : ∀ x ∈ q.waits, x ∈ A
  zk : ∀ x ∈ Z, x ∈ q.known
theorem OnceOk.start (A : List Id) : OnceOk A ⟨[], []⟩ [] := ⟨by simp, by simp, by simp⟩
theorem OnceOk.put1 {A : List Id} {q : Qu} {Z : List Id} {x : Id} (h : OnceOk A q Z) (hx : x ∈ A) : OnceOk A (put1 q x) Z := by
  unfold Go.Proofs.Ytffagjkjeojaaaa.put1
  split
  · exact h
  · refine ⟨h.kn, fun y hy => ?_, h.zk⟩
    rcases List.mem_append.1 ((last64_sub _).subset hy) with h1 | h1
    · exact h.wt y ((outId_sub x q.waits).subset h1)
    · rw [List.mem_singleton.1 h1]; exact hx
theorem OnceOk.put {A Z : List Id} : ∀ {l : List Id} {q : Qu}, OnceOk A q Z → (∀ x ∈ l, x ∈ A) → OnceOk A (putQ q l) Z
  | [], _, h, _ => h
  | x :: l, _, h, hl => OnceOk.put (l := l) (h.put1 (hl x (by simp))) fun y hy => hl y (by simp [hy])
theorem OnceOk.learn {A Z l : List Id} {q : Qu} (hA : A.length ≤ 64) (ok : QOk q) (h : OnceOk A q Z) (hl : ∀ x ∈ l, x ∈ A) : OnceOk A (learnQ q l) (Z ++ l) := by
  refine ⟨fun x hx => ?_, fun x hx => h.wt x ((outIds_sub l q.waits).subset hx), fun x hx => ?_⟩
  · rcases mem_adds hx with h1 | h1
    · exact h.kn x h1
    · exact hl x h1
  · refine adds_keep hA ok.kn h.kn hl x ?_
    rcases List.mem_append.1 hx with h1 | h1
    · exact .inl (h.zk x h1)
    · exact .inr h1
theorem OnceOk.flush {A Z live : List Id} {q : Qu} (hA : A.length ≤ 64) (ok : QOk q) (h : OnceOk A q Z) : OnceOk A (flushQ q live) (Z ++ told q live) := by
  have hs := told_sub q live
  have hl : ∀ x ∈ told q live, x ∈ A := fun x hx => h.wt x (((List.sublist_append_left _ _).trans hs).subset hx)
  refine ⟨fun x hx => ?_, fun x hx => h.wt x (((List.sublist_append_right _ _).trans hs).subset hx), fun x hx => ?_⟩
  · rcases mem_adds hx with h1 | h1
    · exact h.kn x h1
    · exact hl x h1
  · refine adds_keep hA ok.kn h.kn hl x ?_
    rcases List.mem_append.1 hx with h1 | h1
    · exact .inl (h.zk x h1)
    · exact .inr h1
/-- what is told now wasn't told or learned, and is told once -/
theorem told_new {A Z live : List Id} {q : Qu} (ok : QOk q) (h : OnceOk A q Z) {j : Nat} (hj : j < (told q live).length) : (told q live)[j] ∉ Z ++ (told q live).take j := by
  have hs := (List.sublist_append_left _ _).trans (told_sub q live)
  intro hx
  rcases List.mem_append.1 hx with h1 | h1
  · exact ok.apart _ (hs.subset (List.getElem_mem hj)) (h.zk _ h1)
  · have hn := ok.wn.sublist hs
    rw [← List.take_append_drop j (told q live), List.drop_eq_getElem_cons hj] at hn
    exact (List.nodup_append.1 hn).2.2 _ h1 _ List.mem_cons_self rfl
def accJ (A : List Id) (s : PA) (j : Nat) : List Id := if s.kind < 2 then (s.ids.take j).foldl addO A else A
theorem accJ_zero (A : List Id) (s : PA) : accJ A s 0 = A := by
  unfold accJ
  split <;> rfl
theorem accJ_all (A : List Id) (s : PA) : accJ A s s.ids.length = allA A s := by
  unfold accJ allA
  rw [List.take_length]
theorem accJ_lo {A : List Id} {s : PA} {j : Nat} (h : j < s.ids.length) (hk : s.kind < 2) : accJ A s (j + 1) = addO (accJ A s j) s.ids[j] := by
  unfold accJ
  rw [if_pos hk, if_pos hk, List.take_succ_eq_append_getElem h, List.foldl_append]
  rfl
theorem accJ_hi {A : List Id} {s : PA} {j : Nat} (hk : ¬ s.kind < 2) : accJ A s (j + 1) = accJ A s j := by
  unfold accJ
  rw [if_neg hk, if_neg hk]
set_option maxRecDepth 100000 in
set_option maxHeartbeats 8000000 in
theorem trickleOnce_w {W : World} {v : Value} {L : List (Value × PA)} (hv : AIn All W v L) (h32 : ∀ x ∈ L, Is32 x.2.ids) :
    Calls Try.prog 6 #[v] W (Ret fun r w' => r = .bool true ∧ Chg No W w') := by
  have hS := SepL.start W
  have HL : Hid ((L.map aC).length = L.length) := by simp [Hid]
  have H32 := hide h32
  cases hg : greatA (L.map (·.2)) with
  | true =>
    have HGR := hide hg
    clear hg h32
    go_enter Try.func6, Try.ntmps6
    go_wp2_with (first
      | go_big_skip
      | (go_at_call 9; refine Ret.calls (alive_s hS) ?_; clear hS; rintro r w ⟨rfl, hS⟩)
      | (go_at_call 10; refine Ret.calls (great_s hS hv HGR.out) ?_; clear hS; rintro r w ⟨rfl, hS⟩)
      )
    go_ret
    exact ⟨rfl, hS.chg⟩
  | false =>
    have HGR := hide hg
    have hfw := few_le hg
    rw [List.length_map] at hfw
    have hll := hfw.1
    have HFW := hide hfw.2
    obtain ⟨T, hT⟩ : ∃ T, L.map (·.2) = T := ⟨_, rfl⟩
    have HTL : Hid (T.length = L.length) := by unfold Hid; rw [← hT, List.length_map]
    have HT := hide hT
    have HTK : Hid (∀ a ∈ T, Is32 a.ids) := by
      intro a ha
      rw [← hT] at ha
      obtain ⟨x, hx, rfl⟩ := List.mem_map.1 ha
      exact h32 x hx
    clear hg hfw h32 hT
    go_enter Try.func6, Try.ntmps6
    go_wp2_with (first
      | go_big_skip
      | (go_at_call 9; refine Ret.calls (alive_s hS) ?_; clear hS; rintro r w ⟨rfl, hS⟩)
      | (go_at_call 10; refine Ret.calls (great_s hS hv HGR.out) ?_; clear hS; rintro r w ⟨rfl, hS⟩)
      | (show wpList _ _ _ (⟨some 19, .call _, _, _, _, _⟩ :: _) _ _; refine wpList_val rfl (op_len slAct rfl rfl (v := v) (xs := L.map aC) rfl (by exact hS.rd hv.rd)) ?_; rw [HL.out]; go_frame)
      )
    go_loopw [3, 20] (fun av iv wr => ∃ (k : Nat) (A : List Id), iv = .int .i64 k ∧ k ≤ L.length ∧ A.length ≤ 1000 * k ∧ Hid (A = alls (T.take k)) ∧ Hid (Is32 A) ∧ SepL All W wr [.own 24 32 av (bys A)]) (fun _ iv _ => L.length - (intOf iv).toNat)
    case atStart => exact ⟨0, [], rfl, by omega, by simp, rfl, by simp [Hid, Is32], (hS.nilOwn 24 32).sel (by repeat (first | exact Sel.refl | refine Sel.take (by repeat (first | exact t0 | apply tS)) ?_ | apply Sel.drop))⟩
    case round =>
      clear hS
      obtain ⟨k, A0, rfl, hk, hal, HA, HA32, hS⟩ := hrel
      by_cases hlt : k < L.length
      · skip
        have hkt : k < T.length := by rw [HTL.out]; exact hlt
        have hlk : k < (L.map aC).length := by rw [HL.out]; exact hlt
        obtain ⟨⟨u, s⟩, hx⟩ : ∃ x, L[k] = x := ⟨_, rfl⟩
        have hxm : (u, s) ∈ L := by rw [← hx]; exact List.getElem_mem hlt
        have HX : Hid ((L.map aC)[k] = aC (u, s)) := by
          unfold Hid
          rw [List.getElem_map, hx]
        have HUR := hide (hv.at_ _ hxm)
        have HUF := hide (aC_flat (x := (u, s)) (hS.rd HUR.out).one1)
        have hsk : T[k] = s := by simp only [← HT.out, List.getElem_map, hx]
        have hs32 := H32.out _ hxm
        have HS32 := hide hs32
        have hfew := HFW.out s (List.mem_map.2 ⟨(u, s), hxm, rfl⟩)
        have HSN : Hid ((bys s.ids).length = s.ids.length) := bys_length _
        have hnx := alls_next hkt
        rw [hsk, ← HA.out] at hnx
        have HNX := hide hnx
        clear hx hxm hsk hkt hnx
        go_wp2_with (first
          | (show wpList _ _ _ (⟨some 22, .indexAddr _ _ _, _, _, _, _⟩ :: _) _ _; refine wpList_val rfl (op_indexAddr slAct rfl (v := v) (xs := L.map aC) rfl (k := k) rfl (by exact hS.rd hv.rd) hlk) ?_; go_frame)
          | (show wpList _ _ _ (⟨some 23, .load _ _, _, _, _, _⟩ :: _) _ _; refine wpList_val rfl (op_loadE aggAct rfl (v := v) (xs := L.map aC) (k := k) rfl (by exact hS.rd hv.rd) hlk) ?_; rw [HX.out]; go_frame)
          | (show wpList _ _ _ (⟨_, .alloc 33, _, _, _, _⟩ :: _) _ _; refine wpS_alloc hS rfl rfl Try.zeroValue33 (zs := [.int .i64 0, .slice none 0 0]) rfl ?_; clear hS; intro nb w hS; go_frame)
          | (show wpList _ _ _ (⟨_, .store 33 _ _, _, _, _, _⟩ :: _) _ _; (refine wpS_storeAll (b := nb) aggAct (hS.bring (by repeat (first | exact t0 | apply tS))) rfl rfl rfl (vs := aC (u, s)) rfl rfl HUF.out rfl ?_); clear hS; intro w hS; go_frame)
          | (show wpList _ _ _ (⟨some 25, .load _ _, _, _, _, _⟩ :: _) _ _; refine wpList_val rfl (op_load1S (b := nb) (T := 33) oneHashes ((hS.bring (by repeat (first | exact t0 | apply tS)))) rfl rfl rfl) ?_; go_frame)
          | (show wpList _ _ _ (⟨some 26, .call _, _, _, _, _⟩ :: _) _ _; refine wpList_val rfl (op_len slHash rfl rfl (v := u) (xs := bys s.ids) rfl (hS.rd HUR.out)) ?_; rw [HSN.out]; go_frame)
          )
        go_loopw [3, 27] (fun bv jv wr => ∃ (j : Nat) (A : List Id), jv = .int .i64 j ∧ j ≤ s.ids.length ∧ A.length ≤ 1000 * k + j ∧ Hid (A = accJ A0 s j) ∧ Hid (Is32 A) ∧ SepL All W wr [.own 24 32 bv (bys A), .blk nb 33 (aC (u, s))]) (fun _ jv _ => s.ids.length - (intOf jv).toNat)
        case atStart => exact ⟨0, A0, rfl, by omega, by omega, (accJ_zero A0 s).symm, HA32, hS.sel (by repeat (first | exact Sel.refl | refine Sel.take (by repeat (first | exact t0 | apply tS)) ?_ | apply Sel.drop))⟩
        case round =>
          clear hS
          obtain ⟨j, A, rfl, hj, hal2, HAJ, HA32, hS⟩ := hrel
          by_cases hjt : j < s.ids.length
          · have HJL : Hid (j < (bys s.ids).length) := by unfold Hid; rw [HSN.out]; exact hjt
            obtain ⟨y, hy⟩ : ∃ y, s.ids[j] = y := ⟨_, rfl⟩
            have hy32 := hs32 y (by rw [← hy]; exact List.getElem_mem hjt)
            have HY0 := hide hy32
            have HY32 : Hid ((y.map B8).length = 32) := by simp [Hid, hy32]
            have HY : Hid ((bys s.ids)[j]'HJL.out = y.map B8) := by
              unfold Hid
              rw [bys_get HJL.out hjt, hy]
            have HA1 : Hid (((bys A).length + (bys [y]).length) * 32 ≤ 140737488355328) := by
              unfold Hid
              rw [bys_length, bys_length, List.length_singleton]
              omega
            have HA2 : Hid ((bys A).length + (bys [y]).length ≤ maxLen) := by
              unfold Hid maxLen
              rw [bys_length, bys_length, List.length_singleton]
              omega
            have HLN2 : Hid ((A ++ [y]).length ≤ 1000 * k + (j + 1)) := by unfold Hid; rw [List.length_append, List.length_singleton]; omega
            have HA33 : Hid (Is32 (A ++ [y])) := HA32.out.app (is32_1 hy32)
            by_cases hk2 : s.kind < 2
            · have HK2 : Hid (decide (s.kind < 2) = true) := decide_eq_true hk2
              have hnj := accJ_lo (A := A0) hjt hk2
              rw [← HAJ.out, hy] at hnj
              by_cases hm : y ∈ A
              · have HMA : Hid (decide (y ∈ A) = true) := decide_eq_true hm
                have HNJ : Hid (A = accJ A0 s (j + 1)) := by unfold Hid; rw [hnj]; exact (if_pos hm).symm
                clear hy hy32 hnj hm hk2
                go_wp2_with (first
                  | go_big_skip
                  | (show wpList _ _ _ (⟨some 29, .indexAddr _ _ _, _, _, _, _⟩ :: _) _ _; refine wpList_val rfl (op_indexAddr slHash rfl (v := u) (xs := bys s.ids) rfl (k := j) rfl (hS.rd HUR.out) HJL.out) ?_; go_frame)
                  | (show wpList _ _ _ (⟨some 30, .load _ _, _, _, _, _⟩ :: _) _ _; refine wpList_val rfl (op_loadE aggHash rfl (v := u) (xs := bys s.ids) (k := j) rfl (hS.rd HUR.out) HJL.out) ?_; rw [HY.out]; go_frame)
                  | (show wpList _ _ _ (⟨_, .alloc 24, _, _, _, _⟩ :: _) _ _; refine wpS_alloc hS rfl rfl Try.zeroValue24 (zs := List.replicate 32 (.int .u8 0)) rfl ?_; clear hS; intro n8 w hS; go_frame)
                  | (show wpList _ _ _ (⟨_, .store 24 _ _, _, _, _, _⟩ :: _) _ _; (refine wpS_storeAll (b := n8) aggHash (hS.bring (by repeat (first | exact t0 | apply tS))) rfl rfl rfl (vs := y.map B8) rfl HY32.out (flat_B8 y) rfl ?_); clear hS; intro w hS; go_frame)
                  | (show wpList _ _ _ (⟨_, .load 3 _, _, _, _, _⟩ :: _) _ _; refine wpList_val rfl (op_load1S (b := nb) (T := 33) oneInt ((hS.bring (by repeat (first | exact t0 | apply tS)))) rfl rfl rfl) ?_; go_frame)
                  | (show wpList _ _ _ (⟨some 33, .binOp _ _ _ _ _, _, _, _, _⟩ :: _) _ _; refine wpList_val rfl (op_ilss rfl rfl rfl HK2.out) ?_; go_frame)
                  | (show wpList _ _ _ (⟨_, .load 24 _, _, _, _, _⟩ :: _) _ _; refine wpList_val rfl (op_load aggHash rfl rfl (SepL.getBlk (b := n8) (T := 24) ((hS.bring (by repeat (first | exact t0 | apply tS))))).cells HY32.out) ?_; go_frame)
                  | (go_at_call 25; refine Ret.calls (hS.callNo (has11_w (v := u3) (l := A) (x := y) ((hS.bring (by repeat (first | exact t0 | apply tS))).getOwn.rd) HA32.out HY0.out HMA)) ?_; clear hS; rintro r1 w ⟨rfl, hS⟩)
                  | (show wpList _ _ _ (⟨some 42, .buildSlice _ _ _, _, _, _, _⟩ :: _) _ _; refine wpS_build1A slHash (by omega) hS rfl rfl (cs := y.map B8) rfl HY32.out ?_; clear hS; intro v42 w hS; go_frame)
                  | (show wpList _ _ _ (⟨some 43, .call _, _, _, _, _⟩ :: _) _ _; (refine wpS_append slHash (hS.bring (by repeat (first | exact t0 | apply tS))) rfl rfl (sv := u3) (xs := bys A) (xv := v42) rfl rfl (ys := bys [y]) ((hS.bring (by repeat (first | exact t0 | apply tS))).getOwn.rd) (flat_bys _) HA1.out HA2.out ?_); clear hS; intro v43 w hS; rw [← bys_app] at hS; go_frame)
                  )
                go_roundw
                case rel => exact ⟨j + 1, A, by go_num, by omega, by omega, HNJ, HA32, hS.sel (by repeat (first | exact Sel.refl | refine Sel.take (by repeat (first | exact t0 | apply tS)) ?_ | apply Sel.drop))⟩
                case measure => simp [intOf]; omega
              · have HMA : Hid (decide (y ∈ A) = false) := decide_eq_false hm
                have HNJ : Hid (A ++ [y] = accJ A0 s (j + 1)) := by unfold Hid; rw [hnj]; exact (if_neg hm).symm
                clear hy hy32 hnj hm hk2
                go_wp2_with (first
                  | go_big_skip
                  | (show wpList _ _ _ (⟨some 29, .indexAddr _ _ _, _, _, _, _⟩ :: _) _ _; refine wpList_val rfl (op_indexAddr slHash rfl (v := u) (xs := bys s.ids) rfl (k := j) rfl (hS.rd HUR.out) HJL.out) ?_; go_frame)
                  | (show wpList _ _ _ (⟨some 30, .load _ _, _, _, _, _⟩ :: _) _ _; refine wpList_val rfl (op_loadE aggHash rfl (v := u) (xs := bys s.ids) (k := j) rfl (hS.rd HUR.out) HJL.out) ?_; rw [HY.out]; go_frame)
                  | (show wpList _ _ _ (⟨_, .alloc 24, _, _, _, _⟩ :: _) _ _; refine wpS_alloc hS rfl rfl Try.zeroValue24 (zs := List.replicate 32 (.int .u8 0)) rfl ?_; clear hS; intro n8 w hS; go_frame)
                  | (show wpList _ _ _ (⟨_, .store 24 _ _, _, _, _, _⟩ :: _) _ _; (refine wpS_storeAll (b := n8) aggHash (hS.bring (by repeat (first | exact t0 | apply tS))) rfl rfl rfl (vs := y.map B8) rfl HY32.out (flat_B8 y) rfl ?_); clear hS; intro w hS; go_frame)
                  | (show wpList _ _ _ (⟨_, .load 3 _, _, _, _, _⟩ :: _) _ _; refine wpList_val rfl (op_load1S (b := nb) (T := 33) oneInt ((hS.bring (by repeat (first | exact t0 | apply tS)))) rfl rfl rfl) ?_; go_frame)
                  | (show wpList _ _ _ (⟨some 33, .binOp _ _ _ _ _, _, _, _, _⟩ :: _) _ _; refine wpList_val rfl (op_ilss rfl rfl rfl HK2.out) ?_; go_frame)
                  | (show wpList _ _ _ (⟨_, .load 24 _, _, _, _, _⟩ :: _) _ _; refine wpList_val rfl (op_load aggHash rfl rfl (SepL.getBlk (b := n8) (T := 24) ((hS.bring (by repeat (first | exact t0 | apply tS))))).cells HY32.out) ?_; go_frame)
                  | (go_at_call 25; refine Ret.calls (hS.callNo (has11_w (v := u3) (l := A) (x := y) ((hS.bring (by repeat (first | exact t0 | apply tS))).getOwn.rd) HA32.out HY0.out HMA)) ?_; clear hS; rintro r1 w ⟨rfl, hS⟩)
                  | (show wpList _ _ _ (⟨some 42, .buildSlice _ _ _, _, _, _, _⟩ :: _) _ _; refine wpS_build1A slHash (by omega) hS rfl rfl (cs := y.map B8) rfl HY32.out ?_; clear hS; intro v42 w hS; go_frame)
                  | (show wpList _ _ _ (⟨some 43, .call _, _, _, _, _⟩ :: _) _ _; (refine wpS_append slHash (hS.bring (by repeat (first | exact t0 | apply tS))) rfl rfl (sv := u3) (xs := bys A) (xv := v42) rfl rfl (ys := bys [y]) ((hS.bring (by repeat (first | exact t0 | apply tS))).getOwn.rd) (flat_bys _) HA1.out HA2.out ?_); clear hS; intro v43 w hS; rw [← bys_app] at hS; go_frame)
                  )
                go_roundw
                case rel => exact ⟨j + 1, A ++ [y], by go_num, by omega, HLN2.out, HNJ, HA33, hS.sel (by repeat (first | exact Sel.refl | refine Sel.take (by repeat (first | exact t0 | apply tS)) ?_ | apply Sel.drop))⟩
                case measure => simp [intOf]; omega
            · have HK2 : Hid (decide (s.kind < 2) = false) := decide_eq_false hk2
              have HNJ : Hid (A = accJ A0 s (j + 1)) := by unfold Hid; rw [accJ_hi hk2]; exact HAJ.out
              clear hy hy32 hk2
              go_wp2_with (first
                | go_big_skip
                | (show wpList _ _ _ (⟨some 29, .indexAddr _ _ _, _, _, _, _⟩ :: _) _ _; refine wpList_val rfl (op_indexAddr slHash rfl (v := u) (xs := bys s.ids) rfl (k := j) rfl (hS.rd HUR.out) HJL.out) ?_; go_frame)
                | (show wpList _ _ _ (⟨some 30, .load _ _, _, _, _, _⟩ :: _) _ _; refine wpList_val rfl (op_loadE aggHash rfl (v := u) (xs := bys s.ids) (k := j) rfl (hS.rd HUR.out) HJL.out) ?_; rw [HY.out]; go_frame)
                | (show wpList _ _ _ (⟨_, .alloc 24, _, _, _, _⟩ :: _) _ _; refine wpS_alloc hS rfl rfl Try.zeroValue24 (zs := List.replicate 32 (.int .u8 0)) rfl ?_; clear hS; intro n8 w hS; go_frame)
                | (show wpList _ _ _ (⟨_, .store 24 _ _, _, _, _, _⟩ :: _) _ _; (refine wpS_storeAll (b := n8) aggHash (hS.bring (by repeat (first | exact t0 | apply tS))) rfl rfl rfl (vs := y.map B8) rfl HY32.out (flat_B8 y) rfl ?_); clear hS; intro w hS; go_frame)
                | (show wpList _ _ _ (⟨_, .load 3 _, _, _, _, _⟩ :: _) _ _; refine wpList_val rfl (op_load1S (b := nb) (T := 33) oneInt ((hS.bring (by repeat (first | exact t0 | apply tS)))) rfl rfl rfl) ?_; go_frame)
                | (show wpList _ _ _ (⟨some 33, .binOp _ _ _ _ _, _, _, _, _⟩ :: _) _ _; refine wpList_val rfl (op_ilss rfl rfl rfl HK2.out) ?_; go_frame)
                | (show wpList _ _ _ (⟨_, .load 24 _, _, _, _, _⟩ :: _) _ _; refine wpList_val rfl (op_load aggHash rfl rfl (SepL.getBlk (b := n8) (T := 24) ((hS.bring (by repeat (first | exact t0 | apply tS))))).cells HY32.out) ?_; go_frame)
                | (go_at_call 25; refine Ret.calls (hS.callNo (has11_w (v := u3) (l := A) (x := y) ((hS.bring (by repeat (first | exact t0 | apply tS))).getOwn.rd) HA32.out HY0.out HMA)) ?_; clear hS; rintro r1 w ⟨rfl, hS⟩)
                | (show wpList _ _ _ (⟨some 42, .buildSlice _ _ _, _, _, _, _⟩ :: _) _ _; refine wpS_build1A slHash (by omega) hS rfl rfl (cs := y.map B8) rfl HY32.out ?_; clear hS; intro v42 w hS; go_frame)
                | (show wpList _ _ _ (⟨some 43, .call _, _, _, _, _⟩ :: _) _ _; (refine wpS_append slHash (hS.bring (by repeat (first | exact t0 | apply tS))) rfl rfl (sv := u3) (xs := bys A) (xv := v42) rfl rfl (ys := bys [y]) ((hS.bring (by repeat (first | exact t0 | apply tS))).getOwn.rd) (flat_bys _) HA1.out HA2.out ?_); clear hS; intro v43 w hS; rw [← bys_app] at hS; go_frame)
                )
              go_roundw
              case rel => exact ⟨j + 1, A, by go_num, by omega, by omega, HNJ, HA32, hS.sel (by repeat (first | exact Sel.refl | refine Sel.take (by repeat (first | exact t0 | apply tS)) ?_ | apply Sel.drop))⟩
              case measure => simp [intOf]; omega
          · have hj2 : j = s.ids.length := by omega
            have haj := HAJ.out
            rw [hj2, accJ_all, ← HNX.out] at haj
            have HAN2 := hide haj
            clear haj
            go_wp2_with fail
            go_roundw
            case rel => exact ⟨k + 1, A, by go_num, by omega, by omega, HAN2, HA32, hS.sel (by repeat (first | exact Sel.refl | refine Sel.take (by repeat (first | exact t0 | apply tS)) ?_ | apply Sel.drop))⟩
            case measure => simp [intOf]; omega
      · have HAN : Hid ((bys A0).length = A0.length) := bys_length _
        have hk2 : k = L.length := by omega
        have ha := HA.out
        rw [hk2, ← HTL.out, List.take_length] at ha
        by_cases h64 : 64 < A0.length
        · have HG : Hid (decide ((64 : Int) < (A0.length : Int)) = true) := decide_eq_true (by omega)
          clear h64 ha hk2
          go_wp2_with (first
            | (show wpList _ _ _ (⟨some 47, .call _, _, _, _, _⟩ :: _) _ _; refine wpList_val rfl (op_len slHash rfl rfl (v := u3) (xs := bys A0) rfl ((hS.bring (by repeat (first | exact t0 | apply tS))).getOwn.rd)) ?_; rw [HAN.out]; go_frame)
            | (show wpList _ _ _ (⟨some 48, .binOp _ _ _ _ _, _, _, _, _⟩ :: _) _ _; refine wpList_val rfl (op_igtr rfl rfl rfl HG.out) ?_; go_frame)
            | (go_at_call 11; refine Ret.calls (qnew_s hS) ?_; clear hS; rintro r w ⟨p, rfl, hS⟩)
            | (show wpList _ _ _ (⟨some 51, .call _, _, _, _, _⟩ :: _) _ _; refine wpList_val rfl (op_len slAct rfl rfl (v := v) (xs := L.map aC) rfl (by exact hS.rd hv.rd)) ?_; rw [HL.out]; go_frame)
            )
          go_ret
          exact ⟨rfl, hS.chg⟩
        · have HG : Hid (decide ((64 : Int) < (A0.length : Int)) = false) := decide_eq_false (by omega)
          have hA64 : A0.length ≤ 64 := by omega
          have HAM : Hid (∀ a ∈ T, a.kind < 2 → ∀ x ∈ a.ids, x ∈ A0) := by
            intro a h1 h2 x hx
            rw [ha]
            exact alls_mem (.inr ⟨a, h1, h2, hx⟩)
          clear h64 ha hk2 HA
          go_wp2_with (first
            | (show wpList _ _ _ (⟨some 47, .call _, _, _, _, _⟩ :: _) _ _; refine wpList_val rfl (op_len slHash rfl rfl (v := u3) (xs := bys A0) rfl ((hS.bring (by repeat (first | exact t0 | apply tS))).getOwn.rd)) ?_; rw [HAN.out]; go_frame)
            | (show wpList _ _ _ (⟨some 48, .binOp _ _ _ _ _, _, _, _, _⟩ :: _) _ _; refine wpList_val rfl (op_igtr rfl rfl rfl HG.out) ?_; go_frame)
            | (go_at_call 11; refine Ret.calls (qnew_s hS) ?_; clear hS; rintro r w ⟨p, rfl, hS⟩)
            | (show wpList _ _ _ (⟨some 51, .call _, _, _, _, _⟩ :: _) _ _; refine wpList_val rfl (op_len slAct rfl rfl (v := v) (xs := L.map aC) rfl (by exact hS.rd hv.rd)) ?_; rw [HL.out]; go_frame)
            )
          go_loopw [4, 52] (fun zv iv wr => ∃ (k : Nat) (Z : List Id), iv = .int .i64 k ∧ k ≤ L.length ∧ Z.length ≤ 1000 * k ∧ Hid (OnceOk A0 (runs (T.take k)) Z) ∧ SepL All W wr [.own 24 32 zv (bys Z), hQ p (runs (T.take k))]) (fun _ iv _ => L.length - (intOf iv).toNat)
          case atStart => exact ⟨0, [], rfl, by omega, by simp, OnceOk.start A0, (hS.nilOwn 24 32).sel (by repeat (first | exact Sel.refl | refine Sel.take (by repeat (first | exact t0 | apply tS)) ?_ | apply Sel.drop))⟩
          case round =>
            clear hS hk hal
            obtain ⟨k, Z, rfl, hk, hzl, HOO, hS⟩ := hrel
            by_cases hlt : k < L.length
            · skip
              have hkt : k < T.length := by rw [HTL.out]; exact hlt
              have hlk : k < (L.map aC).length := by rw [HL.out]; exact hlt
              obtain ⟨⟨u, s⟩, hx⟩ : ∃ x, L[k] = x := ⟨_, rfl⟩
              have hxm : (u, s) ∈ L := by rw [← hx]; exact List.getElem_mem hlt
              have HX : Hid ((L.map aC)[k] = aC (u, s)) := by
                unfold Hid
                rw [List.getElem_map, hx]
              have HUR := hide (hv.at_ _ hxm)
              have HUF := hide (aC_flat (x := (u, s)) (hS.rd HUR.out).one1)
              have hsk : T[k] = s := by simp only [← HT.out, List.getElem_map, hx]
              have hs32 := H32.out _ hxm
              have HS32 := hide hs32
              have hfew := HFW.out s (List.mem_map.2 ⟨(u, s), hxm, rfl⟩)
              have HSN : Hid ((bys s.ids).length = s.ids.length) := bys_length _
              have HFEW : Hid (s.ids.length ≤ 100000) := by unfold Hid; omega
              have hsT : s ∈ T := by rw [← hsk]; exact List.getElem_mem hkt
              have hqo : QOk (runs (T.take k)) := QOk.nil.runs fun a ha => HTK.out a (List.mem_of_mem_take ha)
              have hsn := runs_next hkt
              rw [hsk] at hsn
              obtain ⟨q, hq⟩ : ∃ q, runs (T.take k) = q := ⟨_, rfl⟩
              have hoo := HOO.out
              rw [hq] at hS hqo hsn hoo
              have HQO := hide hqo
              have HOQ := hide hoo
              have HRN := hide hsn
              have hz32 : Is32 Z := fun x hx => hqo.k32 x (hoo.zk x hx)
              have HB1 : Hid (((bys Z).length + (bys s.ids).length) * 32 ≤ 140737488355328) := by
                unfold Hid
                rw [bys_length, bys_length]
                omega
              have HB2 : Hid ((bys Z).length + (bys s.ids).length ≤ maxLen) := by
                unfold Hid maxLen
                rw [bys_length, bys_length]
                omega
              clear hx hxm hsk hqo hsn hq hkt hoo HOO
              by_cases h0 : s.kind = 0
              · have HK0 := eqT h0
                have HON : Hid (OnceOk A0 (runs (T.take (k + 1))) Z) := by
                  unfold Hid
                  rw [HRN.out, run_0 h0]
                  exact HOQ.out.put (HAM.out s hsT (by omega))
                have HRR : Hid (runs (T.take (k + 1)) = putQ q s.ids) := HRN.out.trans (run_0 h0)
                clear h0 hsT hz32
                go_wp2_with (first
                  | (show wpList _ _ _ (⟨some 54, .indexAddr _ _ _, _, _, _, _⟩ :: _) _ _; refine wpList_val rfl (op_indexAddr slAct rfl (v := v) (xs := L.map aC) rfl (k := k) rfl (by exact hS.rd hv.rd) hlk) ?_; go_frame)
                  | (show wpList _ _ _ (⟨some 55, .load _ _, _, _, _, _⟩ :: _) _ _; refine wpList_val rfl (op_loadE aggAct rfl (v := v) (xs := L.map aC) (k := k) rfl (by exact hS.rd hv.rd) hlk) ?_; rw [HX.out]; go_frame)
                  | (show wpList _ _ _ (⟨_, .alloc 33, _, _, _, _⟩ :: _) _ _; refine wpS_alloc hS rfl rfl Try.zeroValue33 (zs := [.int .i64 0, .slice none 0 0]) rfl ?_; clear hS; intro nb w hS; go_frame)
                  | (show wpList _ _ _ (⟨_, .store 33 _ _, _, _, _, _⟩ :: _) _ _; (refine wpS_storeAll (b := nb) aggAct (hS.bring (by repeat (first | exact t0 | apply tS))) rfl rfl rfl (vs := aC (u, s)) rfl rfl HUF.out rfl ?_); clear hS; intro w hS; go_frame)
                  | (show wpList _ _ _ (⟨_, .load 3 _, _, _, _, _⟩ :: _) _ _; refine wpList_val rfl (op_load1S (b := nb) (T := 33) oneInt ((hS.bring (by repeat (first | exact t0 | apply tS)))) rfl rfl rfl) ?_; go_frame)
                  | (show wpList _ _ _ (⟨_, .load 31 _, _, _, _, _⟩ :: _) _ _; refine wpList_val rfl (op_load1S (b := nb) (T := 33) oneHashes ((hS.bring (by repeat (first | exact t0 | apply tS)))) rfl rfl rfl) ?_; go_frame)
                  | (show wpList _ _ _ (⟨some 59, .binOp _ _ _ _ _, _, _, _, _⟩ :: _) _ _; refine wpList_val rfl (op_eqI' rfl rfl rfl HK0.out) ?_; go_frame)
                  | (show wpList _ _ _ (⟨some 65, .binOp _ _ _ _ _, _, _, _, _⟩ :: _) _ _; refine wpList_val rfl (op_eqI' rfl rfl rfl HK1.out) ?_; go_frame)
                  | (show wpList _ _ _ (⟨some 75, .binOp _ _ _ _ _, _, _, _, _⟩ :: _) _ _; refine wpList_val rfl (op_eqI' rfl rfl rfl HK2.out) ?_; go_frame)
                  | (go_at_call 13; (refine Ret.calls (qput_s (p := p) (q0 := q) (hS.bring (by repeat (first | exact t0 | apply tS))) HQO.out HUR.out HS32.out) ?_); clear hS; rintro r1 w hS)
                  | (go_at_call 15; (refine Ret.calls (qlearn_s (p := p) (q := q) (hS.bring (by repeat (first | exact t0 | apply tS))) HQO.out HUR.out HS32.out HFEW.out) ?_); clear hS; rintro r1 w hS)
                  | (show wpList _ _ _ (⟨some 73, .call _, _, _, _, _⟩ :: _) _ _; (refine wpS_append slHash (hS.bring (by repeat (first | exact t0 | apply tS))) rfl rfl (sv := u4) (xs := bys Z) (xv := u) rfl rfl (ys := bys s.ids) (by exact hS.rd HUR.out) (flat_bys _) HB1.out HB2.out ?_); clear hS; intro v73 w hS; rw [← bys_app] at hS; go_frame)
                  | (go_at_call 18; (refine Ret.calls (qflush_s (p := p) (q := q) (hS.bring (by repeat (first | exact t0 | apply tS))) HQO.out HUR.out HS32.out) ?_); clear hS; rintro tv w hS; rw [HTD.out] at hS)
                  | (show wpList _ _ _ (⟨some 80, .call _, _, _, _, _⟩ :: _) _ _; refine wpList_val rfl (op_len slHash rfl rfl (v := tv) (xs := bys D) rfl ((hS.bring (by repeat (first | exact t0 | apply tS))).getOwn.rd)) ?_; rw [HDN.out]; go_frame)
                  )
                go_roundw
                case rel =>
                  refine ⟨k + 1, Z, by go_num, by omega, by omega, HON, ?_⟩
                  rw [HRR.out]
                  exact hS.sel (by repeat (first | exact Sel.refl | refine Sel.take (by repeat (first | exact t0 | apply tS)) ?_ | apply Sel.drop))
                case measure => simp [intOf]; omega
              · have HK0 := eqF h0
                by_cases h1 : s.kind = 1
                · have HK1 := eqT h1
                  have HON : Hid (OnceOk A0 (runs (T.take (k + 1))) (Z ++ s.ids)) := by
                    unfold Hid
                    rw [HRN.out, run_1 h0 h1]
                    exact HOQ.out.learn hA64 HQO.out (HAM.out s hsT (by omega))
                  have HRR : Hid (runs (T.take (k + 1)) = learnQ q s.ids) := HRN.out.trans (run_1 h0 h1)
                  have HZL : Hid ((Z ++ s.ids).length ≤ 1000 * (k + 1)) := by unfold Hid; rw [List.length_append]; omega
                  clear h0 h1 hsT hz32
                  go_wp2_with (first
                    | (show wpList _ _ _ (⟨some 54, .indexAddr _ _ _, _, _, _, _⟩ :: _) _ _; refine wpList_val rfl (op_indexAddr slAct rfl (v := v) (xs := L.map aC) rfl (k := k) rfl (by exact hS.rd hv.rd) hlk) ?_; go_frame)
                    | (show wpList _ _ _ (⟨some 55, .load _ _, _, _, _, _⟩ :: _) _ _; refine wpList_val rfl (op_loadE aggAct rfl (v := v) (xs := L.map aC) (k := k) rfl (by exact hS.rd hv.rd) hlk) ?_; rw [HX.out]; go_frame)
                    | (show wpList _ _ _ (⟨_, .alloc 33, _, _, _, _⟩ :: _) _ _; refine wpS_alloc hS rfl rfl Try.zeroValue33 (zs := [.int .i64 0, .slice none 0 0]) rfl ?_; clear hS; intro nb w hS; go_frame)
                    | (show wpList _ _ _ (⟨_, .store 33 _ _, _, _, _, _⟩ :: _) _ _; (refine wpS_storeAll (b := nb) aggAct (hS.bring (by repeat (first | exact t0 | apply tS))) rfl rfl rfl (vs := aC (u, s)) rfl rfl HUF.out rfl ?_); clear hS; intro w hS; go_frame)
                    | (show wpList _ _ _ (⟨_, .load 3 _, _, _, _, _⟩ :: _) _ _; refine wpList_val rfl (op_load1S (b := nb) (T := 33) oneInt ((hS.bring (by repeat (first | exact t0 | apply tS)))) rfl rfl rfl) ?_; go_frame)
                    | (show wpList _ _ _ (⟨_, .load 31 _, _, _, _, _⟩ :: _) _ _; refine wpList_val rfl (op_load1S (b := nb) (T := 33) oneHashes ((hS.bring (by repeat (first | exact t0 | apply tS)))) rfl rfl rfl) ?_; go_frame)
                    | (show wpList _ _ _ (⟨some 59, .binOp _ _ _ _ _, _, _, _, _⟩ :: _) _ _; refine wpList_val rfl (op_eqI' rfl rfl rfl HK0.out) ?_; go_frame)
                    | (show wpList _ _ _ (⟨some 65, .binOp _ _ _ _ _, _, _, _, _⟩ :: _) _ _; refine wpList_val rfl (op_eqI' rfl rfl rfl HK1.out) ?_; go_frame)
                    | (show wpList _ _ _ (⟨some 75, .binOp _ _ _ _ _, _, _, _, _⟩ :: _) _ _; refine wpList_val rfl (op_eqI' rfl rfl rfl HK2.out) ?_; go_frame)
                    | (go_at_call 13; (refine Ret.calls (qput_s (p := p) (q0 := q) (hS.bring (by repeat (first | exact t0 | apply tS))) HQO.out HUR.out HS32.out) ?_); clear hS; rintro r1 w hS)
                    | (go_at_call 15; (refine Ret.calls (qlearn_s (p := p) (q := q) (hS.bring (by repeat (first | exact t0 | apply tS))) HQO.out HUR.out HS32.out HFEW.out) ?_); clear hS; rintro r1 w hS)
                    | (show wpList _ _ _ (⟨some 73, .call _, _, _, _, _⟩ :: _) _ _; (refine wpS_append slHash (hS.bring (by repeat (first | exact t0 | apply tS))) rfl rfl (sv := u4) (xs := bys Z) (xv := u) rfl rfl (ys := bys s.ids) (by exact hS.rd HUR.out) (flat_bys _) HB1.out HB2.out ?_); clear hS; intro v73 w hS; rw [← bys_app] at hS; go_frame)
                    | (go_at_call 18; (refine Ret.calls (qflush_s (p := p) (q := q) (hS.bring (by repeat (first | exact t0 | apply tS))) HQO.out HUR.out HS32.out) ?_); clear hS; rintro tv w hS; rw [HTD.out] at hS)
                    | (show wpList _ _ _ (⟨some 80, .call _, _, _, _, _⟩ :: _) _ _; refine wpList_val rfl (op_len slHash rfl rfl (v := tv) (xs := bys D) rfl ((hS.bring (by repeat (first | exact t0 | apply tS))).getOwn.rd)) ?_; rw [HDN.out]; go_frame)
                    )
                  go_roundw
                  case rel =>
                    refine ⟨k + 1, Z ++ s.ids, by go_num, by omega, HZL.out, HON, ?_⟩
                    rw [HRR.out]
                    exact hS.sel (by repeat (first | exact Sel.refl | refine Sel.take (by repeat (first | exact t0 | apply tS)) ?_ | apply Sel.drop))
                  case measure => simp [intOf]; omega
                · have HK1 := eqF h1
                  by_cases h2 : s.kind = 2
                  · have HK2 := eqT h2
                    obtain ⟨D, hD⟩ : ∃ D, told q s.ids = D := ⟨_, rfl⟩
                    have HTD := hide hD
                    have HDN : Hid ((bys D).length = D.length) := bys_length _
                    have hdl : D.length ≤ 32 := by rw [← hD]; exact told_len q s.ids
                    have hd32 : Is32 D := by rw [← hD]; exact HQO.out.told
                    have HON : Hid (OnceOk A0 (runs (T.take (k + 1))) (Z ++ D)) := by
                      unfold Hid
                      rw [HRN.out, run_2 h0 h1 h2, ← hD]
                      exact HOQ.out.flush hA64 HQO.out
                    have HRR : Hid (runs (T.take (k + 1)) = flushQ q s.ids) := HRN.out.trans (run_2 h0 h1 h2)
                    have HNEW : Hid (∀ (j : Nat) (hj : j < D.length), D[j] ∉ Z ++ D.take j) := by
                      subst hD
                      exact fun j hj => told_new HQO.out HOQ.out hj
                    have HZL : Hid ((Z ++ D).length ≤ 1000 * (k + 1)) := by unfold Hid; rw [List.length_append]; omega
                    clear h0 h1 h2 hsT hD
                    go_wp2_with (first
                      | (show wpList _ _ _ (⟨some 54, .indexAddr _ _ _, _, _, _, _⟩ :: _) _ _; refine wpList_val rfl (op_indexAddr slAct rfl (v := v) (xs := L.map aC) rfl (k := k) rfl (by exact hS.rd hv.rd) hlk) ?_; go_frame)
                      | (show wpList _ _ _ (⟨some 55, .load _ _, _, _, _, _⟩ :: _) _ _; refine wpList_val rfl (op_loadE aggAct rfl (v := v) (xs := L.map aC) (k := k) rfl (by exact hS.rd hv.rd) hlk) ?_; rw [HX.out]; go_frame)
                      | (show wpList _ _ _ (⟨_, .alloc 33, _, _, _, _⟩ :: _) _ _; refine wpS_alloc hS rfl rfl Try.zeroValue33 (zs := [.int .i64 0, .slice none 0 0]) rfl ?_; clear hS; intro nb w hS; go_frame)
                      | (show wpList _ _ _ (⟨_, .store 33 _ _, _, _, _, _⟩ :: _) _ _; (refine wpS_storeAll (b := nb) aggAct (hS.bring (by repeat (first | exact t0 | apply tS))) rfl rfl rfl (vs := aC (u, s)) rfl rfl HUF.out rfl ?_); clear hS; intro w hS; go_frame)
                      | (show wpList _ _ _ (⟨_, .load 3 _, _, _, _, _⟩ :: _) _ _; refine wpList_val rfl (op_load1S (b := nb) (T := 33) oneInt ((hS.bring (by repeat (first | exact t0 | apply tS)))) rfl rfl rfl) ?_; go_frame)
                      | (show wpList _ _ _ (⟨_, .load 31 _, _, _, _, _⟩ :: _) _ _; refine wpList_val rfl (op_load1S (b := nb) (T := 33) oneHashes ((hS.bring (by repeat (first | exact t0 | apply tS)))) rfl rfl rfl) ?_; go_frame)
                      | (show wpList _ _ _ (⟨some 59, .binOp _ _ _ _ _, _, _, _, _⟩ :: _) _ _; refine wpList_val rfl (op_eqI' rfl rfl rfl HK0.out) ?_; go_frame)
                      | (show wpList _ _ _ (⟨some 65, .binOp _ _ _ _ _, _, _, _, _⟩ :: _) _ _; refine wpList_val rfl (op_eqI' rfl rfl rfl HK1.out) ?_; go_frame)
                      | (show wpList _ _ _ (⟨some 75, .binOp _ _ _ _ _, _, _, _, _⟩ :: _) _ _; refine wpList_val rfl (op_eqI' rfl rfl rfl HK2.out) ?_; go_frame)
                      | (go_at_call 13; (refine Ret.calls (qput_s (p := p) (q0 := q) (hS.bring (by repeat (first | exact t0 | apply tS))) HQO.out HUR.out HS32.out) ?_); clear hS; rintro r1 w hS)
                      | (go_at_call 15; (refine Ret.calls (qlearn_s (p := p) (q := q) (hS.bring (by repeat (first | exact t0 | apply tS))) HQO.out HUR.out HS32.out HFEW.out) ?_); clear hS; rintro r1 w hS)
                      | (show wpList _ _ _ (⟨some 73, .call _, _, _, _, _⟩ :: _) _ _; (refine wpS_append slHash (hS.bring (by repeat (first | exact t0 | apply tS))) rfl rfl (sv := u4) (xs := bys Z) (xv := u) rfl rfl (ys := bys s.ids) (by exact hS.rd HUR.out) (flat_bys _) HB1.out HB2.out ?_); clear hS; intro v73 w hS; rw [← bys_app] at hS; go_frame)
                      | (go_at_call 18; (refine Ret.calls (qflush_s (p := p) (q := q) (hS.bring (by repeat (first | exact t0 | apply tS))) HQO.out HUR.out HS32.out) ?_); clear hS; rintro tv w hS; rw [HTD.out] at hS)
                      | (show wpList _ _ _ (⟨some 80, .call _, _, _, _, _⟩ :: _) _ _; refine wpList_val rfl (op_len slHash rfl rfl (v := tv) (xs := bys D) rfl ((hS.bring (by repeat (first | exact t0 | apply tS))).getOwn.rd)) ?_; rw [HDN.out]; go_frame)
                      )
                    go_loopw [4, 81] (fun yv jv wr => ∃ j : Nat, jv = .int .i64 j ∧ j ≤ D.length ∧ SepL All W wr [.own 24 32 yv (bys (Z ++ D.take j)), .own 24 32 tv (bys D), hQ p (flushQ q s.ids)]) (fun _ jv _ => D.length - (intOf jv).toNat)
                    case atStart => exact ⟨0, rfl, by omega, by rw [List.take_zero, List.append_nil]; exact hS.sel (by repeat (first | exact Sel.refl | refine Sel.take (by repeat (first | exact t0 | apply tS)) ?_ | apply Sel.drop))⟩
                    case round =>
                      clear hS
                      obtain ⟨j, rfl, hj, hS⟩ := hrel
                      by_cases hjt : j < D.length
                      · have HJL : Hid (j < (bys D).length) := by unfold Hid; rw [HDN.out]; exact hjt
                        have hne := HNEW.out j hjt
                        obtain ⟨y, hy⟩ : ∃ y, D[j] = y := ⟨_, rfl⟩
                        rw [hy] at hne
                        have hy32 := hd32 y (by rw [← hy]; exact List.getElem_mem hjt)
                        have HY0 := hide hy32
                        have HY32 : Hid ((y.map B8).length = 32) := by simp [Hid, hy32]
                        have HY : Hid ((bys D)[j]'HJL.out = y.map B8) := by
                          unfold Hid
                          rw [bys_get HJL.out hjt, hy]
                        have HMZ : Hid (decide (y ∈ Z ++ D.take j) = false) := decide_eq_false hne
                        have HZ32 : Hid (Is32 (Z ++ D.take j)) := hz32.app (hd32.sub (List.take_sublist j D))
                        have hzl2 : (Z ++ D.take j).length ≤ 100000 := by
                          rw [List.length_append, List.length_take]
                          omega
                        have HA1 : Hid (((bys (Z ++ D.take j)).length + (bys [y]).length) * 32 ≤ 140737488355328) := by
                          unfold Hid
                          rw [bys_length, bys_length, List.length_singleton]
                          omega
                        have HA2 : Hid ((bys (Z ++ D.take j)).length + (bys [y]).length ≤ maxLen) := by
                          unfold Hid maxLen
                          rw [bys_length, bys_length, List.length_singleton]
                          omega
                        have HZN : Hid (Z ++ D.take (j + 1) = Z ++ D.take j ++ [y]) := by
                          unfold Hid
                          rw [List.take_succ_eq_append_getElem hjt, hy, List.append_assoc]
                        clear hne hy hy32 hzl2
                        go_wp2_with (first
                          | (show wpList _ _ _ (⟨some 83, .indexAddr _ _ _, _, _, _, _⟩ :: _) _ _; refine wpList_val rfl (op_indexAddr slHash rfl (v := tv) (xs := bys D) rfl (k := j) rfl ((hS.bring (by repeat (first | exact t0 | apply tS))).getOwn.rd) HJL.out) ?_; go_frame)
                          | (show wpList _ _ _ (⟨some 84, .load _ _, _, _, _, _⟩ :: _) _ _; refine wpList_val rfl (op_loadE aggHash rfl (v := tv) (xs := bys D) (k := j) rfl ((hS.bring (by repeat (first | exact t0 | apply tS))).getOwn.rd) HJL.out) ?_; rw [HY.out]; go_frame)
                          | (show wpList _ _ _ (⟨_, .alloc 24, _, _, _, _⟩ :: _) _ _; refine wpS_alloc hS rfl rfl Try.zeroValue24 (zs := List.replicate 32 (.int .u8 0)) rfl ?_; clear hS; intro n13 w hS; go_frame)
                          | (show wpList _ _ _ (⟨_, .store 24 _ _, _, _, _, _⟩ :: _) _ _; (refine wpS_storeAll (b := n13) aggHash (hS.bring (by repeat (first | exact t0 | apply tS))) rfl rfl rfl (vs := y.map B8) rfl HY32.out (flat_B8 y) rfl ?_); clear hS; intro w hS; go_frame)
                          | (show wpList _ _ _ (⟨_, .load 24 _, _, _, _, _⟩ :: _) _ _; refine wpList_val rfl (op_load aggHash rfl rfl (SepL.getBlk (b := n13) (T := 24) ((hS.bring (by repeat (first | exact t0 | apply tS))))).cells HY32.out) ?_; go_frame)
                          | (go_at_call 25; refine Ret.calls (hS.callNo (has11_w (v := u4) (l := Z ++ D.take j) (x := y) ((hS.bring (by repeat (first | exact t0 | apply tS))).getOwn.rd) HZ32.out HY0.out HMZ)) ?_; clear hS; rintro r1 w ⟨rfl, hS⟩)
                          | (show wpList _ _ _ (⟨some 90, .buildSlice _ _ _, _, _, _, _⟩ :: _) _ _; refine wpS_build1A slHash (by omega) hS rfl rfl (cs := y.map B8) rfl HY32.out ?_; clear hS; intro v90 w hS; go_frame)
                          | (show wpList _ _ _ (⟨some 91, .call _, _, _, _, _⟩ :: _) _ _; (refine wpS_append slHash (hS.bring (by repeat (first | exact t0 | apply tS))) rfl rfl (sv := u4) (xs := bys (Z ++ D.take j)) (xv := v90) rfl rfl (ys := bys [y]) ((hS.bring (by repeat (first | exact t0 | apply tS))).getOwn.rd) (flat_bys _) HA1.out HA2.out ?_); clear hS; intro v91 w hS; rw [← bys_app] at hS; go_frame)
                          )
                        go_roundw
                        case rel =>
                          refine ⟨j + 1, by go_num, by omega, ?_⟩
                          rw [HZN.out]
                          exact hS.sel (by repeat (first | exact Sel.refl | refine Sel.take (by repeat (first | exact t0 | apply tS)) ?_ | apply Sel.drop))
                        case measure => simp [intOf]; omega
                      · have hj2 : j = D.length := by omega
                        rw [hj2, List.take_length] at hS
                        go_wp2_with fail
                        go_roundw
                        case rel =>
                          refine ⟨k + 1, Z ++ D, by go_num, by omega, HZL.out, HON, ?_⟩
                          rw [HRR.out]
                          exact hS.sel (by repeat (first | exact Sel.refl | refine Sel.take (by repeat (first | exact t0 | apply tS)) ?_ | apply Sel.drop))
                        case measure => simp [intOf]; omega
                  · have HK2 := eqF h2
                    have HON : Hid (OnceOk A0 (runs (T.take (k + 1))) Z) := by
                      unfold Hid
                      rw [HRN.out, run_3 h0 h1 h2]
                      exact HOQ.out
                    have HRR : Hid (runs (T.take (k + 1)) = q) := HRN.out.trans (run_3 h0 h1 h2)
                    clear h0 h1 h2 hsT hz32
                    go_wp2_with (first
                      | (show wpList _ _ _ (⟨some 54, .indexAddr _ _ _, _, _, _, _⟩ :: _) _ _; refine wpList_val rfl (op_indexAddr slAct rfl (v := v) (xs := L.map aC) rfl (k := k) rfl (by exact hS.rd hv.rd) hlk) ?_; go_frame)
                      | (show wpList _ _ _ (⟨some 55, .load _ _, _, _, _, _⟩ :: _) _ _; refine wpList_val rfl (op_loadE aggAct rfl (v := v) (xs := L.map aC) (k := k) rfl (by exact hS.rd hv.rd) hlk) ?_; rw [HX.out]; go_frame)
                      | (show wpList _ _ _ (⟨_, .alloc 33, _, _, _, _⟩ :: _) _ _; refine wpS_alloc hS rfl rfl Try.zeroValue33 (zs := [.int .i64 0, .slice none 0 0]) rfl ?_; clear hS; intro nb w hS; go_frame)
                      | (show wpList _ _ _ (⟨_, .store 33 _ _, _, _, _, _⟩ :: _) _ _; (refine wpS_storeAll (b := nb) aggAct (hS.bring (by repeat (first | exact t0 | apply tS))) rfl rfl rfl (vs := aC (u, s)) rfl rfl HUF.out rfl ?_); clear hS; intro w hS; go_frame)
                      | (show wpList _ _ _ (⟨_, .load 3 _, _, _, _, _⟩ :: _) _ _; refine wpList_val rfl (op_load1S (b := nb) (T := 33) oneInt ((hS.bring (by repeat (first | exact t0 | apply tS)))) rfl rfl rfl) ?_; go_frame)
                      | (show wpList _ _ _ (⟨_, .load 31 _, _, _, _, _⟩ :: _) _ _; refine wpList_val rfl (op_load1S (b := nb) (T := 33) oneHashes ((hS.bring (by repeat (first | exact t0 | apply tS)))) rfl rfl rfl) ?_; go_frame)
                      | (show wpList _ _ _ (⟨some 59, .binOp _ _ _ _ _, _, _, _, _⟩ :: _) _ _; refine wpList_val rfl (op_eqI' rfl rfl rfl HK0.out) ?_; go_frame)
                      | (show wpList _ _ _ (⟨some 65, .binOp _ _ _ _ _, _, _, _, _⟩ :: _) _ _; refine wpList_val rfl (op_eqI' rfl rfl rfl HK1.out) ?_; go_frame)
                      | (show wpList _ _ _ (⟨some 75, .binOp _ _ _ _ _, _, _, _, _⟩ :: _) _ _; refine wpList_val rfl (op_eqI' rfl rfl rfl HK2.out) ?_; go_frame)
                      | (go_at_call 13; (refine Ret.calls (qput_s (p := p) (q0 := q) (hS.bring (by repeat (first | exact t0 | apply tS))) HQO.out HUR.out HS32.out) ?_); clear hS; rintro r1 w hS)
                      | (go_at_call 15; (refine Ret.calls (qlearn_s (p := p) (q := q) (hS.bring (by repeat (first | exact t0 | apply tS))) HQO.out HUR.out HS32.out HFEW.out) ?_); clear hS; rintro r1 w hS)
                      | (show wpList _ _ _ (⟨some 73, .call _, _, _, _, _⟩ :: _) _ _; (refine wpS_append slHash (hS.bring (by repeat (first | exact t0 | apply tS))) rfl rfl (sv := u4) (xs := bys Z) (xv := u) rfl rfl (ys := bys s.ids) (by exact hS.rd HUR.out) (flat_bys _) HB1.out HB2.out ?_); clear hS; intro v73 w hS; rw [← bys_app] at hS; go_frame)
                      | (go_at_call 18; (refine Ret.calls (qflush_s (p := p) (q := q) (hS.bring (by repeat (first | exact t0 | apply tS))) HQO.out HUR.out HS32.out) ?_); clear hS; rintro tv w hS; rw [HTD.out] at hS)
                      | (show wpList _ _ _ (⟨some 80, .call _, _, _, _, _⟩ :: _) _ _; refine wpList_val rfl (op_len slHash rfl rfl (v := tv) (xs := bys D) rfl ((hS.bring (by repeat (first | exact t0 | apply tS))).getOwn.rd)) ?_; rw [HDN.out]; go_frame)
                      )
                    go_roundw
                    case rel =>
                      refine ⟨k + 1, Z, by go_num, by omega, by omega, HON, ?_⟩
                      rw [HRR.out]
                      exact hS.sel (by repeat (first | exact Sel.refl | refine Sel.take (by repeat (first | exact t0 | apply tS)) ?_ | apply Sel.drop))
                    case measure => simp [intOf]; omega
            · go_wp2_with fail
              go_ret
              exact ⟨rfl, hS.chg⟩
end Go.Proofs.Ytffagjkjeojaaaa
