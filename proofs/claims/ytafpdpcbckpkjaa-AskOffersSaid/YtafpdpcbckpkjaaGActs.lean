/- What acts make of both books, and what they answer; a book behind acts. Conditions: those that stand ahead of each theorem. -/
import Derived.Test.YtafpdpcbckpkjaaGLive
import Derived.Test.YtafpdpcbckpkjaaRetC
namespace Go.Proofs.Ytafpdpcbckpkjaa
open Go.RowKit Go.Px
structure PAct where
  kind : Int
  peer : Int
  id : List Byte
  now : Nat
def In64 (z : Int) : Prop := -9223372036854775808 ≤ z ∧ z ≤ 9223372036854775807
structure AOk (a : PAct) : Prop where
  kind : In64 a.kind
  peer : In64 a.peer
  id : a.id.length = 32
  now : a.now < 18446744073709551616
def actC (a : PAct) : List Value := I64 a.kind :: I64 a.peer :: (a.id.map B8 ++ [U a.now])
def actB (a : PAct) (B : List Ent) : List Ent :=
  if a.kind = 0 then offerB a.id a.peer a.now B else if a.kind = 1 then gotB a.id B else if a.kind = 2 then lackB a.id a.peer a.now B
  else if a.kind = 3 then eachB (goneOn a.peer) a.now B else if a.kind = 4 then eachB (lateOn a.now) a.now B else B
/-- the two parts of what `Lack` answers -/
def lackQ (q : Int) (i : List Byte) (B : List Ent) : Int × Bool := match entOf i B with
  | some e => if e.peer ≠ q then (0, false) else (match e.waits with | [] => (0, false) | h :: _ => (h, true))
  | none => (0, false)
def ansOk (a : PAct) (B : List Ent) : Bool := if a.kind = 0 then offerA a.id B else if a.kind = 1 then decide (a.id ∈ ids B) else if a.kind = 2 then (lackQ a.peer a.id B).2 else false
def ansPeer (a : PAct) (B : List Ent) : Int := if a.kind = 2 then (lackQ a.peer a.id B).1 else 0
def ansW (a : PAct) (B : List Ent) : List (List Byte × Int) := if a.kind = 3 then eachW (goneOn a.peer) B else if a.kind = 4 then eachW (lateOn a.now) B else []
theorem lackV_eq (q : Int) (i : List Byte) (B : List Ent) : lackV q i B = .tuple #[I64 (lackQ q i B).1, .bool (lackQ q i B).2] := by
  unfold lackV lackQ
  cases entOf i B with
  | none => rfl
  | some e =>
    simp only [lackR]
    split
    · rfl
    · unfold nextR
      cases e.waits <;> rfl
theorem actC_len {a : PAct} (h : a.id.length = 32) : (actC a).length = 35 := by simp [actC, h]
theorem actC_id {a : PAct} (h : a.id.length = 32) : ((actC a).drop 2).take 32 = a.id.map B8 := by
  unfold actC
  rw [List.drop_succ_cons, List.drop_succ_cons, List.drop_zero, List.take_left' (by simp [h])]
theorem actC_now {a : PAct} (h : a.id.length = 32) : (actC a)[34]? = some (U a.now) := by
  unfold actC
  rw [List.getElem?_cons_succ, List.getElem?_cons_succ, List.getElem?_append_right (by simp [h])]
  simp [h]
theorem actC_one (a : PAct) : ∀ v ∈ actC a, v.oneCell' = true := by
  intro v hv
  unfold actC at hv
  rcases List.mem_cons.1 hv with rfl | hv
  · rfl
  rcases List.mem_cons.1 hv with rfl | hv
  · rfl
  rcases List.mem_append.1 hv with hv | hv
  · exact flat_B8 _ v hv
  · rw [List.mem_singleton.1 hv]
    rfl
theorem actC_kind (a : PAct) : (actC a)[0]? = some (I64 a.kind) := rfl
theorem actC_peer (a : PAct) : (actC a)[1]? = some (I64 a.peer) := rfl
attribute [irreducible] actC
theorem eqT {z : Int} {j : Int} (h : z = j) : Hid ((z == j) = true) := by unfold Hid; simp [h]
theorem eqF {z : Int} {j : Int} (h : z ≠ j) : Hid ((z == j) = false) := by unfold Hid; simp [h]
theorem ans_one (b : Bool) (z : Int) {v : Value} (hv : v.oneCell' = true) : Hid (∀ x ∈ [Value.bool b, I64 z, v], x.oneCell' = true) := by
  unfold Hid
  intro x hx
  simp only [List.mem_cons, List.not_mem_nil, or_false] at hx
  rcases hx with rfl | rfl | rfl
  · rfl
  · rfl
  · exact hv
theorem act_ok {a : PAct} {B : List Ent} (hB : BOk B) (ha : AOk a) : BOk (actB a B) := by
  unfold actB
  repeat' split
  · exact offer_ok hB ha.id ha.now
  · exact got_ok hB
  · exact lack_ok hB ha.now
  · exact gone_ok hB ha.now
  · exact late_ok hB ha.now
  · exact hB
/-- all peers of a book fit in 64 bits -/
def BIn (B : List Ent) : Prop := ∀ e ∈ B, In64 e.peer ∧ ∀ z ∈ e.waits, In64 z
def EIn (e : Ent) : Prop := In64 e.peer ∧ ∀ z ∈ e.waits, In64 z
theorem goE_in {t : Nat} {e x : Ent} (h : EIn e) (hx : goE t e = some x) : EIn x := by
  unfold goE at hx
  split at hx
  · cases hx
  · rename_i p r hr
    injection hx with hx
    rw [← hx]
    have h2 := h.2
    rw [hr] at h2
    exact ⟨h2 p (by simp), fun z hz => h2 z (by simp [hz])⟩
theorem quitE_in {p : Int} {e : Ent} (h : EIn e) : EIn (quitE p e) := ⟨h.1, fun z hz => h.2 z (List.mem_filter.1 hz).1⟩
theorem joinE_in {p : Int} {e : Ent} (h : EIn e) (hp : In64 p) : EIn (joinE p e) := by
  unfold joinE
  split
  · refine ⟨h.1, fun z hz => ?_⟩
    rcases List.mem_append.1 hz with hz | hz
    · exact h.2 z hz
    · rw [List.mem_singleton.1 hz]; exact hp
  · exact h
theorem turn_in {i : List Byte} {f : Ent → Option Ent} {B : List Ent} (h : BIn B) (hf : ∀ e x, EIn e → f e = some x → EIn x) : BIn (turnB i f B) := by
  intro x hx
  unfold turnB at hx
  obtain ⟨e, he, hx⟩ := List.mem_filterMap.1 hx
  split at hx
  · exact hf e x (h e he) hx
  · injection hx with hx
    rw [← hx]
    exact h e he
theorem each_in {on : Ent → Ent × Bool} {t : Nat} {B : List Ent} (h : BIn B) (ho : ∀ e, EIn e → EIn (on e).1) : BIn (eachB on t B) := by
  intro x hx
  unfold eachB at hx
  obtain ⟨e, he, hx⟩ := List.mem_filterMap.1 hx
  unfold eachE at hx
  split at hx
  · exact goE_in (ho e (h e he)) hx
  · injection hx with hx
    rw [← hx]
    exact ho e (h e he)
theorem eachW_in {on : Ent → Ent × Bool} {B : List Ent} (h : BIn B) (ho : ∀ e, EIn e → EIn (on e).1) : ∀ x ∈ eachW on B, In64 x.2 := by
  intro x hx
  unfold eachW at hx
  obtain ⟨e, he, hx⟩ := List.mem_filterMap.1 hx
  unfold wantE at hx
  split at hx
  · obtain ⟨y, hy, rfl⟩ := Option.map_eq_some_iff.1 hx
    exact (ho e (h e he)).2 y (List.mem_of_mem_head? hy)
  · cases hx
theorem act_in {a : PAct} {B : List Ent} (hB : BIn B) (ha : AOk a) : BIn (actB a B) := by
  unfold actB
  repeat' split
  · unfold offerB
    split
    · refine turn_in hB fun e x he hx => ?_
      injection hx with hx
      rw [← hx]
      exact joinE_in he ha.peer
    · split
      · intro x hx
        rcases List.mem_append.1 hx with hx | hx
        · exact hB x hx
        · rw [List.mem_singleton.1 hx]
          exact ⟨ha.peer, by simp⟩
      · exact hB
  · exact turn_in hB fun e x _ hx => by cases hx
  · refine turn_in hB fun e x he hx => ?_
    unfold lackE at hx
    split at hx
    · injection hx with hx
      rw [← hx]
      exact quitE_in he
    · exact goE_in he hx
  · exact each_in hB fun e he => quitE_in he
  · exact each_in hB fun e he => he
  · exact hB
theorem ansW_in {a : PAct} {B : List Ent} (hB : BIn B) : ∀ x ∈ ansW a B, In64 x.2 := by
  unfold ansW
  repeat' split
  · exact eachW_in hB fun e he => quitE_in he
  · exact eachW_in hB fun e he => he
  · simp
theorem allB_in {B : List Ent} (hB : BIn B) : ∀ x ∈ allB B, In64 x.2 := by
  intro x hx
  obtain ⟨e, he, rfl⟩ := List.mem_map.1 hx
  exact (hB e he).1
theorem lackQ_in {q : Int} {i : List Byte} {B : List Ent} (hB : BIn B) : In64 (lackQ q i B).1 := by
  unfold lackQ
  split
  · rename_i e he
    have hm := hB e (List.mem_of_find?_eq_some he)
    split
    · simp [In64]
    · split
      · simp [In64]
      · rename_i h r hr
        rw [hr] at hm
        exact hm.2 h (by simp)
  · simp [In64]
/-- the ids of wants are whole -/
def WOk (L : List (List Byte × Int)) : Prop := ∀ x ∈ L, x.1.length = 32 ∧ In64 x.2
theorem ansW_ok {a : PAct} {B : List Ent} (hB : BIn B) (ok : BOk B) : WOk (ansW a B) := by
  intro x hx
  refine ⟨?_, ansW_in hB x hx⟩
  have key : ∀ on : Ent → Ent × Bool, x ∈ eachW on B → x.1.length = 32 := by
    intro on hx
    unfold eachW at hx
    obtain ⟨e, he, hx⟩ := List.mem_filterMap.1 hx
    unfold wantE at hx
    split at hx
    · obtain ⟨y, hy, rfl⟩ := Option.map_eq_some_iff.1 hx
      exact ok.len e he
    · cases hx
  unfold ansW at hx
  split at hx
  · exact key _ hx
  · split at hx
    · exact key _ hx
    · cases hx
theorem eachW3 (on : Ent → Ent × Bool) {B : List Ent} (ok : BOk B) : ∀ x ∈ eachW on B, x.1.length = 32 := by
  intro x hx
  unfold eachW at hx
  obtain ⟨e, he, hx⟩ := List.mem_filterMap.1 hx
  unfold wantE at hx
  split at hx
  · obtain ⟨y, hy, rfl⟩ := Option.map_eq_some_iff.1 hx
    exact ok.len e he
  · cases hx
theorem allB_ok {B : List Ent} (hB : BIn B) (ok : BOk B) : WOk (allB B) := by
  intro x hx
  refine ⟨?_, allB_in hB x hx⟩
  obtain ⟨e, he, rfl⟩ := List.mem_map.1 hx
  exact ok.len e he
theorem ansW_len {a : PAct} {B : List Ent} (ok : BOk B) : (ansW a B).length ≤ 32 := by
  have := ok.few
  unfold ansW
  repeat' split
  · exact Nat.le_trans (eachW_len _) this
  · exact Nat.le_trans (eachW_len _) this
  · simp
end Go.Proofs.Ytafpdpcbckpkjaa
namespace Go.Proofs.Ytafpdpcbckpkjaa
open Go.RowKit Go.Px
section
variable {R : Nat → Prop} {base w : World} {F : List Hp}
set_option maxRecDepth 100000 in
set_option maxHeartbeats 2000000 in
theorem plain_s {v : Value} {L : List (List Byte × Int)} (hS : SepL R base w (.own 55 33 v (L.map wC) :: F)) (h32 : ∀ x ∈ L, x.1.length = 32) (hfew : L.length ≤ 1000) :
    Calls Try.prog 17 #[v] w (Ret fun r w' => SepL R base w' (.own 57 33 r (L.map wC) :: .own 55 33 v (L.map wC) :: F)) := by
  have hS0 := hS.nilOwn 57 33
  clear hS
  have hS := hS0
  clear hS0
  have HL : Hid ((L.map wC).length = L.length) := by simp [Hid]
  have HLEN := hide h32
  clear h32
  go_enter Try.func17, Try.ntmps17
  go_wp2_with (first
    | (show wpList _ _ _ (⟨_, .call ⟨.builtin .len, _, _⟩, _, _, _, _⟩ :: _) _ _; refine wpList_val rfl (op_len slWant rfl rfl (v := v) rfl ((hS.bring (by repeat (first | exact t0 | apply tS))).getOwn.rd)) ?_; rw [HL.out]; go_frame)
    )
  go_loopw [3, 8] (fun av iv wr => ∃ k : Nat, iv = .int .i64 k ∧ k ≤ L.length ∧ SepL R base wr (.own 57 33 av ((L.take k).map wC) :: .own 55 33 v (L.map wC) :: F)) (fun _ iv _ => L.length - (intOf iv).toNat)
  case atStart => exact ⟨0, rfl, by omega, hS⟩
  case round =>
    clear hS
    obtain ⟨k, rfl, hk, hS⟩ := hrel
    by_cases hlt : k < L.length
    · have hlk : k < (L.map wC).length := by rw [HL.out]; exact hlt
      obtain ⟨x, hx⟩ : ∃ x, L[k] = x := ⟨_, rfl⟩
      have hxl : x ∈ L := by rw [← hx]; exact List.getElem_mem hlt
      have HXK : Hid ((L.map wC)[k] = x.1.map B8 ++ [.int .i64 x.2]) := by
        unfold Hid
        rw [List.getElem_map, hx]
        rfl
      have h32 : x.1.length = 32 := HLEN.out x hxl
      have HXL : Hid ((x.1.map B8).length = 32) := by simp [Hid, h32]
      have HC0 : Hid ((x.1.map B8 ++ [Value.int .i64 x.2]).take 32 = x.1.map B8) := by
        unfold Hid
        rw [List.take_left' HXL.out]
      have HP32 : Hid ((x.1.map B8 ++ [Value.int .i64 x.2])[32]? = some (.int .i64 x.2)) := by
        unfold Hid
        rw [List.getElem?_append_right (by rw [HXL.out]; omega), HXL.out]
        rfl
      have HT : Hid ((L.take (k + 1)).map wC = (L.take k).map wC ++ [x.1.map B8 ++ [.int .i64 x.2]]) := by
        unfold Hid
        rw [List.take_succ_eq_append_getElem hlt, List.map_append, hx]
        rfl
      have HAL : Hid (((L.take k).map wC).length ≤ 1000) := by
        unfold Hid
        rw [List.length_map, List.length_take]
        omega
      obtain ⟨A, hA⟩ : ∃ A, (L.take k).map wC = A := ⟨_, rfl⟩
      rw [hA] at hS HT HAL
      clear hx hxl h32 hA
      go_wp2_with (first
        | (show wpList _ _ _ (⟨some 10, .indexAddr _ _ _, _, _, _, _⟩ :: _) _ _; refine wpList_val rfl (op_indexAddr slWant rfl (v := v) rfl (k := k) rfl ((hS.bring (by repeat (first | exact t0 | apply tS))).getOwn.rd) hlk) ?_; go_frame)
        | (show wpList _ _ _ (⟨some 11, .load _ _, _, _, _, _⟩ :: _) _ _; refine wpList_val rfl (op_loadE aggWant rfl (v := v) (k := k) rfl ((hS.bring (by repeat (first | exact t0 | apply tS))).getOwn.rd) hlk) ?_; rw [HXK.out]; go_frame)
        | (show wpList _ _ _ (⟨_, .alloc 55, _, _, _, _⟩ :: _) _ _; refine wpS_alloc hS rfl rfl Try.zeroValue55 (zs := List.replicate 32 (.int .u8 0) ++ [Value.int .i64 0]) rfl ?_; clear hS; intro nb w hS; go_frame)
        | (show wpList _ _ _ (⟨_, .store 55 _ _, _, _, _, _⟩ :: _) _ _; (refine wpS_storeAll aggWant (hS.bring (by repeat (first | exact t0 | apply tS))) rfl rfl rfl (vs := x.1.map B8 ++ [.int .i64 x.2]) rfl (w33 HXL.out x.2) (flat_want _ _) (by simp) ?_); clear hS; intro w hS; go_frame)
        | (show wpList _ _ _ (⟨some 14, .load _ _, _, _, _, _⟩ :: _) _ _; refine wpList_val rfl (op_load aggHash rfl rfl ((SepL.getBlk (T := 55) ((hS.bring (by repeat (first | exact t0 | apply tS))))).cells.sub0 32 HC0.out) HXL.out) ?_; go_frame)
        | (show wpList _ _ _ (⟨some 16, .load _ _, _, _, _, _⟩ :: _) _ _; refine wpList_val rfl (op_load1S (T := 55) oneInt ((hS.bring (by repeat (first | exact t0 | apply tS)))) rfl rfl HP32.out) ?_; go_frame)
        | (show wpList _ _ _ (⟨_, .build 57 _, _, _, _, _⟩ :: _) _ _; refine wpList_val rfl (op_build (ps := #[(0, .agg (x.1.map B8).toArray), (1, .int .i64 x.2)]) rfl rfl (buildRWant x.1 HXL.out x.2) _) ?_; go_frame)
        | (show wpList _ _ _ (⟨_, .buildSlice 41 1 _, _, _, _, _⟩ :: _) _ _; refine wpS_build1A slRWant (by omega) hS rfl rfl (cs := x.1.map B8 ++ [.int .i64 x.2]) rfl (w33 HXL.out x.2) ?_; clear hS; intro v1 w hS; go_frame)
        | (show wpList _ _ _ (⟨_, .call ⟨.builtin .append, _, _⟩, _, _, _, _⟩ :: _) _ _; (refine wpS_append slRWant (hS.bring (by repeat (first | exact t0 | apply tS))) rfl rfl (sv := u3) rfl rfl (ys := [x.1.map B8 ++ [.int .i64 x.2]]) ((hS.bring (by repeat (first | exact t0 | apply tS))).getOwn.rd) (flat_w1 _ _) (by rw [List.length_singleton]; have := HAL.out; omega) (by rw [List.length_singleton]; have := HAL.out; simp only [maxLen]; omega) ?_); clear hS; intro v2 w hS; go_frame)
        )
      go_roundw
      case rel =>
        refine ⟨k + 1, by go_num, by omega, ?_⟩
        rw [HT.out]
        exact hS.sel (by repeat (first | exact Sel.refl | refine Sel.take (by repeat (first | exact t0 | apply tS)) ?_ | apply Sel.drop))
      case measure => simp [intOf]; omega
    · have hk2 : k = L.length := by omega
      subst hk2
      rw [List.take_length] at hS
      go_wp2_with fail
      go_ret
      exact hS
end
end Go.Proofs.Ytafpdpcbckpkjaa
namespace Go.Proofs.Ytafpdpcbckpkjaa
open Go.RowKit Go.Px
section
variable {R : Nat → Prop} {base w : World} {F : List Hp}
set_option maxRecDepth 100000 in
set_option maxHeartbeats 4000000 in
theorem do_0 {p : Nat} {B : List Ent} {a : PAct} (hS : SepL R base w (hB p B :: F)) (ok : BOk B) (ha : AOk a) (h0 : a.kind = 0) :
    Calls Try.prog 14 #[.pointer (some ⟨p, 0, none⟩), .agg (actC a).toArray] w (Ret fun r w' => ∃ v, r = .agg #[.bool (offerA a.id B), I64 0, v] ∧ SepL R base w' (.own 57 33 v [] :: hB p (offerB a.id a.peer a.now B) :: F)) := by
  obtain ⟨kd, pe, id, nw⟩ := a
  obtain ⟨C, hC⟩ : ∃ C, actC ⟨kd, pe, id, nw⟩ = C := ⟨_, rfl⟩
  have hid : id.length = 32 := ha.id
  have hpe : In64 pe := ha.peer
  have hnw : nw < 18446744073709551616 := ha.now
  have HA0 : Hid (C[0]? = some (I64 kd)) := by rw [← hC]; exact actC_kind _
  have HA1 : Hid (C[1]? = some (I64 pe)) := by rw [← hC]; exact actC_peer _
  have HAI : Hid ((C.drop 2).take 32 = id.map B8) := by rw [← hC]; exact actC_id ha.id
  have HA34 : Hid (C[34]? = some (U nw)) := by rw [← hC]; exact actC_now ha.id
  have HI32 : Hid ((id.map B8).length = 32) := by simp [Hid, hid]
  rw [hC]
  have HOK := hide ok
  have HID := hide hid
  have HPE := hide hpe
  have HNW := hide hnw
  clear hC ha ok hid hpe hnw
  have E0 := eqT h0
  have HONE := ans_one (offerA id B) 0 (v := .slice none 0 0) rfl
  clear h0
  go_enter Try.func14, Try.ntmps14
  go_wp2_with (first
    | (show wpList _ _ _ (⟨_, .box 40 _, _, _, _, _⟩ :: _) _ _; refine wpS_boxA (cs := C) hS rfl rfl rfl ?_; clear hS; intro na w hS; go_frame)
    | (show wpList _ _ _ (⟨some 4, .alloc _, _, _, _, _⟩ :: _) _ _; refine wpS_alloc hS rfl rfl Try.zeroValue43 (zs := [.bool false, .int .i64 0, .slice none 0 0]) rfl ?_; clear hS; intro n4 w hS; go_frame)
    | (show wpList _ _ _ (⟨some 5, .alloc _, _, _, _, _⟩ :: _) _ _; refine wpS_alloc hS rfl rfl Try.zeroValue43 (zs := [.bool false, .int .i64 0, .slice none 0 0]) rfl ?_; clear hS; intro n5 w hS; go_frame)
    | (show wpList _ _ _ (⟨some 7, .load _ _, _, _, _, _⟩ :: _) _ _; refine wpList_val rfl (op_load1S (T := 40) oneInt ((hS.bring (by repeat (first | exact t0 | apply tS)))) rfl rfl HA0.out) ?_; go_frame)
    | (show wpList _ _ _ (⟨some 9, .binOp _ _ _ _ _, _, _, _, _⟩ :: _) _ _; refine wpList_val rfl (op_eqI' rfl rfl rfl E0.out) ?_; go_frame)
    | (show wpList _ _ _ (⟨_, .load 43 _, _, _, _, _⟩ :: _) _ _; refine wpList_val rfl (op_load aggAns rfl rfl (SepL.getBlk (b := n5) (T := 43) ((hS.bring (by repeat (first | exact t0 | apply tS))))).cells rfl) ?_; go_frame)
    | (show wpList _ _ _ (⟨_, .store 43 _ _, _, _, _, _⟩ :: _) _ _; (refine wpS_storeAll (b := n4) aggAns (hS.bring (by repeat (first | exact t0 | apply tS))) rfl rfl rfl rfl rfl HONE.out (by simp) ?_); clear hS; intro w hS; go_frame)
    | (show wpList _ _ _ (⟨_, .load 28 _, _, _, _, _⟩ :: _) _ _; refine wpList_val rfl (op_load aggHash rfl rfl ((SepL.getBlk (T := 40) ((hS.bring (by repeat (first | exact t0 | apply tS))))).cells.subN 2 32 HAI.out) HI32.out) ?_; go_frame)
    | (show wpList _ _ _ (⟨_, .load 3 _, _, _, _, _⟩ :: _) _ _; refine wpList_val rfl (op_load1S (T := 40) oneInt ((hS.bring (by repeat (first | exact t0 | apply tS)))) rfl rfl HA1.out) ?_; go_frame)
    | (show wpList _ _ _ (⟨_, .load 23 _, _, _, _, _⟩ :: _) _ _; refine wpList_val rfl (op_load1S (T := 40) oneU ((hS.bring (by repeat (first | exact t0 | apply tS)))) rfl rfl HA34.out) ?_; go_frame)
    | (show wpList _ _ _ (⟨_, .store 4 _ _, _, _, _, _⟩ :: _) _ _; (refine wpS_store1 (b := n5) (T := 43) (by kernel_rfl) (hS.bring (by repeat (first | exact t0 | apply tS))) rfl rfl rfl rfl rfl rfl (by simp) ?_); clear hS; intro w hS; go_frame)
    | (go_at_call 11; (refine Ret.calls (offer_any (hS.bring (by repeat (first | exact t0 | apply tS))) HOK.out HID.out HPE.out) ?_); clear hS; rintro r w ⟨rfl, hS⟩)
    )
  exact ret_cell (b := n4) aggAns rfl rfl rfl ((hS.bring (by repeat (first | exact t0 | apply tS))).getBlk) rfl ⟨_, rfl, SepL.nilOwn (hS.sel (by repeat (first | exact Sel.refl | refine Sel.take (by repeat (first | exact t0 | apply tS)) ?_ | apply Sel.drop))) 57 33⟩
set_option maxRecDepth 100000 in
set_option maxHeartbeats 4000000 in
theorem do_1 {p : Nat} {B : List Ent} {a : PAct} (hS : SepL R base w (hB p B :: F)) (ok : BOk B) (ha : AOk a) (h0 : a.kind = 1) :
    Calls Try.prog 14 #[.pointer (some ⟨p, 0, none⟩), .agg (actC a).toArray] w (Ret fun r w' => ∃ v, r = .agg #[.bool (decide (a.id ∈ ids B)), I64 0, v] ∧ SepL R base w' (.own 57 33 v [] :: hB p (gotB a.id B) :: F)) := by
  obtain ⟨kd, pe, id, nw⟩ := a
  obtain ⟨C, hC⟩ : ∃ C, actC ⟨kd, pe, id, nw⟩ = C := ⟨_, rfl⟩
  have hid : id.length = 32 := ha.id
  have hpe : In64 pe := ha.peer
  have hnw : nw < 18446744073709551616 := ha.now
  have HA0 : Hid (C[0]? = some (I64 kd)) := by rw [← hC]; exact actC_kind _
  have HA1 : Hid (C[1]? = some (I64 pe)) := by rw [← hC]; exact actC_peer _
  have HAI : Hid ((C.drop 2).take 32 = id.map B8) := by rw [← hC]; exact actC_id ha.id
  have HA34 : Hid (C[34]? = some (U nw)) := by rw [← hC]; exact actC_now ha.id
  have HI32 : Hid ((id.map B8).length = 32) := by simp [Hid, hid]
  rw [hC]
  have HOK := hide ok
  have HID := hide hid
  have HPE := hide hpe
  have HNW := hide hnw
  clear hC ha ok hid hpe hnw
  have E0 := eqF (j := 0) (show kd ≠ 0 from fun h => by rw [h] at h0; cases h0)
  have E1 := eqT h0
  obtain ⟨b, hb⟩ : ∃ b, decide (id ∈ ids B) = b := ⟨_, rfl⟩
  have HB := hide hb
  have HONE := ans_one b 0 (v := .slice none 0 0) rfl
  show Calls _ _ _ _ (Ret fun r w' => ∃ v, r = .agg #[.bool (decide (id ∈ ids B)), I64 0, v] ∧ _)
  rw [hb]
  clear h0 hb
  go_enter Try.func14, Try.ntmps14
  go_wp2_with (first
    | (show wpList _ _ _ (⟨_, .box 40 _, _, _, _, _⟩ :: _) _ _; refine wpS_boxA (cs := C) hS rfl rfl rfl ?_; clear hS; intro na w hS; go_frame)
    | (show wpList _ _ _ (⟨some 4, .alloc _, _, _, _, _⟩ :: _) _ _; refine wpS_alloc hS rfl rfl Try.zeroValue43 (zs := [.bool false, .int .i64 0, .slice none 0 0]) rfl ?_; clear hS; intro n4 w hS; go_frame)
    | (show wpList _ _ _ (⟨some 5, .alloc _, _, _, _, _⟩ :: _) _ _; refine wpS_alloc hS rfl rfl Try.zeroValue43 (zs := [.bool false, .int .i64 0, .slice none 0 0]) rfl ?_; clear hS; intro n5 w hS; go_frame)
    | (show wpList _ _ _ (⟨some 7, .load _ _, _, _, _, _⟩ :: _) _ _; refine wpList_val rfl (op_load1S (T := 40) oneInt ((hS.bring (by repeat (first | exact t0 | apply tS)))) rfl rfl HA0.out) ?_; go_frame)
    | (show wpList _ _ _ (⟨some 9, .binOp _ _ _ _ _, _, _, _, _⟩ :: _) _ _; refine wpList_val rfl (op_eqI' rfl rfl rfl E0.out) ?_; go_frame)
    | (show wpList _ _ _ (⟨some 20, .binOp _ _ _ _ _, _, _, _, _⟩ :: _) _ _; refine wpList_val rfl (op_eqI' rfl rfl rfl E1.out) ?_; go_frame)
    | (show wpList _ _ _ (⟨_, .load 43 _, _, _, _, _⟩ :: _) _ _; refine wpList_val rfl (op_load aggAns rfl rfl (SepL.getBlk (b := n5) (T := 43) ((hS.bring (by repeat (first | exact t0 | apply tS))))).cells rfl) ?_; go_frame)
    | (show wpList _ _ _ (⟨_, .store 43 _ _, _, _, _, _⟩ :: _) _ _; (refine wpS_storeAll (b := n4) aggAns (hS.bring (by repeat (first | exact t0 | apply tS))) rfl rfl rfl rfl rfl HONE.out (by simp) ?_); clear hS; intro w hS; go_frame)
    | (show wpList _ _ _ (⟨_, .load 28 _, _, _, _, _⟩ :: _) _ _; refine wpList_val rfl (op_load aggHash rfl rfl ((SepL.getBlk (T := 40) ((hS.bring (by repeat (first | exact t0 | apply tS))))).cells.subN 2 32 HAI.out) HI32.out) ?_; go_frame)
    | (show wpList _ _ _ (⟨_, .store 4 _ _, _, _, _, _⟩ :: _) _ _; (refine wpS_store1 (b := n5) (T := 43) (by kernel_rfl) (hS.bring (by repeat (first | exact t0 | apply tS))) rfl rfl rfl rfl rfl rfl (by simp) ?_); clear hS; intro w hS; go_frame)
    | (go_at_call 24; (refine Ret.calls (got_any (hS.bring (by repeat (first | exact t0 | apply tS))) HOK.out HID.out) ?_); clear hS; rw [HB.out]; rintro r w ⟨rfl, hS⟩)
    )
  exact ret_cell (b := n4) aggAns rfl rfl rfl ((hS.bring (by repeat (first | exact t0 | apply tS))).getBlk) rfl ⟨_, rfl, SepL.nilOwn (hS.sel (by repeat (first | exact Sel.refl | refine Sel.take (by repeat (first | exact t0 | apply tS)) ?_ | apply Sel.drop))) 57 33⟩
set_option maxRecDepth 100000 in
set_option maxHeartbeats 4000000 in
theorem do_2 {p : Nat} {B : List Ent} {a : PAct} (hS : SepL R base w (hB p B :: F)) (ok : BOk B) (ha : AOk a) (h0 : a.kind = 2) :
    Calls Try.prog 14 #[.pointer (some ⟨p, 0, none⟩), .agg (actC a).toArray] w (Ret fun r w' => ∃ v, r = .agg #[.bool (lackQ a.peer a.id B).2, I64 (lackQ a.peer a.id B).1, v] ∧ SepL R base w' (.own 57 33 v [] :: hB p (lackB a.id a.peer a.now B) :: F)) := by
  obtain ⟨kd, pe, id, nw⟩ := a
  obtain ⟨C, hC⟩ : ∃ C, actC ⟨kd, pe, id, nw⟩ = C := ⟨_, rfl⟩
  have hid : id.length = 32 := ha.id
  have hpe : In64 pe := ha.peer
  have hnw : nw < 18446744073709551616 := ha.now
  have HA0 : Hid (C[0]? = some (I64 kd)) := by rw [← hC]; exact actC_kind _
  have HA1 : Hid (C[1]? = some (I64 pe)) := by rw [← hC]; exact actC_peer _
  have HAI : Hid ((C.drop 2).take 32 = id.map B8) := by rw [← hC]; exact actC_id ha.id
  have HA34 : Hid (C[34]? = some (U nw)) := by rw [← hC]; exact actC_now ha.id
  have HI32 : Hid ((id.map B8).length = 32) := by simp [Hid, hid]
  rw [hC]
  have HOK := hide ok
  have HID := hide hid
  have HPE := hide hpe
  have HNW := hide hnw
  clear hC ha ok hid hpe hnw
  have E0 := eqF (j := 0) (show kd ≠ 0 from fun h => by rw [h] at h0; cases h0)
  have E1 := eqF (j := 1) (show kd ≠ 1 from fun h => by rw [h] at h0; cases h0)
  have E2 := eqT h0
  show Calls _ _ _ _ (Ret fun r w' => ∃ v, r = .agg #[.bool (lackQ pe id B).2, I64 (lackQ pe id B).1, v] ∧ _)
  have hlq := lackV_eq pe id B
  obtain ⟨z, hz⟩ : ∃ z, (lackQ pe id B).1 = z := ⟨_, rfl⟩
  obtain ⟨b, hb⟩ : ∃ b, (lackQ pe id B).2 = b := ⟨_, rfl⟩
  rw [hz, hb] at hlq ⊢
  have HLQ := hide hlq
  have HONE := ans_one b z (v := .slice none 0 0) rfl
  clear h0 hlq hz hb
  go_enter Try.func14, Try.ntmps14
  go_wp2_with (first
    | (show wpList _ _ _ (⟨_, .box 40 _, _, _, _, _⟩ :: _) _ _; refine wpS_boxA (cs := C) hS rfl rfl rfl ?_; clear hS; intro na w hS; go_frame)
    | (show wpList _ _ _ (⟨some 4, .alloc _, _, _, _, _⟩ :: _) _ _; refine wpS_alloc hS rfl rfl Try.zeroValue43 (zs := [.bool false, .int .i64 0, .slice none 0 0]) rfl ?_; clear hS; intro n4 w hS; go_frame)
    | (show wpList _ _ _ (⟨some 5, .alloc _, _, _, _, _⟩ :: _) _ _; refine wpS_alloc hS rfl rfl Try.zeroValue43 (zs := [.bool false, .int .i64 0, .slice none 0 0]) rfl ?_; clear hS; intro n5 w hS; go_frame)
    | (show wpList _ _ _ (⟨some 7, .load _ _, _, _, _, _⟩ :: _) _ _; refine wpList_val rfl (op_load1S (T := 40) oneInt ((hS.bring (by repeat (first | exact t0 | apply tS)))) rfl rfl HA0.out) ?_; go_frame)
    | (show wpList _ _ _ (⟨some 9, .binOp _ _ _ _ _, _, _, _, _⟩ :: _) _ _; refine wpList_val rfl (op_eqI' rfl rfl rfl E0.out) ?_; go_frame)
    | (show wpList _ _ _ (⟨some 20, .binOp _ _ _ _ _, _, _, _, _⟩ :: _) _ _; refine wpList_val rfl (op_eqI' rfl rfl rfl E1.out) ?_; go_frame)
    | (show wpList _ _ _ (⟨some 27, .binOp _ _ _ _ _, _, _, _, _⟩ :: _) _ _; refine wpList_val rfl (op_eqI' rfl rfl rfl E2.out) ?_; go_frame)
    | (show wpList _ _ _ (⟨_, .load 43 _, _, _, _, _⟩ :: _) _ _; refine wpList_val rfl (op_load aggAns rfl rfl (SepL.getBlk (b := n5) (T := 43) ((hS.bring (by repeat (first | exact t0 | apply tS))))).cells rfl) ?_; go_frame)
    | (show wpList _ _ _ (⟨_, .store 43 _ _, _, _, _, _⟩ :: _) _ _; (refine wpS_storeAll (b := n4) aggAns (hS.bring (by repeat (first | exact t0 | apply tS))) rfl rfl rfl rfl rfl HONE.out (by simp) ?_); clear hS; intro w hS; go_frame)
    | (show wpList _ _ _ (⟨_, .load 28 _, _, _, _, _⟩ :: _) _ _; refine wpList_val rfl (op_load aggHash rfl rfl ((SepL.getBlk (T := 40) ((hS.bring (by repeat (first | exact t0 | apply tS))))).cells.subN 2 32 HAI.out) HI32.out) ?_; go_frame)
    | (show wpList _ _ _ (⟨_, .load 3 _, _, _, _, _⟩ :: _) _ _; refine wpList_val rfl (op_load1S (T := 40) oneInt ((hS.bring (by repeat (first | exact t0 | apply tS)))) rfl rfl HA1.out) ?_; go_frame)
    | (show wpList _ _ _ (⟨_, .load 23 _, _, _, _, _⟩ :: _) _ _; refine wpList_val rfl (op_load1S (T := 40) oneU ((hS.bring (by repeat (first | exact t0 | apply tS)))) rfl rfl HA34.out) ?_; go_frame)
    | (show wpList _ _ _ (⟨_, .store 4 _ _, _, _, _, _⟩ :: _) _ _; (refine wpS_store1 (b := n5) (T := 43) (by kernel_rfl) (hS.bring (by repeat (first | exact t0 | apply tS))) rfl rfl rfl rfl rfl rfl (by simp) ?_); clear hS; intro w hS; go_frame)
    | (show wpList _ _ _ (⟨_, .store 3 _ _, _, _, _, _⟩ :: _) _ _; (refine wpS_store1 (b := n5) (T := 43) (by kernel_rfl) (hS.bring (by repeat (first | exact t0 | apply tS))) rfl rfl rfl rfl rfl rfl (by simp) ?_); clear hS; intro w hS; go_frame)
    | (go_at_call 23; (refine Ret.calls (lack_any (hS.bring (by repeat (first | exact t0 | apply tS))) HOK.out HID.out) ?_); clear hS; rw [HLQ.out]; rintro r w ⟨rfl, hS⟩)
    )
  exact ret_cell (b := n4) aggAns rfl rfl rfl ((hS.bring (by repeat (first | exact t0 | apply tS))).getBlk) rfl ⟨_, rfl, SepL.nilOwn (hS.sel (by repeat (first | exact Sel.refl | refine Sel.take (by repeat (first | exact t0 | apply tS)) ?_ | apply Sel.drop))) 57 33⟩
set_option maxRecDepth 100000 in
set_option maxHeartbeats 4000000 in
theorem do_3 {p : Nat} {B : List Ent} {a : PAct} (hS : SepL R base w (hB p B :: F)) (ok : BOk B) (ha : AOk a) (h0 : a.kind = 3) :
    Calls Try.prog 14 #[.pointer (some ⟨p, 0, none⟩), .agg (actC a).toArray] w (Ret fun r w' => ∃ v, r = .agg #[.bool false, I64 0, v] ∧ SepL R base w' (.own 57 33 v ((eachW (goneOn a.peer) B).map wC) :: hB p (eachB (goneOn a.peer) a.now B) :: F)) := by
  obtain ⟨kd, pe, id, nw⟩ := a
  obtain ⟨C, hC⟩ : ∃ C, actC ⟨kd, pe, id, nw⟩ = C := ⟨_, rfl⟩
  have hid : id.length = 32 := ha.id
  have hpe : In64 pe := ha.peer
  have hnw : nw < 18446744073709551616 := ha.now
  have HA0 : Hid (C[0]? = some (I64 kd)) := by rw [← hC]; exact actC_kind _
  have HA1 : Hid (C[1]? = some (I64 pe)) := by rw [← hC]; exact actC_peer _
  have HAI : Hid ((C.drop 2).take 32 = id.map B8) := by rw [← hC]; exact actC_id ha.id
  have HA34 : Hid (C[34]? = some (U nw)) := by rw [← hC]; exact actC_now ha.id
  have HI32 : Hid ((id.map B8).length = 32) := by simp [Hid, hid]
  rw [hC]
  have HOK := hide ok
  have HID := hide hid
  have HPE := hide hpe
  have HNW := hide hnw
  clear hC ha ok hid hpe hnw
  have E0 := eqF (j := 0) (show kd ≠ 0 from fun h => by rw [h] at h0; cases h0)
  have E1 := eqF (j := 1) (show kd ≠ 1 from fun h => by rw [h] at h0; cases h0)
  have E2 := eqF (j := 2) (show kd ≠ 2 from fun h => by rw [h] at h0; cases h0)
  have E3 := eqT h0
  show Calls _ _ _ _ (Ret fun r w' => ∃ v, r = .agg #[.bool false, I64 0, v] ∧ SepL R base w' (.own 57 33 v ((eachW (goneOn pe) B).map wC) :: hB p (eachB (goneOn pe) nw B) :: F))
  have HW3 := hide (eachW3 (goneOn pe) HOK.out)
  have HWF := hide (Nat.le_trans (eachW_len (on := goneOn pe) B) (Nat.le_trans HOK.out.few (show 32 ≤ 1000 by omega)))
  clear h0
  go_enter Try.func14, Try.ntmps14
  go_wp2_with (first
    | (show wpList _ _ _ (⟨_, .box 40 _, _, _, _, _⟩ :: _) _ _; refine wpS_boxA (cs := C) hS rfl rfl rfl ?_; clear hS; intro na w hS; go_frame)
    | (show wpList _ _ _ (⟨some 4, .alloc _, _, _, _, _⟩ :: _) _ _; refine wpS_alloc hS rfl rfl Try.zeroValue43 (zs := [.bool false, .int .i64 0, .slice none 0 0]) rfl ?_; clear hS; intro n4 w hS; go_frame)
    | (show wpList _ _ _ (⟨some 5, .alloc _, _, _, _, _⟩ :: _) _ _; refine wpS_alloc hS rfl rfl Try.zeroValue43 (zs := [.bool false, .int .i64 0, .slice none 0 0]) rfl ?_; clear hS; intro n5 w hS; go_frame)
    | (show wpList _ _ _ (⟨some 7, .load _ _, _, _, _, _⟩ :: _) _ _; refine wpList_val rfl (op_load1S (T := 40) oneInt ((hS.bring (by repeat (first | exact t0 | apply tS)))) rfl rfl HA0.out) ?_; go_frame)
    | (show wpList _ _ _ (⟨some 9, .binOp _ _ _ _ _, _, _, _, _⟩ :: _) _ _; refine wpList_val rfl (op_eqI' rfl rfl rfl E0.out) ?_; go_frame)
    | (show wpList _ _ _ (⟨some 20, .binOp _ _ _ _ _, _, _, _, _⟩ :: _) _ _; refine wpList_val rfl (op_eqI' rfl rfl rfl E1.out) ?_; go_frame)
    | (show wpList _ _ _ (⟨some 27, .binOp _ _ _ _ _, _, _, _, _⟩ :: _) _ _; refine wpList_val rfl (op_eqI' rfl rfl rfl E2.out) ?_; go_frame)
    | (show wpList _ _ _ (⟨some 42, .binOp _ _ _ _ _, _, _, _, _⟩ :: _) _ _; refine wpList_val rfl (op_eqI' rfl rfl rfl E3.out) ?_; go_frame)
    | (show wpList _ _ _ (⟨_, .load 43 _, _, _, _, _⟩ :: _) _ _; refine wpList_val rfl (op_load aggAns rfl rfl (SepL.getBlk (b := n5) (T := 43) ((hS.bring (by repeat (first | exact t0 | apply tS))))).cells rfl) ?_; go_frame)
    | (show wpList _ _ _ (⟨_, .store 43 _ _, _, _, _, _⟩ :: _) _ _; (refine wpS_storeAll (b := n4) aggAns (hS.bring (by repeat (first | exact t0 | apply tS))) rfl rfl rfl rfl rfl HONE.out (by simp) ?_); clear hS; intro w hS; go_frame)
    | (show wpList _ _ _ (⟨_, .load 3 _, _, _, _, _⟩ :: _) _ _; refine wpList_val rfl (op_load1S (T := 40) oneInt ((hS.bring (by repeat (first | exact t0 | apply tS)))) rfl rfl HA1.out) ?_; go_frame)
    | (show wpList _ _ _ (⟨_, .load 23 _, _, _, _, _⟩ :: _) _ _; refine wpList_val rfl (op_load1S (T := 40) oneU ((hS.bring (by repeat (first | exact t0 | apply tS)))) rfl rfl HA34.out) ?_; go_frame)
    | (show wpList _ _ _ (⟨_, .store 41 _ _, _, _, _, _⟩ :: _) _ _; (refine wpS_store1 (b := n5) (T := 43) (by kernel_rfl) (hS.bring (by repeat (first | exact t0 | apply tS))) rfl rfl rfl rfl HV2.out HV3.out (by simp) ?_); clear hS; intro w hS; have HONE := ans_one false 0 HV3.out; go_frame)
    | (go_at_call 25; (refine Ret.calls (gone_s (hS.bring (by repeat (first | exact t0 | apply tS))) HOK.out HNW.out) ?_); clear hS; rintro r w hS)
    | (go_at_call 17; refine Ret.calls (plain_s hS HW3.out HWF.out) ?_; clear hS; rintro r2 w hS; have HV2 := hide hS.getOwn.rd.cells1; have HV3 := hide hS.getOwn.rd.one1)
    )
  exact ret_cell (b := n4) aggAns rfl rfl rfl ((hS.bring (by repeat (first | exact t0 | apply tS))).getBlk) rfl ⟨_, rfl, (hS.sel (by repeat (first | exact Sel.refl | refine Sel.take (by repeat (first | exact t0 | apply tS)) ?_ | apply Sel.drop)))⟩
set_option maxRecDepth 100000 in
set_option maxHeartbeats 4000000 in
theorem do_4 {p : Nat} {B : List Ent} {a : PAct} (hS : SepL R base w (hB p B :: F)) (ok : BOk B) (ha : AOk a) (h0 : a.kind = 4) :
    Calls Try.prog 14 #[.pointer (some ⟨p, 0, none⟩), .agg (actC a).toArray] w (Ret fun r w' => ∃ v, r = .agg #[.bool false, I64 0, v] ∧ SepL R base w' (.own 57 33 v ((eachW (lateOn a.now) B).map wC) :: hB p (eachB (lateOn a.now) a.now B) :: F)) := by
  obtain ⟨kd, pe, id, nw⟩ := a
  obtain ⟨C, hC⟩ : ∃ C, actC ⟨kd, pe, id, nw⟩ = C := ⟨_, rfl⟩
  have hid : id.length = 32 := ha.id
  have hpe : In64 pe := ha.peer
  have hnw : nw < 18446744073709551616 := ha.now
  have HA0 : Hid (C[0]? = some (I64 kd)) := by rw [← hC]; exact actC_kind _
  have HA1 : Hid (C[1]? = some (I64 pe)) := by rw [← hC]; exact actC_peer _
  have HAI : Hid ((C.drop 2).take 32 = id.map B8) := by rw [← hC]; exact actC_id ha.id
  have HA34 : Hid (C[34]? = some (U nw)) := by rw [← hC]; exact actC_now ha.id
  have HI32 : Hid ((id.map B8).length = 32) := by simp [Hid, hid]
  rw [hC]
  have HOK := hide ok
  have HID := hide hid
  have HPE := hide hpe
  have HNW := hide hnw
  clear hC ha ok hid hpe hnw
  have E0 := eqF (j := 0) (show kd ≠ 0 from fun h => by rw [h] at h0; cases h0)
  have E1 := eqF (j := 1) (show kd ≠ 1 from fun h => by rw [h] at h0; cases h0)
  have E2 := eqF (j := 2) (show kd ≠ 2 from fun h => by rw [h] at h0; cases h0)
  have E3 := eqF (j := 3) (show kd ≠ 3 from fun h => by rw [h] at h0; cases h0)
  have E4 := eqT h0
  show Calls _ _ _ _ (Ret fun r w' => ∃ v, r = .agg #[.bool false, I64 0, v] ∧ SepL R base w' (.own 57 33 v ((eachW (lateOn nw) B).map wC) :: hB p (eachB (lateOn nw) nw B) :: F))
  have HW3 := hide (eachW3 (lateOn nw) HOK.out)
  have HWF := hide (Nat.le_trans (eachW_len (on := lateOn nw) B) (Nat.le_trans HOK.out.few (show 32 ≤ 1000 by omega)))
  clear h0
  go_enter Try.func14, Try.ntmps14
  go_wp2_with (first
    | (show wpList _ _ _ (⟨_, .box 40 _, _, _, _, _⟩ :: _) _ _; refine wpS_boxA (cs := C) hS rfl rfl rfl ?_; clear hS; intro na w hS; go_frame)
    | (show wpList _ _ _ (⟨some 4, .alloc _, _, _, _, _⟩ :: _) _ _; refine wpS_alloc hS rfl rfl Try.zeroValue43 (zs := [.bool false, .int .i64 0, .slice none 0 0]) rfl ?_; clear hS; intro n4 w hS; go_frame)
    | (show wpList _ _ _ (⟨some 5, .alloc _, _, _, _, _⟩ :: _) _ _; refine wpS_alloc hS rfl rfl Try.zeroValue43 (zs := [.bool false, .int .i64 0, .slice none 0 0]) rfl ?_; clear hS; intro n5 w hS; go_frame)
    | (show wpList _ _ _ (⟨some 7, .load _ _, _, _, _, _⟩ :: _) _ _; refine wpList_val rfl (op_load1S (T := 40) oneInt ((hS.bring (by repeat (first | exact t0 | apply tS)))) rfl rfl HA0.out) ?_; go_frame)
    | (show wpList _ _ _ (⟨some 9, .binOp _ _ _ _ _, _, _, _, _⟩ :: _) _ _; refine wpList_val rfl (op_eqI' rfl rfl rfl E0.out) ?_; go_frame)
    | (show wpList _ _ _ (⟨some 20, .binOp _ _ _ _ _, _, _, _, _⟩ :: _) _ _; refine wpList_val rfl (op_eqI' rfl rfl rfl E1.out) ?_; go_frame)
    | (show wpList _ _ _ (⟨some 27, .binOp _ _ _ _ _, _, _, _, _⟩ :: _) _ _; refine wpList_val rfl (op_eqI' rfl rfl rfl E2.out) ?_; go_frame)
    | (show wpList _ _ _ (⟨some 42, .binOp _ _ _ _ _, _, _, _, _⟩ :: _) _ _; refine wpList_val rfl (op_eqI' rfl rfl rfl E3.out) ?_; go_frame)
    | (show wpList _ _ _ (⟨some 52, .binOp _ _ _ _ _, _, _, _, _⟩ :: _) _ _; refine wpList_val rfl (op_eqI' rfl rfl rfl E4.out) ?_; go_frame)
    | (show wpList _ _ _ (⟨_, .load 43 _, _, _, _, _⟩ :: _) _ _; refine wpList_val rfl (op_load aggAns rfl rfl (SepL.getBlk (b := n5) (T := 43) ((hS.bring (by repeat (first | exact t0 | apply tS))))).cells rfl) ?_; go_frame)
    | (show wpList _ _ _ (⟨_, .store 43 _ _, _, _, _, _⟩ :: _) _ _; (refine wpS_storeAll (b := n4) aggAns (hS.bring (by repeat (first | exact t0 | apply tS))) rfl rfl rfl rfl rfl HONE.out (by simp) ?_); clear hS; intro w hS; go_frame)
    | (show wpList _ _ _ (⟨_, .load 23 _, _, _, _, _⟩ :: _) _ _; refine wpList_val rfl (op_load1S (T := 40) oneU ((hS.bring (by repeat (first | exact t0 | apply tS)))) rfl rfl HA34.out) ?_; go_frame)
    | (show wpList _ _ _ (⟨_, .store 41 _ _, _, _, _, _⟩ :: _) _ _; (refine wpS_store1 (b := n5) (T := 43) (by kernel_rfl) (hS.bring (by repeat (first | exact t0 | apply tS))) rfl rfl rfl rfl HV2.out HV3.out (by simp) ?_); clear hS; intro w hS; have HONE := ans_one false 0 HV3.out; go_frame)
    | (go_at_call 13; (refine Ret.calls (late_s (hS.bring (by repeat (first | exact t0 | apply tS))) HOK.out HNW.out) ?_); clear hS; rintro r w hS)
    | (go_at_call 17; refine Ret.calls (plain_s hS HW3.out HWF.out) ?_; clear hS; rintro r2 w hS; have HV2 := hide hS.getOwn.rd.cells1; have HV3 := hide hS.getOwn.rd.one1)
    )
  exact ret_cell (b := n4) aggAns rfl rfl rfl ((hS.bring (by repeat (first | exact t0 | apply tS))).getBlk) rfl ⟨_, rfl, (hS.sel (by repeat (first | exact Sel.refl | refine Sel.take (by repeat (first | exact t0 | apply tS)) ?_ | apply Sel.drop)))⟩
set_option maxRecDepth 100000 in
set_option maxHeartbeats 4000000 in
theorem do_5 {p : Nat} {B : List Ent} {a : PAct} (hS : SepL R base w (hB p B :: F)) (ok : BOk B) (ha : AOk a) (h0 : a.kind ≠ 0) (h1 : a.kind ≠ 1) (h2 : a.kind ≠ 2) (h3 : a.kind ≠ 3) (h4 : a.kind ≠ 4) :
    Calls Try.prog 14 #[.pointer (some ⟨p, 0, none⟩), .agg (actC a).toArray] w (Ret fun r w' => ∃ v, r = .agg #[.bool false, I64 0, v] ∧ SepL R base w' (.own 57 33 v [] :: hB p B :: F)) := by
  obtain ⟨kd, pe, id, nw⟩ := a
  obtain ⟨C, hC⟩ : ∃ C, actC ⟨kd, pe, id, nw⟩ = C := ⟨_, rfl⟩
  have hid : id.length = 32 := ha.id
  have hpe : In64 pe := ha.peer
  have hnw : nw < 18446744073709551616 := ha.now
  have HA0 : Hid (C[0]? = some (I64 kd)) := by rw [← hC]; exact actC_kind _
  have HA1 : Hid (C[1]? = some (I64 pe)) := by rw [← hC]; exact actC_peer _
  have HAI : Hid ((C.drop 2).take 32 = id.map B8) := by rw [← hC]; exact actC_id ha.id
  have HA34 : Hid (C[34]? = some (U nw)) := by rw [← hC]; exact actC_now ha.id
  have HI32 : Hid ((id.map B8).length = 32) := by simp [Hid, hid]
  rw [hC]
  have HOK := hide ok
  have HID := hide hid
  have HPE := hide hpe
  have HNW := hide hnw
  clear hC ha ok hid hpe hnw
  have E0 := eqF h0
  have E1 := eqF h1
  have E2 := eqF h2
  have E3 := eqF h3
  have E4 := eqF h4
  have HONE := ans_one false 0 (v := .slice none 0 0) rfl
  clear h0 h1 h2 h3 h4
  go_enter Try.func14, Try.ntmps14
  go_wp2_with (first
    | (show wpList _ _ _ (⟨_, .box 40 _, _, _, _, _⟩ :: _) _ _; refine wpS_boxA (cs := C) hS rfl rfl rfl ?_; clear hS; intro na w hS; go_frame)
    | (show wpList _ _ _ (⟨some 4, .alloc _, _, _, _, _⟩ :: _) _ _; refine wpS_alloc hS rfl rfl Try.zeroValue43 (zs := [.bool false, .int .i64 0, .slice none 0 0]) rfl ?_; clear hS; intro n4 w hS; go_frame)
    | (show wpList _ _ _ (⟨some 5, .alloc _, _, _, _, _⟩ :: _) _ _; refine wpS_alloc hS rfl rfl Try.zeroValue43 (zs := [.bool false, .int .i64 0, .slice none 0 0]) rfl ?_; clear hS; intro n5 w hS; go_frame)
    | (show wpList _ _ _ (⟨some 7, .load _ _, _, _, _, _⟩ :: _) _ _; refine wpList_val rfl (op_load1S (T := 40) oneInt ((hS.bring (by repeat (first | exact t0 | apply tS)))) rfl rfl HA0.out) ?_; go_frame)
    | (show wpList _ _ _ (⟨some 9, .binOp _ _ _ _ _, _, _, _, _⟩ :: _) _ _; refine wpList_val rfl (op_eqI' rfl rfl rfl E0.out) ?_; go_frame)
    | (show wpList _ _ _ (⟨some 20, .binOp _ _ _ _ _, _, _, _, _⟩ :: _) _ _; refine wpList_val rfl (op_eqI' rfl rfl rfl E1.out) ?_; go_frame)
    | (show wpList _ _ _ (⟨some 27, .binOp _ _ _ _ _, _, _, _, _⟩ :: _) _ _; refine wpList_val rfl (op_eqI' rfl rfl rfl E2.out) ?_; go_frame)
    | (show wpList _ _ _ (⟨some 42, .binOp _ _ _ _ _, _, _, _, _⟩ :: _) _ _; refine wpList_val rfl (op_eqI' rfl rfl rfl E3.out) ?_; go_frame)
    | (show wpList _ _ _ (⟨some 52, .binOp _ _ _ _ _, _, _, _, _⟩ :: _) _ _; refine wpList_val rfl (op_eqI' rfl rfl rfl E4.out) ?_; go_frame)
    | (show wpList _ _ _ (⟨_, .load 43 _, _, _, _, _⟩ :: _) _ _; refine wpList_val rfl (op_load aggAns rfl rfl (SepL.getBlk (b := n5) (T := 43) ((hS.bring (by repeat (first | exact t0 | apply tS))))).cells rfl) ?_; go_frame)
    | (show wpList _ _ _ (⟨_, .store 43 _ _, _, _, _, _⟩ :: _) _ _; (refine wpS_storeAll (b := n4) aggAns (hS.bring (by repeat (first | exact t0 | apply tS))) rfl rfl rfl rfl rfl HONE.out (by simp) ?_); clear hS; intro w hS; go_frame)
    )
  exact ret_cell (b := n4) aggAns rfl rfl rfl ((hS.bring (by repeat (first | exact t0 | apply tS))).getBlk) rfl ⟨_, rfl, SepL.nilOwn (hS.sel (by repeat (first | exact Sel.refl | refine Sel.take (by repeat (first | exact t0 | apply tS)) ?_ | apply Sel.drop))) 57 33⟩
theorem do_s {p : Nat} {B : List Ent} {a : PAct} (hS : SepL R base w (hB p B :: F)) (ok : BOk B) (ha : AOk a) :
    Calls Try.prog 14 #[.pointer (some ⟨p, 0, none⟩), .agg (actC a).toArray] w (Ret fun r w' => ∃ v, r = .agg #[.bool (ansOk a B), I64 (ansPeer a B), v] ∧ SepL R base w' (.own 57 33 v ((ansW a B).map wC) :: hB p (actB a B) :: F)) := by
  unfold ansOk ansPeer ansW actB
  by_cases h0 : a.kind = 0
  · simp only [h0]
    exact do_0 hS ok ha h0
  by_cases h1 : a.kind = 1
  · simp only [h1]
    exact do_1 hS ok ha h1
  by_cases h2 : a.kind = 2
  · simp only [h2]
    exact do_2 hS ok ha h2
  by_cases h3 : a.kind = 3
  · simp only [h3]
    exact do_3 hS ok ha h3
  by_cases h4 : a.kind = 4
  · simp only [h4]
    exact do_4 hS ok ha h4
  simp only [if_neg h0, if_neg h1, if_neg h2, if_neg h3, if_neg h4]
  exact do_5 hS ok ha h0 h1 h2 h3 h4
end
end Go.Proofs.Ytafpdpcbckpkjaa
namespace Go.Proofs.Ytafpdpcbckpkjaa
open Go.RowKit Go.Px
section
variable {R : Nat → Prop} {base w : World} {F : List Hp}
set_option maxRecDepth 100000 in
set_option maxHeartbeats 4000000 in
theorem model_0 {p : Nat} {B : List Ent} {a : PAct} (hS : SepL R base w (rB p B :: F)) (ok : BOk B) (ha : AOk a) (h0 : a.kind = 0) :
    Calls Try.prog 15 #[.pointer (some ⟨p, 0, none⟩), .agg (actC a).toArray] w (Ret fun r w' => ∃ v, r = .agg #[.bool (offerA a.id B), I64 0, v] ∧ SepL R base w' (.own 57 33 v [] :: rB p (offerB a.id a.peer a.now B) :: F)) := by
  obtain ⟨kd, pe, id, nw⟩ := a
  obtain ⟨C, hC⟩ : ∃ C, actC ⟨kd, pe, id, nw⟩ = C := ⟨_, rfl⟩
  have hid : id.length = 32 := ha.id
  have hpe : In64 pe := ha.peer
  have hnw : nw < 18446744073709551616 := ha.now
  have HA0 : Hid (C[0]? = some (I64 kd)) := by rw [← hC]; exact actC_kind _
  have HA1 : Hid (C[1]? = some (I64 pe)) := by rw [← hC]; exact actC_peer _
  have HAI : Hid ((C.drop 2).take 32 = id.map B8) := by rw [← hC]; exact actC_id ha.id
  have HA34 : Hid (C[34]? = some (U nw)) := by rw [← hC]; exact actC_now ha.id
  have HI32 : Hid ((id.map B8).length = 32) := by simp [Hid, hid]
  rw [hC]
  have HOK := hide ok
  have HID := hide hid
  have HPE := hide hpe
  have HNW := hide hnw
  clear hC ha ok hid hpe hnw
  have E0 := eqT h0
  have HONE := ans_one (offerA id B) 0 (v := .slice none 0 0) rfl
  clear h0
  go_enter Try.func15, Try.ntmps15
  go_wp2_with (first
    | (show wpList _ _ _ (⟨_, .box 40 _, _, _, _, _⟩ :: _) _ _; refine wpS_boxA (cs := C) hS rfl rfl rfl ?_; clear hS; intro na w hS; go_frame)
    | (show wpList _ _ _ (⟨some 4, .alloc _, _, _, _, _⟩ :: _) _ _; refine wpS_alloc hS rfl rfl Try.zeroValue43 (zs := [.bool false, .int .i64 0, .slice none 0 0]) rfl ?_; clear hS; intro n4 w hS; go_frame)
    | (show wpList _ _ _ (⟨some 5, .alloc _, _, _, _, _⟩ :: _) _ _; refine wpS_alloc hS rfl rfl Try.zeroValue43 (zs := [.bool false, .int .i64 0, .slice none 0 0]) rfl ?_; clear hS; intro n5 w hS; go_frame)
    | (show wpList _ _ _ (⟨some 7, .load _ _, _, _, _, _⟩ :: _) _ _; refine wpList_val rfl (op_load1S (T := 40) oneInt ((hS.bring (by repeat (first | exact t0 | apply tS)))) rfl rfl HA0.out) ?_; go_frame)
    | (show wpList _ _ _ (⟨some 9, .binOp _ _ _ _ _, _, _, _, _⟩ :: _) _ _; refine wpList_val rfl (op_eqI' rfl rfl rfl E0.out) ?_; go_frame)
    | (show wpList _ _ _ (⟨_, .load 43 _, _, _, _, _⟩ :: _) _ _; refine wpList_val rfl (op_load aggAns rfl rfl (SepL.getBlk (b := n5) (T := 43) ((hS.bring (by repeat (first | exact t0 | apply tS))))).cells rfl) ?_; go_frame)
    | (show wpList _ _ _ (⟨_, .store 43 _ _, _, _, _, _⟩ :: _) _ _; (refine wpS_storeAll (b := n4) aggAns (hS.bring (by repeat (first | exact t0 | apply tS))) rfl rfl rfl rfl rfl HONE.out (by simp) ?_); clear hS; intro w hS; go_frame)
    | (show wpList _ _ _ (⟨_, .load 28 _, _, _, _, _⟩ :: _) _ _; refine wpList_val rfl (op_load aggHash rfl rfl ((SepL.getBlk (T := 40) ((hS.bring (by repeat (first | exact t0 | apply tS))))).cells.subN 2 32 HAI.out) HI32.out) ?_; go_frame)
    | (show wpList _ _ _ (⟨_, .load 3 _, _, _, _, _⟩ :: _) _ _; refine wpList_val rfl (op_load1S (T := 40) oneInt ((hS.bring (by repeat (first | exact t0 | apply tS)))) rfl rfl HA1.out) ?_; go_frame)
    | (show wpList _ _ _ (⟨_, .load 23 _, _, _, _, _⟩ :: _) _ _; refine wpList_val rfl (op_load1S (T := 40) oneU ((hS.bring (by repeat (first | exact t0 | apply tS)))) rfl rfl HA34.out) ?_; go_frame)
    | (show wpList _ _ _ (⟨_, .store 4 _ _, _, _, _, _⟩ :: _) _ _; (refine wpS_store1 (b := n5) (T := 43) (by kernel_rfl) (hS.bring (by repeat (first | exact t0 | apply tS))) rfl rfl rfl rfl rfl rfl (by simp) ?_); clear hS; intro w hS; go_frame)
    | (go_at_call 30; (refine Ret.calls (roffer_any (hS.bring (by repeat (first | exact t0 | apply tS))) HOK.out HID.out ) ?_); clear hS; rintro r w ⟨rfl, hS⟩)
    )
  exact ret_cell (b := n4) aggAns rfl rfl rfl ((hS.bring (by repeat (first | exact t0 | apply tS))).getBlk) rfl ⟨_, rfl, SepL.nilOwn (hS.sel (by repeat (first | exact Sel.refl | refine Sel.take (by repeat (first | exact t0 | apply tS)) ?_ | apply Sel.drop))) 57 33⟩
set_option maxRecDepth 100000 in
set_option maxHeartbeats 4000000 in
theorem model_1 {p : Nat} {B : List Ent} {a : PAct} (hS : SepL R base w (rB p B :: F)) (ok : BOk B) (ha : AOk a) (h0 : a.kind = 1) :
    Calls Try.prog 15 #[.pointer (some ⟨p, 0, none⟩), .agg (actC a).toArray] w (Ret fun r w' => ∃ v, r = .agg #[.bool (decide (a.id ∈ ids B)), I64 0, v] ∧ SepL R base w' (.own 57 33 v [] :: rB p (gotB a.id B) :: F)) := by
  obtain ⟨kd, pe, id, nw⟩ := a
  obtain ⟨C, hC⟩ : ∃ C, actC ⟨kd, pe, id, nw⟩ = C := ⟨_, rfl⟩
  have hid : id.length = 32 := ha.id
  have hpe : In64 pe := ha.peer
  have hnw : nw < 18446744073709551616 := ha.now
  have HA0 : Hid (C[0]? = some (I64 kd)) := by rw [← hC]; exact actC_kind _
  have HA1 : Hid (C[1]? = some (I64 pe)) := by rw [← hC]; exact actC_peer _
  have HAI : Hid ((C.drop 2).take 32 = id.map B8) := by rw [← hC]; exact actC_id ha.id
  have HA34 : Hid (C[34]? = some (U nw)) := by rw [← hC]; exact actC_now ha.id
  have HI32 : Hid ((id.map B8).length = 32) := by simp [Hid, hid]
  rw [hC]
  have HOK := hide ok
  have HID := hide hid
  have HPE := hide hpe
  have HNW := hide hnw
  clear hC ha ok hid hpe hnw
  have E0 := eqF (j := 0) (show kd ≠ 0 from fun h => by rw [h] at h0; cases h0)
  have E1 := eqT h0
  obtain ⟨b, hb⟩ : ∃ b, decide (id ∈ ids B) = b := ⟨_, rfl⟩
  have HB := hide hb
  have HONE := ans_one b 0 (v := .slice none 0 0) rfl
  show Calls _ _ _ _ (Ret fun r w' => ∃ v, r = .agg #[.bool (decide (id ∈ ids B)), I64 0, v] ∧ _)
  rw [hb]
  clear h0 hb
  go_enter Try.func15, Try.ntmps15
  go_wp2_with (first
    | (show wpList _ _ _ (⟨_, .box 40 _, _, _, _, _⟩ :: _) _ _; refine wpS_boxA (cs := C) hS rfl rfl rfl ?_; clear hS; intro na w hS; go_frame)
    | (show wpList _ _ _ (⟨some 4, .alloc _, _, _, _, _⟩ :: _) _ _; refine wpS_alloc hS rfl rfl Try.zeroValue43 (zs := [.bool false, .int .i64 0, .slice none 0 0]) rfl ?_; clear hS; intro n4 w hS; go_frame)
    | (show wpList _ _ _ (⟨some 5, .alloc _, _, _, _, _⟩ :: _) _ _; refine wpS_alloc hS rfl rfl Try.zeroValue43 (zs := [.bool false, .int .i64 0, .slice none 0 0]) rfl ?_; clear hS; intro n5 w hS; go_frame)
    | (show wpList _ _ _ (⟨some 7, .load _ _, _, _, _, _⟩ :: _) _ _; refine wpList_val rfl (op_load1S (T := 40) oneInt ((hS.bring (by repeat (first | exact t0 | apply tS)))) rfl rfl HA0.out) ?_; go_frame)
    | (show wpList _ _ _ (⟨some 9, .binOp _ _ _ _ _, _, _, _, _⟩ :: _) _ _; refine wpList_val rfl (op_eqI' rfl rfl rfl E0.out) ?_; go_frame)
    | (show wpList _ _ _ (⟨some 20, .binOp _ _ _ _ _, _, _, _, _⟩ :: _) _ _; refine wpList_val rfl (op_eqI' rfl rfl rfl E1.out) ?_; go_frame)
    | (show wpList _ _ _ (⟨_, .load 43 _, _, _, _, _⟩ :: _) _ _; refine wpList_val rfl (op_load aggAns rfl rfl (SepL.getBlk (b := n5) (T := 43) ((hS.bring (by repeat (first | exact t0 | apply tS))))).cells rfl) ?_; go_frame)
    | (show wpList _ _ _ (⟨_, .store 43 _ _, _, _, _, _⟩ :: _) _ _; (refine wpS_storeAll (b := n4) aggAns (hS.bring (by repeat (first | exact t0 | apply tS))) rfl rfl rfl rfl rfl HONE.out (by simp) ?_); clear hS; intro w hS; go_frame)
    | (show wpList _ _ _ (⟨_, .load 28 _, _, _, _, _⟩ :: _) _ _; refine wpList_val rfl (op_load aggHash rfl rfl ((SepL.getBlk (T := 40) ((hS.bring (by repeat (first | exact t0 | apply tS))))).cells.subN 2 32 HAI.out) HI32.out) ?_; go_frame)
    | (show wpList _ _ _ (⟨_, .store 4 _ _, _, _, _, _⟩ :: _) _ _; (refine wpS_store1 (b := n5) (T := 43) (by kernel_rfl) (hS.bring (by repeat (first | exact t0 | apply tS))) rfl rfl rfl rfl rfl rfl (by simp) ?_); clear hS; intro w hS; go_frame)
    | (go_at_call 31; (refine Ret.calls (rgot_any (hS.bring (by repeat (first | exact t0 | apply tS))) HOK.out HID.out) ?_); clear hS; rw [HB.out]; rintro r w ⟨rfl, hS⟩)
    )
  exact ret_cell (b := n4) aggAns rfl rfl rfl ((hS.bring (by repeat (first | exact t0 | apply tS))).getBlk) rfl ⟨_, rfl, SepL.nilOwn (hS.sel (by repeat (first | exact Sel.refl | refine Sel.take (by repeat (first | exact t0 | apply tS)) ?_ | apply Sel.drop))) 57 33⟩
set_option maxRecDepth 100000 in
set_option maxHeartbeats 4000000 in
theorem model_2 {p : Nat} {B : List Ent} {a : PAct} (hS : SepL R base w (rB p B :: F)) (ok : BOk B) (ha : AOk a) (h0 : a.kind = 2) :
    Calls Try.prog 15 #[.pointer (some ⟨p, 0, none⟩), .agg (actC a).toArray] w (Ret fun r w' => ∃ v, r = .agg #[.bool (lackQ a.peer a.id B).2, I64 (lackQ a.peer a.id B).1, v] ∧ SepL R base w' (.own 57 33 v [] :: rB p (lackB a.id a.peer a.now B) :: F)) := by
  obtain ⟨kd, pe, id, nw⟩ := a
  obtain ⟨C, hC⟩ : ∃ C, actC ⟨kd, pe, id, nw⟩ = C := ⟨_, rfl⟩
  have hid : id.length = 32 := ha.id
  have hpe : In64 pe := ha.peer
  have hnw : nw < 18446744073709551616 := ha.now
  have HA0 : Hid (C[0]? = some (I64 kd)) := by rw [← hC]; exact actC_kind _
  have HA1 : Hid (C[1]? = some (I64 pe)) := by rw [← hC]; exact actC_peer _
  have HAI : Hid ((C.drop 2).take 32 = id.map B8) := by rw [← hC]; exact actC_id ha.id
  have HA34 : Hid (C[34]? = some (U nw)) := by rw [← hC]; exact actC_now ha.id
  have HI32 : Hid ((id.map B8).length = 32) := by simp [Hid, hid]
  rw [hC]
  have HOK := hide ok
  have HID := hide hid
  have HPE := hide hpe
  have HNW := hide hnw
  clear hC ha ok hid hpe hnw
  have E0 := eqF (j := 0) (show kd ≠ 0 from fun h => by rw [h] at h0; cases h0)
  have E1 := eqF (j := 1) (show kd ≠ 1 from fun h => by rw [h] at h0; cases h0)
  have E2 := eqT h0
  show Calls _ _ _ _ (Ret fun r w' => ∃ v, r = .agg #[.bool (lackQ pe id B).2, I64 (lackQ pe id B).1, v] ∧ _)
  have hlq := lackV_eq pe id B
  obtain ⟨z, hz⟩ : ∃ z, (lackQ pe id B).1 = z := ⟨_, rfl⟩
  obtain ⟨b, hb⟩ : ∃ b, (lackQ pe id B).2 = b := ⟨_, rfl⟩
  rw [hz, hb] at hlq ⊢
  have HLQ := hide hlq
  have HONE := ans_one b z (v := .slice none 0 0) rfl
  clear h0 hlq hz hb
  go_enter Try.func15, Try.ntmps15
  go_wp2_with (first
    | (show wpList _ _ _ (⟨_, .box 40 _, _, _, _, _⟩ :: _) _ _; refine wpS_boxA (cs := C) hS rfl rfl rfl ?_; clear hS; intro na w hS; go_frame)
    | (show wpList _ _ _ (⟨some 4, .alloc _, _, _, _, _⟩ :: _) _ _; refine wpS_alloc hS rfl rfl Try.zeroValue43 (zs := [.bool false, .int .i64 0, .slice none 0 0]) rfl ?_; clear hS; intro n4 w hS; go_frame)
    | (show wpList _ _ _ (⟨some 5, .alloc _, _, _, _, _⟩ :: _) _ _; refine wpS_alloc hS rfl rfl Try.zeroValue43 (zs := [.bool false, .int .i64 0, .slice none 0 0]) rfl ?_; clear hS; intro n5 w hS; go_frame)
    | (show wpList _ _ _ (⟨some 7, .load _ _, _, _, _, _⟩ :: _) _ _; refine wpList_val rfl (op_load1S (T := 40) oneInt ((hS.bring (by repeat (first | exact t0 | apply tS)))) rfl rfl HA0.out) ?_; go_frame)
    | (show wpList _ _ _ (⟨some 9, .binOp _ _ _ _ _, _, _, _, _⟩ :: _) _ _; refine wpList_val rfl (op_eqI' rfl rfl rfl E0.out) ?_; go_frame)
    | (show wpList _ _ _ (⟨some 20, .binOp _ _ _ _ _, _, _, _, _⟩ :: _) _ _; refine wpList_val rfl (op_eqI' rfl rfl rfl E1.out) ?_; go_frame)
    | (show wpList _ _ _ (⟨some 27, .binOp _ _ _ _ _, _, _, _, _⟩ :: _) _ _; refine wpList_val rfl (op_eqI' rfl rfl rfl E2.out) ?_; go_frame)
    | (show wpList _ _ _ (⟨_, .load 43 _, _, _, _, _⟩ :: _) _ _; refine wpList_val rfl (op_load aggAns rfl rfl (SepL.getBlk (b := n5) (T := 43) ((hS.bring (by repeat (first | exact t0 | apply tS))))).cells rfl) ?_; go_frame)
    | (show wpList _ _ _ (⟨_, .store 43 _ _, _, _, _, _⟩ :: _) _ _; (refine wpS_storeAll (b := n4) aggAns (hS.bring (by repeat (first | exact t0 | apply tS))) rfl rfl rfl rfl rfl HONE.out (by simp) ?_); clear hS; intro w hS; go_frame)
    | (show wpList _ _ _ (⟨_, .load 28 _, _, _, _, _⟩ :: _) _ _; refine wpList_val rfl (op_load aggHash rfl rfl ((SepL.getBlk (T := 40) ((hS.bring (by repeat (first | exact t0 | apply tS))))).cells.subN 2 32 HAI.out) HI32.out) ?_; go_frame)
    | (show wpList _ _ _ (⟨_, .load 3 _, _, _, _, _⟩ :: _) _ _; refine wpList_val rfl (op_load1S (T := 40) oneInt ((hS.bring (by repeat (first | exact t0 | apply tS)))) rfl rfl HA1.out) ?_; go_frame)
    | (show wpList _ _ _ (⟨_, .load 23 _, _, _, _, _⟩ :: _) _ _; refine wpList_val rfl (op_load1S (T := 40) oneU ((hS.bring (by repeat (first | exact t0 | apply tS)))) rfl rfl HA34.out) ?_; go_frame)
    | (show wpList _ _ _ (⟨_, .store 4 _ _, _, _, _, _⟩ :: _) _ _; (refine wpS_store1 (b := n5) (T := 43) (by kernel_rfl) (hS.bring (by repeat (first | exact t0 | apply tS))) rfl rfl rfl rfl rfl rfl (by simp) ?_); clear hS; intro w hS; go_frame)
    | (show wpList _ _ _ (⟨_, .store 3 _ _, _, _, _, _⟩ :: _) _ _; (refine wpS_store1 (b := n5) (T := 43) (by kernel_rfl) (hS.bring (by repeat (first | exact t0 | apply tS))) rfl rfl rfl rfl rfl rfl (by simp) ?_); clear hS; intro w hS; go_frame)
    | (go_at_call 32; (refine Ret.calls (rlack_any (hS.bring (by repeat (first | exact t0 | apply tS))) HOK.out HID.out) ?_); clear hS; rw [HLQ.out]; rintro r w ⟨rfl, hS⟩)
    )
  exact ret_cell (b := n4) aggAns rfl rfl rfl ((hS.bring (by repeat (first | exact t0 | apply tS))).getBlk) rfl ⟨_, rfl, SepL.nilOwn (hS.sel (by repeat (first | exact Sel.refl | refine Sel.take (by repeat (first | exact t0 | apply tS)) ?_ | apply Sel.drop))) 57 33⟩
set_option maxRecDepth 100000 in
set_option maxHeartbeats 4000000 in
theorem model_3 {p : Nat} {B : List Ent} {a : PAct} (hS : SepL R base w (rB p B :: F)) (ok : BOk B) (ha : AOk a) (h0 : a.kind = 3) :
    Calls Try.prog 15 #[.pointer (some ⟨p, 0, none⟩), .agg (actC a).toArray] w (Ret fun r w' => ∃ v, r = .agg #[.bool false, I64 0, v] ∧ SepL R base w' (.own 57 33 v ((eachW (goneOn a.peer) B).map wC) :: rB p (eachB (goneOn a.peer) a.now B) :: F)) := by
  obtain ⟨kd, pe, id, nw⟩ := a
  obtain ⟨C, hC⟩ : ∃ C, actC ⟨kd, pe, id, nw⟩ = C := ⟨_, rfl⟩
  have hid : id.length = 32 := ha.id
  have hpe : In64 pe := ha.peer
  have hnw : nw < 18446744073709551616 := ha.now
  have HA0 : Hid (C[0]? = some (I64 kd)) := by rw [← hC]; exact actC_kind _
  have HA1 : Hid (C[1]? = some (I64 pe)) := by rw [← hC]; exact actC_peer _
  have HAI : Hid ((C.drop 2).take 32 = id.map B8) := by rw [← hC]; exact actC_id ha.id
  have HA34 : Hid (C[34]? = some (U nw)) := by rw [← hC]; exact actC_now ha.id
  have HI32 : Hid ((id.map B8).length = 32) := by simp [Hid, hid]
  rw [hC]
  have HOK := hide ok
  have HID := hide hid
  have HPE := hide hpe
  have HNW := hide hnw
  clear hC ha ok hid hpe hnw
  have E0 := eqF (j := 0) (show kd ≠ 0 from fun h => by rw [h] at h0; cases h0)
  have E1 := eqF (j := 1) (show kd ≠ 1 from fun h => by rw [h] at h0; cases h0)
  have E2 := eqF (j := 2) (show kd ≠ 2 from fun h => by rw [h] at h0; cases h0)
  have E3 := eqT h0
  show Calls _ _ _ _ (Ret fun r w' => ∃ v, r = .agg #[.bool false, I64 0, v] ∧ SepL R base w' (.own 57 33 v ((eachW (goneOn pe) B).map wC) :: rB p (eachB (goneOn pe) nw B) :: F))
  clear h0
  go_enter Try.func15, Try.ntmps15
  go_wp2_with (first
    | (show wpList _ _ _ (⟨_, .box 40 _, _, _, _, _⟩ :: _) _ _; refine wpS_boxA (cs := C) hS rfl rfl rfl ?_; clear hS; intro na w hS; go_frame)
    | (show wpList _ _ _ (⟨some 4, .alloc _, _, _, _, _⟩ :: _) _ _; refine wpS_alloc hS rfl rfl Try.zeroValue43 (zs := [.bool false, .int .i64 0, .slice none 0 0]) rfl ?_; clear hS; intro n4 w hS; go_frame)
    | (show wpList _ _ _ (⟨some 5, .alloc _, _, _, _, _⟩ :: _) _ _; refine wpS_alloc hS rfl rfl Try.zeroValue43 (zs := [.bool false, .int .i64 0, .slice none 0 0]) rfl ?_; clear hS; intro n5 w hS; go_frame)
    | (show wpList _ _ _ (⟨some 7, .load _ _, _, _, _, _⟩ :: _) _ _; refine wpList_val rfl (op_load1S (T := 40) oneInt ((hS.bring (by repeat (first | exact t0 | apply tS)))) rfl rfl HA0.out) ?_; go_frame)
    | (show wpList _ _ _ (⟨some 9, .binOp _ _ _ _ _, _, _, _, _⟩ :: _) _ _; refine wpList_val rfl (op_eqI' rfl rfl rfl E0.out) ?_; go_frame)
    | (show wpList _ _ _ (⟨some 20, .binOp _ _ _ _ _, _, _, _, _⟩ :: _) _ _; refine wpList_val rfl (op_eqI' rfl rfl rfl E1.out) ?_; go_frame)
    | (show wpList _ _ _ (⟨some 27, .binOp _ _ _ _ _, _, _, _, _⟩ :: _) _ _; refine wpList_val rfl (op_eqI' rfl rfl rfl E2.out) ?_; go_frame)
    | (show wpList _ _ _ (⟨some 42, .binOp _ _ _ _ _, _, _, _, _⟩ :: _) _ _; refine wpList_val rfl (op_eqI' rfl rfl rfl E3.out) ?_; go_frame)
    | (show wpList _ _ _ (⟨_, .load 43 _, _, _, _, _⟩ :: _) _ _; refine wpList_val rfl (op_load aggAns rfl rfl (SepL.getBlk (b := n5) (T := 43) ((hS.bring (by repeat (first | exact t0 | apply tS))))).cells rfl) ?_; go_frame)
    | (show wpList _ _ _ (⟨_, .store 43 _ _, _, _, _, _⟩ :: _) _ _; (refine wpS_storeAll (b := n4) aggAns (hS.bring (by repeat (first | exact t0 | apply tS))) rfl rfl rfl rfl rfl HONE.out (by simp) ?_); clear hS; intro w hS; go_frame)
    | (show wpList _ _ _ (⟨_, .load 3 _, _, _, _, _⟩ :: _) _ _; refine wpList_val rfl (op_load1S (T := 40) oneInt ((hS.bring (by repeat (first | exact t0 | apply tS)))) rfl rfl HA1.out) ?_; go_frame)
    | (show wpList _ _ _ (⟨_, .load 23 _, _, _, _, _⟩ :: _) _ _; refine wpList_val rfl (op_load1S (T := 40) oneU ((hS.bring (by repeat (first | exact t0 | apply tS)))) rfl rfl HA34.out) ?_; go_frame)
    | (show wpList _ _ _ (⟨_, .store 41 _ _, _, _, _, _⟩ :: _) _ _; (refine wpS_store1 (b := n5) (T := 43) (by kernel_rfl) (hS.bring (by repeat (first | exact t0 | apply tS))) rfl rfl rfl rfl HV2.out HV3.out (by simp) ?_); clear hS; intro w hS; have HONE := ans_one false 0 HV3.out; go_frame)
    | (go_at_call 33; (refine Ret.calls (rgone_s (hS.bring (by repeat (first | exact t0 | apply tS))) HOK.out HNW.out) ?_); clear hS; rintro r w hS; have HV2 := hide hS.getOwn.rd.cells1; have HV3 := hide hS.getOwn.rd.one1)
    )
  exact ret_cell (b := n4) aggAns rfl rfl rfl ((hS.bring (by repeat (first | exact t0 | apply tS))).getBlk) rfl ⟨_, rfl, (hS.sel (by repeat (first | exact Sel.refl | refine Sel.take (by repeat (first | exact t0 | apply tS)) ?_ | apply Sel.drop)))⟩
set_option maxRecDepth 100000 in
set_option maxHeartbeats 4000000 in
theorem model_4 {p : Nat} {B : List Ent} {a : PAct} (hS : SepL R base w (rB p B :: F)) (ok : BOk B) (ha : AOk a) (h0 : a.kind = 4) :
    Calls Try.prog 15 #[.pointer (some ⟨p, 0, none⟩), .agg (actC a).toArray] w (Ret fun r w' => ∃ v, r = .agg #[.bool false, I64 0, v] ∧ SepL R base w' (.own 57 33 v ((eachW (lateOn a.now) B).map wC) :: rB p (eachB (lateOn a.now) a.now B) :: F)) := by
  obtain ⟨kd, pe, id, nw⟩ := a
  obtain ⟨C, hC⟩ : ∃ C, actC ⟨kd, pe, id, nw⟩ = C := ⟨_, rfl⟩
  have hid : id.length = 32 := ha.id
  have hpe : In64 pe := ha.peer
  have hnw : nw < 18446744073709551616 := ha.now
  have HA0 : Hid (C[0]? = some (I64 kd)) := by rw [← hC]; exact actC_kind _
  have HA1 : Hid (C[1]? = some (I64 pe)) := by rw [← hC]; exact actC_peer _
  have HAI : Hid ((C.drop 2).take 32 = id.map B8) := by rw [← hC]; exact actC_id ha.id
  have HA34 : Hid (C[34]? = some (U nw)) := by rw [← hC]; exact actC_now ha.id
  have HI32 : Hid ((id.map B8).length = 32) := by simp [Hid, hid]
  rw [hC]
  have HOK := hide ok
  have HID := hide hid
  have HPE := hide hpe
  have HNW := hide hnw
  clear hC ha ok hid hpe hnw
  have E0 := eqF (j := 0) (show kd ≠ 0 from fun h => by rw [h] at h0; cases h0)
  have E1 := eqF (j := 1) (show kd ≠ 1 from fun h => by rw [h] at h0; cases h0)
  have E2 := eqF (j := 2) (show kd ≠ 2 from fun h => by rw [h] at h0; cases h0)
  have E3 := eqF (j := 3) (show kd ≠ 3 from fun h => by rw [h] at h0; cases h0)
  have E4 := eqT h0
  show Calls _ _ _ _ (Ret fun r w' => ∃ v, r = .agg #[.bool false, I64 0, v] ∧ SepL R base w' (.own 57 33 v ((eachW (lateOn nw) B).map wC) :: rB p (eachB (lateOn nw) nw B) :: F))
  clear h0
  go_enter Try.func15, Try.ntmps15
  go_wp2_with (first
    | (show wpList _ _ _ (⟨_, .box 40 _, _, _, _, _⟩ :: _) _ _; refine wpS_boxA (cs := C) hS rfl rfl rfl ?_; clear hS; intro na w hS; go_frame)
    | (show wpList _ _ _ (⟨some 4, .alloc _, _, _, _, _⟩ :: _) _ _; refine wpS_alloc hS rfl rfl Try.zeroValue43 (zs := [.bool false, .int .i64 0, .slice none 0 0]) rfl ?_; clear hS; intro n4 w hS; go_frame)
    | (show wpList _ _ _ (⟨some 5, .alloc _, _, _, _, _⟩ :: _) _ _; refine wpS_alloc hS rfl rfl Try.zeroValue43 (zs := [.bool false, .int .i64 0, .slice none 0 0]) rfl ?_; clear hS; intro n5 w hS; go_frame)
    | (show wpList _ _ _ (⟨some 7, .load _ _, _, _, _, _⟩ :: _) _ _; refine wpList_val rfl (op_load1S (T := 40) oneInt ((hS.bring (by repeat (first | exact t0 | apply tS)))) rfl rfl HA0.out) ?_; go_frame)
    | (show wpList _ _ _ (⟨some 9, .binOp _ _ _ _ _, _, _, _, _⟩ :: _) _ _; refine wpList_val rfl (op_eqI' rfl rfl rfl E0.out) ?_; go_frame)
    | (show wpList _ _ _ (⟨some 20, .binOp _ _ _ _ _, _, _, _, _⟩ :: _) _ _; refine wpList_val rfl (op_eqI' rfl rfl rfl E1.out) ?_; go_frame)
    | (show wpList _ _ _ (⟨some 27, .binOp _ _ _ _ _, _, _, _, _⟩ :: _) _ _; refine wpList_val rfl (op_eqI' rfl rfl rfl E2.out) ?_; go_frame)
    | (show wpList _ _ _ (⟨some 42, .binOp _ _ _ _ _, _, _, _, _⟩ :: _) _ _; refine wpList_val rfl (op_eqI' rfl rfl rfl E3.out) ?_; go_frame)
    | (show wpList _ _ _ (⟨some 51, .binOp _ _ _ _ _, _, _, _, _⟩ :: _) _ _; refine wpList_val rfl (op_eqI' rfl rfl rfl E4.out) ?_; go_frame)
    | (show wpList _ _ _ (⟨_, .load 43 _, _, _, _, _⟩ :: _) _ _; refine wpList_val rfl (op_load aggAns rfl rfl (SepL.getBlk (b := n5) (T := 43) ((hS.bring (by repeat (first | exact t0 | apply tS))))).cells rfl) ?_; go_frame)
    | (show wpList _ _ _ (⟨_, .store 43 _ _, _, _, _, _⟩ :: _) _ _; (refine wpS_storeAll (b := n4) aggAns (hS.bring (by repeat (first | exact t0 | apply tS))) rfl rfl rfl rfl rfl HONE.out (by simp) ?_); clear hS; intro w hS; go_frame)
    | (show wpList _ _ _ (⟨_, .load 23 _, _, _, _, _⟩ :: _) _ _; refine wpList_val rfl (op_load1S (T := 40) oneU ((hS.bring (by repeat (first | exact t0 | apply tS)))) rfl rfl HA34.out) ?_; go_frame)
    | (show wpList _ _ _ (⟨_, .store 41 _ _, _, _, _, _⟩ :: _) _ _; (refine wpS_store1 (b := n5) (T := 43) (by kernel_rfl) (hS.bring (by repeat (first | exact t0 | apply tS))) rfl rfl rfl rfl HV2.out HV3.out (by simp) ?_); clear hS; intro w hS; have HONE := ans_one false 0 HV3.out; go_frame)
    | (go_at_call 34; (refine Ret.calls (rlate_s (hS.bring (by repeat (first | exact t0 | apply tS))) HOK.out HNW.out) ?_); clear hS; rintro r w hS; have HV2 := hide hS.getOwn.rd.cells1; have HV3 := hide hS.getOwn.rd.one1)
    )
  exact ret_cell (b := n4) aggAns rfl rfl rfl ((hS.bring (by repeat (first | exact t0 | apply tS))).getBlk) rfl ⟨_, rfl, (hS.sel (by repeat (first | exact Sel.refl | refine Sel.take (by repeat (first | exact t0 | apply tS)) ?_ | apply Sel.drop)))⟩
set_option maxRecDepth 100000 in
set_option maxHeartbeats 4000000 in
theorem model_5 {p : Nat} {B : List Ent} {a : PAct} (hS : SepL R base w (rB p B :: F)) (ok : BOk B) (ha : AOk a) (h0 : a.kind ≠ 0) (h1 : a.kind ≠ 1) (h2 : a.kind ≠ 2) (h3 : a.kind ≠ 3) (h4 : a.kind ≠ 4) :
    Calls Try.prog 15 #[.pointer (some ⟨p, 0, none⟩), .agg (actC a).toArray] w (Ret fun r w' => ∃ v, r = .agg #[.bool false, I64 0, v] ∧ SepL R base w' (.own 57 33 v [] :: rB p B :: F)) := by
  obtain ⟨kd, pe, id, nw⟩ := a
  obtain ⟨C, hC⟩ : ∃ C, actC ⟨kd, pe, id, nw⟩ = C := ⟨_, rfl⟩
  have hid : id.length = 32 := ha.id
  have hpe : In64 pe := ha.peer
  have hnw : nw < 18446744073709551616 := ha.now
  have HA0 : Hid (C[0]? = some (I64 kd)) := by rw [← hC]; exact actC_kind _
  have HA1 : Hid (C[1]? = some (I64 pe)) := by rw [← hC]; exact actC_peer _
  have HAI : Hid ((C.drop 2).take 32 = id.map B8) := by rw [← hC]; exact actC_id ha.id
  have HA34 : Hid (C[34]? = some (U nw)) := by rw [← hC]; exact actC_now ha.id
  have HI32 : Hid ((id.map B8).length = 32) := by simp [Hid, hid]
  rw [hC]
  have HOK := hide ok
  have HID := hide hid
  have HPE := hide hpe
  have HNW := hide hnw
  clear hC ha ok hid hpe hnw
  have E0 := eqF h0
  have E1 := eqF h1
  have E2 := eqF h2
  have E3 := eqF h3
  have E4 := eqF h4
  have HONE := ans_one false 0 (v := .slice none 0 0) rfl
  clear h0 h1 h2 h3 h4
  go_enter Try.func15, Try.ntmps15
  go_wp2_with (first
    | (show wpList _ _ _ (⟨_, .box 40 _, _, _, _, _⟩ :: _) _ _; refine wpS_boxA (cs := C) hS rfl rfl rfl ?_; clear hS; intro na w hS; go_frame)
    | (show wpList _ _ _ (⟨some 4, .alloc _, _, _, _, _⟩ :: _) _ _; refine wpS_alloc hS rfl rfl Try.zeroValue43 (zs := [.bool false, .int .i64 0, .slice none 0 0]) rfl ?_; clear hS; intro n4 w hS; go_frame)
    | (show wpList _ _ _ (⟨some 5, .alloc _, _, _, _, _⟩ :: _) _ _; refine wpS_alloc hS rfl rfl Try.zeroValue43 (zs := [.bool false, .int .i64 0, .slice none 0 0]) rfl ?_; clear hS; intro n5 w hS; go_frame)
    | (show wpList _ _ _ (⟨some 7, .load _ _, _, _, _, _⟩ :: _) _ _; refine wpList_val rfl (op_load1S (T := 40) oneInt ((hS.bring (by repeat (first | exact t0 | apply tS)))) rfl rfl HA0.out) ?_; go_frame)
    | (show wpList _ _ _ (⟨some 9, .binOp _ _ _ _ _, _, _, _, _⟩ :: _) _ _; refine wpList_val rfl (op_eqI' rfl rfl rfl E0.out) ?_; go_frame)
    | (show wpList _ _ _ (⟨some 20, .binOp _ _ _ _ _, _, _, _, _⟩ :: _) _ _; refine wpList_val rfl (op_eqI' rfl rfl rfl E1.out) ?_; go_frame)
    | (show wpList _ _ _ (⟨some 27, .binOp _ _ _ _ _, _, _, _, _⟩ :: _) _ _; refine wpList_val rfl (op_eqI' rfl rfl rfl E2.out) ?_; go_frame)
    | (show wpList _ _ _ (⟨some 42, .binOp _ _ _ _ _, _, _, _, _⟩ :: _) _ _; refine wpList_val rfl (op_eqI' rfl rfl rfl E3.out) ?_; go_frame)
    | (show wpList _ _ _ (⟨some 51, .binOp _ _ _ _ _, _, _, _, _⟩ :: _) _ _; refine wpList_val rfl (op_eqI' rfl rfl rfl E4.out) ?_; go_frame)
    | (show wpList _ _ _ (⟨_, .load 43 _, _, _, _, _⟩ :: _) _ _; refine wpList_val rfl (op_load aggAns rfl rfl (SepL.getBlk (b := n5) (T := 43) ((hS.bring (by repeat (first | exact t0 | apply tS))))).cells rfl) ?_; go_frame)
    | (show wpList _ _ _ (⟨_, .store 43 _ _, _, _, _, _⟩ :: _) _ _; (refine wpS_storeAll (b := n4) aggAns (hS.bring (by repeat (first | exact t0 | apply tS))) rfl rfl rfl rfl rfl HONE.out (by simp) ?_); clear hS; intro w hS; go_frame)
    )
  exact ret_cell (b := n4) aggAns rfl rfl rfl ((hS.bring (by repeat (first | exact t0 | apply tS))).getBlk) rfl ⟨_, rfl, SepL.nilOwn (hS.sel (by repeat (first | exact Sel.refl | refine Sel.take (by repeat (first | exact t0 | apply tS)) ?_ | apply Sel.drop))) 57 33⟩
theorem model_s {p : Nat} {B : List Ent} {a : PAct} (hS : SepL R base w (rB p B :: F)) (ok : BOk B) (ha : AOk a) :
    Calls Try.prog 15 #[.pointer (some ⟨p, 0, none⟩), .agg (actC a).toArray] w (Ret fun r w' => ∃ v, r = .agg #[.bool (ansOk a B), I64 (ansPeer a B), v] ∧ SepL R base w' (.own 57 33 v ((ansW a B).map wC) :: rB p (actB a B) :: F)) := by
  unfold ansOk ansPeer ansW actB
  by_cases h0 : a.kind = 0
  · simp only [h0]
    exact model_0 hS ok ha h0
  by_cases h1 : a.kind = 1
  · simp only [h1]
    exact model_1 hS ok ha h1
  by_cases h2 : a.kind = 2
  · simp only [h2]
    exact model_2 hS ok ha h2
  by_cases h3 : a.kind = 3
  · simp only [h3]
    exact model_3 hS ok ha h3
  by_cases h4 : a.kind = 4
  · simp only [h4]
    exact model_4 hS ok ha h4
  simp only [if_neg h0, if_neg h1, if_neg h2, if_neg h3, if_neg h4]
  exact model_5 hS ok ha h0 h1 h2 h3 h4
end
end Go.Proofs.Ytafpdpcbckpkjaa
namespace Go.Proofs.Ytafpdpcbckpkjaa
open Go.RowKit Go.Px Go.WideMaps
theorem keyRWant : Key Try.prog 57 where
  law := Maps.Keyed.of_law (deep_law_laid Try.laidOut (m := 3) (by omega) (of_decide_eq_true (by kernel_rfl)) (by kernel_rfl) (by kernel_rfl))
  eq := fun w {x y lx ly} hx hy => run_equal_deep w (m := 3) (by omega) (by kernel_rfl) (by kernel_rfl) hx hy
  guard := by kernel_rfl
theorem lits_hash {l : List Byte} (hl : l.length = 32) (D : Nat) : ∃ ls, Try.prog.keyLits (D + 2) 28 (l.map B8) = some ls := by
  unfold Program.keyLits
  simp only [arrHash.hu]
  rw [if_pos (by rw [arrHash.size]; simpa using hl)]
  rw [mapM_lits undU8 (f := fun i => ((l.getD i 0).toNat : Int)) (by
    intro i
    have := (l.getD i 0).isLt
    simp [Lit.wf, IntKind.min, IntKind.max, IntKind.signed, IntKind.bits]
    omega) _ (by
    intro i hi
    have hi2 : i < l.length := by rw [hl]; exact List.mem_range.1 hi
    rw [arrHash.one, Nat.mul_one, List.drop_eq_getElem_cons (by simpa using hi2), List.take_succ_cons, List.take_zero, List.getElem_map, List.getD_eq_getElem?_getD, List.getElem?_eq_getElem hi2]
    rfl)]
  exact ⟨_, rfl⟩
theorem lits_int {z : Int} (h : In64 z) (D : Nat) : Try.prog.keyLits (D + 1) 3 [I64 z] = some [.int .i64 z] := by
  unfold Program.keyLits
  simp only [undInt]
  rw [if_pos ⟨trivial, by
    have h1 := h.1
    have h2 := h.2
    simp [Lit.wf, IntKind.min, IntKind.max, IntKind.signed, IntKind.bits]
    omega⟩]
theorem und_rw : ∃ fs f0 f1, Try.prog.underlying 57 = some (.struct fs) ∧ fs.toList = [f0, f1] ∧ f0.type = 28 ∧ f0.offset = 0 ∧ f1.type = 3 ∧ f1.offset = 32 ∧ fs.all (·.name != "_") = true := ⟨_, _, _, Try.underlying57, rfl, rfl, rfl, rfl, rfl, by kernel_rfl⟩
theorem size_rw : Try.prog.cellsOf 57 = 33 := by kernel_rfl
theorem size_int : Try.prog.cellsOf 3 = 1 := by kernel_rfl
theorem kt_rw : Try.prog.keyType 57 = true := by kernel_rfl
theorem sizes3 : ∃ m, Try.prog.types.size = m + 2 := ⟨Try.prog.types.size - 2, by kernel_rfl⟩
theorem isKeyRW {x : List Byte × Int} (h32 : x.1.length = 32) (hz : In64 x.2) : IsKey Try.prog 57 (.agg (wC x).toArray) := by
  obtain ⟨fs, f0, f1, hu, hfs, h1, h2, h3, h4, h5⟩ := und_rw
  obtain ⟨m, hm⟩ := sizes3
  have hlen : (wC x).length = 33 := by simp [wC, h32]
  unfold IsKey keyOf
  simp only [hu]
  rw [if_pos (by simp [kt_rw, Value.formed, hu, size_rw, hlen]), hm]
  unfold Program.keyLits
  simp only [hu, Value.cells]
  rw [if_pos ⟨by rw [size_rw]; simpa using hlen, h5⟩, hfs]
  obtain ⟨ls, hls⟩ := lits_hash h32 m
  have a1 : (wC x).take 32 = x.1.map B8 := by unfold wC; rw [List.take_left' (by simp [h32])]
  have a2 : ((wC x).drop 32).take 1 = [I64 x.2] := by
    unfold wC
    rw [List.drop_left' (by simp [h32])]
    rfl
  simp only [List.mapM_cons, List.mapM_nil, h1, h2, h3, h4, arrHash.size, size_int, List.drop_zero, a1, a2, hls, lits_int hz]
  exact ⟨_, rfl⟩
theorem wC_inj {x y : List Byte × Int} (hx : x.1.length = 32) (hy : y.1.length = 32) (h : wC x = wC y) : x = y := by
  unfold wC at h
  obtain ⟨h1, h2⟩ := List.append_inj h (by simp [hx, hy])
  injection h2 with h2
  injection h2 with _ h2
  exact Prod.ext (map_B8_inj h1) h2
theorem wC_eqv {x y : List Byte × Int} (hx : x.1.length = 32) (hy : y.1.length = 32) : eqv (.agg (wC x).toArray) (.agg (wC y).toArray) = decide (x = y) := by
  rw [Bool.eq_iff_iff, eqv_true, decide_eq_true_iff]
  refine ⟨fun h => ?_, fun h => by rw [h]⟩
  injection h with h
  exact wC_inj hx hy (by simpa using h)
set_option maxRecDepth 100000 in
set_option maxHeartbeats 2000000 in
theorem same_s {w : World} {v u : Value} {L M : List (List Byte × Int)} (hv0 : Rd 33 w v (L.map wC)) (hu0 : Rd 33 w u (M.map wC)) (hLW : WOk L) (hMW : WOk M) :
    Calls Try.prog 16 #[v, u] w (Ret fun r w' => r = .bool (decide (L = M)) ∧ Chg No w w') := by
  have hS := SepL.start w
  have hv := RdIn.of hv0
  have hu := RdIn.of hu0
  have HL : Hid ((L.map wC).length = L.length) := by simp [Hid]
  have HM : Hid ((M.map wC).length = M.length) := by simp [Hid]
  have hmax : L.length ≤ maxLen := by
    have := hv0.len
    rwa [HL.out] at this
  unfold maxLen at hmax
  have HLW := hide hLW
  have HMW := hide hMW
  clear hv0 hu0 hLW hMW
  by_cases hlen : L.length = M.length
  · have HNE : Hid (((L.length : Int) != (M.length : Int)) = false) := by
      unfold Hid
      simp [hlen]
    obtain ⟨b, hb⟩ : ∃ b, decide (L = M) = b := ⟨_, rfl⟩
    have HB := hide hb
    rw [hb]
    clear hb
    go_enter Try.func16, Try.ntmps16
    go_wp2_with (first
      | (show wpList _ _ _ (⟨some 7, .call _, _, _, _, _⟩ :: _) _ _; refine wpList_val rfl (op_len slRWant rfl rfl (v := v) (xs := L.map wC) rfl (by exact hS.rd hv)) ?_; rw [HL.out]; go_frame)
      | (show wpList _ _ _ (⟨some 9, .call _, _, _, _, _⟩ :: _) _ _; refine wpList_val rfl (op_len slRWant rfl rfl (v := u) (xs := M.map wC) rfl (by exact hS.rd hu)) ?_; rw [HM.out]; go_frame)
      | (show wpList _ _ _ (⟨some 12, .call _, _, _, _, _⟩ :: _) _ _; refine wpList_val rfl (op_len slRWant rfl rfl (v := v) (xs := L.map wC) rfl (by exact hS.rd hv)) ?_; rw [HL.out]; go_frame)
      | (show wpList _ _ _ (⟨some 10, .binOp _ _ _ _ _, _, _, _, _⟩ :: _) _ _; refine wpList_val rfl (op_ineI rfl rfl rfl HNE.out) ?_; go_frame)
      )
    go_loopw [13] (fun iv wr => ∃ k : Nat, iv = .int .i64 k ∧ k ≤ L.length ∧ L.take k = M.take k ∧ SepL All w wr []) (fun iv _ => L.length - (intOf iv).toNat)
    case atStart => exact ⟨0, rfl, by omega, rfl, hS⟩
    case round =>
      clear hS
      obtain ⟨k, rfl, hk, heq, hS⟩ := hrel
      by_cases hlt : k < L.length
      · have hl : k < L.length := hlt
        have hm : k < M.length := by omega
        have hl' : k < (L.map wC).length := by rw [HL.out]; exact hl
        have hm' : k < (M.map wC).length := by rw [HM.out]; exact hm
        obtain ⟨x, hx⟩ : ∃ x, L[k] = x := ⟨_, rfl⟩
        obtain ⟨y, hy⟩ : ∃ y, M[k] = y := ⟨_, rfl⟩
        have HX : Hid ((L.map wC)[k] = wC x) := by unfold Hid; rw [List.getElem_map, hx]
        have HY : Hid ((M.map wC)[k] = wC y) := by unfold Hid; rw [List.getElem_map, hy]
        have hxo := HLW.out x (by rw [← hx]; exact List.getElem_mem hl)
        have hyo := HMW.out y (by rw [← hy]; exact List.getElem_mem hm)
        have KX := isKeyRW hxo.1 hxo.2
        have KY := isKeyRW hyo.1 hyo.2
        have hev := wC_eqv hxo.1 hyo.1
        by_cases he : x = y
        · have HE : Hid ((!eqv (.agg (wC x).toArray) (.agg (wC y).toArray)) = false) := by
            unfold Hid
            rw [hev, decide_eq_true he]
            rfl
          have hnx : L.take (k + 1) = M.take (k + 1) := by
            rw [List.take_succ_eq_append_getElem hl, List.take_succ_eq_append_getElem hm, heq, hx, hy, he]
          clear heq hx hy he hev hxo hyo HNE
          go_wp2_with fail
          refine wp_region_text (by kernel_rfl) (by kernel_rfl) (by repeat (first | exact Clean.body | refine Clean.then ?_ | refine Clean.inBlock ?_)) ?_
          replace hS := hS.drew
          go_wp2_with (first
            | (show wpList _ _ _ (⟨some 18, .indexAddr _ _ _, _, _, _, _⟩ :: _) _ _; refine wpList_val rfl (op_indexAddr slRWant rfl (v := v) (k := k) rfl rfl (by exact hS.rd hv) hl') ?_; go_frame)
            | (show wpList _ _ _ (⟨some 19, .load _ _, _, _, _, _⟩ :: _) _ _; refine wpList_val rfl (op_loadE aggRWant rfl (v := v) (k := k) rfl (by exact hS.rd hv) hl') ?_; rw [HX.out]; go_frame)
            | (show wpList _ _ _ (⟨some 22, .indexAddr _ _ _, _, _, _, _⟩ :: _) _ _; refine wpList_val rfl (op_indexAddr slRWant rfl (v := u) (k := k) rfl rfl (by exact hS.rd hu) hm') ?_; go_frame)
            | (show wpList _ _ _ (⟨some 23, .load _ _, _, _, _, _⟩ :: _) _ _; refine wpList_val rfl (op_loadE aggRWant rfl (v := u) (k := k) rfl (by exact hS.rd hu) hm') ?_; rw [HY.out]; go_frame)
            | (show wpList _ _ _ (⟨some 24, .binOp _ _ _ _ _, _, _, _, _⟩ :: _) _ _; refine wpList_val rfl (op_neq keyRWant rfl rfl rfl KX KY) ?_; rw [HE.out]; go_frame)
            | (refine fin_mk (by kernel_rfl) ?_)
            )
          go_roundw
          case rel => exact ⟨k + 1, by go_num, by omega, hnx, hS⟩
          case measure => simp [intOf]; omega
        · have HE : Hid ((!eqv (.agg (wC x).toArray) (.agg (wC y).toArray)) = true) := by
            unfold Hid
            rw [hev, decide_eq_false he]
            rfl
          have HBF : Hid (b = false) := by
            unfold Hid
            rw [← HB.out, decide_eq_false_iff_not]
            rintro rfl
            exact he (hx.symm.trans hy)
          clear heq hx hy he hev hxo hyo HNE
          go_wp2_with fail
          refine wp_region_text (by kernel_rfl) (by kernel_rfl) (by repeat (first | exact Clean.body | refine Clean.then ?_ | refine Clean.inBlock ?_)) ?_
          replace hS := hS.drew
          go_wp2_with (first
            | (show wpList _ _ _ (⟨some 18, .indexAddr _ _ _, _, _, _, _⟩ :: _) _ _; refine wpList_val rfl (op_indexAddr slRWant rfl (v := v) (k := k) rfl rfl (by exact hS.rd hv) hl') ?_; go_frame)
            | (show wpList _ _ _ (⟨some 19, .load _ _, _, _, _, _⟩ :: _) _ _; refine wpList_val rfl (op_loadE aggRWant rfl (v := v) (k := k) rfl (by exact hS.rd hv) hl') ?_; rw [HX.out]; go_frame)
            | (show wpList _ _ _ (⟨some 22, .indexAddr _ _ _, _, _, _, _⟩ :: _) _ _; refine wpList_val rfl (op_indexAddr slRWant rfl (v := u) (k := k) rfl rfl (by exact hS.rd hu) hm') ?_; go_frame)
            | (show wpList _ _ _ (⟨some 23, .load _ _, _, _, _, _⟩ :: _) _ _; refine wpList_val rfl (op_loadE aggRWant rfl (v := u) (k := k) rfl (by exact hS.rd hu) hm') ?_; rw [HY.out]; go_frame)
            | (show wpList _ _ _ (⟨some 24, .binOp _ _ _ _ _, _, _, _, _⟩ :: _) _ _; refine wpList_val rfl (op_neq keyRWant rfl rfl rfl KX KY) ?_; rw [HE.out]; go_frame)
            | (refine fin_mk (by kernel_rfl) ?_)
            )
          go_ret
          exact ⟨by rw [HBF.out]; rfl, hS.chg⟩
      · have hk2 : k = L.length := by omega
        subst hk2
        have HBF : Hid (b = true) := by
          unfold Hid
          rw [← HB.out, decide_eq_true_iff]
          rwa [List.take_length, hlen, List.take_length] at heq
        clear heq HNE
        go_wp2_with fail
        go_ret
        exact ⟨by rw [HBF.out]; rfl, hS.chg⟩
  · have HNE : Hid (((L.length : Int) != (M.length : Int)) = true) := by
      unfold Hid
      simp
      omega
    have hne : L ≠ M := fun h => hlen (by rw [h])
    have HB := decF hne
    rw [HB.out]
    clear hlen hne HB
    go_enter Try.func16, Try.ntmps16
    go_wp2_with (first
      | (show wpList _ _ _ (⟨some 7, .call _, _, _, _, _⟩ :: _) _ _; refine wpList_val rfl (op_len slRWant rfl rfl (v := v) (xs := L.map wC) rfl (by exact hS.rd hv)) ?_; rw [HL.out]; go_frame)
      | (show wpList _ _ _ (⟨some 9, .call _, _, _, _, _⟩ :: _) _ _; refine wpList_val rfl (op_len slRWant rfl rfl (v := u) (xs := M.map wC) rfl (by exact hS.rd hu)) ?_; rw [HM.out]; go_frame)
      | (show wpList _ _ _ (⟨some 10, .binOp _ _ _ _ _, _, _, _, _⟩ :: _) _ _; refine wpList_val rfl (op_ineI rfl rfl rfl HNE.out) ?_; go_frame)
      )
    go_ret
    exact ⟨rfl, hS.chg⟩
end Go.Proofs.Ytafpdpcbckpkjaa
namespace Go.Proofs.Ytafpdpcbckpkjaa
open Go.RowKit Go.Px
def zAct : List Value := [.int .i64 0, .int .i64 0] ++ List.replicate 32 (.int .u8 0) ++ [.int .u64 0]
theorem iAct : (Try.prog.info? 40).map (fun i => (i.zero, i.size, i.bytes)) = some (some (.agg zAct.toArray), 35, 56) := by kernel_rfl
theorem slAct : SlTy Try.prog 34 40 35 56 where
  ty := by kernel_rfl
  info := by
    obtain ⟨i, h1, h2, h3, h4⟩ := info_parts iAct
    exact ⟨i, _, h1, h2, h3, by simp [Value.cells, zAct], h4, by simp [Value.cells, Value.oneCell', zAct]⟩
  pos := by omega
/-- the book behind acts -/
def runB (B : List Ent) (L : List PAct) : List Ent := L.foldl (fun B a => actB a B) B
theorem runB_ok : ∀ {L : List PAct} {B : List Ent}, BOk B → (∀ a ∈ L, AOk a) → BOk (runB B L)
  | [], _, h, _ => h
  | a :: L, _, h, ha => runB_ok (L := L) (act_ok h (ha a (by simp))) fun b hb => ha b (by simp [hb])
theorem runB_in : ∀ {L : List PAct} {B : List Ent}, BIn B → (∀ a ∈ L, AOk a) → BIn (runB B L)
  | [], _, h, _ => h
  | a :: L, _, h, ha => runB_in (L := L) (act_in h (ha a (by simp))) fun b hb => ha b (by simp [hb])
theorem runB_step {L : List PAct} {k : Nat} (h : k < L.length) : runB [] (L.take (k + 1)) = actB L[k] (runB [] (L.take k)) := by
  unfold runB
  rw [List.take_succ_eq_append_getElem h, List.foldl_append]
  rfl
section
variable {R : Nat → Prop} {base w : World} {F : List Hp}
set_option maxRecDepth 100000 in
set_option maxHeartbeats 4000000 in
theorem grown_s {v : Value} {L : List PAct} (hS : SepL R base w F) (hv : RdIn R base 35 v (L.map actC)) (ha : ∀ a ∈ L, AOk a) :
    Calls Try.prog 22 #[v] w (Ret fun r w' => ∃ p, r = .pointer (some ⟨p, 0, none⟩) ∧ SepL R base w' (hB p (runB [] L) :: F)) := by
  have HL : Hid ((L.map actC).length = L.length) := by simp [Hid]
  have HA := hide ha
  have hmax := (hS.rd hv).len
  rw [HL.out] at hmax
  unfold maxLen at hmax
  clear ha
  go_enter Try.func22, Try.ntmps22
  go_wp2_with (first
    | (go_at_call 10; refine Ret.calls (new_s hS) ?_; clear hS; rintro r w ⟨p, rfl, hS⟩)
    | (show wpList _ _ _ (⟨_, .call ⟨.builtin .len, _, _⟩, _, _, _, _⟩ :: _) _ _; refine wpList_val rfl (op_len slAct rfl rfl (v := v) (xs := L.map actC) rfl (by exact hS.rd hv)) ?_; rw [HL.out]; go_frame)
    )
  go_loopw [9] (fun iv wr => ∃ (k : Nat) (B : List Ent), iv = .int .i64 k ∧ k ≤ L.length ∧ Hid (runB [] (L.take k) = B) ∧ Hid (BOk B) ∧ SepL R base wr (hB p B :: F)) (fun iv _ => L.length - (intOf iv).toNat)
  case atStart => exact ⟨0, [], rfl, by omega, rfl, BOk.nil, hS⟩
  case round =>
    clear hS
    obtain ⟨k, B, rfl, hk, HB, HOK, hS⟩ := hrel
    by_cases hlt : k < L.length
    · have hlk : k < (L.map actC).length := by rw [HL.out]; exact hlt
      obtain ⟨x, hx⟩ : ∃ x, L[k] = x := ⟨_, rfl⟩
      have hxa := HA.out x (by rw [← hx]; exact List.getElem_mem hlt)
      have HXK : Hid ((L.map actC)[k] = actC x) := by unfold Hid; rw [List.getElem_map, hx]
      have HXL := hide (actC_len hxa.id)
      have HAX := hide hxa
      have HN : Hid (runB [] (L.take (k + 1)) = actB x B) := by
        unfold Hid
        rw [runB_step hlt, hx, HB.out]
      have HOK2 := hide (act_ok HOK.out hxa)
      clear hx hxa
      go_wp2_with (first
        | (show wpList _ _ _ (⟨some 11, .indexAddr _ _ _, _, _, _, _⟩ :: _) _ _; refine wpList_val rfl (op_indexAddr slAct rfl (v := v) (k := k) rfl rfl (by exact hS.rd hv) hlk) ?_; go_frame)
        | (show wpList _ _ _ (⟨some 12, .load _ _, _, _, _, _⟩ :: _) _ _; refine wpList_val rfl (op_loadE aggAct rfl (v := v) (k := k) rfl (by exact hS.rd hv) hlk) ?_; rw [HXK.out]; go_frame)
        | (show wpList _ _ _ (⟨_, .alloc 40, _, _, _, _⟩ :: _) _ _; refine wpS_alloc hS rfl rfl Try.zeroValue40 (zs := zAct) rfl ?_; clear hS; intro nb w hS; go_frame)
        | (show wpList _ _ _ (⟨_, .store 40 _ _, _, _, _, _⟩ :: _) _ _; (refine wpS_storeAll aggAct (hS.bring (by repeat (first | exact t0 | apply tS))) rfl rfl rfl (vs := actC x) rfl HXL.out (actC_one x) rfl ?_); clear hS; intro w hS; go_frame)
        | (show wpList _ _ _ (⟨some 14, .load _ _, _, _, _, _⟩ :: _) _ _; refine wpList_val rfl (op_load aggAct rfl rfl (SepL.getBlk (T := 40) ((hS.bring (by repeat (first | exact t0 | apply tS))))).cells HXL.out) ?_; go_frame)
        | (go_at_call 14; (refine Ret.calls (do_s (a := x) (hS.bring (by repeat (first | exact t0 | apply tS))) HOK.out HAX.out) ?_); clear hS; rintro r w ⟨u, rfl, hS⟩)
        )
      go_roundw
      case rel => exact ⟨k + 1, _, by go_num, by omega, HN, HOK2, hS.sel (by repeat (first | exact Sel.refl | refine Sel.take (by repeat (first | exact t0 | apply tS)) ?_ | apply Sel.drop))⟩
      case measure => simp [intOf]; omega
    · have hk2 : k = L.length := by omega
      subst hk2
      have hb := HB.out
      rw [List.take_length] at hb
      subst hb
      go_wp2_with fail
      go_ret
      exact ⟨_, rfl, hS⟩
end
end Go.Proofs.Ytafpdpcbckpkjaa
