/- The document's book in memory, and its own steps. Conditions: those that stand ahead of each theorem. -/
import Derived.Test.YtafpdpcbckpkjaaGPeers
import Derived.Test.YtafpdpcbckpkjaaField
namespace Go.Proofs.Ytafpdpcbckpkjaa
open Go.RowKit Go.Px
abbrev RE := Value × Ent
def relist (l : List RE) : List Ent := l.map fun x => x.2
def rC (x : RE) : List Value := x.2.id.map B8 ++ [x.1, U x.2.since]
def rP (x : RE) : Hp := .own 3 1 x.1 ((x.2.peer :: x.2.waits).map fun z => [I64 z])
def rsP (l : List RE) : List Hp := l.map rP
def rbP (p : Nat) (ov : Value) (l : List RE) : List Hp := [.blk p 38 [ov], .own 79 34 ov (l.map rC)]
def rB (p : Nat) (B : List Ent) : Hp := hEx fun x : Value × List RE => hPure (relist x.2 = B) :: (rbP p x.1 x.2 ++ rsP x.2)
section
variable {R : Nat → Prop} {base w : World} {F : List Hp} {p : Nat} {B : List Ent}
theorem rB_open (A : List Hp) (hS : SepL R base w (rB p B :: (A ++ F))) : ∃ ov l, relist l = B ∧ SepL R base w (A ++ (rbP p ov l ++ (rsP l ++ F))) := by
  obtain ⟨⟨ov, l⟩, h⟩ := SepL.unpack hS
  have h1 := SepL.getPure h
  have h2 : SepL R base w ((rbP p ov l ++ rsP l) ++ (A ++ F)) := SepL.tail h
  rw [List.append_assoc] at h2
  exact ⟨ov, l, h1, h2.perm (swapB A _ _ F).symm⟩
theorem rB_close (A : List Hp) {ov : Value} {l : List RE} (hS : SepL R base w (A ++ (rbP p ov l ++ (rsP l ++ F)))) : SepL R base w (rB p (relist l) :: (A ++ F)) := by
  have h := hS.perm (swapB A _ _ F)
  rw [← List.append_assoc] at h
  exact SepL.pack (l := fun x : Value × List RE => hPure (relist x.2 = relist l) :: (rbP p x.1 x.2 ++ rsP x.2)) (ov, l) (SepL.putPure h rfl)
theorem rsP_mid (l1 l2 : List RE) (x : RE) : (rsP (l1 ++ x :: l2)).Perm (rP x :: rsP (l1 ++ l2)) := by
  unfold rsP
  rw [List.map_append, List.map_cons, List.map_append]
  exact List.perm_middle
/-- an entry's part ahead of all -/
theorem rpull (A : List Hp) {ov : Value} {l1 l2 : List RE} {x : RE} (hS : SepL R base w (A ++ (rbP p ov (l1 ++ x :: l2) ++ (rsP (l1 ++ x :: l2) ++ F)))) : SepL R base w (rP x :: (A ++ (rbP p ov (l1 ++ x :: l2) ++ (rsP (l1 ++ l2) ++ F)))) := by
  refine hS.perm (((((rsP_mid l1 l2 x).append_right F).append_left _).append_left A).trans ?_)
  exact ((List.perm_middle (l₁ := rbP p ov (l1 ++ x :: l2))).append_left A).trans List.perm_middle
theorem rpush (A : List Hp) {ov : Value} {l1 l2 : List RE} {x : RE} (hS : SepL R base w (rP x :: (A ++ (rbP p ov (l1 ++ x :: l2) ++ (rsP (l1 ++ l2) ++ F))))) : SepL R base w (A ++ (rbP p ov (l1 ++ x :: l2) ++ (rsP (l1 ++ x :: l2) ++ F))) := by
  refine hS.perm (List.Perm.symm (((((rsP_mid l1 l2 x).append_right F).append_left _).append_left A).trans ?_))
  exact ((List.perm_middle (l₁ := rbP p ov (l1 ++ x :: l2))).append_left A).trans List.perm_middle
theorem rone {l : List RE} {ov : Value} (hS : SepL R base w (rbP p ov l ++ (rsP l ++ F))) : ∀ x ∈ l, x.1.oneCell' = true := by
  intro x hx
  obtain ⟨l1, l2, rfl⟩ := List.append_of_mem hx
  exact (SepL.getOwn (rpull [] hS)).rd.one1
theorem ids_relist (l : List RE) : ids (relist l) = l.map fun x => x.2.id := by simp [ids, relist]
theorem rC_len {x : RE} (h : x.2.id.length = 32) : (rC x).length = 34 := by simp [rC, h]
theorem rC_id {x : RE} (h : x.2.id.length = 32) : (rC x).take 32 = x.2.id.map B8 := by
  unfold rC
  rw [List.take_left' (by simp [h])]
theorem rC_one {x : RE} (h : x.1.oneCell' = true) : ∀ v ∈ rC x, v.oneCell' = true := by
  intro v hv
  unfold rC at hv
  rcases List.mem_append.1 hv with hv | hv
  · exact flat_B8 _ v hv
  · simp only [List.mem_cons, List.not_mem_nil, or_false] at hv
    rcases hv with rfl | rfl
    · exact h
    · rfl
theorem _root_.Go.Px.Cells.sub0 {w : World} {b off : Nat} {cs ds : List Value} (h : Cells w b off cs) (n : Nat) (hd : cs.take n = ds) : Cells w b off ds := by
  have := h.sub 0 n
  rw [List.drop_zero, hd] at this
  exact this
set_option maxRecDepth 100000 in
set_option maxHeartbeats 2000000 in
theorem at_s {l : List RE} {ov : Value} {i : List Byte} (hS : SepL R base w (rbP p ov l ++ (rsP l ++ F))) (hi : i.length = 32) (hlen : ∀ e ∈ relist l, e.id.length = 32) :
    Calls Try.prog 35 #[.pointer (some ⟨p, 0, none⟩), HV i] w (Ret fun r w' => r = .int .i64 (ixOf i (ids (relist l))) ∧ SepL R base w' (rbP p ov l ++ (rsP l ++ F))) := by
  have HONE := hide (rone hS)
  have HLEN := hide hlen
  have HL : Hid ((l.map rC).length = l.length) := by simp [Hid]
  have hmax : l.length ≤ maxLen := by
    have := SepL.getOwn (hS.bring (tS t0))
    have := this.rd.len
    rwa [HL.out] at this
  unfold maxLen at hmax
  have KI := isKey hi
  have HI32 : Hid ((i.map B8).length = 32) := by simp [Hid, hi]
  clear hi hlen
  unfold HV at KI ⊢
  unfold rbP at hS ⊢
  go_enter Try.func35, Try.ntmps35
  go_wp2_with (first
    | (show wpList _ _ _ (⟨_, .load 36 _, _, _, _, _⟩ :: _) _ _; refine wpList_val rfl (op_load1S (T := 38) oneREnts ((hS.bring (by repeat (first | exact t0 | apply tS)))) rfl rfl rfl) ?_; go_frame)
    | (show wpList _ _ _ (⟨_, .box _ _, _, _, _, _⟩ :: _) _ _; refine wpS_boxA (cs := i.map B8) hS rfl rfl rfl ?_; clear hS; intro hb w1 hS; go_frame)
    | (show wpList _ _ _ (⟨_, .call ⟨.builtin .len, _, _⟩, _, _, _, _⟩ :: _) _ _; refine wpList_val rfl (op_len slREnt rfl rfl (v := ov) rfl ((hS.bring (by repeat (first | exact t0 | apply tS))).getOwn.rd)) ?_; rw [HL.out]; go_frame)
    )
  go_loopw [12] (fun iv wr => ∃ k : Nat, iv = .int .i64 k ∧ k ≤ l.length ∧ i ∉ (ids (relist l)).take k ∧ SepL R base wr (.blk hb 28 (i.map B8) :: .blk p 38 [ov] :: .own 79 34 ov (l.map rC) :: (rsP l ++ F))) (fun iv _ => l.length - (intOf iv).toNat)
  case atStart => exact ⟨0, rfl, by omega, by simp, hS⟩
  case round =>
    clear hS
    obtain ⟨k, rfl, hk, hno, hS⟩ := hrel
    by_cases hlt : k < l.length
    · have hlk : k < (l.map rC).length := by rw [HL.out]; exact hlt
      obtain ⟨x, hx⟩ : ∃ x, l[k] = x := ⟨_, rfl⟩
      have hxl : x ∈ l := by rw [← hx]; exact List.getElem_mem hlt
      have HXK : Hid ((l.map rC)[k] = rC x) := by
        unfold Hid
        rw [List.getElem_map, hx]
      have h32 : x.2.id.length = 32 := HLEN.out x.2 (by unfold relist; exact List.mem_map.2 ⟨x, hxl, rfl⟩)
      have HC34 := hide (rC_len h32)
      have HC0 := hide (rC_id h32)
      have HC1 := hide (rC_one (HONE.out x hxl))
      have HXL : Hid ((x.2.id.map B8).length = 32) := by simp [Hid, h32]
      have KX := isKey h32
      have hkid : k < (ids (relist l)).length := by rw [ids_relist, List.length_map]; exact hlt
      have hid : (ids (relist l))[k] = x.2.id := by simp [ids, relist, hx]
      have hsp : ids (relist l) = (ids (relist l)).take k ++ x.2.id :: (ids (relist l)).drop (k + 1) := by
        rw [← hid, ← List.drop_eq_getElem_cons hkid, List.take_append_drop]
      have hn : (ids (relist l)).take (k + 1) = (ids (relist l)).take k ++ [x.2.id] := by rw [List.take_succ_eq_append_getElem hkid, hid]
      have htk : ((ids (relist l)).take k).length = k := by rw [List.length_take]; omega
      unfold HV at KX
      clear hx hxl h32 hid hkid
      by_cases he : x.2.id = i
      · have HR : Hid (ixOf i (ids (relist l)) = k) := by
          unfold Hid
          rw [hsp, he, ix_at hno, htk]
        have HE : Hid (eqv (.agg (x.2.id.map B8).toArray) (.agg (i.map B8).toArray) = true) := (HV_eqv _ _).trans (decide_eq_true he)
        clear hsp hn he hno htk
        go_wp2_with (first
          | (show wpList _ _ _ (⟨_, .load 79 _, _, _, _, _⟩ :: _) _ _; refine wpList_val rfl (op_loadE aggREnt rfl (v := ov) (k := k) rfl ((hS.bring (by repeat (first | exact t0 | apply tS))).getOwn.rd) hlk) ?_; rw [HXK.out]; go_frame)
          | (show wpList _ _ _ (⟨_, .alloc 79, _, _, _, _⟩ :: _) _ _; refine wpS_alloc hS rfl rfl Try.zeroValue79 (zs := List.replicate 32 (.int .u8 0) ++ [Value.slice none 0 0, Value.int .u64 0]) rfl ?_; clear hS; intro nb w hS; go_frame)
          | (show wpList _ _ _ (⟨_, .indexAddr _ _ _, _, _, _, _⟩ :: _) _ _; refine wpList_val rfl (op_indexAddr slREnt rfl (v := ov) rfl (k := k) rfl ((hS.bring (by repeat (first | exact t0 | apply tS))).getOwn.rd) hlk) ?_; go_frame)
          | (show wpList _ _ _ (⟨_, .store 79 _ _, _, _, _, _⟩ :: _) _ _; (refine wpS_storeAll aggREnt (hS.bring (by repeat (first | exact t0 | apply tS))) rfl rfl rfl (vs := rC x) rfl HC34.out HC1.out (by simp) ?_); clear hS; intro w hS; go_frame)
          | (show wpList _ _ _ (⟨some 18, .load _ _, _, _, _, _⟩ :: _) _ _; refine wpList_val rfl (op_load aggHash rfl rfl ((SepL.getBlk (T := 79) ((hS.bring (by repeat (first | exact t0 | apply tS))))).cells.sub0 32 HC0.out) HXL.out) ?_; go_frame)
          | (show wpList _ _ _ (⟨some 19, .load _ _, _, _, _, _⟩ :: _) _ _; refine wpList_val rfl (op_load aggHash rfl rfl (SepL.getBlk (T := 28) ((hS.bring (by repeat (first | exact t0 | apply tS))))).cells HI32.out) ?_; go_frame)
          | (show wpList _ _ _ (⟨some 20, .binOp _ _ _ _ _, _, _, _, _⟩ :: _) _ _; refine wpList_val rfl (op_eql keyHash rfl rfl rfl KX KI) ?_; rw [HE.out]; go_frame)
          )
        go_ret
        exact ⟨by rw [HR.out]; rfl, hS.sel (by repeat (first | exact Sel.refl | refine Sel.take (by repeat (first | exact t0 | apply tS)) ?_ | apply Sel.drop))⟩
      · have HE : Hid (eqv (.agg (x.2.id.map B8).toArray) (.agg (i.map B8).toArray) = false) := (HV_eqv _ _).trans (decide_eq_false he)
        have hno' : i ∉ (ids (relist l)).take (k + 1) := by
          rw [hn, List.mem_append, List.mem_singleton]
          rintro (h | h)
          · exact hno h
          · exact he h.symm
        clear hsp hn he hno htk
        go_wp2_with (first
          | (show wpList _ _ _ (⟨_, .load 79 _, _, _, _, _⟩ :: _) _ _; refine wpList_val rfl (op_loadE aggREnt rfl (v := ov) (k := k) rfl ((hS.bring (by repeat (first | exact t0 | apply tS))).getOwn.rd) hlk) ?_; rw [HXK.out]; go_frame)
          | (show wpList _ _ _ (⟨_, .alloc 79, _, _, _, _⟩ :: _) _ _; refine wpS_alloc hS rfl rfl Try.zeroValue79 (zs := List.replicate 32 (.int .u8 0) ++ [Value.slice none 0 0, Value.int .u64 0]) rfl ?_; clear hS; intro nb w hS; go_frame)
          | (show wpList _ _ _ (⟨_, .indexAddr _ _ _, _, _, _, _⟩ :: _) _ _; refine wpList_val rfl (op_indexAddr slREnt rfl (v := ov) rfl (k := k) rfl ((hS.bring (by repeat (first | exact t0 | apply tS))).getOwn.rd) hlk) ?_; go_frame)
          | (show wpList _ _ _ (⟨_, .store 79 _ _, _, _, _, _⟩ :: _) _ _; (refine wpS_storeAll aggREnt (hS.bring (by repeat (first | exact t0 | apply tS))) rfl rfl rfl (vs := rC x) rfl HC34.out HC1.out (by simp) ?_); clear hS; intro w hS; go_frame)
          | (show wpList _ _ _ (⟨some 18, .load _ _, _, _, _, _⟩ :: _) _ _; refine wpList_val rfl (op_load aggHash rfl rfl ((SepL.getBlk (T := 79) ((hS.bring (by repeat (first | exact t0 | apply tS))))).cells.sub0 32 HC0.out) HXL.out) ?_; go_frame)
          | (show wpList _ _ _ (⟨some 19, .load _ _, _, _, _, _⟩ :: _) _ _; refine wpList_val rfl (op_load aggHash rfl rfl (SepL.getBlk (T := 28) ((hS.bring (by repeat (first | exact t0 | apply tS))))).cells HI32.out) ?_; go_frame)
          | (show wpList _ _ _ (⟨some 20, .binOp _ _ _ _ _, _, _, _, _⟩ :: _) _ _; refine wpList_val rfl (op_eql keyHash rfl rfl rfl KX KI) ?_; rw [HE.out]; go_frame)
          )
        go_roundw
        case rel => exact ⟨k + 1, by go_num, by omega, hno', hS.sel (by repeat (first | exact Sel.refl | refine Sel.take (by repeat (first | exact t0 | apply tS)) ?_ | apply Sel.drop))⟩
        case measure => simp [intOf]; omega
    · have hk2 : k = l.length := by omega
      subst hk2
      rw [List.take_of_length_le (by rw [ids_relist, List.length_map]; exact Nat.le_refl _)] at hno
      have HR := hide (ix_none hno)
      clear hno
      go_wp2_with fail
      go_ret
      exact ⟨by rw [HR.out]; rfl, hS.sel (by repeat (first | exact Sel.refl | refine Sel.take (by repeat (first | exact t0 | apply tS)) ?_ | apply Sel.drop))⟩
end
end Go.Proofs.Ytafpdpcbckpkjaa
namespace Go.Proofs.Ytafpdpcbckpkjaa
open Go.RowKit Go.Px
theorem wout_take {q y : Int} {l : List Int} {k : Nat} (hk : k < l.length) (hy : l[k] = y) : wout q (l.take (k + 1)) = wout q (l.take k) ++ if y = q then [] else [y] := by
  rw [List.take_succ_eq_append_getElem hk, hy]
  unfold wout
  rw [List.filter_append]
  congr 1
  by_cases h : y = q
  · simp [h]
  · simp [h]
theorem wout_len (q : Int) (l : List Int) : (wout q l).length ≤ l.length := List.length_filter_le _ _
set_option maxRecDepth 100000 in
set_option maxHeartbeats 2000000 in
theorem without_int (v : Value) (l : List Int) (q : Int) (w : World) (hv0 : Rd 1 w v (l.map fun z => [I64 z])) (hlen : l.length ≤ 1000000) :
    Calls Try.prog 44 #[v, I64 q] w (Ret fun r w' => SepL All w w' [.own 3 1 r ((wout q l).map fun z => [I64 z])]) := by
  have hS := (SepL.start w).nilOwn 3 1
  have hv := RdIn.of hv0
  clear hv0
  have HL : Hid ((l.map fun z => [I64 z]).length = l.length) := by simp [Hid]
  go_enter Try.func44, Try.ntmps44
  go_wp2_with (first
    | (show wpList _ _ _ (⟨_, .call ⟨.builtin .len, _, _⟩, _, _, _, _⟩ :: _) _ _; refine wpList_val rfl (op_len slInt rfl rfl (v := v) rfl (by exact hS.rd hv)) ?_; rw [HL.out]; go_frame)
    )
  go_loopw [5, 10] (fun av iv wr => ∃ k : Nat, iv = .int .i64 k ∧ k ≤ l.length ∧ SepL All w wr [.own 3 1 av ((wout q (l.take k)).map fun z => [I64 z])]) (fun _ iv _ => l.length - (intOf iv).toNat)
  case atStart => exact ⟨0, rfl, by omega, hS⟩
  case round =>
    clear hS
    obtain ⟨k, rfl, hk, hS⟩ := hrel
    by_cases hlt : k < l.length
    · have hlt' : k < (l.map fun z => [I64 z]).length := by simpa using hlt
      obtain ⟨y, hy⟩ : ∃ y, l[k] = y := ⟨_, rfl⟩
      have HX := hide hy
      have HT := wout_take (q := q) hlt hy
      have hM := wout_len q (l.take k)
      rw [List.length_take] at hM
      clear hy
      obtain ⟨M, hMM⟩ : ∃ M, wout q (l.take k) = M := ⟨_, rfl⟩
      rw [hMM] at HT hM hS
      clear hMM
      by_cases he : y = q
      · rw [if_pos he, List.append_nil] at HT
        have HTT := hide HT
        have HE : Hid ((y != q) = false) := by
          unfold Hid
          simp [he]
        clear he HT
        go_wp2_with (first
          | (show wpList _ _ _ (⟨_, .indexAddr _ _ _, _, _, _, _⟩ :: _) _ _; refine wpList_val rfl (op_indexAddr slInt rfl rfl (k := k) rfl (by exact hS.rd hv) hlt') ?_; go_frame)
          | (show wpList _ _ _ (⟨_, .load 3 _, _, _, _, _⟩ :: _) _ _; refine wpList_val rfl (op_loadE1 oneInt rfl rfl (f := I64) (by exact hS.rd hv) hlt) ?_; rw [HX.out]; go_frame)
          | (show wpList _ _ _ (⟨some 16, .binOp _ _ _ _ _, _, _, _, _⟩ :: _) _ _; refine wpList_val rfl (op_ineI rfl rfl rfl HE.out) ?_; go_frame)
          )
        go_roundw
        case rel =>
          refine ⟨k + 1, by go_num, by omega, ?_⟩
          rw [HTT.out]
          exact hS
        case measure => simp [intOf]; omega
      · rw [if_neg he] at HT
        have HTT := hide HT
        have HE : Hid ((y != q) = true) := by
          unfold Hid
          simp [he]
        have HB1 : Hid (((M.map fun z => [I64 z]).length + [[I64 y]].length) * 8 ≤ 140737488355328) := by
          unfold Hid
          simp
          omega
        have HB2 : Hid ((M.map fun z => [I64 z]).length + [[I64 y]].length ≤ maxLen) := by
          unfold Hid maxLen
          simp
          omega
        clear he HT
        go_wp2_with (first
          | (show wpList _ _ _ (⟨_, .indexAddr _ _ _, _, _, _, _⟩ :: _) _ _; refine wpList_val rfl (op_indexAddr slInt rfl rfl (k := k) rfl (by exact hS.rd hv) hlt') ?_; go_frame)
          | (show wpList _ _ _ (⟨_, .load 3 _, _, _, _, _⟩ :: _) _ _; refine wpList_val rfl (op_loadE1 oneInt rfl rfl (f := I64) (by exact hS.rd hv) hlt) ?_; rw [HX.out]; go_frame)
          | (show wpList _ _ _ (⟨some 16, .binOp _ _ _ _ _, _, _, _, _⟩ :: _) _ _; refine wpList_val rfl (op_ineI rfl rfl rfl HE.out) ?_; go_frame)
          | (show wpList _ _ _ (⟨_, .buildSlice _ 1 _, _, _, _, _⟩ :: _) _ _; refine wpS_build11 slInt hS rfl rfl (u := I64 y) rfl rfl ?_; clear hS; intro v1 w hS; go_frame)
          | (show wpList _ _ _ (⟨_, .call ⟨.builtin .append, _, _⟩, _, _, _, _⟩ :: _) _ _; (refine wpS_append slInt (hS.bring (by repeat (first | exact t0 | apply tS))) rfl rfl (sv := u5) rfl rfl (ys := [[I64 y]]) ((hS.bring (by repeat (first | exact t0 | apply tS))).getOwn.rd) (flat_ints [y]) HB1.out HB2.out ?_); clear hS; intro v2 w hS; go_frame)
          )
        go_roundw
        case rel =>
          refine ⟨k + 1, by go_num, by omega, ?_⟩
          rw [HTT.out, List.map_append]
          exact hS.sel (by repeat (first | exact Sel.refl | refine Sel.take (by repeat (first | exact t0 | apply tS)) ?_ | apply Sel.drop))
        case measure => simp [intOf]; omega
    · have hk2 : k = l.length := by omega
      subst hk2
      rw [List.take_length] at hS
      go_wp2_with fail
      go_ret
      exact hS
end Go.Proofs.Ytafpdpcbckpkjaa
namespace Go.Proofs.Ytafpdpcbckpkjaa
open Go.RowKit Go.Px
theorem split_relist {l : List RE} {B1 B2 : List Ent} {e : Ent} (h : relist l = B1 ++ e :: B2) : ∃ l1 x l2, l = l1 ++ x :: l2 ∧ relist l1 = B1 ∧ x.2 = e ∧ relist l2 = B2 := by
  unfold relist at *
  obtain ⟨l1, l', rfl, h1, h2⟩ := List.map_eq_append_iff.1 h
  obtain ⟨x, l2, rfl, h3, h4⟩ := List.map_eq_cons_iff.1 h2
  exact ⟨l1, x, l2, rfl, h1, h3, h4⟩
theorem rents_app (l1 l2 : List RE) : relist (l1 ++ l2) = relist l1 ++ relist l2 := by simp [relist]
theorem flat_rC {l : List RE} (h : ∀ x ∈ l, x.1.oneCell' = true) : Flat (l.map rC) := by
  intro z hz
  obtain ⟨x, hx, rfl⟩ := List.mem_map.1 hz
  exact rC_one (h x hx)
section
variable {R : Nat → Prop} {base w : World} {F : List Hp} {p : Nat} {B1 B2 : List Ent} {e : Ent}
set_option maxRecDepth 100000 in
set_option maxHeartbeats 2000000 in
theorem rout_s {k : Nat} (hS : SepL R base w (rB p (B1 ++ e :: B2) :: F)) (hk : B1.length = k) (hfew : (B1 ++ e :: B2).length ≤ 32) :
    Calls Try.prog 45 #[.pointer (some ⟨p, 0, none⟩), .int .i64 k] w (Ret fun _ w' => SepL R base w' (rB p (B1 ++ B2) :: F)) := by
  obtain ⟨ov, l, hl, hS2⟩ := rB_open [] hS
  clear hS
  obtain ⟨l1, x, l2, hl2, h1, h2, h3⟩ := split_relist hl
  subst hl2
  subst h1 h2 h3
  have hone := rone hS2
  have HF1 := hide (flat_rC (l := l1) fun y hy => hone y (by simp [hy]))
  have HF2 := hide (flat_rC (l := l2) fun y hy => hone y (by simp [hy]))
  have hS := rpull [] hS2
  clear hS2
  have hlen1 : l1.length = k := by rw [← hk]; simp [relist]
  simp only [List.length_append, List.length_cons, relist, List.length_map] at hfew
  have HKL : Hid (k ≤ ((l1 ++ x :: l2).map rC).length) := by
    unfold Hid
    simp
    omega
  have HKL1 : Hid (k + 1 ≤ ((l1 ++ x :: l2).map rC).length) := by
    unfold Hid
    simp
    omega
  have HKB : Hid (k + 1 ≤ 9223372036854775807) := by
    unfold Hid
    omega
  have hlm : (l1.map rC).length = k := by rw [List.length_map, hlen1]
  have HT1 : Hid ((((l1 ++ x :: l2).map rC).drop 0).take (k - 0) = l1.map rC) := by
    unfold Hid
    rw [List.drop_zero, Nat.sub_zero, List.map_append, ← hlm, List.take_left]
  have HT2 : Hid ((((l1 ++ x :: l2).map rC).drop (k + 1)).take (((l1 ++ x :: l2).map rC).length - (k + 1)) = l2.map rC) := by
    unfold Hid
    rw [List.take_of_length_le (by rw [List.length_drop]; exact Nat.le_refl _), List.map_append, List.map_cons, show k + 1 = (l1.map rC ++ [rC x]).length by simp [hlen1], show l1.map rC ++ rC x :: l2.map rC = (l1.map rC ++ [rC x]) ++ l2.map rC by simp, List.drop_left]
  have HB1 : Hid ((([] : List (List Value)).length + (l1.map rC).length) * 64 ≤ 140737488355328) := by
    unfold Hid
    simp
    omega
  have HB2 : Hid (([] : List (List Value)).length + (l1.map rC).length ≤ maxLen) := by
    unfold Hid maxLen
    simp
    omega
  have HB3 : Hid (((([] : List (List Value)) ++ l1.map rC).length + (l2.map rC).length) * 64 ≤ 140737488355328) := by
    unfold Hid
    simp
    omega
  have HB4 : Hid ((([] : List (List Value)) ++ l1.map rC).length + (l2.map rC).length ≤ maxLen) := by
    unfold Hid maxLen
    simp
    omega
  clear hone hlen1 hfew hlm hk hl
  unfold rbP at hS
  go_enter Try.func45, Try.ntmps45
  go_wp2_with (first
    | (show wpList _ _ _ (⟨_, .load 36 _, _, _, _, _⟩ :: _) _ _; refine wpList_val rfl (op_load1S (T := 38) oneREnts ((hS.bring (by repeat (first | exact t0 | apply tS)))) rfl rfl rfl) ?_; go_frame)
    | (show wpList _ _ _ (⟨_, .buildSlice _ 0 _, _, _, _, _⟩ :: _) _ _; refine wpS_build0 slREnt hS rfl rfl ?_; clear hS; intro v1 w hS; go_frame)
    | (show wpList _ _ _ (⟨some 11, .slice _ _ _ _ _, _, _, _, _⟩ :: _) _ _; refine wpList_val rfl (op_cut slREnt rfl (v := ov) (xs := (l1 ++ x :: l2).map rC) rfl ((hS.bring (by repeat (first | exact t0 | apply tS))).getOwn.rd) (l := 0) (h := k) (Or.inl ⟨rfl, rfl⟩) (Or.inr rfl) (Nat.zero_le _) HKL.out) ?_; go_frame)
    | (show wpList _ _ _ (⟨some 12, .call _, _, _, _, _⟩ :: _) _ _; (refine wpS_append slREnt (hS.bring (by repeat (first | exact t0 | apply tS))) rfl rfl (sv := v1) rfl rfl (ys := l1.map rC) (by have h := Rd.cutV (v := ov) (xs := (l1 ++ x :: l2).map rC) ((hS.bring (by repeat (first | exact t0 | apply tS))).getOwn.rd) (Nat.zero_le k) HKL.out; rw [HT1.out] at h; exact h) HF1.out HB1.out HB2.out ?_); clear hS; intro v2 w hS; go_frame)
    | (show wpList _ _ _ (⟨some 20, .binOp _ _ _ _ _, _, _, _, _⟩ :: _) _ _; refine wpList_val rfl (op_iaddN rfl rfl rfl (k + 1) rfl HKB.out) ?_; go_frame)
    | (show wpList _ _ _ (⟨some 21, .slice _ _ _ _ _, _, _, _, _⟩ :: _) _ _; refine wpList_val rfl (op_cut slREnt rfl (v := ov) (xs := (l1 ++ x :: l2).map rC) rfl ((hS.bring (by repeat (first | exact t0 | apply tS))).getOwn.rd) (l := k + 1) (h := ((l1 ++ x :: l2).map rC).length) (Or.inr rfl) (Or.inl ⟨rfl, rfl⟩) HKL1.out (Nat.le_refl _)) ?_; go_frame)
    | (show wpList _ _ _ (⟨some 22, .call _, _, _, _, _⟩ :: _) _ _; (refine wpS_append slREnt (hS.bring (by repeat (first | exact t0 | apply tS))) rfl rfl (sv := v2) rfl rfl (ys := l2.map rC) (by have h := Rd.cutV (v := ov) (xs := (l1 ++ x :: l2).map rC) ((hS.bring (by repeat (first | exact t0 | apply tS))).getOwn.rd) HKL1.out (Nat.le_refl _); rw [HT2.out] at h; exact h) HF2.out HB3.out HB4.out ?_); clear hS; intro v3 w hS; have HV2 := hide hS.getOwn.rd.cells1; have HV3 := hide hS.getOwn.rd.one1; go_frame)
    | (show wpList _ _ _ (⟨_, .store 36 _ _, _, _, _, _⟩ :: _) _ _; (refine wpS_store1 (T := 38) (by kernel_rfl) (hS.bring (by repeat (first | exact t0 | apply tS))) rfl rfl rfl rfl HV2.out HV3.out (by simp) ?_); clear hS; intro w hS; go_frame)
    )
  go_end0
  rw [← rents_app]
  refine rB_close [] (ov := v3) ?_
  unfold rbP
  rw [List.map_append]
  exact hS.sel (by repeat (first | exact Sel.refl | refine Sel.take (by repeat (first | exact t0 | apply tS)) ?_ | apply Sel.drop))
end
end Go.Proofs.Ytafpdpcbckpkjaa
namespace Go.Proofs.Ytafpdpcbckpkjaa
open Go.RowKit Go.Px
theorem set_mid {α : Type} (A C : List α) (x y : α) {k : Nat} (h : A.length = k) : (A ++ x :: C).set k y = A ++ y :: C := by
  subst h
  simp
theorem rC_set1 {x : RE} (h : x.2.id.length = 32) (v : Value) : (rC x).set 32 v = x.2.id.map B8 ++ [v, U x.2.since] := by
  unfold rC
  rw [List.set_append_right _ _ (by simp [h])]
  simp [h]
theorem rC_set2 {i : List Byte} (h : i.length = 32) (v s t : Value) : (i.map B8 ++ [v, s]).set 33 t = i.map B8 ++ [v, t] := by
  rw [List.set_append_right _ _ (by simp [h])]
  simp [h]
theorem rC_get1 {x : RE} (h : x.2.id.length = 32) : (rC x)[32]? = some x.1 := by
  unfold rC
  rw [List.getElem?_append_right (by simp [h])]
  simp [h]
section
variable {R : Nat → Prop} {base w : World} {F : List Hp} {p : Nat} {B1 B2 : List Ent} {e : Ent}
/-- a turned entry laid back -/
theorem rrelay (A : List Hp) {ov v : Value} {l1 l2 : List RE} {f : Ent} (hS : SepL R base w (.own 3 1 v ((f.peer :: f.waits).map fun z => [I64 z]) :: .blk p 38 [ov] :: .own 79 34 ov (l1.map rC ++ (f.id.map B8 ++ [v, U f.since]) :: l2.map rC) :: (A ++ (rsP (l1 ++ l2) ++ F)))) : SepL R base w (rB p (relist l1 ++ [f] ++ relist l2) :: (A ++ F)) := by
  have h1 : SepL R base w (rP (v, f) :: (A ++ (rbP p ov (l1 ++ (v, f) :: l2) ++ (rsP (l1 ++ l2) ++ F)))) := by
    have e1 : rbP p ov (l1 ++ (v, f) :: l2) = [.blk p 38 [ov], .own 79 34 ov (l1.map rC ++ (f.id.map B8 ++ [v, U f.since]) :: l2.map rC)] := by
      unfold rbP
      rw [List.map_append, List.map_cons]
      rfl
    rw [e1]
    exact hS.perm ((swapA [_, _] A _).cons _)
  have h2 := rB_close A (rpush A h1)
  have e2 : relist (l1 ++ (v, f) :: l2) = relist l1 ++ [f] ++ relist l2 := by simp [relist]
  rwa [e2] at h2
set_option maxRecDepth 100000 in
set_option maxHeartbeats 4000000 in
theorem ron_s {k t : Nat} (hS : SepL R base w (rB p (B1 ++ e :: B2) :: F)) (hk : B1.length = k) (ok : BOk (B1 ++ e :: B2)) :
    Calls Try.prog 46 #[.pointer (some ⟨p, 0, none⟩), .int .i64 k, U t] w (Ret fun r w' => r = .bool (goE t e).isSome ∧ SepL R base w' (rB p (B1 ++ (goE t e).toList ++ B2) :: F)) := by
  have HO := fun (w : World) (h : SepL R base w (rB p (B1 ++ e :: B2) :: F)) => rout_s h hk ok.few
  have h32 := ok.len e (by simp)
  have hw := ok.wait e (by simp)
  obtain ⟨ov, l, hl, hS2⟩ := rB_open [] hS
  clear hS
  obtain ⟨l1, x, l2, hl2, h1, h2, h3⟩ := split_relist hl
  subst hl2
  subst h1 h2 h3
  have hlen1 : l1.length = k := by rw [← hk]; simp [relist]
  have hlk : k < ((l1 ++ x :: l2).map rC).length := by
    simp
    omega
  have hgk : ((l1 ++ x :: l2).map rC)[k] = rC x := by
    rw [List.getElem_map]
    congr 1
    subst hlen1
    simp
  have HP : Hid (((l1 ++ x :: l2).map rC)[k][32]? = some x.1) := by
    unfold Hid
    rw [hgk]
    exact rC_get1 h32
  have HS1 : ∀ {v : Value}, Hid (((l1 ++ x :: l2).map rC).set k (((l1 ++ x :: l2).map rC)[k].set 32 v) = l1.map rC ++ (x.2.id.map B8 ++ [v, U x.2.since]) :: l2.map rC) := by
    intro v
    unfold Hid
    rw [hgk, rC_set1 h32, List.map_append, List.map_cons, set_mid _ _ _ _ (by rw [List.length_map, hlen1])]
  have hlk2 : ∀ v : Value, k < (l1.map rC ++ (x.2.id.map B8 ++ [v, U x.2.since]) :: l2.map rC).length := by
    intro v
    simp
    omega
  have HS2 : ∀ {v : Value}, Hid ((l1.map rC ++ (x.2.id.map B8 ++ [v, U x.2.since]) :: l2.map rC).set k ((l1.map rC ++ (x.2.id.map B8 ++ [v, U x.2.since]) :: l2.map rC)[k]'(hlk2 v) |>.set 33 (U t)) = l1.map rC ++ (x.2.id.map B8 ++ [v, U t]) :: l2.map rC) := by
    intro v
    unfold Hid
    have hg : (l1.map rC ++ (x.2.id.map B8 ++ [v, U x.2.since]) :: l2.map rC)[k]'(hlk2 v) = x.2.id.map B8 ++ [v, U x.2.since] := by
      have : (l1.map rC).length = k := by rw [List.length_map, hlen1]
      subst this
      simp
    rw [hg, rC_set2 h32, set_mid _ _ _ _ (by rw [List.length_map, hlen1])]
  have HPL : Hid (((x.2.peer :: x.2.waits).map fun z => [I64 z]).length = x.2.waits.length + 1) := by simp [Hid]
  have HL1 : Hid (1 ≤ ((x.2.peer :: x.2.waits).map fun z => [I64 z]).length) := by
    unfold Hid
    simp
  have HTL : Hid ((((x.2.peer :: x.2.waits).map fun z => [I64 z]).drop 1).take (((x.2.peer :: x.2.waits).map fun z => [I64 z]).length - 1) = x.2.waits.map fun z => [I64 z]) := by
    unfold Hid
    rw [List.map_cons, List.drop_succ_cons, List.drop_zero]
    exact List.take_of_length_le (by simp)
  have HB1 : Hid ((([] : List (List Value)).length + (x.2.waits.map fun z => [I64 z]).length) * 8 ≤ 140737488355328) := by
    unfold Hid
    simp
    omega
  have HB2 : Hid (([] : List (List Value)).length + (x.2.waits.map fun z => [I64 z]).length ≤ maxLen) := by
    unfold Hid maxLen
    simp
    omega
  have RL : ∀ {w : World}, SepL R base w (.blk p 38 [ov] :: .own 79 34 ov ((l1 ++ x :: l2).map rC) :: .own 3 1 x.1 ((x.2.peer :: x.2.waits).map fun z => [I64 z]) :: (rsP (l1 ++ l2) ++ F)) → SepL R base w (rB p (relist l1 ++ x.2 :: relist l2) :: F) := by
    intro w h
    have h2 := rB_close [] (rpush [] (x := x) (ov := ov) (p := p) (l1 := l1) (l2 := l2) (F := F) (h.perm ((List.perm_middle (l₁ := [_, _])))))
    rwa [hl] at h2
  have hS := rpull [] hS2
  clear hS2
  cases hwt : x.2.waits with
  | nil =>
    have HG : Hid (goE t x.2 = none) := by
      unfold Hid goE
      rw [hwt]
    have HE : Hid ((((x.2.waits.length + 1 : Nat) : Int) == 1) = true) := by
      unfold Hid
      rw [hwt]
      rfl
    rw [HG.out]
    clear hwt hgk hw h32 ok hk hl hlen1
    unfold rbP rP at hS
    go_enter Try.func46, Try.ntmps46
    go_wp2_with (first
      | (show wpList _ _ _ (⟨_, .load 36 _, _, _, _, _⟩ :: _) _ _; refine wpList_val rfl (op_load1S (T := 38) oneREnts ((hS.bring (by repeat (first | exact t0 | apply tS)))) rfl rfl rfl) ?_; go_frame)
      | (show wpList _ _ _ (⟨_, .indexAddr 36 _ _, _, _, _, _⟩ :: _) _ _; refine wpList_val rfl (op_indexAddr slREnt rfl (v := ov) (k := k) rfl rfl ((hS.bring (by repeat (first | exact t0 | apply tS))).getOwn.rd) hlk) ?_; go_frame)
      | (show wpList _ _ _ (⟨_, .fieldAddr 79 _ 1, _, _, _, _⟩ :: _) _ _; refine wpList_val rfl (op_fieldAddrE (j := 32) (by kernel_rfl) rfl (n := 34) (v := ov) (k := k) rfl ((hS.bring (by repeat (first | exact t0 | apply tS))).getOwn.rd) hlk) ?_; go_frame)
      | (show wpList _ _ _ (⟨_, .load 50 _, _, _, _, _⟩ :: _) _ _; refine wpList_val rfl (op_loadF1 oneInts rfl (n := 34) (v := ov) (k := k) (j := 32) rfl ((hS.bring (by repeat (first | exact t0 | apply tS))).getOwn.rd) hlk (u := x.1) HP.out) ?_; go_frame)
      | (show wpList _ _ _ (⟨_, .call ⟨.builtin .len, _, _⟩, _, _, _, _⟩ :: _) _ _; refine wpList_val rfl (op_len slInt rfl rfl (v := x.1) rfl ((hS.bring (by repeat (first | exact t0 | apply tS))).getOwn.rd)) ?_; rw [HPL.out]; go_frame)
      | (show wpList _ _ _ (⟨some 16, .binOp _ _ _ _ _, _, _, _, _⟩ :: _) _ _; refine wpList_val rfl (op_eqI' rfl rfl rfl HE.out) ?_; go_frame)
      | (go_at_call 45; refine Ret.calls (HO _ (RL (by exact hS.sel (by repeat (first | exact Sel.refl | refine Sel.take (by repeat (first | exact t0 | apply tS)) ?_ | apply Sel.drop))))) ?_; clear hS; rintro r w hS)
      )
    go_ret
    exact ⟨rfl, by simpa using hS⟩
  | cons h r =>
    have HG : Hid (goE t x.2 = some { x.2 with peer := h, since := t, waits := r }) := by
      unfold Hid goE
      rw [hwt]
    have HE : Hid ((((x.2.waits.length + 1 : Nat) : Int) == 1) = false) := by
      unfold Hid
      rw [hwt, beq_eq_false_iff_ne]
      simp
      omega
    have FINP : ∀ {w : World} {v : Value}, SepL R base w (.own 3 1 v ([] ++ x.2.waits.map fun z => [I64 z]) :: .blk p 38 [ov] :: .own 79 34 ov (l1.map rC ++ (x.2.id.map B8 ++ [v, U t]) :: l2.map rC) :: (rsP (l1 ++ l2) ++ F)) → SepL R base w (rB p (relist l1 ++ [({ x.2 with peer := h, since := t, waits := r } : Ent)] ++ relist l2) :: F) := by
      intro w v h
      rw [hwt] at h
      exact rrelay [] h
    clear hwt hgk hw h32 ok hk hl hlen1
    unfold rbP rP at hS
    go_enter Try.func46, Try.ntmps46
    go_wp2_with (first
      | (show wpList _ _ _ (⟨_, .load 36 _, _, _, _, _⟩ :: _) _ _; refine wpList_val rfl (op_load1S (T := 38) oneREnts ((hS.bring (by repeat (first | exact t0 | apply tS)))) rfl rfl rfl) ?_; go_frame)
      | (show wpList _ _ _ (⟨_, .indexAddr 36 _ _, _, _, _, _⟩ :: _) _ _; refine wpList_val rfl (op_indexAddr slREnt rfl (v := ov) (k := k) rfl rfl ((hS.bring (by repeat (first | exact t0 | apply tS))).getOwn.rd) hlk) ?_; go_frame)
      | (show wpList _ _ _ (⟨_, .fieldAddr 79 _ 1, _, _, _, _⟩ :: _) _ _; refine wpList_val rfl (op_fieldAddrE (j := 32) (by kernel_rfl) rfl (n := 34) (v := ov) (k := k) rfl ((hS.bring (by repeat (first | exact t0 | apply tS))).getOwn.rd) hlk) ?_; go_frame)
      | (show wpList _ _ _ (⟨_, .load 50 _, _, _, _, _⟩ :: _) _ _; refine wpList_val rfl (op_loadF1 oneInts rfl (n := 34) (v := ov) (k := k) (j := 32) rfl ((hS.bring (by repeat (first | exact t0 | apply tS))).getOwn.rd) hlk (u := x.1) HP.out) ?_; go_frame)
      | (show wpList _ _ _ (⟨_, .call ⟨.builtin .len, _, _⟩, _, _, _, _⟩ :: _) _ _; refine wpList_val rfl (op_len slInt rfl rfl (v := x.1) rfl ((hS.bring (by repeat (first | exact t0 | apply tS))).getOwn.rd)) ?_; rw [HPL.out]; go_frame)
      | (show wpList _ _ _ (⟨some 16, .binOp _ _ _ _ _, _, _, _, _⟩ :: _) _ _; refine wpList_val rfl (op_eqI' rfl rfl rfl HE.out) ?_; go_frame)
      )
    refine wp_region_ord (by kernel_rfl) [] [[0, 1, 2, 4, 6, 7, 8, 9, 10, 11, 12, 13, 14, 3, 5, 15, 16, 17, 18], [0, 1, 2, 4, 6, 7, 8, 9, 10, 11, 12, 13, 14, 5, 3, 15, 16, 17, 18], [0, 1, 2, 4, 6, 7, 8, 9, 10, 11, 12, 13, 14, 5, 15, 3, 16, 17, 18]] (by kernel_rfl) (by kernel_rfl) (fun _ => True) (fun _ _ _ _ => trivial) trivial (by repeat (first | exact Clean.body | refine Clean.then ?_ | refine Clean.inBlock ?_ | refine SegQ.clean ?_ | refine FinC.clean ?_)) ?_
    replace hS := hS.drew
    refine ord_seg (by repeat (first | exact Clean.body | refine Clean.then ?_ | refine Clean.inBlock ?_ | refine SegQ.clean ?_ | refine FinC.clean ?_)) (n := 6) (rest := [[3, 5, 15, 16, 17, 18], [5, 3, 15, 16, 17, 18], [5, 15, 3, 16, 17, 18]]) [0, 1, 2, 4, 6, 7, 8, 9, 10, 11, 12, 13, 14] [⟨_, _, _, _, _, _⟩, ⟨_, _, _, _, _, _⟩, ⟨_, _, _, _, _, _⟩, ⟨_, _, _, _, _, _⟩, ⟨_, _, _, _, _, _⟩, ⟨_, _, _, _, _, _⟩, ⟨_, _, _, _, _, _⟩, ⟨_, _, _, _, _, _⟩, ⟨_, _, _, _, _, _⟩, ⟨_, _, _, _, _, _⟩, ⟨_, _, _, _, _, _⟩, ⟨_, _, _, _, _, _⟩, ⟨_, _, _, _, _, _⟩] rfl (by kernel_rfl) (by simp) _ _ ?_
    go_wp2_with (first
      | (show wpList _ _ _ (⟨_, .load 36 _, _, _, _, _⟩ :: _) _ _; refine wpList_val rfl (op_load1S (T := 38) oneREnts ((hS.bring (by repeat (first | exact t0 | apply tS)))) rfl rfl rfl) ?_; go_frame)
      | (show wpList _ _ _ (⟨_, .indexAddr 36 _ _, _, _, _, _⟩ :: _) _ _; refine wpList_val rfl (op_indexAddr slREnt rfl (v := ov) (k := k) rfl rfl ((hS.bring (by repeat (first | exact t0 | apply tS))).getOwn.rd) hlk) ?_; go_frame)
      | (show wpList _ _ _ (⟨_, .fieldAddr 79 _ 1, _, _, _, _⟩ :: _) _ _; refine wpList_val rfl (op_fieldAddrE (j := 32) (by kernel_rfl) rfl (n := 34) (v := ov) (k := k) rfl ((hS.bring (by repeat (first | exact t0 | apply tS))).getOwn.rd) hlk) ?_; go_frame)
      | (show wpList _ _ _ (⟨_, .load 50 _, _, _, _, _⟩ :: _) _ _; refine wpList_val rfl (op_loadF1 oneInts rfl (n := 34) (v := ov) (k := k) (j := 32) rfl ((hS.bring (by repeat (first | exact t0 | apply tS))).getOwn.rd) hlk (u := x.1) HP.out) ?_; go_frame)
      | (show wpList _ _ _ (⟨some 34, .slice _ _ _ _ _, _, _, _, _⟩ :: _) _ _; refine wpList_val rfl (op_cut slInt rfl (v := x.1) (xs := (x.2.peer :: x.2.waits).map fun z => [I64 z]) rfl ((hS.bring (by repeat (first | exact t0 | apply tS))).getOwn.rd) (l := 1) (h := ((x.2.peer :: x.2.waits).map fun z => [I64 z]).length) (Or.inr rfl) (Or.inl ⟨rfl, rfl⟩) HL1.out (Nat.le_refl _)) ?_; go_frame)
      )
    refine segQ_mk trivial ?_
    refine ord_fork (n := 5) (os1 := [[3, 5, 15, 16, 17, 18]]) (os2 := [[5, 3, 15, 16, 17, 18], [5, 15, 3, 16, 17, 18]]) (by decide) ?_ ?_
    ·
      refine ord_seg (by repeat (first | exact Clean.body | refine Clean.then ?_ | refine Clean.inBlock ?_ | refine SegQ.clean ?_ | refine FinC.clean ?_)) (n := 3) (rest := [[16, 17, 18]]) [3, 5, 15] [⟨_, _, _, _, _, _⟩, ⟨_, _, _, _, _, _⟩, ⟨_, _, _, _, _, _⟩] rfl (by kernel_rfl) (by simp) _ _ ?_
      go_wp2_with (first
        | (show wpList _ _ _ (⟨_, .load 36 _, _, _, _, _⟩ :: _) _ _; refine wpList_val rfl (op_load1S (T := 38) oneREnts ((hS.bring (by repeat (first | exact t0 | apply tS)))) rfl rfl rfl) ?_; go_frame)
        | (show wpList _ _ _ (⟨_, .buildSlice _ 0 _, _, _, _, _⟩ :: _) _ _; refine wpS_build0 slInt hS rfl rfl ?_; clear hS; intro v1 w hS; go_frame)
        | (show wpList _ _ _ (⟨some 35, .call _, _, _, _, _⟩ :: _) _ _; (refine wpS_append slInt (hS.bring (by repeat (first | exact t0 | apply tS))) rfl rfl (sv := v1) rfl rfl (ys := x.2.waits.map fun z => [I64 z]) (by have h := Rd.cutV (v := x.1) (xs := (x.2.peer :: x.2.waits).map fun z => [I64 z]) ((hS.bring (by repeat (first | exact t0 | apply tS))).getOwn.rd) HL1.out (Nat.le_refl _); rw [HTL.out] at h; exact h) (flat_ints _) HB1.out HB2.out ?_); clear hS; intro v2 w hS; have HV2 := hide hS.getOwn.rd.cells1; have HV3 := hide hS.getOwn.rd.one1; go_frame)
        )
      refine segQ_mk trivial ?_
      refine ord_seg (by repeat (first | exact Clean.body | refine Clean.then ?_ | refine Clean.inBlock ?_ | refine SegQ.clean ?_ | refine FinC.clean ?_)) (n := 0) (rest := [[]]) [16, 17, 18] [⟨_, _, _, _, _, _⟩, ⟨_, _, _, _, _, _⟩, ⟨_, _, _, _, _, _⟩] rfl (by kernel_rfl) (by simp) _ _ ?_
      go_wp2_with (first
        | (show wpList _ _ _ (⟨_, .indexAddr 36 _ _, _, _, _, _⟩ :: _) _ _; refine wpList_val rfl (op_indexAddr slREnt rfl (v := ov) (k := k) rfl rfl ((hS.bring (by repeat (first | exact t0 | apply tS))).getOwn.rd) hlk) ?_; go_frame)
        | (show wpList _ _ _ (⟨_, .fieldAddr 79 _ 1, _, _, _, _⟩ :: _) _ _; refine wpList_val rfl (op_fieldAddrE (j := 32) (by kernel_rfl) rfl (n := 34) (v := ov) (k := k) rfl ((hS.bring (by repeat (first | exact t0 | apply tS))).getOwn.rd) hlk) ?_; go_frame)
        | (show wpList _ _ _ (⟨_, .store 50 _ _, _, _, _, _⟩ :: _) _ _; (refine wpS_storeF1 (by kernel_rfl) (hS.bring (by repeat (first | exact t0 | apply tS))) rfl rfl (k := k) (j := 32) rfl rfl HV2.out HV3.out hlk (by omega) ?_); clear hS; intro w hS; rw [HS1.out] at hS; go_frame)
        )
      refine segQ_mk trivial ?_
      refine finC_mk (by kernel_rfl) (by
        intro t ht
        cases ht) ?_
      go_wp2_with (first
        | (show wpList _ _ _ (⟨_, .load 36 _, _, _, _, _⟩ :: _) _ _; refine wpList_val rfl (op_load1S (T := 38) oneREnts ((hS.bring (by repeat (first | exact t0 | apply tS)))) rfl rfl rfl) ?_; go_frame)
        | (show wpList _ _ _ (⟨_, .indexAddr 36 _ _, _, _, _, _⟩ :: _) _ _; refine wpList_val rfl (op_indexAddr slREnt rfl (v := ov) (k := k) rfl rfl ((hS.bring (by repeat (first | exact t0 | apply tS))).getOwn.rd) (hlk2 v2)) ?_; go_frame)
        | (show wpList _ _ _ (⟨_, .fieldAddr 79 _ 2, _, _, _, _⟩ :: _) _ _; refine wpList_val rfl (op_fieldAddrE (j := 33) (by kernel_rfl) rfl (n := 34) (v := ov) (k := k) rfl ((hS.bring (by repeat (first | exact t0 | apply tS))).getOwn.rd) (hlk2 v2)) ?_; go_frame)
        | (show wpList _ _ _ (⟨_, .store 23 _ _, _, _, _, _⟩ :: _) _ _; (refine wpS_storeF1 (by kernel_rfl) (hS.bring (by repeat (first | exact t0 | apply tS))) rfl rfl (k := k) (j := 33) rfl (u := U t) rfl rfl rfl (hlk2 v2) (by omega) ?_); clear hS; intro w hS; rw [HS2.out] at hS; go_frame)
        )
      go_ret
      refine ⟨by rw [HG.out]; rfl, ?_⟩
      rw [HG.out]
      exact FINP (by exact hS.sel (by repeat (first | exact Sel.refl | refine Sel.take (by repeat (first | exact t0 | apply tS)) ?_ | apply Sel.drop)))
    ·
      refine ord_seg (by repeat (first | exact Clean.body | refine Clean.then ?_ | refine Clean.inBlock ?_ | refine SegQ.clean ?_ | refine FinC.clean ?_)) (n := 5) (rest := [[3, 15, 16, 17, 18], [15, 3, 16, 17, 18]]) [5] [⟨_, _, _, _, _, _⟩] rfl (by kernel_rfl) (by simp) _ _ ?_
      go_wp2_with (first
        | (show wpList _ _ _ (⟨_, .buildSlice _ 0 _, _, _, _, _⟩ :: _) _ _; refine wpS_build0 slInt hS rfl rfl ?_; clear hS; intro v1 w hS; go_frame)
        )
      refine segQ_mk trivial ?_
      refine ord_fork (n := 4) (os1 := [[3, 15, 16, 17, 18]]) (os2 := [[15, 3, 16, 17, 18]]) (by decide) ?_ ?_
      ·
        refine ord_seg (by repeat (first | exact Clean.body | refine Clean.then ?_ | refine Clean.inBlock ?_ | refine SegQ.clean ?_ | refine FinC.clean ?_)) (n := 3) (rest := [[16, 17, 18]]) [3, 15] [⟨_, _, _, _, _, _⟩, ⟨_, _, _, _, _, _⟩] rfl (by kernel_rfl) (by simp) _ _ ?_
        go_wp2_with (first
          | (show wpList _ _ _ (⟨_, .load 36 _, _, _, _, _⟩ :: _) _ _; refine wpList_val rfl (op_load1S (T := 38) oneREnts ((hS.bring (by repeat (first | exact t0 | apply tS)))) rfl rfl rfl) ?_; go_frame)
          | (show wpList _ _ _ (⟨some 35, .call _, _, _, _, _⟩ :: _) _ _; (refine wpS_append slInt (hS.bring (by repeat (first | exact t0 | apply tS))) rfl rfl (sv := v1) rfl rfl (ys := x.2.waits.map fun z => [I64 z]) (by have h := Rd.cutV (v := x.1) (xs := (x.2.peer :: x.2.waits).map fun z => [I64 z]) ((hS.bring (by repeat (first | exact t0 | apply tS))).getOwn.rd) HL1.out (Nat.le_refl _); rw [HTL.out] at h; exact h) (flat_ints _) HB1.out HB2.out ?_); clear hS; intro v2 w hS; have HV2 := hide hS.getOwn.rd.cells1; have HV3 := hide hS.getOwn.rd.one1; go_frame)
          )
        refine segQ_mk trivial ?_
        refine ord_seg (by repeat (first | exact Clean.body | refine Clean.then ?_ | refine Clean.inBlock ?_ | refine SegQ.clean ?_ | refine FinC.clean ?_)) (n := 0) (rest := [[]]) [16, 17, 18] [⟨_, _, _, _, _, _⟩, ⟨_, _, _, _, _, _⟩, ⟨_, _, _, _, _, _⟩] rfl (by kernel_rfl) (by simp) _ _ ?_
        go_wp2_with (first
          | (show wpList _ _ _ (⟨_, .indexAddr 36 _ _, _, _, _, _⟩ :: _) _ _; refine wpList_val rfl (op_indexAddr slREnt rfl (v := ov) (k := k) rfl rfl ((hS.bring (by repeat (first | exact t0 | apply tS))).getOwn.rd) hlk) ?_; go_frame)
          | (show wpList _ _ _ (⟨_, .fieldAddr 79 _ 1, _, _, _, _⟩ :: _) _ _; refine wpList_val rfl (op_fieldAddrE (j := 32) (by kernel_rfl) rfl (n := 34) (v := ov) (k := k) rfl ((hS.bring (by repeat (first | exact t0 | apply tS))).getOwn.rd) hlk) ?_; go_frame)
          | (show wpList _ _ _ (⟨_, .store 50 _ _, _, _, _, _⟩ :: _) _ _; (refine wpS_storeF1 (by kernel_rfl) (hS.bring (by repeat (first | exact t0 | apply tS))) rfl rfl (k := k) (j := 32) rfl rfl HV2.out HV3.out hlk (by omega) ?_); clear hS; intro w hS; rw [HS1.out] at hS; go_frame)
          )
        refine segQ_mk trivial ?_
        refine finC_mk (by kernel_rfl) (by
          intro t ht
          cases ht) ?_
        go_wp2_with (first
          | (show wpList _ _ _ (⟨_, .load 36 _, _, _, _, _⟩ :: _) _ _; refine wpList_val rfl (op_load1S (T := 38) oneREnts ((hS.bring (by repeat (first | exact t0 | apply tS)))) rfl rfl rfl) ?_; go_frame)
          | (show wpList _ _ _ (⟨_, .indexAddr 36 _ _, _, _, _, _⟩ :: _) _ _; refine wpList_val rfl (op_indexAddr slREnt rfl (v := ov) (k := k) rfl rfl ((hS.bring (by repeat (first | exact t0 | apply tS))).getOwn.rd) (hlk2 v2)) ?_; go_frame)
          | (show wpList _ _ _ (⟨_, .fieldAddr 79 _ 2, _, _, _, _⟩ :: _) _ _; refine wpList_val rfl (op_fieldAddrE (j := 33) (by kernel_rfl) rfl (n := 34) (v := ov) (k := k) rfl ((hS.bring (by repeat (first | exact t0 | apply tS))).getOwn.rd) (hlk2 v2)) ?_; go_frame)
          | (show wpList _ _ _ (⟨_, .store 23 _ _, _, _, _, _⟩ :: _) _ _; (refine wpS_storeF1 (by kernel_rfl) (hS.bring (by repeat (first | exact t0 | apply tS))) rfl rfl (k := k) (j := 33) rfl (u := U t) rfl rfl rfl (hlk2 v2) (by omega) ?_); clear hS; intro w hS; rw [HS2.out] at hS; go_frame)
          )
        go_ret
        refine ⟨by rw [HG.out]; rfl, ?_⟩
        rw [HG.out]
        exact FINP (by exact hS.sel (by repeat (first | exact Sel.refl | refine Sel.take (by repeat (first | exact t0 | apply tS)) ?_ | apply Sel.drop)))
      ·
        refine ord_seg (by repeat (first | exact Clean.body | refine Clean.then ?_ | refine Clean.inBlock ?_ | refine SegQ.clean ?_ | refine FinC.clean ?_)) (n := 4) (rest := [[3, 16, 17, 18]]) [15] [⟨_, _, _, _, _, _⟩] rfl (by kernel_rfl) (by simp) _ _ ?_
        go_wp2_with (first
          | (show wpList _ _ _ (⟨some 35, .call _, _, _, _, _⟩ :: _) _ _; (refine wpS_append slInt (hS.bring (by repeat (first | exact t0 | apply tS))) rfl rfl (sv := v1) rfl rfl (ys := x.2.waits.map fun z => [I64 z]) (by have h := Rd.cutV (v := x.1) (xs := (x.2.peer :: x.2.waits).map fun z => [I64 z]) ((hS.bring (by repeat (first | exact t0 | apply tS))).getOwn.rd) HL1.out (Nat.le_refl _); rw [HTL.out] at h; exact h) (flat_ints _) HB1.out HB2.out ?_); clear hS; intro v2 w hS; have HV2 := hide hS.getOwn.rd.cells1; have HV3 := hide hS.getOwn.rd.one1; go_frame)
          )
        refine segQ_mk trivial ?_
        refine ord_seg (by repeat (first | exact Clean.body | refine Clean.then ?_ | refine Clean.inBlock ?_ | refine SegQ.clean ?_ | refine FinC.clean ?_)) (n := 0) (rest := [[]]) [3, 16, 17, 18] [⟨_, _, _, _, _, _⟩, ⟨_, _, _, _, _, _⟩, ⟨_, _, _, _, _, _⟩, ⟨_, _, _, _, _, _⟩] rfl (by kernel_rfl) (by simp) _ _ ?_
        go_wp2_with (first
          | (show wpList _ _ _ (⟨_, .load 36 _, _, _, _, _⟩ :: _) _ _; refine wpList_val rfl (op_load1S (T := 38) oneREnts ((hS.bring (by repeat (first | exact t0 | apply tS)))) rfl rfl rfl) ?_; go_frame)
          | (show wpList _ _ _ (⟨_, .indexAddr 36 _ _, _, _, _, _⟩ :: _) _ _; refine wpList_val rfl (op_indexAddr slREnt rfl (v := ov) (k := k) rfl rfl ((hS.bring (by repeat (first | exact t0 | apply tS))).getOwn.rd) hlk) ?_; go_frame)
          | (show wpList _ _ _ (⟨_, .fieldAddr 79 _ 1, _, _, _, _⟩ :: _) _ _; refine wpList_val rfl (op_fieldAddrE (j := 32) (by kernel_rfl) rfl (n := 34) (v := ov) (k := k) rfl ((hS.bring (by repeat (first | exact t0 | apply tS))).getOwn.rd) hlk) ?_; go_frame)
          | (show wpList _ _ _ (⟨_, .store 50 _ _, _, _, _, _⟩ :: _) _ _; (refine wpS_storeF1 (by kernel_rfl) (hS.bring (by repeat (first | exact t0 | apply tS))) rfl rfl (k := k) (j := 32) rfl rfl HV2.out HV3.out hlk (by omega) ?_); clear hS; intro w hS; rw [HS1.out] at hS; go_frame)
          )
        refine segQ_mk trivial ?_
        refine finC_mk (by kernel_rfl) (by
          intro t ht
          cases ht) ?_
        go_wp2_with (first
          | (show wpList _ _ _ (⟨_, .load 36 _, _, _, _, _⟩ :: _) _ _; refine wpList_val rfl (op_load1S (T := 38) oneREnts ((hS.bring (by repeat (first | exact t0 | apply tS)))) rfl rfl rfl) ?_; go_frame)
          | (show wpList _ _ _ (⟨_, .indexAddr 36 _ _, _, _, _, _⟩ :: _) _ _; refine wpList_val rfl (op_indexAddr slREnt rfl (v := ov) (k := k) rfl rfl ((hS.bring (by repeat (first | exact t0 | apply tS))).getOwn.rd) (hlk2 v2)) ?_; go_frame)
          | (show wpList _ _ _ (⟨_, .fieldAddr 79 _ 2, _, _, _, _⟩ :: _) _ _; refine wpList_val rfl (op_fieldAddrE (j := 33) (by kernel_rfl) rfl (n := 34) (v := ov) (k := k) rfl ((hS.bring (by repeat (first | exact t0 | apply tS))).getOwn.rd) (hlk2 v2)) ?_; go_frame)
          | (show wpList _ _ _ (⟨_, .store 23 _ _, _, _, _, _⟩ :: _) _ _; (refine wpS_storeF1 (by kernel_rfl) (hS.bring (by repeat (first | exact t0 | apply tS))) rfl rfl (k := k) (j := 33) rfl (u := U t) rfl rfl rfl (hlk2 v2) (by omega) ?_); clear hS; intro w hS; rw [HS2.out] at hS; go_frame)
          )
        go_ret
        refine ⟨by rw [HG.out]; rfl, ?_⟩
        rw [HG.out]
        exact FINP (by exact hS.sel (by repeat (first | exact Sel.refl | refine Sel.take (by repeat (first | exact t0 | apply tS)) ?_ | apply Sel.drop)))
end
end Go.Proofs.Ytafpdpcbckpkjaa
namespace Go.Proofs.Ytafpdpcbckpkjaa
open Go.RowKit Go.Px
section
variable {R : Nat → Prop} {base w : World} {F : List Hp} {p : Nat} {B : List Ent}
theorem rat_s {i : List Byte} (hS : SepL R base w (rB p B :: F)) (hi : i.length = 32) (ok : BOk B) :
    Calls Try.prog 35 #[.pointer (some ⟨p, 0, none⟩), .agg (i.map B8).toArray] w (Ret fun r w' => r = .int .i64 (ixOf i (ids B)) ∧ SepL R base w' (rB p B :: F)) := by
  obtain ⟨ov, l, hl, hS2⟩ := rB_open [] hS
  subst hl
  refine Ret.calls (at_s hS2 hi ok.len) ?_
  rintro r w ⟨rfl, hS⟩
  exact ⟨rfl, rB_close [] hS⟩
theorem ix_split {B1 B2 : List Ent} {e : Ent} (ok : BOk (B1 ++ e :: B2)) : ixOf e.id (ids (B1 ++ e :: B2)) = B1.length := by
  have h := ok.nodup
  unfold ids at h
  rw [List.map_append, List.map_cons, List.nodup_append] at h
  have hno : e.id ∉ ids B1 := fun ha => h.2.2 _ ha _ (by simp) rfl
  rw [ids_app]
  show ixOf e.id (ids B1 ++ e.id :: ids B2) = _
  rw [ix_at hno]
  simp [ids]
theorem decNeg (k : Nat) : Hid (decide ((k : Int) < 0) = false) := decF (by omega)
set_option maxRecDepth 100000 in
theorem rgot_in {B1 B2 : List Ent} {e : Ent} (hS : SepL R base w (rB p (B1 ++ e :: B2) :: F)) (ok : BOk (B1 ++ e :: B2)) :
    Calls Try.prog 31 #[.pointer (some ⟨p, 0, none⟩), HV e.id] w (Ret fun r w' => r = .bool true ∧ SepL R base w' (rB p (B1 ++ B2) :: F)) := by
  have hi : e.id.length = 32 := ok.len e (by simp)
  obtain ⟨i, hii⟩ : ∃ i, e.id = i := ⟨_, rfl⟩
  have HIX := hide (ix_split ok)
  obtain ⟨k, hk⟩ : ∃ k, B1.length = k := ⟨_, rfl⟩
  rw [hk] at HIX
  rw [hii] at hi HIX ⊢
  have HI32 : Hid ((i.map B8).length = 32) := by simp [Hid, hi]
  have HN := decNeg k
  unfold HV
  go_enter Try.func31, Try.ntmps31
  go_wp2_with (first
    | (show wpList _ _ _ (⟨_, .box _ _, _, _, _, _⟩ :: _) _ _; refine wpS_boxA (cs := i.map B8) hS rfl rfl rfl ?_; clear hS; intro hb w hS; go_frame)
    | (show wpList _ _ _ (⟨_, .load 28 _, _, _, _, _⟩ :: _) _ _; refine wpList_val rfl (op_load aggHash rfl rfl ((hS.bring (by repeat (first | exact t0 | apply tS))).getBlk.cells) HI32.out) ?_; go_frame)
    | (go_at_call 35; refine Ret.calls (rat_s (F := .blk hb 28 (i.map B8) :: F) (by exact hS.sel (by repeat (first | exact Sel.refl | refine Sel.take (by repeat (first | exact t0 | apply tS)) ?_ | apply Sel.drop))) hi ok) ?_; clear hS; rintro r w ⟨rfl, hS⟩; rw [HIX.out])
    | (show wpList _ _ _ (⟨some 10, .binOp _ _ _ _ _, _, _, _, _⟩ :: _) _ _; refine wpList_val rfl (op_ilss rfl rfl rfl HN.out) ?_; go_frame)
    | (go_at_call 45; refine Ret.calls (rout_s (B1 := B1) (e := e) (B2 := B2) (by exact hS.sel (by repeat (first | exact Sel.refl | refine Sel.take (by repeat (first | exact t0 | apply tS)) ?_ | apply Sel.drop))) hk ok.few) ?_; clear hS; rintro r w hS)
    )
  go_ret
  exact ⟨rfl, hS.sel (by repeat (first | exact Sel.refl | refine Sel.take (by repeat (first | exact t0 | apply tS)) ?_ | apply Sel.drop))⟩
set_option maxRecDepth 100000 in
theorem rgot_out {i : List Byte} (hS : SepL R base w (rB p B :: F)) (ok : BOk B) (hi : i.length = 32) (hout : i ∉ ids B) :
    Calls Try.prog 31 #[.pointer (some ⟨p, 0, none⟩), HV i] w (Ret fun r w' => r = .bool false ∧ SepL R base w' (rB p B :: F)) := by
  have HIX := hide (ix_none hout)
  have HI32 : Hid ((i.map B8).length = 32) := by simp [Hid, hi]
  have HN : Hid (decide ((-1 : Int) < 0) = true) := rfl
  unfold HV
  go_enter Try.func31, Try.ntmps31
  go_wp2_with (first
    | (show wpList _ _ _ (⟨_, .box _ _, _, _, _, _⟩ :: _) _ _; refine wpS_boxA (cs := i.map B8) hS rfl rfl rfl ?_; clear hS; intro hb w hS; go_frame)
    | (show wpList _ _ _ (⟨_, .load 28 _, _, _, _, _⟩ :: _) _ _; refine wpList_val rfl (op_load aggHash rfl rfl ((hS.bring (by repeat (first | exact t0 | apply tS))).getBlk.cells) HI32.out) ?_; go_frame)
    | (go_at_call 35; refine Ret.calls (rat_s (F := .blk hb 28 (i.map B8) :: F) (by exact hS.sel (by repeat (first | exact Sel.refl | refine Sel.take (by repeat (first | exact t0 | apply tS)) ?_ | apply Sel.drop))) hi ok) ?_; clear hS; rintro r w ⟨rfl, hS⟩; rw [HIX.out])
    | (show wpList _ _ _ (⟨some 10, .binOp _ _ _ _ _, _, _, _, _⟩ :: _) _ _; refine wpList_val rfl (op_ilss rfl rfl rfl HN.out) ?_; go_frame)
    )
  go_ret
  exact ⟨rfl, hS.sel (by repeat (first | exact Sel.refl | refine Sel.take (by repeat (first | exact t0 | apply tS)) ?_ | apply Sel.drop))⟩
end
end Go.Proofs.Ytafpdpcbckpkjaa
namespace Go.Proofs.Ytafpdpcbckpkjaa
open Go.RowKit Go.Px
theorem g32 {i : List Byte} {u v : Value} {r : List Value} (h : r = i.map B8 ++ [u, v]) (hi : i.length = 32) : r[32]? = some u := by
  subst h
  rw [List.getElem?_append_right (by simp [hi])]
  simp [hi]
theorem g33 {i : List Byte} {u v : Value} {r : List Value} (h : r = i.map B8 ++ [u, v]) (hi : i.length = 32) : r[33]? = some v := by
  subst h
  rw [List.getElem?_append_right (by simp [hi])]
  simp [hi]
theorem g0 {i : List Byte} {u v : Value} {r : List Value} (h : r = i.map B8 ++ [u, v]) (hi : i.length = 32) : (r.drop 0).take 32 = i.map B8 := by
  subst h
  rw [List.drop_zero, List.take_left' (by simp [hi])]
theorem s32 {i : List Byte} {u v z : Value} {r : List Value} (h : r = i.map B8 ++ [u, v]) (hi : i.length = 32) : r.set 32 z = i.map B8 ++ [z, v] := by
  subst h
  rw [List.set_append_right _ _ (by simp [hi])]
  simp [hi]
section
variable {R : Nat → Prop} {base w : World} {F : List Hp} {p : Nat} {B1 B2 : List Ent} {e : Ent}
theorem rfocus (A : List Hp) {k : Nat} (hS : SepL R base w (rB p (B1 ++ e :: B2) :: (A ++ F))) (hk : B1.length = k) :
    ∃ (ov pv : Value) (xs : List (List Value)) (G : List Hp) (hlk : k < xs.length), Hid (xs.length = (B1 ++ e :: B2).length) ∧ Hid (xs[k] = e.id.map B8 ++ [pv, U e.since]) ∧
      (∀ {w : World} (A : List Hp) {v : Value} {f : Ent}, f.id = e.id → SepL R base w (.own 3 1 v ((f.peer :: f.waits).map fun z => [I64 z]) :: .blk p 38 [ov] :: .own 79 34 ov (xs.set k (e.id.map B8 ++ [v, U f.since])) :: (A ++ G)) → SepL R base w (rB p (B1 ++ f :: B2) :: (A ++ F))) ∧
      (∀ {w : World} (A : List Hp), SepL R base w (.own 3 1 pv ((e.peer :: e.waits).map fun z => [I64 z]) :: .blk p 38 [ov] :: .own 79 34 ov xs :: (A ++ G)) → SepL R base w (rB p (B1 ++ e :: B2) :: (A ++ F))) ∧
      SepL R base w (.own 3 1 pv ((e.peer :: e.waits).map fun z => [I64 z]) :: .blk p 38 [ov] :: .own 79 34 ov xs :: (A ++ G)) := by
  obtain ⟨ov, l, hl, hS2⟩ := rB_open A hS
  clear hS
  obtain ⟨l1, x, l2, hl2, h1, h2, h3⟩ := split_relist hl
  subst hl2
  subst h1 h2 h3
  have hlen1 : l1.length = k := by rw [← hk]; simp [relist]
  have hlk : k < ((l1 ++ x :: l2).map rC).length := by
    simp
    omega
  have hgk : ((l1 ++ x :: l2).map rC)[k] = rC x := by
    rw [List.getElem_map]
    congr 1
    subst hlen1
    simp
  have hset : ∀ v : Value, ∀ f : Ent, ((l1 ++ x :: l2).map rC).set k (x.2.id.map B8 ++ [v, U f.since]) = l1.map rC ++ (x.2.id.map B8 ++ [v, U f.since]) :: l2.map rC := by
    intro v f
    rw [List.map_append, List.map_cons, set_mid _ _ _ _ (by rw [List.length_map, hlen1])]
  have key : ∀ {w : World} (A : List Hp) {v : Value} {f : Ent}, f.id = x.2.id → SepL R base w (.own 3 1 v ((f.peer :: f.waits).map fun z => [I64 z]) :: .blk p 38 [ov] :: .own 79 34 ov (((l1 ++ x :: l2).map rC).set k (x.2.id.map B8 ++ [v, U f.since])) :: (A ++ (rsP (l1 ++ l2) ++ F))) → SepL R base w (rB p (relist l1 ++ f :: relist l2) :: (A ++ F)) := by
    intro w A v f hf h
    rw [hset, ← hf] at h
    have := rrelay A h
    simpa using this
  refine ⟨ov, x.1, (l1 ++ x :: l2).map rC, rsP (l1 ++ l2) ++ F, hlk, by simp [Hid, relist], hgk, key, ?_, ?_⟩
  · intro w A h
    refine key A (v := x.1) (f := x.2) rfl ?_
    have : ((l1 ++ x :: l2).map rC).set k (x.2.id.map B8 ++ [x.1, U x.2.since]) = (l1 ++ x :: l2).map rC := by
      have h2 : x.2.id.map B8 ++ [x.1, U x.2.since] = ((l1 ++ x :: l2).map rC)[k] := hgk.symm
      rw [h2, List.set_getElem_self]
    rw [this]
    exact h
  · have h := rpull A hS2
    refine h.perm (List.Perm.cons _ ?_)
    exact swapA A [_, _] _
end
end Go.Proofs.Ytafpdpcbckpkjaa
namespace Go.Proofs.Ytafpdpcbckpkjaa
open Go.RowKit Go.Px
section
variable {R : Nat → Prop} {base w : World} {F : List Hp} {p : Nat} {B : List Ent}
theorem rtail1 {a : Hp} {X Y : List Ent} (hXY : X = Y) (h : SepL R base w (rB p X :: ([a] ++ F))) : SepL R base w (rB p Y :: F) := by
  subst hXY
  exact SepL.tail (h.perm (.swap _ _ _))
set_option maxRecDepth 100000 in
theorem rlack_out {t : Nat} {q : Int} {i : List Byte} (hS : SepL R base w (rB p B :: F)) (ok : BOk B) (hi : i.length = 32) (hout : i ∉ ids B) :
    Calls Try.prog 32 #[.pointer (some ⟨p, 0, none⟩), HV i, I64 q, U t] w (Ret fun r w' => r = .tuple #[.int .i64 0, .bool false] ∧ SepL R base w' (rB p B :: F)) := by
  have HIX := hide (ix_none hout)
  have HI32 : Hid ((i.map B8).length = 32) := by simp [Hid, hi]
  have HN : Hid (decide ((-1 : Int) < 0) = true) := rfl
  unfold HV
  go_enter Try.func32, Try.ntmps32
  go_wp2_with (first
    | (show wpList _ _ _ (⟨_, .box _ _, _, _, _, _⟩ :: _) _ _; refine wpS_boxA (cs := i.map B8) hS rfl rfl rfl ?_; clear hS; intro hb w hS; go_frame)
    | (show wpList _ _ _ (⟨_, .load 28 _, _, _, _, _⟩ :: _) _ _; refine wpList_val rfl (op_load aggHash rfl rfl ((hS.bring (by repeat (first | exact t0 | apply tS))).getBlk.cells) HI32.out) ?_; go_frame)
    | (go_at_call 35; refine Ret.calls (rat_s (F := .blk hb 28 (i.map B8) :: F) (by exact hS.sel (by repeat (first | exact Sel.refl | refine Sel.take (by repeat (first | exact t0 | apply tS)) ?_ | apply Sel.drop))) hi ok) ?_; clear hS; rintro r w ⟨rfl, hS⟩; rw [HIX.out])
    | (show wpList _ _ _ (⟨some 15, .binOp _ _ _ _ _, _, _, _, _⟩ :: _) _ _; refine wpList_val rfl (op_ilss rfl rfl rfl HN.out) ?_; go_frame)
    )
  go_ret2
  exact ⟨rfl, hS.sel (by repeat (first | exact Sel.refl | refine Sel.take (by repeat (first | exact t0 | apply tS)) ?_ | apply Sel.drop))⟩
set_option maxRecDepth 100000 in
set_option maxHeartbeats 4000000 in
theorem rlack_in {t : Nat} {q : Int} {B1 B2 : List Ent} {e : Ent} (hS : SepL R base w (rB p (B1 ++ e :: B2) :: F)) (ok : BOk (B1 ++ e :: B2)) :
    Calls Try.prog 32 #[.pointer (some ⟨p, 0, none⟩), HV e.id, I64 q, U t] w (Ret fun r w' => r = lackR q e ∧ SepL R base w' (rB p (B1 ++ (lackE q t e).toList ++ B2) :: F)) := by
  have hi : e.id.length = 32 := ok.len e (by simp)
  have hw := ok.wait e (by simp)
  have HWL : Hid ((e.peer :: e.waits).length ≤ 1000000) := by
    unfold Hid
    simp
    omega
  have HIX := hide (ix_split ok)
  have HIL := hide hi
  obtain ⟨k, hk⟩ : ∃ k, B1.length = k := ⟨_, rfl⟩
  rw [hk] at HIX
  obtain ⟨i, hii⟩ : ∃ i, e.id = i := ⟨_, rfl⟩
  rw [hii] at hi HIX ⊢
  have HI32 : Hid ((i.map B8).length = 32) := by simp [Hid, hi]
  have HN := decNeg k
  unfold HV
  clear hw hii
  by_cases hq : e.peer = q
  · have HQ : Hid ((e.peer != q) = false) := by
      unfold Hid
      simp [hq]
    have HE : Hid (lackE q t e = goE t e) := if_neg (by simp [hq])
    have HR : Hid (lackR q e = nextR e) := if_neg (by simp [hq])
    rw [HE.out, HR.out]
    clear hq HE HR
    cases hwt : e.waits with
    | nil =>
      have HNR : Hid (nextR e = .tuple #[.int .i64 0, .bool false]) := by
        unfold Hid nextR
        rw [hwt]
      have HG : Hid (goE t e = none) := by
        unfold Hid goE
        rw [hwt]
      rw [HNR.out, HG.out]
      clear hwt
      go_enter Try.func32, Try.ntmps32
      go_wp2_with (first
        | (show wpList _ _ _ (⟨_, .box _ _, _, _, _, _⟩ :: _) _ _; refine wpS_boxA (cs := i.map B8) hS rfl rfl rfl ?_; clear hS; intro hb w hS; go_frame)
        | (show wpList _ _ _ (⟨_, .load 28 _, _, _, _, _⟩ :: _) _ _; refine wpList_val rfl (op_load aggHash rfl rfl ((hS.bring (by repeat (first | exact t0 | apply tS))).getBlk.cells) HI32.out) ?_; go_frame)
        | (go_at_call 35; refine Ret.calls (rat_s (F := .blk hb 28 (i.map B8) :: F) (by exact hS.sel (by repeat (first | exact Sel.refl | refine Sel.take (by repeat (first | exact t0 | apply tS)) ?_ | apply Sel.drop))) hi ok) ?_; clear hS; rintro r w ⟨rfl, hS⟩; rw [HIX.out]; obtain ⟨ov, pv, xs, G, hlk, HLN, HX, HC, HD, hS⟩ := rfocus [.blk hb 28 (i.map B8)] hS hk)
        | (show wpList _ _ _ (⟨some 15, .binOp _ _ _ _ _, _, _, _, _⟩ :: _) _ _; refine wpList_val rfl (op_ilss rfl rfl rfl HN.out) ?_; go_frame)
        | (show wpList _ _ _ (⟨some 27, .binOp _ _ _ _ _, _, _, _, _⟩ :: _) _ _; refine wpList_val rfl (op_ineI rfl rfl rfl HQ.out) ?_; go_frame)
        | (show wpList _ _ _ (⟨_, .load 36 _, _, _, _, _⟩ :: _) _ _; refine wpList_val rfl (op_load1S (T := 38) oneREnts ((hS.bring (by repeat (first | exact t0 | apply tS)))) rfl rfl rfl) ?_; go_frame)
        | (show wpList _ _ _ (⟨_, .indexAddr 36 _ _, _, _, _, _⟩ :: _) _ _; refine wpList_val rfl (op_indexAddr slREnt rfl (v := ov) (k := k) rfl rfl (xs := xs) ((hS.bring (by repeat (first | exact t0 | apply tS))).getOwn.rd) hlk) ?_; go_frame)
        | (show wpList _ _ _ (⟨_, .fieldAddr 79 _ 1, _, _, _, _⟩ :: _) _ _; refine wpList_val rfl (op_fieldAddrE (j := 32) (by kernel_rfl) rfl (n := 34) (v := ov) (k := k) (xs := xs) rfl ((hS.bring (by repeat (first | exact t0 | apply tS))).getOwn.rd) hlk) ?_; go_frame)
        | (show wpList _ _ _ (⟨_, .load 50 _, _, _, _, _⟩ :: _) _ _; refine wpList_val rfl (op_loadF1 oneInts rfl (n := 34) (v := ov) (k := k) (j := 32) (xs := xs) rfl ((hS.bring (by repeat (first | exact t0 | apply tS))).getOwn.rd) hlk (u := pv) (g32 HX.out HIL.out)) ?_; go_frame)
        | (show wpList _ _ _ (⟨_, .indexAddr 50 _ _, _, _, _, _⟩ :: _) _ _; refine wpList_val rfl (op_indexAddrZ slInt rfl (v := pv) (xs := (e.peer :: e.waits).map fun z => [I64 z]) rfl rfl ((hS.bring (by repeat (first | exact t0 | apply tS))).getOwn.rd) 0 rfl (by simp)) ?_; go_frame)
        | (show wpList _ _ _ (⟨_, .load 3 _, _, _, _, _⟩ :: _) _ _; refine wpList_val rfl (op_loadE1 oneInt rfl (v := pv) (k := 0) rfl (f := I64) (us := e.peer :: e.waits) ((hS.bring (by repeat (first | exact t0 | apply tS))).getOwn.rd) (by simp)) ?_; rw [List.getElem_cons_zero]; go_frame)
        | (go_at_call 46; refine Ret.calls (ron_s (t := t) (HD [.blk hb 28 (i.map B8)] (by exact hS.sel (by repeat (first | exact Sel.refl | refine Sel.take (by repeat (first | exact t0 | apply tS)) ?_ | apply Sel.drop)))) hk ok) ?_; clear hS; rintro r w ⟨rfl, hS⟩; rw [HG.out] at hS; rw [HG.out]; rw [Option.isSome_none])
        )
      go_ret2
      exact ⟨rfl, rtail1 rfl hS⟩
    | cons h r =>
      have HNR : Hid (nextR e = .tuple #[.int .i64 h, .bool true]) := by
        unfold Hid nextR
        rw [hwt]
      obtain ⟨e2, he2⟩ : ∃ e2 : Ent, { e with peer := h, since := t, waits := r } = e2 := ⟨_, rfl⟩
      have HG : Hid (goE t e = some e2) := by
        unfold Hid goE
        rw [hwt, ← he2]
      have HP2 : Hid (e2.peer = h) := by
        unfold Hid
        rw [← he2]
      have HI2 : Hid (e2.id = e.id) := by
        unfold Hid
        rw [← he2]
      rw [HNR.out, HG.out]
      clear hwt he2
      go_enter Try.func32, Try.ntmps32
      go_wp2_with (first
        | (show wpList _ _ _ (⟨_, .box _ _, _, _, _, _⟩ :: _) _ _; refine wpS_boxA (cs := i.map B8) hS rfl rfl rfl ?_; clear hS; intro hb w hS; go_frame)
        | (show wpList _ _ _ (⟨_, .load 28 _, _, _, _, _⟩ :: _) _ _; refine wpList_val rfl (op_load aggHash rfl rfl ((hS.bring (by repeat (first | exact t0 | apply tS))).getBlk.cells) HI32.out) ?_; go_frame)
        | (go_at_call 35; refine Ret.calls (rat_s (F := .blk hb 28 (i.map B8) :: F) (by exact hS.sel (by repeat (first | exact Sel.refl | refine Sel.take (by repeat (first | exact t0 | apply tS)) ?_ | apply Sel.drop))) hi ok) ?_; clear hS; rintro r w ⟨rfl, hS⟩; rw [HIX.out]; obtain ⟨ov, pv, xs, G, hlk, HLN, HX, HC, HD, hS⟩ := rfocus [.blk hb 28 (i.map B8)] hS hk)
        | (show wpList _ _ _ (⟨some 15, .binOp _ _ _ _ _, _, _, _, _⟩ :: _) _ _; refine wpList_val rfl (op_ilss rfl rfl rfl HN.out) ?_; go_frame)
        | (show wpList _ _ _ (⟨some 27, .binOp _ _ _ _ _, _, _, _, _⟩ :: _) _ _; refine wpList_val rfl (op_ineI rfl rfl rfl HQ.out) ?_; go_frame)
        | (go_at_call 46; refine Ret.calls (ron_s (t := t) (HD [.blk hb 28 (i.map B8)] (by exact hS.sel (by repeat (first | exact Sel.refl | refine Sel.take (by repeat (first | exact t0 | apply tS)) ?_ | apply Sel.drop)))) hk ok) ?_; clear hS; rintro r w ⟨rfl, hS⟩; rw [HG.out] at hS; rw [HG.out]; rw [Option.isSome_some]; rw [Option.toList_some, List.append_assoc, List.singleton_append] at hS; obtain ⟨ov2, pv2, xs2, G2, hlk2, HLN2, HX2, HC2, HD2, hS⟩ := rfocus [.blk hb 28 (i.map B8)] hS hk; rw [HI2.out] at HX2)
        | (show wpList _ _ _ (⟨_, .load 36 _, _, _, _, _⟩ :: _) _ _; refine wpList_val rfl (op_load1S (T := 38) oneREnts ((hS.bring (by repeat (first | exact t0 | apply tS)))) rfl rfl rfl) ?_; go_frame)
        | (show wpList _ _ _ (⟨_, .indexAddr 36 _ _, _, _, _, _⟩ :: _) _ _; refine wpList_val rfl (op_indexAddr slREnt rfl (v := ov) (k := k) rfl rfl (xs := xs) ((hS.bring (by repeat (first | exact t0 | apply tS))).getOwn.rd) hlk) ?_; go_frame)
        | (show wpList _ _ _ (⟨_, .fieldAddr 79 _ 1, _, _, _, _⟩ :: _) _ _; refine wpList_val rfl (op_fieldAddrE (j := 32) (by kernel_rfl) rfl (n := 34) (v := ov) (k := k) (xs := xs) rfl ((hS.bring (by repeat (first | exact t0 | apply tS))).getOwn.rd) hlk) ?_; go_frame)
        | (show wpList _ _ _ (⟨_, .load 50 _, _, _, _, _⟩ :: _) _ _; refine wpList_val rfl (op_loadF1 oneInts rfl (n := 34) (v := ov) (k := k) (j := 32) (xs := xs) rfl ((hS.bring (by repeat (first | exact t0 | apply tS))).getOwn.rd) hlk (u := pv) (g32 HX.out HIL.out)) ?_; go_frame)
        | (show wpList _ _ _ (⟨_, .indexAddr 50 _ _, _, _, _, _⟩ :: _) _ _; refine wpList_val rfl (op_indexAddrZ slInt rfl (v := pv) (xs := (e.peer :: e.waits).map fun z => [I64 z]) rfl rfl ((hS.bring (by repeat (first | exact t0 | apply tS))).getOwn.rd) 0 rfl (by simp)) ?_; go_frame)
        | (show wpList _ _ _ (⟨_, .load 3 _, _, _, _, _⟩ :: _) _ _; refine wpList_val rfl (op_loadE1 oneInt rfl (v := pv) (k := 0) rfl (f := I64) (us := e.peer :: e.waits) ((hS.bring (by repeat (first | exact t0 | apply tS))).getOwn.rd) (by simp)) ?_; rw [List.getElem_cons_zero]; go_frame)
        | (show wpList _ _ _ (⟨_, .indexAddr 36 _ _, _, _, _, _⟩ :: _) _ _; refine wpList_val rfl (op_indexAddr slREnt rfl (v := ov2) (k := k) rfl rfl (xs := xs2) ((hS.bring (by repeat (first | exact t0 | apply tS))).getOwn.rd) hlk2) ?_; go_frame)
        | (show wpList _ _ _ (⟨_, .fieldAddr 79 _ 1, _, _, _, _⟩ :: _) _ _; refine wpList_val rfl (op_fieldAddrE (j := 32) (by kernel_rfl) rfl (n := 34) (v := ov2) (k := k) (xs := xs2) rfl ((hS.bring (by repeat (first | exact t0 | apply tS))).getOwn.rd) hlk2) ?_; go_frame)
        | (show wpList _ _ _ (⟨_, .load 50 _, _, _, _, _⟩ :: _) _ _; refine wpList_val rfl (op_loadF1 oneInts rfl (n := 34) (v := ov2) (k := k) (j := 32) (xs := xs2) rfl ((hS.bring (by repeat (first | exact t0 | apply tS))).getOwn.rd) hlk2 (u := pv2) (g32 HX2.out HIL.out)) ?_; go_frame)
        | (show wpList _ _ _ (⟨_, .indexAddr 50 _ _, _, _, _, _⟩ :: _) _ _; refine wpList_val rfl (op_indexAddrZ slInt rfl (v := pv2) (xs := (e2.peer :: e2.waits).map fun z => [I64 z]) rfl rfl ((hS.bring (by repeat (first | exact t0 | apply tS))).getOwn.rd) 0 rfl (by simp)) ?_; go_frame)
        | (show wpList _ _ _ (⟨_, .load 3 _, _, _, _, _⟩ :: _) _ _; refine wpList_val rfl (op_loadE1 oneInt rfl (v := pv2) (k := 0) rfl (f := I64) (us := e2.peer :: e2.waits) ((hS.bring (by repeat (first | exact t0 | apply tS))).getOwn.rd) (by simp)) ?_; rw [List.getElem_cons_zero]; go_frame)
        )
      go_ret2
      exact ⟨by rw [HP2.out]; rfl, rtail1 (by simp) (HD2 [.blk hb 28 (i.map B8)] (by exact hS.sel (by repeat (first | exact Sel.refl | refine Sel.take (by repeat (first | exact t0 | apply tS)) ?_ | apply Sel.drop))))⟩
  · have HQ : Hid ((e.peer != q) = true) := by
      unfold Hid
      simp [hq]
    have HE : Hid (lackE q t e = some (quitE q e)) := if_pos hq
    have HR : Hid (lackR q e = .tuple #[.int .i64 0, .bool false]) := if_pos hq
    have HWW : Hid (wout q (e.peer :: e.waits) = e.peer :: wout q e.waits) := by
      unfold Hid wout
      rw [List.filter_cons, if_pos (by simpa using hq)]
    rw [HE.out, HR.out]
    clear hq HE HR
    go_enter Try.func32, Try.ntmps32
    go_wp2_with (first
      | (show wpList _ _ _ (⟨_, .box _ _, _, _, _, _⟩ :: _) _ _; refine wpS_boxA (cs := i.map B8) hS rfl rfl rfl ?_; clear hS; intro hb w hS; go_frame)
      | (show wpList _ _ _ (⟨_, .load 28 _, _, _, _, _⟩ :: _) _ _; refine wpList_val rfl (op_load aggHash rfl rfl ((hS.bring (by repeat (first | exact t0 | apply tS))).getBlk.cells) HI32.out) ?_; go_frame)
      | (go_at_call 35; refine Ret.calls (rat_s (F := .blk hb 28 (i.map B8) :: F) (by exact hS.sel (by repeat (first | exact Sel.refl | refine Sel.take (by repeat (first | exact t0 | apply tS)) ?_ | apply Sel.drop))) hi ok) ?_; clear hS; rintro r w ⟨rfl, hS⟩; rw [HIX.out]; obtain ⟨ov, pv, xs, G, hlk, HLN, HX, HC, HD, hS⟩ := rfocus [.blk hb 28 (i.map B8)] hS hk)
      | (show wpList _ _ _ (⟨some 15, .binOp _ _ _ _ _, _, _, _, _⟩ :: _) _ _; refine wpList_val rfl (op_ilss rfl rfl rfl HN.out) ?_; go_frame)
      | (show wpList _ _ _ (⟨some 27, .binOp _ _ _ _ _, _, _, _, _⟩ :: _) _ _; refine wpList_val rfl (op_ineI rfl rfl rfl HQ.out) ?_; go_frame)
      | (show wpList _ _ _ (⟨_, .load 36 _, _, _, _, _⟩ :: _) _ _; refine wpList_val rfl (op_load1S (T := 38) oneREnts ((hS.bring (by repeat (first | exact t0 | apply tS)))) rfl rfl rfl) ?_; go_frame)
      | (show wpList _ _ _ (⟨_, .indexAddr 36 _ _, _, _, _, _⟩ :: _) _ _; refine wpList_val rfl (op_indexAddr slREnt rfl (v := ov) (k := k) rfl rfl (xs := xs) ((hS.bring (by repeat (first | exact t0 | apply tS))).getOwn.rd) hlk) ?_; go_frame)
      | (show wpList _ _ _ (⟨_, .fieldAddr 79 _ 1, _, _, _, _⟩ :: _) _ _; refine wpList_val rfl (op_fieldAddrE (j := 32) (by kernel_rfl) rfl (n := 34) (v := ov) (k := k) (xs := xs) rfl ((hS.bring (by repeat (first | exact t0 | apply tS))).getOwn.rd) hlk) ?_; go_frame)
      | (show wpList _ _ _ (⟨_, .load 50 _, _, _, _, _⟩ :: _) _ _; refine wpList_val rfl (op_loadF1 oneInts rfl (n := 34) (v := ov) (k := k) (j := 32) (xs := xs) rfl ((hS.bring (by repeat (first | exact t0 | apply tS))).getOwn.rd) hlk (u := pv) (g32 HX.out HIL.out)) ?_; go_frame)
      | (show wpList _ _ _ (⟨_, .indexAddr 50 _ _, _, _, _, _⟩ :: _) _ _; refine wpList_val rfl (op_indexAddrZ slInt rfl (v := pv) (xs := (e.peer :: e.waits).map fun z => [I64 z]) rfl rfl ((hS.bring (by repeat (first | exact t0 | apply tS))).getOwn.rd) 0 rfl (by simp)) ?_; go_frame)
      | (show wpList _ _ _ (⟨_, .load 3 _, _, _, _, _⟩ :: _) _ _; refine wpList_val rfl (op_loadE1 oneInt rfl (v := pv) (k := 0) rfl (f := I64) (us := e.peer :: e.waits) ((hS.bring (by repeat (first | exact t0 | apply tS))).getOwn.rd) (by simp)) ?_; rw [List.getElem_cons_zero]; go_frame)
      )
    refine wp_region_ord (by kernel_rfl) [] [[0, 1, 2, 4, 5, 6, 7, 8, 9, 10, 11, 12, 13, 3, 14, 15, 16, 17], [0, 1, 2, 4, 5, 6, 7, 8, 9, 10, 11, 12, 13, 14, 3, 15, 16, 17]] (by kernel_rfl) (by kernel_rfl) (fun _ => True) (fun _ _ _ _ => trivial) trivial (by repeat (first | exact Clean.body | refine Clean.then ?_ | refine Clean.inBlock ?_ | refine SegQ.clean ?_ | refine FinC.clean ?_)) ?_
    replace hS := hS.drew
    refine ord_seg (by repeat (first | exact Clean.body | refine Clean.then ?_ | refine Clean.inBlock ?_ | refine SegQ.clean ?_ | refine FinC.clean ?_)) (n := 5) (rest := [[3, 14, 15, 16, 17], [14, 3, 15, 16, 17]]) [0, 1, 2, 4, 5, 6, 7, 8, 9, 10, 11, 12, 13] [⟨_, _, _, _, _, _⟩, ⟨_, _, _, _, _, _⟩, ⟨_, _, _, _, _, _⟩, ⟨_, _, _, _, _, _⟩, ⟨_, _, _, _, _, _⟩, ⟨_, _, _, _, _, _⟩, ⟨_, _, _, _, _, _⟩, ⟨_, _, _, _, _, _⟩, ⟨_, _, _, _, _, _⟩, ⟨_, _, _, _, _, _⟩, ⟨_, _, _, _, _, _⟩, ⟨_, _, _, _, _, _⟩, ⟨_, _, _, _, _, _⟩] rfl (by kernel_rfl) (by simp) _ _ ?_
    go_wp2_with (first
      | (show wpList _ _ _ (⟨_, .load 36 _, _, _, _, _⟩ :: _) _ _; refine wpList_val rfl (op_load1S (T := 38) oneREnts ((hS.bring (by repeat (first | exact t0 | apply tS)))) rfl rfl rfl) ?_; go_frame)
      | (show wpList _ _ _ (⟨_, .indexAddr 36 _ _, _, _, _, _⟩ :: _) _ _; refine wpList_val rfl (op_indexAddr slREnt rfl (v := ov) (k := k) rfl rfl (xs := xs) ((hS.bring (by repeat (first | exact t0 | apply tS))).getOwn.rd) hlk) ?_; go_frame)
      | (show wpList _ _ _ (⟨_, .fieldAddr 79 _ 1, _, _, _, _⟩ :: _) _ _; refine wpList_val rfl (op_fieldAddrE (j := 32) (by kernel_rfl) rfl (n := 34) (v := ov) (k := k) (xs := xs) rfl ((hS.bring (by repeat (first | exact t0 | apply tS))).getOwn.rd) hlk) ?_; go_frame)
      | (show wpList _ _ _ (⟨_, .load 50 _, _, _, _, _⟩ :: _) _ _; refine wpList_val rfl (op_loadF1 oneInts rfl (n := 34) (v := ov) (k := k) (j := 32) (xs := xs) rfl ((hS.bring (by repeat (first | exact t0 | apply tS))).getOwn.rd) hlk (u := pv) (g32 HX.out HIL.out)) ?_; go_frame)
      )
    refine segQ_mk trivial ?_
    refine ord_fork (n := 4) (os1 := [[3, 14, 15, 16, 17]]) (os2 := [[14, 3, 15, 16, 17]]) (by decide) ?_ ?_
    ·
      refine ord_seg (by repeat (first | exact Clean.body | refine Clean.then ?_ | refine Clean.inBlock ?_ | refine SegQ.clean ?_ | refine FinC.clean ?_)) (n := 3) (rest := [[15, 16, 17]]) [3, 14] [⟨_, _, _, _, _, _⟩, ⟨_, _, _, _, _, _⟩] rfl (by kernel_rfl) (by simp) _ _ ?_
      go_wp2_with (first
        | (show wpList _ _ _ (⟨_, .load 36 _, _, _, _, _⟩ :: _) _ _; refine wpList_val rfl (op_load1S (T := 38) oneREnts ((hS.bring (by repeat (first | exact t0 | apply tS)))) rfl rfl rfl) ?_; go_frame)
        | (go_at_call 44; refine Ret.calls (without_int pv (e.peer :: e.waits) q _ ((hS.bring (by repeat (first | exact t0 | apply tS))).getOwn.rd) HWL.out) ?_; rintro v2 w2 hC; replace hS := hS.frameNew hC; clear hC; rw [HWW.out] at hS; have HV2 := hide hS.getOwn.rd.cells1; have HV3 := hide hS.getOwn.rd.one1)
        )
      refine segQ_mk trivial ?_
      refine ord_seg (by repeat (first | exact Clean.body | refine Clean.then ?_ | refine Clean.inBlock ?_ | refine SegQ.clean ?_ | refine FinC.clean ?_)) (n := 0) (rest := [[]]) [15, 16, 17] [⟨_, _, _, _, _, _⟩, ⟨_, _, _, _, _, _⟩, ⟨_, _, _, _, _, _⟩] rfl (by kernel_rfl) (by simp) _ _ ?_
      go_wp2_with (first
        | (show wpList _ _ _ (⟨_, .indexAddr 36 _ _, _, _, _, _⟩ :: _) _ _; refine wpList_val rfl (op_indexAddr slREnt rfl (v := ov) (k := k) rfl rfl (xs := xs) ((hS.bring (by repeat (first | exact t0 | apply tS))).getOwn.rd) hlk) ?_; go_frame)
        | (show wpList _ _ _ (⟨_, .fieldAddr 79 _ 1, _, _, _, _⟩ :: _) _ _; refine wpList_val rfl (op_fieldAddrE (j := 32) (by kernel_rfl) rfl (n := 34) (v := ov) (k := k) (xs := xs) rfl ((hS.bring (by repeat (first | exact t0 | apply tS))).getOwn.rd) hlk) ?_; go_frame)
        | (show wpList _ _ _ (⟨_, .store 50 _ _, _, _, _, _⟩ :: _) _ _; (refine wpS_storeF1 (by kernel_rfl) (hS.bring (by repeat (first | exact t0 | apply tS))) rfl rfl (k := k) (j := 32) rfl rfl HV2.out HV3.out hlk (by omega) ?_); clear hS; intro w hS; rw [s32 HX.out HIL.out] at hS; go_frame)
        )
      refine segQ_mk trivial ?_
      refine finC_mk (by kernel_rfl) (by
        intro t ht
        cases ht) ?_
      go_wp2_with fail
      go_ret2
      exact ⟨rfl, rtail1 (by simp) (HC [.blk hb 28 (i.map B8)] (f := quitE q e) (v := v2) rfl (by exact hS.sel (by repeat (first | exact Sel.refl | refine Sel.take (by repeat (first | exact t0 | apply tS)) ?_ | apply Sel.drop))))⟩
    ·
      refine ord_seg (by repeat (first | exact Clean.body | refine Clean.then ?_ | refine Clean.inBlock ?_ | refine SegQ.clean ?_ | refine FinC.clean ?_)) (n := 4) (rest := [[3, 15, 16, 17]]) [14] [⟨_, _, _, _, _, _⟩] rfl (by kernel_rfl) (by simp) _ _ ?_
      go_wp2_with (first
        | (go_at_call 44; refine Ret.calls (without_int pv (e.peer :: e.waits) q _ ((hS.bring (by repeat (first | exact t0 | apply tS))).getOwn.rd) HWL.out) ?_; rintro v2 w2 hC; replace hS := hS.frameNew hC; clear hC; rw [HWW.out] at hS; have HV2 := hide hS.getOwn.rd.cells1; have HV3 := hide hS.getOwn.rd.one1)
        )
      refine segQ_mk trivial ?_
      refine ord_seg (by repeat (first | exact Clean.body | refine Clean.then ?_ | refine Clean.inBlock ?_ | refine SegQ.clean ?_ | refine FinC.clean ?_)) (n := 0) (rest := [[]]) [3, 15, 16, 17] [⟨_, _, _, _, _, _⟩, ⟨_, _, _, _, _, _⟩, ⟨_, _, _, _, _, _⟩, ⟨_, _, _, _, _, _⟩] rfl (by kernel_rfl) (by simp) _ _ ?_
      go_wp2_with (first
        | (show wpList _ _ _ (⟨_, .load 36 _, _, _, _, _⟩ :: _) _ _; refine wpList_val rfl (op_load1S (T := 38) oneREnts ((hS.bring (by repeat (first | exact t0 | apply tS)))) rfl rfl rfl) ?_; go_frame)
        | (show wpList _ _ _ (⟨_, .indexAddr 36 _ _, _, _, _, _⟩ :: _) _ _; refine wpList_val rfl (op_indexAddr slREnt rfl (v := ov) (k := k) rfl rfl (xs := xs) ((hS.bring (by repeat (first | exact t0 | apply tS))).getOwn.rd) hlk) ?_; go_frame)
        | (show wpList _ _ _ (⟨_, .fieldAddr 79 _ 1, _, _, _, _⟩ :: _) _ _; refine wpList_val rfl (op_fieldAddrE (j := 32) (by kernel_rfl) rfl (n := 34) (v := ov) (k := k) (xs := xs) rfl ((hS.bring (by repeat (first | exact t0 | apply tS))).getOwn.rd) hlk) ?_; go_frame)
        | (show wpList _ _ _ (⟨_, .store 50 _ _, _, _, _, _⟩ :: _) _ _; (refine wpS_storeF1 (by kernel_rfl) (hS.bring (by repeat (first | exact t0 | apply tS))) rfl rfl (k := k) (j := 32) rfl rfl HV2.out HV3.out hlk (by omega) ?_); clear hS; intro w hS; rw [s32 HX.out HIL.out] at hS; go_frame)
        )
      refine segQ_mk trivial ?_
      refine finC_mk (by kernel_rfl) (by
        intro t ht
        cases ht) ?_
      go_wp2_with fail
      go_ret2
      exact ⟨rfl, rtail1 (by simp) (HC [.blk hb 28 (i.map B8)] (f := quitE q e) (v := v2) rfl (by exact hS.sel (by repeat (first | exact Sel.refl | refine Sel.take (by repeat (first | exact t0 | apply tS)) ?_ | apply Sel.drop))))⟩
end
end Go.Proofs.Ytafpdpcbckpkjaa
namespace Go.Proofs.Ytafpdpcbckpkjaa
open Go.RowKit Go.Px
section
variable {R : Nat → Prop} {base w : World} {F : List Hp} {p : Nat} {B : List Ent}
set_option maxRecDepth 100000 in
theorem rpeers_out {i : List Byte} (hS : SepL R base w (rB p B :: F)) (ok : BOk B) (hi : i.length = 32) (hout : i ∉ ids B) :
    Calls Try.prog 21 #[.pointer (some ⟨p, 0, none⟩), HV i] w (Ret fun r w' => SepL R base w' (.own 3 1 r [] :: rB p B :: F)) := by
  have HIX := hide (ix_none hout)
  have HI32 : Hid ((i.map B8).length = 32) := by simp [Hid, hi]
  have HN : Hid (decide ((-1 : Int) < 0) = true) := rfl
  unfold HV
  go_enter Try.func21, Try.ntmps21
  go_wp2_with (first
    | (show wpList _ _ _ (⟨_, .box _ _, _, _, _, _⟩ :: _) _ _; refine wpS_boxA (cs := i.map B8) hS rfl rfl rfl ?_; clear hS; intro hb w hS; go_frame)
    | (show wpList _ _ _ (⟨_, .load 28 _, _, _, _, _⟩ :: _) _ _; refine wpList_val rfl (op_load aggHash rfl rfl ((hS.bring (by repeat (first | exact t0 | apply tS))).getBlk.cells) HI32.out) ?_; go_frame)
    | (go_at_call 35; refine Ret.calls (rat_s (F := .blk hb 28 (i.map B8) :: F) (by exact hS.sel (by repeat (first | exact Sel.refl | refine Sel.take (by repeat (first | exact t0 | apply tS)) ?_ | apply Sel.drop))) hi ok) ?_; clear hS; rintro r w ⟨rfl, hS⟩; rw [HIX.out])
    | (show wpList _ _ _ (⟨some 10, .binOp _ _ _ _ _, _, _, _, _⟩ :: _) _ _; refine wpList_val rfl (op_ilss rfl rfl rfl HN.out) ?_; go_frame)
    )
  go_ret
  exact (hS.sel (by repeat (first | exact Sel.refl | refine Sel.take (by repeat (first | exact t0 | apply tS)) ?_ | apply Sel.drop)) : SepL R base _ (rB p B :: F)).nilOwn 3 1
set_option maxRecDepth 100000 in
set_option maxHeartbeats 1000000 in
theorem rpeers_in {B1 B2 : List Ent} {e : Ent} (hS : SepL R base w (rB p (B1 ++ e :: B2) :: F)) (ok : BOk (B1 ++ e :: B2)) :
    Calls Try.prog 21 #[.pointer (some ⟨p, 0, none⟩), HV e.id] w (Ret fun r w' => SepL R base w' (.own 3 1 r ((e.peer :: e.waits).map fun z => [I64 z]) :: rB p (B1 ++ e :: B2) :: F)) := by
  have hi : e.id.length = 32 := ok.len e (by simp)
  have hw := ok.wait e (by simp)
  have HB1 : Hid ((([] : List (List Value)).length + ((e.peer :: e.waits).map fun z => [I64 z]).length) * 8 ≤ 140737488355328) := by
    unfold Hid
    simp
    omega
  have HB2 : Hid (([] : List (List Value)).length + ((e.peer :: e.waits).map fun z => [I64 z]).length ≤ maxLen) := by
    unfold Hid maxLen
    simp
    omega
  have HIX := hide (ix_split ok)
  have HIL := hide hi
  obtain ⟨k, hk⟩ : ∃ k, B1.length = k := ⟨_, rfl⟩
  rw [hk] at HIX
  obtain ⟨i, hii⟩ : ∃ i, e.id = i := ⟨_, rfl⟩
  rw [hii] at hi HIX ⊢
  have HI32 : Hid ((i.map B8).length = 32) := by simp [Hid, hi]
  have HN := decNeg k
  unfold HV
  clear hw hii
  go_enter Try.func21, Try.ntmps21
  go_wp2_with (first
    | (show wpList _ _ _ (⟨_, .box _ _, _, _, _, _⟩ :: _) _ _; refine wpS_boxA (cs := i.map B8) hS rfl rfl rfl ?_; clear hS; intro hb w hS; go_frame)
    | (show wpList _ _ _ (⟨_, .load 28 _, _, _, _, _⟩ :: _) _ _; refine wpList_val rfl (op_load aggHash rfl rfl ((hS.bring (by repeat (first | exact t0 | apply tS))).getBlk.cells) HI32.out) ?_; go_frame)
    | (go_at_call 35; refine Ret.calls (rat_s (F := .blk hb 28 (i.map B8) :: F) (by exact hS.sel (by repeat (first | exact Sel.refl | refine Sel.take (by repeat (first | exact t0 | apply tS)) ?_ | apply Sel.drop))) hi ok) ?_; clear hS; rintro r w ⟨rfl, hS⟩; rw [HIX.out]; obtain ⟨ov, pv, xs, G, hlk, HLN, HX, HC, HD, hS⟩ := rfocus [.blk hb 28 (i.map B8)] hS hk)
    | (show wpList _ _ _ (⟨some 10, .binOp _ _ _ _ _, _, _, _, _⟩ :: _) _ _; refine wpList_val rfl (op_ilss rfl rfl rfl HN.out) ?_; go_frame)
    | (show wpList _ _ _ (⟨_, .buildSlice _ 0 _, _, _, _, _⟩ :: _) _ _; refine wpS_build0 slInt hS rfl rfl ?_; clear hS; intro v1 w hS; go_frame)
    | (show wpList _ _ _ (⟨_, .load 36 _, _, _, _, _⟩ :: _) _ _; refine wpList_val rfl (op_load1S (T := 38) oneREnts ((hS.bring (by repeat (first | exact t0 | apply tS)))) rfl rfl rfl) ?_; go_frame)
    | (show wpList _ _ _ (⟨_, .indexAddr 36 _ _, _, _, _, _⟩ :: _) _ _; refine wpList_val rfl (op_indexAddr slREnt rfl (v := ov) (k := k) rfl rfl (xs := xs) ((hS.bring (by repeat (first | exact t0 | apply tS))).getOwn.rd) hlk) ?_; go_frame)
    | (show wpList _ _ _ (⟨_, .fieldAddr 79 _ 1, _, _, _, _⟩ :: _) _ _; refine wpList_val rfl (op_fieldAddrE (j := 32) (by kernel_rfl) rfl (n := 34) (v := ov) (k := k) (xs := xs) rfl ((hS.bring (by repeat (first | exact t0 | apply tS))).getOwn.rd) hlk) ?_; go_frame)
    | (show wpList _ _ _ (⟨_, .load 50 _, _, _, _, _⟩ :: _) _ _; refine wpList_val rfl (op_loadF1 oneInts rfl (n := 34) (v := ov) (k := k) (j := 32) (xs := xs) rfl ((hS.bring (by repeat (first | exact t0 | apply tS))).getOwn.rd) hlk (u := pv) (g32 HX.out HIL.out)) ?_; go_frame)
    | (show wpList _ _ _ (⟨_, .call ⟨.builtin .append, _, _⟩, _, _, _, _⟩ :: _) _ _; (refine wpS_append slInt (hS.bring (by repeat (first | exact t0 | apply tS))) rfl rfl (sv := v1) rfl rfl (ys := (e.peer :: e.waits).map fun z => [I64 z]) ((hS.bring (by repeat (first | exact t0 | apply tS))).getOwn.rd) (flat_ints _) HB1.out HB2.out ?_); clear hS; intro v2 w hS; go_frame)
    )
  go_ret
  exact (HD [.own 3 1 v2 ([] ++ (e.peer :: e.waits).map fun z => [I64 z])] (by exact hS.sel (by repeat (first | exact Sel.refl | refine Sel.take (by repeat (first | exact t0 | apply tS)) ?_ | apply Sel.drop)))).perm (.swap _ _ _)
end
end Go.Proofs.Ytafpdpcbckpkjaa
namespace Go.Proofs.Ytafpdpcbckpkjaa
open Go.RowKit Go.Px
theorem buildRWant (i : List Byte) (hi : (i.map B8).length = 32) (z : Int) (w : World) : (Instr.build 57 #[(0, .agg (i.map B8).toArray), (1, .int .i64 z)]).run Try.prog w = .ok (.agg (i.map B8 ++ [Value.int .i64 z]).toArray) w := by
  generalize i.map B8 = l at *
  obtain ⟨a0, a1, a2, a3, a4, a5, a6, a7, a8, a9, a10, a11, a12, a13, a14, a15, a16, a17, a18, a19, a20, a21, a22, a23, a24, a25, a26, a27, a28, a29, a30, a31, rfl⟩ := list32 hi
  exact run_build w 57 _ _ (by kernel_rfl)
section
variable {R : Nat → Prop} {base w : World} {F : List Hp} {p : Nat} {B : List Ent}
theorem rentRd {A : List Hp} {l : List RE} {x : RE} (hx : x ∈ l) (hS : SepL R base w (A ++ (rsP l ++ F))) : Rd 1 w x.1 ((x.2.peer :: x.2.waits).map fun z => [I64 z]) := by
  obtain ⟨l1, l2, rfl⟩ := List.append_of_mem hx
  have h := hS.perm (((rsP_mid l1 l2 x).append_right F).append_left A)
  have h2 := h.perm (List.perm_middle (l₁ := A) (a := rP x) (l₂ := rsP (l1 ++ l2) ++ F))
  exact (SepL.getOwn h2).rd
theorem flat_w1 (i : List Byte) (z : Int) : Flat [i.map B8 ++ [Value.int .i64 z]] := by
  intro y hy
  rw [List.mem_singleton.1 hy]
  exact flat_want i z
theorem w33 {i : List Byte} (h : (i.map B8).length = 32) (z : Int) : (i.map B8 ++ [Value.int .i64 z]).length = 33 := by
  rw [List.length_append, h]
  rfl
set_option maxRecDepth 100000 in
set_option maxHeartbeats 2000000 in
theorem rall_s (hS : SepL R base w (rB p B :: F)) (ok : BOk B) :
    Calls Try.prog 18 #[.pointer (some ⟨p, 0, none⟩)] w (Ret fun r w' => SepL R base w' (.own 57 33 r ((allB B).map wC) :: rB p B :: F)) := by
  obtain ⟨ov, l, hl, hS2⟩ := rB_open [] hS
  clear hS
  subst hl
  have HONE := hide (rone hS2)
  have HLEN := hide ok.len
  have hS := SepL.nilOwn (L := rbP p ov l ++ (rsP l ++ F)) hS2 57 33
  clear hS2
  have HL : Hid ((l.map rC).length = l.length) := by simp [Hid]
  have hfew := ok.few
  have hll : (relist l).length = l.length := by simp [relist]
  rw [hll] at hfew
  clear ok hll
  unfold rbP at hS
  go_enter Try.func18, Try.ntmps18
  go_wp2_with (first
    | (show wpList _ _ _ (⟨_, .load 36 _, _, _, _, _⟩ :: _) _ _; refine wpList_val rfl (op_load1S (T := 38) oneREnts ((hS.bring (by repeat (first | exact t0 | apply tS)))) rfl rfl rfl) ?_; go_frame)
    | (show wpList _ _ _ (⟨_, .call ⟨.builtin .len, _, _⟩, _, _, _, _⟩ :: _) _ _; refine wpList_val rfl (op_len slREnt rfl rfl (v := ov) rfl ((hS.bring (by repeat (first | exact t0 | apply tS))).getOwn.rd)) ?_; rw [HL.out]; go_frame)
    )
  go_loopw [3, 11] (fun av iv wr => ∃ k : Nat, iv = .int .i64 k ∧ k ≤ l.length ∧ SepL R base wr (.own 57 33 av (((allB (relist l)).take k).map wC) :: .blk p 38 [ov] :: .own 79 34 ov (l.map rC) :: (rsP l ++ F))) (fun _ iv _ => l.length - (intOf iv).toNat)
  case atStart => exact ⟨0, rfl, by omega, hS⟩
  case round =>
    clear hS
    obtain ⟨k, rfl, hk, hS⟩ := hrel
    by_cases hlt : k < l.length
    · have hlk : k < (l.map rC).length := by rw [HL.out]; exact hlt
      obtain ⟨x, hx⟩ : ∃ x, l[k] = x := ⟨_, rfl⟩
      have hxl : x ∈ l := by rw [← hx]; exact List.getElem_mem hlt
      have HXM := hide hxl
      have HXK : Hid ((l.map rC)[k] = rC x) := by
        unfold Hid
        rw [List.getElem_map, hx]
      have h32 : x.2.id.length = 32 := HLEN.out x.2 (by unfold relist; exact List.mem_map.2 ⟨x, hxl, rfl⟩)
      have HC34 := hide (rC_len h32)
      have HC0 := hide (rC_id h32)
      have HP32 := hide (rC_get1 h32)
      have HC1 := hide (rC_one (HONE.out x hxl))
      have HXL : Hid ((x.2.id.map B8).length = 32) := by simp [Hid, h32]
      have HW33 := hide (w33 HXL.out x.2.peer)
      have HF1 := hide (flat_w1 x.2.id x.2.peer)
      have hka : k < (allB (relist l)).length := by simp [allB, relist]; exact hlt
      have HT : Hid ((((allB (relist l)).take (k + 1)).map wC) = ((allB (relist l)).take k).map wC ++ [x.2.id.map B8 ++ [.int .i64 x.2.peer]]) := by
        unfold Hid
        rw [List.take_succ_eq_append_getElem hka, List.map_append]
        congr 1
        simp [allB, relist, hx, wC]
      have HAL : Hid ((((allB (relist l)).take k).map wC).length ≤ 32) := by
        unfold Hid
        rw [List.length_map, List.length_take]
        omega
      obtain ⟨A, hA⟩ : ∃ A, ((allB (relist l)).take k).map wC = A := ⟨_, rfl⟩
      rw [hA] at hS HT HAL
      clear hx hxl h32 hka hA
      go_wp2_with (first
        | (show wpList _ _ _ (⟨_, .indexAddr 36 _ _, _, _, _, _⟩ :: _) _ _; refine wpList_val rfl (op_indexAddr slREnt rfl (v := ov) rfl (k := k) rfl ((hS.bring (by repeat (first | exact t0 | apply tS))).getOwn.rd) hlk) ?_; go_frame)
        | (show wpList _ _ _ (⟨_, .load 79 _, _, _, _, _⟩ :: _) _ _; refine wpList_val rfl (op_loadE aggREnt rfl (v := ov) (k := k) rfl ((hS.bring (by repeat (first | exact t0 | apply tS))).getOwn.rd) hlk) ?_; rw [HXK.out]; go_frame)
        | (show wpList _ _ _ (⟨_, .alloc 79, _, _, _, _⟩ :: _) _ _; refine wpS_alloc hS rfl rfl Try.zeroValue79 (zs := List.replicate 32 (.int .u8 0) ++ [Value.slice none 0 0, Value.int .u64 0]) rfl ?_; clear hS; intro nb w hS; go_frame)
        | (show wpList _ _ _ (⟨_, .store 79 _ _, _, _, _, _⟩ :: _) _ _; (refine wpS_storeAll aggREnt (hS.bring (by repeat (first | exact t0 | apply tS))) rfl rfl rfl (vs := rC x) rfl HC34.out HC1.out (by simp) ?_); clear hS; intro w hS; go_frame)
        )
      refine wp_region_text (by kernel_rfl) (by kernel_rfl) (by repeat (first | exact Clean.body | refine Clean.then ?_ | refine Clean.inBlock ?_)) ?_
      replace hS := hS.drew
      go_wp2_with (first
        | (show wpList _ _ _ (⟨some 17, .load _ _, _, _, _, _⟩ :: _) _ _; refine wpList_val rfl (op_load aggHash rfl rfl ((SepL.getBlk (T := 79) ((hS.bring (by repeat (first | exact t0 | apply tS))))).cells.sub0 32 HC0.out) HXL.out) ?_; go_frame)
        | (show wpList _ _ _ (⟨some 19, .load _ _, _, _, _, _⟩ :: _) _ _; refine wpList_val rfl (op_load1S (T := 79) oneInts ((hS.bring (by repeat (first | exact t0 | apply tS)))) rfl rfl HP32.out) ?_; go_frame)
        | (show wpList _ _ _ (⟨some 20, .indexAddr _ _ _, _, _, _, _⟩ :: _) _ _; refine wpList_val rfl (op_indexAddrZ slInt rfl (v := x.1) (xs := (x.2.peer :: x.2.waits).map fun z => [I64 z]) rfl rfl (by exact rentRd (l := l) (A := [.blk nb _ _, .own _ _ _ _, .blk _ _ _, .own _ _ _ _]) HXM.out hS) 0 rfl (by simp)) ?_; go_frame)
        | (show wpList _ _ _ (⟨some 21, .load _ _, _, _, _, _⟩ :: _) _ _; refine wpList_val rfl (op_loadE1 oneInt rfl (v := x.1) (k := 0) rfl (f := I64) (us := x.2.peer :: x.2.waits) (by exact rentRd (l := l) (A := [.blk nb _ _, .own _ _ _ _, .blk _ _ _, .own _ _ _ _]) HXM.out hS) (by simp)) ?_; rw [List.getElem_cons_zero]; go_frame)
        | (show wpList _ _ _ (⟨_, .build 57 _, _, _, _, _⟩ :: _) _ _; refine wpList_val rfl (op_build (ps := #[(0, .agg (x.2.id.map B8).toArray), (1, .int .i64 x.2.peer)]) rfl rfl (buildRWant x.2.id HXL.out x.2.peer) _) ?_; go_frame)
        | (show wpList _ _ _ (⟨_, .buildSlice 41 1 _, _, _, _, _⟩ :: _) _ _; refine wpS_build1A slRWant (by omega) hS rfl rfl (cs := x.2.id.map B8 ++ [.int .i64 x.2.peer]) rfl HW33.out ?_; clear hS; intro v1 w hS; go_frame)
        | (show wpList _ _ _ (⟨_, .call ⟨.builtin .append, _, _⟩, _, _, _, _⟩ :: _) _ _; (refine wpS_append slRWant (hS.bring (by repeat (first | exact t0 | apply tS))) rfl rfl (sv := u3) rfl rfl (ys := [x.2.id.map B8 ++ [.int .i64 x.2.peer]]) ((hS.bring (by repeat (first | exact t0 | apply tS))).getOwn.rd) HF1.out (by rw [List.length_singleton]; have := HAL.out; omega) (by rw [List.length_singleton]; have := HAL.out; simp only [maxLen]; omega) ?_); clear hS; intro v2 w hS; go_frame)
        | (refine fin_mk (by kernel_rfl) ?_)
        )
      go_roundw
      case rel =>
        refine ⟨k + 1, by go_num, by omega, ?_⟩
        rw [HT.out]
        exact hS.sel (by repeat (first | exact Sel.refl | refine Sel.take (by repeat (first | exact t0 | apply tS)) ?_ | apply Sel.drop))
      case measure => simp [intOf]; omega
    · have hk2 : k = l.length := by omega
      subst hk2
      have ht : (allB (relist l)).take l.length = allB (relist l) := List.take_of_length_le (by simp [allB, relist])
      rw [ht] at hS
      go_wp2_with fail
      go_ret
      exact (rB_close [.own 57 33 _ ((allB (relist l)).map wC)] hS).perm (.swap _ _ _)
end
end Go.Proofs.Ytafpdpcbckpkjaa
