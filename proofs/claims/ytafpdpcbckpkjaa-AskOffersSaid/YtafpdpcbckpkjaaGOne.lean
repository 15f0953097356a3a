/- What a new book, an offer, a list of all, and one entry that goes on make. Conditions: those that stand ahead of each theorem. -/
import Derived.Test.YtafpdpcbckpkjaaGBook
namespace Go.Proofs.Ytafpdpcbckpkjaa
open Go.RowKit Go.Px
section
variable {R : Nat → Prop} {base w : World} {F : List Hp}
set_option maxRecDepth 100000 in
theorem new_s (hS : SepL R base w F) : Calls Try.prog 10 #[] w (Ret fun r w' => ∃ p, r = .pointer (some ⟨p, 0, none⟩) ∧ SepL R base w' (hB p [] :: F)) := by
  replace hS := hS.nilOwn 28 32
  go_enter Try.func10, Try.ntmps10
  go_wp2_with (first
    | (show wpList _ _ _ (⟨_, .makeMap _ _, _, _, _, _⟩ :: _) _ _; refine wpS_makeMap mapTy hS rfl rfl ?_; clear hS; intro m w hS; go_frame)
    | (show wpList _ _ _ (⟨_, .box _ _, _, _, _, _⟩ :: _) _ _; refine wpS_boxA (cs := [.map (some m), .slice none 0 0]) hS rfl rfl rfl ?_; clear hS; intro p w hS; go_frame)
    )
  go_ret
  exact ⟨p, rfl, hB_close (l := []) hS⟩
theorem decB {p : Prop} [Decidable p] {b : Bool} (h : p ↔ b = true) : Hid (decide p = b) := by
  unfold Hid
  cases b
  · rw [decide_eq_false_iff_not, h]
    simp
  · rw [decide_eq_true_iff, h]
set_option maxRecDepth 100000 in
set_option maxHeartbeats 4000000 in
theorem offer_in {p : Nat} {B : List Ent} {i : List Byte} {q : Int} {t : Nat} (hS : SepL R base w (hB p B :: F)) (ok : BOk B) (hi : i.length = 32) (hin : i ∈ ids B) (_hq : -9223372036854775808 ≤ q ∧ q ≤ 9223372036854775807) :
    Calls Try.prog 11 #[.pointer (some ⟨p, 0, none⟩), HV i, .int .i64 q, U t] w (Ret fun r w' => r = .bool false ∧ SepL R base w' (hB p (offerB i q t B) :: F)) := by
  have hoff : offerB i q t B = turnB i (fun e => some (joinE q e)) B := if_pos hin
  rw [hoff]
  clear hoff
  obtain ⟨m, ov, l, hl, hS2⟩ := hB_open hS
  clear hS
  subst hl
  have hS := hS2
  clear hS2
  obtain ⟨l1, x, l2, rfl, rfl⟩ := split_le hin
  have hturn := turn_le (f := fun e => some (joinE q e)) ok.nodup
  have hw := ok.wait x.2 (by rw [ents_mid]; simp)
  have KI := isKey hi
  have HLK := hide (get_in ok.nodup)
  rw [hturn]
  replace hS := pull hS
  have HWL : Hid ((x.2.waits.map fun z => [I64 z]).length = x.2.waits.length) := by simp [Hid]
  obtain ⟨i, hii⟩ : ∃ i, x.2.id = i := ⟨_, rfl⟩
  rw [hii] at hi KI HLK ⊢
  have HI32 : Hid ((i.map B8).length = 32) := by simp [Hid, hi]
  have hwl : x.2.waits.length ≤ 3 := hw.2
  clear hturn hin ok hw hi
  unfold entP entC bookP at hS
  unfold HV at KI HLK ⊢
  by_cases h1 : x.2.peer = q
  · have HPE : Hid ((x.2.peer != q) = false) := by
      unfold Hid
      rw [bne_eq_false_iff_eq]
      exact h1
    have HJ : Hid (joinE q x.2 = x.2) := by
      unfold Hid joinE
      rw [if_neg (fun h => h.1 h1)]
    clear h1
    go_enter Try.func11, Try.ntmps11
    go_wp2_with (first
      | (show wpList _ _ _ (⟨_, .box 28 _, _, _, _, _⟩ :: _) _ _; refine wpS_boxA (cs := i.map B8) hS rfl rfl rfl ?_; clear hS; intro nb w hS; go_frame)
      )
    refine wp_region_text (by kernel_rfl) (by kernel_rfl) (by repeat (first | exact Clean.body | refine Clean.then ?_ | refine Clean.inBlock ?_)) ?_
    replace hS := hS.drew
    go_wp2_with (first
      | (show wpList _ _ _ (⟨_, .load 66 _, _, _, _, _⟩ :: _) _ _; refine wpList_val rfl (op_load1S oneMap ((hS.bring (by repeat (first | exact t0 | apply tS)))) rfl rfl rfl) ?_; go_frame)
      | (show wpList _ _ _ (⟨_, .load 3 _, _, _, _, _⟩ :: _) _ _; refine wpList_val rfl (op_load1S oneInt ((hS.bring (by repeat (first | exact t0 | apply tS)))) rfl rfl rfl) ?_; go_frame)
      | (show wpList _ _ _ (⟨_, .load 28 _, _, _, _, _⟩ :: _) _ _; refine wpList_val rfl (op_load aggHash rfl rfl ((hS.bring (by repeat (first | exact t0 | apply tS))).getBlk.cells) HI32.out) ?_; go_frame)
      | (show wpList _ _ _ (⟨_, .lookup 66 _ _ false, _, _, _, _⟩ :: _) _ _; refine wpList_val rfl (op_lookup mapTy rfl rfl (x := .agg (i.map B8).toArray) rfl ((hS.bring (by repeat (first | exact t0 | apply tS))).getMap) KI) ?_; rw [HLK.out]; go_frame)
      | (refine fin_mk (by kernel_rfl) ?_)
      | (show wpList _ _ _ (⟨some 25, .binOp _ _ _ _ _, _, _, _, _⟩ :: _) _ _; refine wpList_val rfl (op_ineI rfl rfl rfl HPE.out) ?_; go_frame)
      )
    go_ret
    rw [HJ.out]
    exact ⟨rfl, relay_same hS.tail⟩
  · have HPE : Hid ((x.2.peer != q) = true) := by
      unfold Hid
      rw [bne_iff_ne]
      exact h1
    by_cases h2 : q ∈ x.2.waits
    · have HCN : Hid (decide (q ∈ x.2.waits) = true) := decT h2
      have HJ : Hid (joinE q x.2 = x.2) := by
        unfold Hid joinE
        rw [if_neg (fun h => h.2.1 h2)]
      clear h1 h2
      go_enter Try.func11, Try.ntmps11
      go_wp2_with (first
        | (show wpList _ _ _ (⟨_, .box 28 _, _, _, _, _⟩ :: _) _ _; refine wpS_boxA (cs := i.map B8) hS rfl rfl rfl ?_; clear hS; intro nb w hS; go_frame)
        )
      refine wp_region_text (by kernel_rfl) (by kernel_rfl) (by repeat (first | exact Clean.body | refine Clean.then ?_ | refine Clean.inBlock ?_)) ?_
      replace hS := hS.drew
      go_wp2_with (first
        | (show wpList _ _ _ (⟨_, .load 66 _, _, _, _, _⟩ :: _) _ _; refine wpList_val rfl (op_load1S oneMap ((hS.bring (by repeat (first | exact t0 | apply tS)))) rfl rfl rfl) ?_; go_frame)
        | (show wpList _ _ _ (⟨_, .load 50 _, _, _, _, _⟩ :: _) _ _; refine wpList_val rfl (op_load1S oneInts ((hS.bring (by repeat (first | exact t0 | apply tS)))) rfl rfl rfl) ?_; go_frame)
        | (show wpList _ _ _ (⟨_, .load 3 _, _, _, _, _⟩ :: _) _ _; refine wpList_val rfl (op_load1S oneInt ((hS.bring (by repeat (first | exact t0 | apply tS)))) rfl rfl rfl) ?_; go_frame)
        | (show wpList _ _ _ (⟨_, .load 28 _, _, _, _, _⟩ :: _) _ _; refine wpList_val rfl (op_load aggHash rfl rfl ((hS.bring (by repeat (first | exact t0 | apply tS))).getBlk.cells) HI32.out) ?_; go_frame)
        | (show wpList _ _ _ (⟨_, .lookup 66 _ _ false, _, _, _, _⟩ :: _) _ _; refine wpList_val rfl (op_lookup mapTy rfl rfl (x := .agg (i.map B8).toArray) rfl ((hS.bring (by repeat (first | exact t0 | apply tS))).getMap) KI) ?_; rw [HLK.out]; go_frame)
        | (refine fin_mk (by kernel_rfl) ?_)
        | (go_at_call 26; refine Ret.calls (contains_int _ _ _ _ ((hS.bring (by repeat (first | exact t0 | apply tS))).getOwn.rd) HCN) ?_; rintro r w' ⟨rfl, rfl⟩)
        | (show wpList _ _ _ (⟨some 25, .binOp _ _ _ _ _, _, _, _, _⟩ :: _) _ _; refine wpList_val rfl (op_ineI rfl rfl rfl HPE.out) ?_; go_frame)
        )
      go_ret
      rw [HJ.out]
      exact ⟨rfl, relay_same hS.tail⟩
    · have HCN : Hid (decide (q ∈ x.2.waits) = false) := decF h2
      by_cases h3 : 1 + x.2.waits.length < 4
      · have HLT : Hid (decide ((1 : Int) + (x.2.waits.length : Int) < 4) = true) := decT (by omega)
        have HJ : Hid (joinE q x.2 = { x.2 with waits := x.2.waits ++ [q] }) := by
          unfold Hid joinE
          rw [if_pos ⟨h1, h2, h3⟩]
        clear h1 h2 h3
        go_enter Try.func11, Try.ntmps11
        go_wp2_with (first
          | (show wpList _ _ _ (⟨_, .box 28 _, _, _, _, _⟩ :: _) _ _; refine wpS_boxA (cs := i.map B8) hS rfl rfl rfl ?_; clear hS; intro nb w hS; go_frame)
          )
        refine wp_region_text (by kernel_rfl) (by kernel_rfl) (by repeat (first | exact Clean.body | refine Clean.then ?_ | refine Clean.inBlock ?_)) ?_
        replace hS := hS.drew
        go_wp2_with (first
          | (show wpList _ _ _ (⟨_, .load 66 _, _, _, _, _⟩ :: _) _ _; refine wpList_val rfl (op_load1S oneMap ((hS.bring (by repeat (first | exact t0 | apply tS)))) rfl rfl rfl) ?_; go_frame)
          | (show wpList _ _ _ (⟨_, .load 50 _, _, _, _, _⟩ :: _) _ _; refine wpList_val rfl (op_load1S oneInts ((hS.bring (by repeat (first | exact t0 | apply tS)))) rfl rfl rfl) ?_; go_frame)
          | (show wpList _ _ _ (⟨_, .load 3 _, _, _, _, _⟩ :: _) _ _; refine wpList_val rfl (op_load1S oneInt ((hS.bring (by repeat (first | exact t0 | apply tS)))) rfl rfl rfl) ?_; go_frame)
          | (show wpList _ _ _ (⟨_, .load 28 _, _, _, _, _⟩ :: _) _ _; refine wpList_val rfl (op_load aggHash rfl rfl ((hS.bring (by repeat (first | exact t0 | apply tS))).getBlk.cells) HI32.out) ?_; go_frame)
          | (show wpList _ _ _ (⟨_, .lookup 66 _ _ false, _, _, _, _⟩ :: _) _ _; refine wpList_val rfl (op_lookup mapTy rfl rfl (x := .agg (i.map B8).toArray) rfl ((hS.bring (by repeat (first | exact t0 | apply tS))).getMap) KI) ?_; rw [HLK.out]; go_frame)
          | (refine fin_mk (by kernel_rfl) ?_)
          | (go_at_call 26; refine Ret.calls (contains_int _ _ _ _ ((hS.bring (by repeat (first | exact t0 | apply tS))).getOwn.rd) HCN) ?_; rintro r w' ⟨rfl, rfl⟩)
          | (show wpList _ _ _ (⟨_, .call ⟨.builtin .len, _, _⟩, _, _, _, _⟩ :: _) _ _; refine wpList_val rfl (op_len slInt rfl rfl (v := x.1.2) rfl ((hS.bring (by repeat (first | exact t0 | apply tS))).getOwn.rd)) ?_; rw [HWL.out]; go_frame)
          | (show wpList _ _ _ (⟨some 25, .binOp _ _ _ _ _, _, _, _, _⟩ :: _) _ _; refine wpList_val rfl (op_ineI rfl rfl rfl HPE.out) ?_; go_frame)
          | (show wpList _ _ _ (⟨some 42, .binOp _ _ _ _ _, _, _, _, _⟩ :: _) _ _; refine wpList_val rfl (op_ilss rfl rfl rfl HLT.out) ?_; go_frame)
          | (show wpList _ _ _ (⟨_, .buildSlice 50 1 _, _, _, _, _⟩ :: _) _ _; refine wpS_build11 slInt hS rfl rfl (u := .int .i64 q) rfl rfl ?_; clear hS; intro v1 w hS; go_frame)
          | (show wpList _ _ _ (⟨_, .call ⟨.builtin .append, _, _⟩, _, _, _, _⟩ :: _) _ _; (refine wpS_append slInt (hS.bring (by repeat (first | exact t0 | apply tS))) rfl rfl (sv := x.1.2) rfl rfl (ys := [[.int .i64 q]]) ((hS.bring (by repeat (first | exact t0 | apply tS))).getOwn.rd) (flat_ints [q]) (by rw [HWL.out]; simp; omega) (by rw [HWL.out]; simp [maxLen]; omega) ?_); clear hS; intro v2 w hS; have HV2 := hide hS.getOwn.rd.cells1; have HV3 := hide hS.getOwn.rd.one1; go_frame)
          | (show wpList _ _ _ (⟨_, .store 50 _ _, _, _, _, _⟩ :: _) _ _; (refine wpS_store1 (by kernel_rfl) (hS.bring (by repeat (first | exact t0 | apply tS))) rfl rfl rfl rfl HV2.out HV3.out (by simp) ?_); clear hS; intro w hS; go_frame)
          )
        go_ret
        rw [HJ.out]
        refine ⟨rfl, relay (m := m) (ov := ov) (x := x) (v := v2) (e := { x.2 with waits := x.2.waits ++ [q] }) ?_ rfl⟩
        show SepL R base _ (.blk x.1.1 71 _ :: .own 3 1 v2 ((x.2.waits ++ [q]).map fun z => [I64 z]) :: _)
        rw [List.map_append]
        exact hS.sel (by repeat (first | exact Sel.refl | refine Sel.take (by repeat (first | exact t0 | apply tS)) ?_ | apply Sel.drop))
      · have HLT : Hid (decide ((1 : Int) + (x.2.waits.length : Int) < 4) = false) := decF (by omega)
        have HJ : Hid (joinE q x.2 = x.2) := by
          unfold Hid joinE
          rw [if_neg (fun h => h3 h.2.2)]
        clear h1 h2 h3
        go_enter Try.func11, Try.ntmps11
        go_wp2_with (first
          | (show wpList _ _ _ (⟨_, .box 28 _, _, _, _, _⟩ :: _) _ _; refine wpS_boxA (cs := i.map B8) hS rfl rfl rfl ?_; clear hS; intro nb w hS; go_frame)
          )
        refine wp_region_text (by kernel_rfl) (by kernel_rfl) (by repeat (first | exact Clean.body | refine Clean.then ?_ | refine Clean.inBlock ?_)) ?_
        replace hS := hS.drew
        go_wp2_with (first
          | (show wpList _ _ _ (⟨_, .load 66 _, _, _, _, _⟩ :: _) _ _; refine wpList_val rfl (op_load1S oneMap ((hS.bring (by repeat (first | exact t0 | apply tS)))) rfl rfl rfl) ?_; go_frame)
          | (show wpList _ _ _ (⟨_, .load 50 _, _, _, _, _⟩ :: _) _ _; refine wpList_val rfl (op_load1S oneInts ((hS.bring (by repeat (first | exact t0 | apply tS)))) rfl rfl rfl) ?_; go_frame)
          | (show wpList _ _ _ (⟨_, .load 3 _, _, _, _, _⟩ :: _) _ _; refine wpList_val rfl (op_load1S oneInt ((hS.bring (by repeat (first | exact t0 | apply tS)))) rfl rfl rfl) ?_; go_frame)
          | (show wpList _ _ _ (⟨_, .load 28 _, _, _, _, _⟩ :: _) _ _; refine wpList_val rfl (op_load aggHash rfl rfl ((hS.bring (by repeat (first | exact t0 | apply tS))).getBlk.cells) HI32.out) ?_; go_frame)
          | (show wpList _ _ _ (⟨_, .lookup 66 _ _ false, _, _, _, _⟩ :: _) _ _; refine wpList_val rfl (op_lookup mapTy rfl rfl (x := .agg (i.map B8).toArray) rfl ((hS.bring (by repeat (first | exact t0 | apply tS))).getMap) KI) ?_; rw [HLK.out]; go_frame)
          | (refine fin_mk (by kernel_rfl) ?_)
          | (go_at_call 26; refine Ret.calls (contains_int _ _ _ _ ((hS.bring (by repeat (first | exact t0 | apply tS))).getOwn.rd) HCN) ?_; rintro r w' ⟨rfl, rfl⟩)
          | (show wpList _ _ _ (⟨_, .call ⟨.builtin .len, _, _⟩, _, _, _, _⟩ :: _) _ _; refine wpList_val rfl (op_len slInt rfl rfl (v := x.1.2) rfl ((hS.bring (by repeat (first | exact t0 | apply tS))).getOwn.rd)) ?_; rw [HWL.out]; go_frame)
          | (show wpList _ _ _ (⟨some 25, .binOp _ _ _ _ _, _, _, _, _⟩ :: _) _ _; refine wpList_val rfl (op_ineI rfl rfl rfl HPE.out) ?_; go_frame)
          | (show wpList _ _ _ (⟨some 42, .binOp _ _ _ _ _, _, _, _, _⟩ :: _) _ _; refine wpList_val rfl (op_ilss rfl rfl rfl HLT.out) ?_; go_frame)
          )
        go_ret
        rw [HJ.out]
        exact ⟨rfl, relay_same hS.tail⟩
theorem buildE (q : Int) (t : Nat) (w : World) : (Instr.build 71 #[(0, .int .i64 q), (1, U t)]).run Try.prog w = .ok (.agg #[.int .i64 q, U t, .slice none 0 0]) w := by kernel_rfl
theorem put_out {l : List LE} {i : List Byte} {v : Value} (h : i ∉ ids (elist l)) : mput (keysM l) (.agg (i.map B8).toArray) v = keysM l ++ [(.agg (i.map B8).toArray, v)] := by
  unfold mput
  have : mget (keysM l) (.agg (i.map B8).toArray) = none := by
    apply mget_none
    intro q hq
    unfold keysM at hq
    obtain ⟨x, hx, rfl⟩ := List.mem_map.1 hq
    intro he
    apply h
    rw [ids_elist]
    exact List.mem_map.2 ⟨x, hx, HV_inj he⟩
  rw [this]
  rfl
set_option maxRecDepth 100000 in
set_option maxHeartbeats 4000000 in
theorem offer_out {p : Nat} {B : List Ent} {i : List Byte} {q : Int} {t : Nat} (hS : SepL R base w (hB p B :: F)) (ok : BOk B) (hi : i.length = 32) (hin : i ∉ ids B) :
    Calls Try.prog 11 #[.pointer (some ⟨p, 0, none⟩), HV i, .int .i64 q, U t] w (Ret fun r w' => r = .bool (decide (B.length < 32)) ∧ SepL R base w' (hB p (offerB i q t B) :: F)) := by
  have hoff : offerB i q t B = if B.length < 32 then B ++ [⟨i, q, t, []⟩] else B := if_neg hin
  rw [hoff]
  clear hoff
  obtain ⟨m, ov, l, hl, hS2⟩ := hB_open hS
  clear hS
  subst hl
  have hS := hS2
  clear hS2
  have HOL : Hid ((bys (ids (elist l))).length = (elist l).length) := by
    unfold Hid
    rw [bys_length]
    simp [ids]
  have KI := isKey hi
  have HLK := hide (get_out hin)
  have HPUT := fun v => hide (put_out (v := v) hin)
  have HI32 : Hid ((i.map B8).length = 32) := by simp [Hid, hi]
  have hfew := ok.few
  unfold bookP at hS
  unfold HV at KI HLK ⊢
  by_cases h : (elist l).length < 32
  · have HGE : Hid (decide ((32 : Int) ≤ ((elist l).length : Int)) = false) := decF (by omega)
    have HD : Hid (decide ((elist l).length < 32) = true) := decT h
    rw [if_pos h]
    replace hS := hS.nilOwn 3 1
    clear h hin ok hi
    go_enter Try.func11, Try.ntmps11
    go_wp2_with (first
      | (show wpList _ _ _ (⟨_, .box 28 _, _, _, _, _⟩ :: _) _ _; refine wpS_boxA (cs := i.map B8) hS rfl rfl rfl ?_; clear hS; intro nb w hS; go_frame)
      )
    refine wp_region_text (by kernel_rfl) (by kernel_rfl) (by repeat (first | exact Clean.body | refine Clean.then ?_ | refine Clean.inBlock ?_)) ?_
    replace hS := hS.drew
    go_wp2_with (first
      | (show wpList _ _ _ (⟨_, .load 66 _, _, _, _, _⟩ :: _) _ _; refine wpList_val rfl (op_load1S oneMap ((hS.bring (by repeat (first | exact t0 | apply tS)))) rfl rfl rfl) ?_; go_frame)
      | (show wpList _ _ _ (⟨_, .load 22 _, _, _, _, _⟩ :: _) _ _; refine wpList_val rfl (op_load1S oneHashes ((hS.bring (by repeat (first | exact t0 | apply tS)))) rfl rfl rfl) ?_; go_frame)
      | (show wpList _ _ _ (⟨_, .load 28 _, _, _, _, _⟩ :: _) _ _; refine wpList_val rfl (op_load aggHash rfl rfl ((hS.bring (by repeat (first | exact t0 | apply tS))).getBlk.cells) HI32.out) ?_; go_frame)
      | (show wpList _ _ _ (⟨_, .lookup 66 _ _ false, _, _, _, _⟩ :: _) _ _; refine wpList_val rfl (op_lookup mapTy rfl rfl (x := .agg (i.map B8).toArray) rfl ((hS.bring (by repeat (first | exact t0 | apply tS))).getMap) KI) ?_; rw [HLK.out]; go_frame)
      | (show wpList _ _ _ (⟨_, .call ⟨.builtin .len, _, _⟩, _, _, _, _⟩ :: _) _ _; refine wpList_val rfl (op_len slHash rfl rfl (v := ov) rfl ((hS.bring (by repeat (first | exact t0 | apply tS))).getOwn.rd)) ?_; rw [HOL.out]; go_frame)
      | (show wpList _ _ _ (⟨some 59, .binOp _ _ _ _ _, _, _, _, _⟩ :: _) _ _; refine wpList_val rfl (op_igeq rfl rfl rfl HGE.out) ?_; go_frame)
      | (refine fin_mk (by kernel_rfl) ?_)
      )
    refine wp_region_text (by kernel_rfl) (by kernel_rfl) (by repeat (first | exact Clean.body | refine Clean.then ?_ | refine Clean.inBlock ?_)) ?_
    replace hS := hS.drew
    go_wp2_with (first
      | (show wpList _ _ _ (⟨_, .load 66 _, _, _, _, _⟩ :: _) _ _; refine wpList_val rfl (op_load1S oneMap ((hS.bring (by repeat (first | exact t0 | apply tS)))) rfl rfl rfl) ?_; go_frame)
      | (show wpList _ _ _ (⟨_, .load 28 _, _, _, _, _⟩ :: _) _ _; refine wpList_val rfl (op_load aggHash rfl rfl ((hS.bring (by repeat (first | exact t0 | apply tS))).getBlk.cells) HI32.out) ?_; go_frame)
      | (show wpList _ _ _ (⟨_, .build 71 _, _, _, _, _⟩ :: _) _ _; refine wpList_val rfl (op_build (ps := #[(0, .int .i64 q), (1, U t)]) rfl rfl (buildE q t) _) ?_; go_frame)
      | (show wpList _ _ _ (⟨_, .box 71 _, _, _, _, _⟩ :: _) _ _; refine wpS_boxA (cs := [.int .i64 q, U t, .slice none 0 0]) hS rfl rfl rfl ?_; clear hS; intro ne w hS; go_frame)
      | (show wpList _ _ _ (⟨_, .mapUpdate _ _ _ _, _, _, _, _⟩ :: _) _ _; (refine wpS_mput mapTy (hS.bring (by repeat (first | exact t0 | apply tS))) rfl rfl rfl (x := .agg (i.map B8).toArray) rfl (v := .pointer (some ⟨ne, 0, none⟩)) rfl KI ?_); clear hS; intro w hS; rw [(HPUT _).out] at hS; go_frame)
      | (refine fin_mk (by kernel_rfl) ?_)
      )
    refine wp_region_text (by kernel_rfl) (by kernel_rfl) (by repeat (first | exact Clean.body | refine Clean.then ?_ | refine Clean.inBlock ?_)) ?_
    replace hS := hS.drew
    go_wp2_with (first
      | (show wpList _ _ _ (⟨_, .load 22 _, _, _, _, _⟩ :: _) _ _; refine wpList_val rfl (op_load1S oneHashes ((hS.bring (by repeat (first | exact t0 | apply tS)))) rfl rfl rfl) ?_; go_frame)
      | (show wpList _ _ _ (⟨_, .load 28 _, _, _, _, _⟩ :: _) _ _; refine wpList_val rfl (op_load aggHash rfl rfl ((hS.bring (by repeat (first | exact t0 | apply tS))).getBlk.cells) HI32.out) ?_; go_frame)
      | (show wpList _ _ _ (⟨_, .buildSlice 22 1 _, _, _, _, _⟩ :: _) _ _; refine wpS_build1A slHash (by omega) hS rfl rfl (cs := i.map B8) rfl HI32.out ?_; clear hS; intro v1 w hS; go_frame)
      | (show wpList _ _ _ (⟨_, .call ⟨.builtin .append, _, _⟩, _, _, _, _⟩ :: _) _ _; (refine wpS_append slHash (hS.bring (by repeat (first | exact t0 | apply tS))) rfl rfl (sv := ov) rfl rfl (ys := [i.map B8]) ((hS.bring (by repeat (first | exact t0 | apply tS))).getOwn.rd) (flat_B8s [i]) (by rw [HOL.out]; simp; omega) (by rw [HOL.out]; simp [maxLen]; omega) ?_); clear hS; intro v2 w hS; have HV2 := hide hS.getOwn.rd.cells1; have HV3 := hide hS.getOwn.rd.one1; go_frame)
      | (show wpList _ _ _ (⟨_, .store 22 _ _, _, _, _, _⟩ :: _) _ _; (refine wpS_store1 (by kernel_rfl) (hS.bring (by repeat (first | exact t0 | apply tS))) rfl rfl rfl rfl HV2.out HV3.out (by simp) ?_); clear hS; intro w hS; go_frame)
      | (refine fin_mk (by kernel_rfl) ?_)
      )
    go_ret
    rw [HD.out]
    refine ⟨rfl, ?_⟩
    exact lay_new (ne := ne) (v2 := v2) (m := m) (hS.sel (by repeat (first | exact Sel.refl | refine Sel.take (by repeat (first | exact t0 | apply tS)) ?_ | apply Sel.drop)))
  · have HGE : Hid (decide ((32 : Int) ≤ ((elist l).length : Int)) = true) := decT (by omega)
    have HD : Hid (decide ((elist l).length < 32) = false) := decF h
    rw [if_neg h]
    clear h hin ok hi
    go_enter Try.func11, Try.ntmps11
    go_wp2_with (first
      | (show wpList _ _ _ (⟨_, .box 28 _, _, _, _, _⟩ :: _) _ _; refine wpS_boxA (cs := i.map B8) hS rfl rfl rfl ?_; clear hS; intro nb w hS; go_frame)
      )
    refine wp_region_text (by kernel_rfl) (by kernel_rfl) (by repeat (first | exact Clean.body | refine Clean.then ?_ | refine Clean.inBlock ?_)) ?_
    replace hS := hS.drew
    go_wp2_with (first
      | (show wpList _ _ _ (⟨_, .load 66 _, _, _, _, _⟩ :: _) _ _; refine wpList_val rfl (op_load1S oneMap ((hS.bring (by repeat (first | exact t0 | apply tS)))) rfl rfl rfl) ?_; go_frame)
      | (show wpList _ _ _ (⟨_, .load 22 _, _, _, _, _⟩ :: _) _ _; refine wpList_val rfl (op_load1S oneHashes ((hS.bring (by repeat (first | exact t0 | apply tS)))) rfl rfl rfl) ?_; go_frame)
      | (show wpList _ _ _ (⟨_, .load 28 _, _, _, _, _⟩ :: _) _ _; refine wpList_val rfl (op_load aggHash rfl rfl ((hS.bring (by repeat (first | exact t0 | apply tS))).getBlk.cells) HI32.out) ?_; go_frame)
      | (show wpList _ _ _ (⟨_, .lookup 66 _ _ false, _, _, _, _⟩ :: _) _ _; refine wpList_val rfl (op_lookup mapTy rfl rfl (x := .agg (i.map B8).toArray) rfl ((hS.bring (by repeat (first | exact t0 | apply tS))).getMap) KI) ?_; rw [HLK.out]; go_frame)
      | (show wpList _ _ _ (⟨_, .call ⟨.builtin .len, _, _⟩, _, _, _, _⟩ :: _) _ _; refine wpList_val rfl (op_len slHash rfl rfl (v := ov) rfl ((hS.bring (by repeat (first | exact t0 | apply tS))).getOwn.rd)) ?_; rw [HOL.out]; go_frame)
      | (show wpList _ _ _ (⟨some 59, .binOp _ _ _ _ _, _, _, _, _⟩ :: _) _ _; refine wpList_val rfl (op_igeq rfl rfl rfl HGE.out) ?_; go_frame)
      | (refine fin_mk (by kernel_rfl) ?_)
      )
    go_ret
    rw [HD.out]
    exact ⟨rfl, hB_close hS.tail⟩
end
end Go.Proofs.Ytafpdpcbckpkjaa
namespace Go.Proofs.Ytafpdpcbckpkjaa
open Go.RowKit Go.Px
/-- the cells of a want -/
def wC (x : List Byte × Int) : List Value := x.1.map B8 ++ [.int .i64 x.2]
def zW : List Value := List.replicate 32 (.int .u8 0) ++ [.int .i64 0]
theorem zs_of {P : Program} {t : TypeId} {z0 : Value} {n b : Nat} (h : (P.info? t).map (fun i => (i.zero, i.size, i.bytes)) = some (some z0, n, b)) : ∀ i z, P.info? t = some i → i.zero = some z → z.cells.toList = z0.cells.toList := by
  intro i z hi hz
  rw [hi] at h
  simp only [Option.map_some, Option.some.injEq, Prod.mk.injEq] at h
  rw [hz] at h
  have h1 := h.1
  injection h1 with h1
  rw [h1]
theorem flat_want (i : List Byte) (z : Int) : ∀ v ∈ i.map B8 ++ [.int .i64 z], v.oneCell' = true := by
  intro v hv
  rcases List.mem_append.1 hv with h | h
  · exact flat_B8 i v h
  · rw [List.mem_singleton.1 h]
    rfl
theorem flat_wants (l : List (List Byte × Int)) : Flat (l.map wC) := by
  intro x hx
  obtain ⟨a, _, rfl⟩ := List.mem_map.1 hx
  exact flat_want a.1 a.2
theorem list32 {α : Type} : ∀ {l : List α}, l.length = 32 → ∃ a0 a1 a2 a3 a4 a5 a6 a7 a8 a9 a10 a11 a12 a13 a14 a15 a16 a17 a18 a19 a20 a21 a22 a23 a24 a25 a26 a27 a28 a29 a30 a31, l = [a0, a1, a2, a3, a4, a5, a6, a7, a8, a9, a10, a11, a12, a13, a14, a15, a16, a17, a18, a19, a20, a21, a22, a23, a24, a25, a26, a27, a28, a29, a30, a31]
  | [a0, a1, a2, a3, a4, a5, a6, a7, a8, a9, a10, a11, a12, a13, a14, a15, a16, a17, a18, a19, a20, a21, a22, a23, a24, a25, a26, a27, a28, a29, a30, a31], _ => ⟨a0, a1, a2, a3, a4, a5, a6, a7, a8, a9, a10, a11, a12, a13, a14, a15, a16, a17, a18, a19, a20, a21, a22, a23, a24, a25, a26, a27, a28, a29, a30, a31, rfl⟩
theorem buildWant (i : List Byte) (hi : (i.map B8).length = 32) (z : Int) (w : World) : (Instr.build 55 #[(0, .agg (i.map B8).toArray), (1, .int .i64 z)]).run Try.prog w = .ok (.agg (i.map B8 ++ [Value.int .i64 z]).toArray) w := by
  generalize i.map B8 = l at *
  obtain ⟨a0, a1, a2, a3, a4, a5, a6, a7, a8, a9, a10, a11, a12, a13, a14, a15, a16, a17, a18, a19, a20, a21, a22, a23, a24, a25, a26, a27, a28, a29, a30, a31, rfl⟩ := list32 hi
  exact run_build w 55 _ _ (by kernel_rfl)
theorem set_next {α : Type} {xs : List α} {z : α} {n k : Nat} (hn : xs.length = n) (hk : k < n) : (xs.take k ++ List.replicate (n - k) z).set k (xs[k]'(by omega)) = xs.take (k + 1) ++ List.replicate (n - (k + 1)) z := by
  obtain ⟨m, hm⟩ : ∃ m, n - k = m + 1 := ⟨n - k - 1, by omega⟩
  have hl : (xs.take k).length = k := by simp; omega
  rw [hm, show n - (k + 1) = m by omega, List.set_append, if_neg (by omega), hl, Nat.sub_self, List.replicate_succ, List.set_cons_zero, List.take_succ_eq_append_getElem (by omega), List.append_assoc]
  rfl
section
variable {R : Nat → Prop} {base w : World} {F : List Hp}
set_option maxRecDepth 100000 in
set_option maxHeartbeats 4000000 in
theorem all_s {p : Nat} {B : List Ent} (hS : SepL R base w (hB p B :: F)) (ok : BOk B) :
    Calls Try.prog 12 #[.pointer (some ⟨p, 0, none⟩)] w (Ret fun r w' => SepL R base w' (.own 55 33 r ((allB B).map wC) :: hB p B :: F)) := by
  obtain ⟨m, ov, l, hl, hS2⟩ := hB_open hS
  clear hS
  subst hl
  have hS := hS2
  clear hS2
  obtain ⟨n, hn⟩ : ∃ n, (elist l).length = n := ⟨_, rfl⟩
  have HOL : Hid ((bys (ids (elist l))).length = n) := by
    unfold Hid
    rw [bys_length, ← hn]
    simp [ids]
  have hfew := ok.few
  rw [hn] at hfew
  have HN := hide hn
  have HOK := hide ok
  have HNW : Hid (((allB (elist l)).map wC).length = n) := by
    unfold Hid
    simp [allB, hn]
  clear hn ok
  unfold bookP at hS
  go_enter Try.func12, Try.ntmps12
  go_wp2_with (first
    | (show wpList _ _ _ (⟨_, .load 22 _, _, _, _, _⟩ :: _) _ _; refine wpList_val rfl (op_load1S oneHashes ((hS.bring (by repeat (first | exact t0 | apply tS)))) rfl rfl rfl) ?_; go_frame)
    | (show wpList _ _ _ (⟨_, .call ⟨.builtin .len, _, _⟩, _, _, _, _⟩ :: _) _ _; refine wpList_val rfl (op_len slHash rfl rfl (v := ov) rfl ((hS.bring (by repeat (first | exact t0 | apply tS))).getOwn.rd)) ?_; rw [HOL.out]; go_frame)
    | (show wpList _ _ _ (⟨_, .makeSlice _ _ _, _, _, _, _⟩ :: _) _ _; refine wpS_make slWant (zs := zW) (zs_of iWant) hS rfl rfl (l := n) (c := n) rfl rfl (Nat.le_refl _) (by omega) (by omega) ?_; clear hS; intro wv w hS; go_frame)
    )
  go_loopw [19] (fun iv wr => ∃ k : Nat, iv = .int .i64 k ∧ k ≤ n ∧ SepL R base wr (.own 55 33 wv (((allB (elist l)).map wC).take k ++ List.replicate (n - k) zW) :: (bookP p m ov l ++ (entsP l ++ F)))) (fun iv _ => n - (intOf iv).toNat)
  case atStart => exact ⟨0, rfl, by omega, hS⟩
  case round =>
    clear hS
    obtain ⟨k, rfl, hk, hS⟩ := hrel
    by_cases hlt : k < n
    · have hkl : k < l.length := by
        have := HN.out
        simp only [elist, List.length_map] at this
        omega
      obtain ⟨x, hx⟩ : ∃ x, l[k] = x := ⟨_, rfl⟩
      have hxl : x ∈ l := by rw [← hx]; exact List.getElem_mem hkl
      have hsp : l = l.take k ++ x :: l.drop (k + 1) := by
        rw [← hx, ← List.drop_eq_getElem_cons hkl, List.take_append_drop]
      have hnd := HOK.out.nodup
      have HLK0 : Hid ((mget (keysM l) (HV x.2.id)).getD (.pointer none) = .pointer (some ⟨x.1.1, 0, none⟩)) := by
        rw [hsp] at hnd ⊢
        exact get_in hnd
      have hi : x.2.id.length = 32 := HOK.out.len x.2 (by unfold elist; exact List.mem_map.2 ⟨x, hxl, rfl⟩)
      have KI := isKey hi
      obtain ⟨e, he⟩ : ∃ e, x.2 = e := ⟨_, rfl⟩
      obtain ⟨i, hii⟩ : ∃ i, e.id = i := ⟨_, rfl⟩
      have hek : (elist l)[k]'(by simp [elist]; exact hkl) = e := by
        unfold elist
        rw [List.getElem_map, hx, he]
      have hkw : k < ((allB (elist l)).map wC).length := by rw [HNW.out]; exact hlt
      have hwk : ((allB (elist l)).map wC)[k] = i.map B8 ++ [.int .i64 e.peer] := by
        simp only [allB, List.getElem_map, hek, wC, hii]
      have HSET : Hid ((((allB (elist l)).map wC).take k ++ List.replicate (n - k) zW).set k (i.map B8 ++ [.int .i64 e.peer]) = ((allB (elist l)).map wC).take (k + 1) ++ List.replicate (n - (k + 1)) zW) := by
        rw [← hwk]
        exact set_next HNW.out hlt
      have hbk : k < (bys (ids (elist l))).length := by rw [HOL.out]; exact hlt
      have HBK : Hid ((bys (ids (elist l)))[k] = i.map B8) := by
        have : (ids (elist l))[k]'(by rw [← bys_length]; exact hbk) = i := by
          simp only [ids, List.getElem_map, hek, hii]
        exact (bys_get hbk (by rw [← bys_length]; exact hbk)).trans (by rw [this])
      have HWN : Hid ((((allB (elist l)).map wC).take k ++ List.replicate (n - k) zW).length = n) := by
        unfold Hid
        have := HNW.out
        rw [List.length_append, List.length_take, List.length_replicate]
        omega
      rw [he] at hi KI HLK0
      rw [hii] at hi KI HLK0
      have HLK := HLK0
      have HI32 : Hid ((i.map B8).length = 32) := by simp [Hid, hi]
      have HIL := hide hi
      have HEC : Hid (entC x = [.int .i64 e.peer, U e.since, x.1.2]) := by
        unfold Hid entC
        rw [he]
      have HXL := hide hxl
      clear hx hxl hsp hnd hi hii hek hkw hwk he HLK0
      unfold HV at KI HLK
      have HB2 : ∀ {w : World} {A F : List Hp}, SepL R base w (A ++ (entsP l ++ F)) → Blk w x.1.1 71 [.int .i64 e.peer, U e.since, x.1.2] := fun h => by
        have := entBlk h HXL.out
        rwa [HEC.out] at this
      unfold bookP at hS
      go_wp2_with (first
        | (show wpList _ _ _ (⟨some 22, .indexAddr _ _ _, _, _, _, _⟩ :: _) _ _; refine wpList_val rfl (op_indexAddr slHash rfl (v := ov) rfl (k := k) rfl ((hS.bring (by repeat (first | exact t0 | apply tS))).getOwn.rd) hbk) ?_; go_frame)
        | (show wpList _ _ _ (⟨some 23, .load _ _, _, _, _, _⟩ :: _) _ _; refine wpList_val rfl (op_loadE aggHash rfl (v := ov) (k := k) rfl ((hS.bring (by repeat (first | exact t0 | apply tS))).getOwn.rd) hbk) ?_; rw [HBK.out]; go_frame)
        | (show wpList _ _ _ (⟨_, .alloc 28, _, _, _, _⟩ :: _) _ _; refine wpS_alloc hS rfl rfl Try.zeroValue28 (zs := List.replicate 32 (.int .u8 0)) rfl ?_; clear hS; intro nb w hS; go_frame)
        | (show wpList _ _ _ (⟨_, .store 28 _ _, _, _, _, _⟩ :: _) _ _; (refine wpS_storeAll aggHash (hS.bring (by repeat (first | exact t0 | apply tS))) rfl rfl rfl (vs := i.map B8) rfl HI32.out (flat_B8 i) (by simp) ?_); clear hS; intro w hS; go_frame)
        )
      refine wp_region_ord (by kernel_rfl) [5] [[0, 1, 2, 3, 4, 5, 6, 7, 8, 9, 10, 11, 12, 13, 14]] (by kernel_rfl) (by kernel_rfl) (fun w' => Blk w' nb 28 (i.map B8)) Up.blk ((hS.bring (by repeat (first | exact t0 | apply tS))).getBlk) (by repeat (first | exact Clean.body | refine Clean.then ?_ | refine Clean.inBlock ?_ | refine SegQ.clean ?_ | refine FinC.clean ?_)) ?_
      replace hS := hS.drew
      refine ord_seg (by repeat (first | exact Clean.body | refine Clean.then ?_ | refine Clean.inBlock ?_ | refine SegQ.clean ?_ | refine FinC.clean ?_)) (n := 6) (rest := [[9, 10, 11, 12, 13, 14]]) [0, 1, 2, 3, 4, 5, 6, 7, 8] [⟨_, _, _, _, _, _⟩, ⟨_, _, _, _, _, _⟩, ⟨_, _, _, _, _, _⟩, ⟨_, _, _, _, _, _⟩, ⟨_, _, _, _, _, _⟩, ⟨_, _, _, _, _, _⟩, ⟨_, _, _, _, _, _⟩, ⟨_, _, _, _, _, _⟩, ⟨_, _, _, _, _, _⟩] rfl (by kernel_rfl) (by simp) _ _ ?_
      go_wp2_with (first
        | (show wpList _ _ _ (⟨_, .load 66 _, _, _, _, _⟩ :: _) _ _; refine wpList_val rfl (op_load1S oneMap ((hS.bring (by repeat (first | exact t0 | apply tS)))) rfl rfl rfl) ?_; go_frame)
        | (show wpList _ _ _ (⟨_, .load 28 _, _, _, _, _⟩ :: _) _ _; refine wpList_val rfl (op_load aggHash rfl rfl ((hS.bring (by repeat (first | exact t0 | apply tS))).getBlk.cells) HI32.out) ?_; go_frame)
        | (show wpList _ _ _ (⟨_, .lookup 66 _ _ false, _, _, _, _⟩ :: _) _ _; refine wpList_val rfl (op_lookup mapTy rfl rfl (x := .agg (i.map B8).toArray) rfl ((hS.bring (by repeat (first | exact t0 | apply tS))).getMap) KI) ?_; rw [HLK.out]; go_frame)
        )
      refine segQ_mk ((hS.bring (by repeat (first | exact t0 | apply tS))).getBlk) ?_
      refine ord_seg (by repeat (first | exact Clean.body | refine Clean.then ?_ | refine Clean.inBlock ?_ | refine SegQ.clean ?_ | refine FinC.clean ?_)) (n := 0) (rest := [[]]) [9, 10, 11, 12, 13, 14] [⟨_, _, _, _, _, _⟩, ⟨_, _, _, _, _, _⟩, ⟨_, _, _, _, _, _⟩, ⟨_, _, _, _, _, _⟩, ⟨_, _, _, _, _, _⟩, ⟨_, _, _, _, _, _⟩] rfl (by kernel_rfl) (by simp) _ _ ?_
      go_wp2_with (first
        | (show wpList _ _ _ (⟨some 35, .load _ _, _, _, _, _⟩ :: _) _ _; refine wpList_val rfl (op_load1 oneInt rfl rfl ((HB2 (A := .blk nb _ _ :: .own _ _ wv _ :: bookP p m ov l) hS).cell 0)) ?_; go_frame)
        | (show wpList _ _ _ (⟨_, .build 55 _, _, _, _, _⟩ :: _) _ _; refine wpList_val rfl (op_build (ps := #[(0, .agg (i.map B8).toArray), (1, .int .i64 e.peer)]) rfl rfl (buildWant i HI32.out e.peer) _) ?_; go_frame)
        | (show wpList _ _ _ (⟨some 37, .indexAddr _ _ _, _, _, _, _⟩ :: _) _ _; refine wpList_val rfl (op_indexAddr slWant rfl (v := wv) rfl (k := k) rfl ((hS.bring (by repeat (first | exact t0 | apply tS))).getOwn.rd) (by rw [HWN.out]; exact hlt)) ?_; go_frame)
        | (show wpList _ _ _ (⟨_, .store 55 _ _, _, _, _, _⟩ :: _) _ _; (refine wpS_storeE aggWant (hS.bring (by repeat (first | exact t0 | apply tS))) rfl rfl (k := k) (v := wv) rfl (vs := i.map B8 ++ [.int .i64 e.peer]) rfl (by simp [HIL.out]) (flat_want i e.peer) (by rw [HWN.out]; exact hlt) ?_); clear hS; intro w hS; rw [HSET.out] at hS; go_frame)
        )
      refine segQ_mk ((hS.bring (by repeat (first | exact t0 | apply tS))).getBlk) ?_
      refine finC_mk (by kernel_rfl) (by
        intro t ht
        simp only [List.mem_cons, List.not_mem_nil, or_false] at ht
        subst ht
        exact stab_blk (b := nb) (fun w h => h) _ none) ?_
      go_wp2_with fail
      go_roundw
      case rel => exact ⟨k + 1, by go_num, by omega, hS.sel (by repeat (first | exact Sel.refl | refine Sel.take (by repeat (first | exact t0 | apply tS)) ?_ | apply Sel.drop))⟩
      case measure => simp [intOf]; omega
    · have hk2 : k = n := by omega
      subst hk2
      have hz : ((allB (elist l)).map wC).take k ++ List.replicate (k - k) zW = (allB (elist l)).map wC := by
        rw [Nat.sub_self, List.take_of_length_le (Nat.le_of_eq HNW.out)]
        simp
      rw [hz] at hS
      go_wp2_with fail
      go_ret
      exact hB_closeR hS
end
end Go.Proofs.Ytafpdpcbckpkjaa
namespace Go.Proofs.Ytafpdpcbckpkjaa
open Go.RowKit Go.Px
theorem del_in {l1 l2 : List LE} {x : LE} (h : (ids (elist (l1 ++ x :: l2))).Nodup) : mdel (keysM (l1 ++ x :: l2)) (HV x.2.id) = keysM (l1 ++ l2) := by
  obtain ⟨h1, h2⟩ := nodup_mid h
  have key : ∀ l : List LE, x.2.id ∉ ids (elist l) → mdel (keysM l) (HV x.2.id) = keysM l := by
    intro l hl
    apply mdel_none
    intro q hq
    unfold keysM at hq
    obtain ⟨y, hy, rfl⟩ := List.mem_map.1 hq
    intro he
    apply hl
    rw [ids_elist]
    exact List.mem_map.2 ⟨y, hy, HV_inj he⟩
  have k1 := key l1 h1
  have k2 := key l2 h2
  unfold mdel keysM at *
  rw [List.map_append, List.map_cons, List.filter_append, List.filter_cons, k1, k2, List.map_append]
  simp [eqv_self]
theorem cut_one {α : Type} (A B : List α) (a : α) : (A ++ a :: B).take A.length ++ (A ++ a :: B).drop (A.length + 1) = A ++ B := by
  rw [List.take_left, show A.length + 1 = (A ++ [a]).length by simp, show A ++ a :: B = (A ++ [a]) ++ B by simp, List.drop_left]
theorem ids_app (A B : List Ent) : ids (A ++ B) = ids A ++ ids B := by simp [ids]
section
variable {R : Nat → Prop} {base w : World} {F : List Hp}
set_option maxRecDepth 100000 in
set_option maxHeartbeats 4000000 in
theorem got_in {p : Nat} {B : List Ent} {i : List Byte} (hS : SepL R base w (hB p B :: F)) (ok : BOk B) (hin : i ∈ ids B) :
    Calls Try.prog 24 #[.pointer (some ⟨p, 0, none⟩), HV i] w (Ret fun r w' => r = .bool true ∧ SepL R base w' (hB p (gotB i B) :: F)) := by
  obtain ⟨m, ov, l, hl, hS2⟩ := hB_open hS
  clear hS
  subst hl
  obtain ⟨l1, x, l2, hl, hii⟩ := split_le hin
  subst hl
  have hi : x.2.id.length = 32 := ok.len x.2 (by rw [ents_mid]; simp)
  have hturn : gotB x.2.id (elist (l1 ++ x :: l2)) = elist (l1 ++ l2) := by
    unfold gotB
    rw [turn_le ok.nodup, ents_app]
    simp
  have hnd := nodup_mid ok.nodup
  have hS := pull hS2
  clear hS2
  have KI := isKey hi
  have HLK := hide (get_in ok.nodup)
  have HDEL := hide (del_in ok.nodup)
  have hfew := ok.few
  obtain ⟨k, hk⟩ : ∃ k, l1.length = k := ⟨_, rfl⟩
  have hids : ids (elist (l1 ++ x :: l2)) = ids (elist l1) ++ x.2.id :: ids (elist l2) := by
    rw [ents_mid, ids_app]
    rfl
  have hkl1 : (ids (elist l1)).length = k := by simp [ids, elist, hk]
  have HIX : Hid (ixOf x.2.id (ids (elist (l1 ++ x :: l2))) = k) := by
    unfold Hid
    rw [hids, ix_at hnd.1, hkl1]
  have HLEN : Hid (∀ a ∈ ids (elist (l1 ++ x :: l2)), a.length = 32) := by
    intro a ha
    obtain ⟨e, he, rfl⟩ := List.mem_map.1 ha
    exact ok.len e he
  have hlen : (bys (ids (elist (l1 ++ x :: l2)))).length = (elist (l1 ++ x :: l2)).length := by
    rw [bys_length]
    simp [ids]
  have hki : k < (bys (ids (elist (l1 ++ x :: l2)))).length := by
    rw [hlen, ents_mid]
    simp [elist, hk]
  have hkl : (bys (ids (elist (l1 ++ x :: l2)))).length ≤ 1000000 := by omega
  have hkb : k + 1 ≤ 9223372036854775807 := by omega
  have HK1 : Hid ((k : Int) + 1 = ((k + 1 : Nat) : Int)) := by
    unfold Hid
    omega
  have HTD : Hid ((bys (ids (elist (l1 ++ x :: l2)))).take k ++ (bys (ids (elist (l1 ++ x :: l2)))).drop (k + 1) = bys (ids (elist (l1 ++ l2)))) := by
    unfold Hid bys
    rw [hids, ents_app, ids_app, List.map_append, List.map_cons, List.map_append, ← hkl1, ← List.length_map (f := fun a => a.map B8)]
    exact cut_one _ _ _
  rw [hii] at hi KI HLK HDEL HIX hturn
  rw [hturn]
  have HI32 : Hid ((i.map B8).length = 32) := by simp [Hid, hi]
  have HIL := hide hi
  clear hturn hin ok hi hnd hids hkl1 hlen hfew hk
  unfold HV at KI HLK HDEL
  unfold bookP entP entC at hS
  go_enter Try.func24, Try.ntmps24
  go_wp2_with (first
    | (show wpList _ _ _ (⟨_, .box 28 _, _, _, _, _⟩ :: _) _ _; refine wpS_boxA (cs := i.map B8) hS rfl rfl rfl ?_; clear hS; intro nb w hS; go_frame)
    )
  refine wp_region_text (by kernel_rfl) (by kernel_rfl) (by repeat (first | exact Clean.body | refine Clean.then ?_ | refine Clean.inBlock ?_)) ?_
  replace hS := hS.drew
  go_wp2_with (first
    | (show wpList _ _ _ (⟨_, .load 66 _, _, _, _, _⟩ :: _) _ _; refine wpList_val rfl (op_load1S oneMap ((hS.bring (by repeat (first | exact t0 | apply tS)))) rfl rfl rfl) ?_; go_frame)
    | (show wpList _ _ _ (⟨_, .load 28 _, _, _, _, _⟩ :: _) _ _; refine wpList_val rfl (op_load aggHash rfl rfl ((hS.bring (by repeat (first | exact t0 | apply tS))).getBlk.cells) HI32.out) ?_; go_frame)
    | (show wpList _ _ _ (⟨_, .lookup 66 _ _ false, _, _, _, _⟩ :: _) _ _; refine wpList_val rfl (op_lookup mapTy rfl rfl (x := .agg (i.map B8).toArray) rfl ((hS.bring (by repeat (first | exact t0 | apply tS))).getMap) KI) ?_; rw [HLK.out]; go_frame)
    | (refine fin_mk (by kernel_rfl) ?_)
    )
  refine wp_region_text (by kernel_rfl) (by kernel_rfl) (by repeat (first | exact Clean.body | refine Clean.then ?_ | refine Clean.inBlock ?_)) ?_
  replace hS := hS.drew
  go_wp2_with (first
    | (show wpList _ _ _ (⟨_, .load 66 _, _, _, _, _⟩ :: _) _ _; refine wpList_val rfl (op_load1S oneMap ((hS.bring (by repeat (first | exact t0 | apply tS)))) rfl rfl rfl) ?_; go_frame)
    | (show wpList _ _ _ (⟨_, .load 28 _, _, _, _, _⟩ :: _) _ _; refine wpList_val rfl (op_load aggHash rfl rfl ((hS.bring (by repeat (first | exact t0 | apply tS))).getBlk.cells) HI32.out) ?_; go_frame)
    | (refine fin_mk (by kernel_rfl) ?_)
    | (show wpList _ _ _ (⟨_, .call ⟨.builtin .delete, _, _⟩, _, _, _, _⟩ :: _) _ _; (refine wpS_mdel mapTy (hS.bring (by repeat (first | exact t0 | apply tS))) rfl rfl rfl rfl (x := .agg (i.map B8).toArray) rfl KI ?_); clear hS; intro w hS; rw [HDEL.out] at hS; go_frame)
    )
  refine wp_region_text (by kernel_rfl) (by kernel_rfl) (by repeat (first | exact Clean.body | refine Clean.then ?_ | refine Clean.inBlock ?_)) ?_
  replace hS := hS.drew
  go_wp2_with (first
    | (show wpList _ _ _ (⟨_, .load 22 _, _, _, _, _⟩ :: _) _ _; refine wpList_val rfl (op_load1S oneHashes ((hS.bring (by repeat (first | exact t0 | apply tS)))) rfl rfl rfl) ?_; go_frame)
    | (show wpList _ _ _ (⟨_, .load 28 _, _, _, _, _⟩ :: _) _ _; refine wpList_val rfl (op_load aggHash rfl rfl ((hS.bring (by repeat (first | exact t0 | apply tS))).getBlk.cells) HI32.out) ?_; go_frame)
    | (refine fin_mk (by kernel_rfl) ?_)
    | (go_at_call 38; refine Ret.calls (hS.callNo (index_hash ov (ids (elist (l1 ++ x :: l2))) i _ ((hS.bring (by repeat (first | exact t0 | apply tS))).getOwn.rd) HIL.out HLEN.out)) ?_; clear hS; rintro r w ⟨rfl, hS⟩; rw [HIX.out])
    | (show wpList _ _ _ (⟨some 35, .binOp _ _ _ _ _, _, _, _, _⟩ :: _) _ _; refine wpList_val rfl (op_iaddN rfl rfl rfl (k + 1) HK1.out hkb) ?_; go_frame)
    | (go_at_call 39; (refine Ret.calls (delete_hash (hS.bring (by repeat (first | exact t0 | apply tS))) hki (flat_B8s _) hkl) ?_); clear hS; rintro r w hS; rw [HTD.out] at hS; have HV2 := hide hS.getOwn.rd.cells1; have HV3 := hide hS.getOwn.rd.one1)
    | (show wpList _ _ _ (⟨_, .store 22 _ _, _, _, _, _⟩ :: _) _ _; (refine wpS_store1 (by kernel_rfl) (hS.bring (by repeat (first | exact t0 | apply tS))) rfl rfl rfl rfl HV2.out HV3.out (by simp) ?_); clear hS; intro w hS; go_frame)
    )
  go_ret
  exact ⟨rfl, hB_close (m := m) (ov := r) (hS.sel (by repeat (first | exact Sel.refl | refine Sel.take (by repeat (first | exact t0 | apply tS)) ?_ | apply Sel.drop)))⟩
end
end Go.Proofs.Ytafpdpcbckpkjaa
namespace Go.Proofs.Ytafpdpcbckpkjaa
open Go.RowKit Go.Px
theorem isSl {n : Nat} {w : World} {v : Value} {xs : List (List Value)} (h : Rd n w v xs) : ∃ A l c, v = .slice A l c := by
  obtain ⟨A, c, e, _⟩ := h.form
  exact ⟨_, _, _, e⟩
theorem buildE3 (h : Int) (t : Nat) {v : Value} (hv : ∃ A l c, v = .slice A l c) (w : World) : (Instr.build 71 #[(0, .int .i64 h), (1, U t), (2, v)]).run Try.prog w = .ok (.agg #[.int .i64 h, U t, v]) w := by
  obtain ⟨A, l, c, rfl⟩ := hv
  exact run_build w 71 _ _ (by kernel_rfl)
theorem ones3 (h : Int) (t : Nat) {v : Value} (hv : v.oneCell' = true) : ∀ z ∈ [Value.int .i64 h, U t, v], z.oneCell' = true := by
  intro z hz
  simp only [List.mem_cons, List.not_mem_nil, or_false] at hz
  rcases hz with rfl | rfl | rfl
  · rfl
  · rfl
  · exact hv
/-- whom to ask next -/
def nextR (e : Ent) : Value := match e.waits with
  | [] => .tuple #[.int .i64 0, .bool false]
  | h :: _ => .tuple #[.int .i64 h, .bool true]
theorem split_elist {l : List LE} {B1 B2 : List Ent} {e : Ent} (h : elist l = B1 ++ e :: B2) : ∃ l1 x l2, l = l1 ++ x :: l2 ∧ elist l1 = B1 ∧ x.2 = e ∧ elist l2 = B2 := by
  unfold elist at *
  obtain ⟨l1, l', rfl, h1, h2⟩ := List.map_eq_append_iff.1 h
  obtain ⟨x, l2, rfl, h3, h4⟩ := List.map_eq_cons_iff.1 h2
  exact ⟨l1, x, l2, rfl, h1, h3, h4⟩
section
variable {R : Nat → Prop} {base w : World} {F : List Hp}
set_option maxRecDepth 100000 in
set_option maxHeartbeats 1000000 in
theorem next_s {p : Nat} {B1 B2 : List Ent} {e : Ent} {t : Nat} (hS : SepL R base w (hB p (B1 ++ e :: B2) :: F)) (ok : BOk (B1 ++ e :: B2)) :
    Calls Try.prog 37 #[.pointer (some ⟨p, 0, none⟩), HV e.id, U t] w (Ret fun r w' => r = nextR e ∧ SepL R base w' (hB p (B1 ++ (goE t e).toList ++ B2) :: F)) := by
  obtain ⟨m, ov, l, hl, hS2⟩ := hB_open hS
  clear hS
  obtain ⟨l1, x, l2, hl, h1, h2, h3⟩ := split_elist hl
  subst hl h1 h2 h3
  rw [← ents_mid] at ok
  have hi : x.2.id.length = 32 := ok.len x.2 (by rw [ents_mid]; simp)
  have hw := ok.wait x.2 (by rw [ents_mid]; simp)
  have hgot : gotB x.2.id (elist l1 ++ [x.2] ++ elist l2) = elist l1 ++ elist l2 := by
    have := turn_le (f := fun _ => none) ok.nodup
    rw [ents_mid] at this
    unfold gotB
    simpa using this
  have HOK : Hid (BOk (elist l1 ++ [x.2] ++ elist l2)) := by
    rw [ents_mid] at ok
    simpa [Hid] using ok
  have HIN : Hid (x.2.id ∈ ids (elist l1 ++ [x.2] ++ elist l2)) := by
    unfold Hid ids
    simp
  have hS := pull hS2
  clear hS2
  have KI := isKey hi
  have HLK := hide (get_in ok.nodup)
  have HWL : Hid ((x.2.waits.map fun z => [I64 z]).length = x.2.waits.length) := by simp [Hid]
  obtain ⟨i, hii⟩ : ∃ i, x.2.id = i := ⟨_, rfl⟩
  rw [hii] at hi KI HLK HIN hgot ⊢
  have HI32 : Hid ((i.map B8).length = 32) := by simp [Hid, hi]
  have HG := hide hgot
  have HII := hide hii
  clear ok hi hgot hii
  unfold HV at KI HLK ⊢
  cases hwt : x.2.waits with
  | nil =>
    have HR : Hid (nextR x.2 = .tuple #[.int .i64 0, .bool false]) := by
      unfold Hid nextR
      rw [hwt]
    have HGO : Hid (goE t x.2 = none) := by
      unfold Hid goE
      rw [hwt]
    have HEQ : Hid (((x.2.waits.length : Int) == 0) = true) := by
      unfold Hid
      rw [hwt]
      rfl
    clear hwt hw
    rw [HR.out, HGO.out]
    unfold bookP entP entC at hS
    go_enter Try.func37, Try.ntmps37
    go_wp2_with (first
      | (show wpList _ _ _ (⟨_, .box 28 _, _, _, _, _⟩ :: _) _ _; refine wpS_boxA (cs := i.map B8) hS rfl rfl rfl ?_; clear hS; intro nb w hS; go_frame)
      )
    refine wp_region_text (by kernel_rfl) (by kernel_rfl) (by repeat (first | exact Clean.body | refine Clean.then ?_ | refine Clean.inBlock ?_)) ?_
    replace hS := hS.drew
    go_wp2_with (first
      | (show wpList _ _ _ (⟨_, .load 66 _, _, _, _, _⟩ :: _) _ _; refine wpList_val rfl (op_load1S oneMap ((hS.bring (by repeat (first | exact t0 | apply tS)))) rfl rfl rfl) ?_; go_frame)
      | (show wpList _ _ _ (⟨_, .load 50 _, _, _, _, _⟩ :: _) _ _; refine wpList_val rfl (op_load1S oneInts ((hS.bring (by repeat (first | exact t0 | apply tS)))) rfl rfl rfl) ?_; go_frame)
      | (show wpList _ _ _ (⟨_, .load 28 _, _, _, _, _⟩ :: _) _ _; refine wpList_val rfl (op_load aggHash rfl rfl ((hS.bring (by repeat (first | exact t0 | apply tS))).getBlk.cells) HI32.out) ?_; go_frame)
      | (show wpList _ _ _ (⟨_, .lookup 66 _ _ false, _, _, _, _⟩ :: _) _ _; refine wpList_val rfl (op_lookup mapTy rfl rfl (x := .agg (i.map B8).toArray) rfl ((hS.bring (by repeat (first | exact t0 | apply tS))).getMap) KI) ?_; rw [HLK.out]; go_frame)
      | (refine fin_mk (by kernel_rfl) ?_)
      | (show wpList _ _ _ (⟨_, .call ⟨.builtin .len, _, _⟩, _, _, _, _⟩ :: _) _ _; refine wpList_val rfl (op_len slInt rfl rfl (v := x.1.2) rfl ((hS.bring (by repeat (first | exact t0 | apply tS))).getOwn.rd)) ?_; rw [HWL.out]; go_frame)
      | (go_at_call 24; refine Ret.calls (got_in (relay_same hS.tail) HOK.out HIN.out) ?_; clear hS; rintro r w ⟨rfl, hS⟩)
      | (show wpList _ _ _ (⟨some 20, .binOp _ _ _ _ _, _, _, _, _⟩ :: _) _ _; refine wpList_val rfl (op_eqI' rfl rfl rfl HEQ.out) ?_; go_frame)
      )
    go_ret2
    rw [HG.out] at hS
    refine ⟨rfl, ?_⟩
    simpa using hS
  | cons h r =>
    have HR : Hid (nextR x.2 = .tuple #[.int .i64 h, .bool true]) := by
      unfold Hid nextR
      rw [hwt]
    have HGO : Hid (goE t x.2 = some { x.2 with peer := h, since := t, waits := r }) := by
      unfold Hid goE
      rw [hwt]
    have HEQ : Hid (((x.2.waits.length : Int) == 0) = false) := by
      unfold Hid
      rw [hwt, beq_eq_false_iff_ne]
      simp
      omega
    have h0 : 0 < (x.2.waits.map fun z => [I64 z]).length := by rw [hwt]; simp
    have h0' : 0 < x.2.waits.length := by rw [hwt]; simp
    have HH : Hid (x.2.waits[0] = h) := by
      unfold Hid
      simp [hwt]
    have HDR : Hid (((x.2.waits.map fun z => [I64 z]).drop 1).take (x.2.waits.length - 1) = r.map fun z => [I64 z]) := by
      unfold Hid
      rw [hwt, List.map_cons, List.drop_succ_cons, List.drop_zero]
      exact List.take_of_length_le (by simp)
    have HFL : Hid (Flat (((x.2.waits.map fun z => [I64 z]).drop 1).take (x.2.waits.length - 1))) := by
      rw [HDR.out]
      exact flat_ints r
    have HCL : Hid ((((x.2.waits.map fun z => [I64 z]).drop 1).take (x.2.waits.length - 1)).length ≤ 1000000) := by
      rw [HDR.out]
      unfold Hid
      have := hw.2
      rw [hwt] at this
      simp at this ⊢
      omega
    clear hwt hw
    rw [HR.out, HGO.out]
    unfold bookP entP entC at hS
    go_enter Try.func37, Try.ntmps37
    go_wp2_with (first
      | (show wpList _ _ _ (⟨_, .box 28 _, _, _, _, _⟩ :: _) _ _; refine wpS_boxA (cs := i.map B8) hS rfl rfl rfl ?_; clear hS; intro nb w hS; go_frame)
      )
    refine wp_region_text (by kernel_rfl) (by kernel_rfl) (by repeat (first | exact Clean.body | refine Clean.then ?_ | refine Clean.inBlock ?_)) ?_
    replace hS := hS.drew
    go_wp2_with (first
      | (show wpList _ _ _ (⟨_, .load 66 _, _, _, _, _⟩ :: _) _ _; refine wpList_val rfl (op_load1S oneMap ((hS.bring (by repeat (first | exact t0 | apply tS)))) rfl rfl rfl) ?_; go_frame)
      | (show wpList _ _ _ (⟨_, .load 50 _, _, _, _, _⟩ :: _) _ _; refine wpList_val rfl (op_load1S oneInts ((hS.bring (by repeat (first | exact t0 | apply tS)))) rfl rfl rfl) ?_; go_frame)
      | (show wpList _ _ _ (⟨_, .load 28 _, _, _, _, _⟩ :: _) _ _; refine wpList_val rfl (op_load aggHash rfl rfl ((hS.bring (by repeat (first | exact t0 | apply tS))).getBlk.cells) HI32.out) ?_; go_frame)
      | (show wpList _ _ _ (⟨_, .lookup 66 _ _ false, _, _, _, _⟩ :: _) _ _; refine wpList_val rfl (op_lookup mapTy rfl rfl (x := .agg (i.map B8).toArray) rfl ((hS.bring (by repeat (first | exact t0 | apply tS))).getMap) KI) ?_; rw [HLK.out]; go_frame)
      | (refine fin_mk (by kernel_rfl) ?_)
      | (show wpList _ _ _ (⟨_, .call ⟨.builtin .len, _, _⟩, _, _, _, _⟩ :: _) _ _; refine wpList_val rfl (op_len slInt rfl rfl (v := x.1.2) rfl ((hS.bring (by repeat (first | exact t0 | apply tS))).getOwn.rd)) ?_; rw [HWL.out]; go_frame)
      | (show wpList _ _ _ (⟨some 20, .binOp _ _ _ _ _, _, _, _, _⟩ :: _) _ _; refine wpList_val rfl (op_eqI' rfl rfl rfl HEQ.out) ?_; go_frame)
      )
    refine wp_region_ord (by kernel_rfl) [] [[0, 1, 2, 3, 7, 8, 9, 10, 11, 12, 4, 5, 6, 13, 14, 15, 16], [0, 1, 2, 3, 7, 8, 9, 10, 11, 12, 4, 5, 13, 6, 14, 15, 16], [0, 1, 2, 3, 7, 8, 9, 10, 11, 12, 13, 4, 5, 6, 14, 15, 16]] (by kernel_rfl) (by kernel_rfl) (fun _ => True) (fun _ _ _ _ => trivial) trivial (by repeat (first | exact Clean.body | refine Clean.then ?_ | refine Clean.inBlock ?_ | refine SegQ.clean ?_ | refine FinC.clean ?_)) ?_
    replace hS := hS.drew
    refine ord_seg (by repeat (first | exact Clean.body | refine Clean.then ?_ | refine Clean.inBlock ?_ | refine SegQ.clean ?_ | refine FinC.clean ?_)) (n := 7) (rest := [[4, 5, 6, 13, 14, 15, 16], [4, 5, 13, 6, 14, 15, 16], [13, 4, 5, 6, 14, 15, 16]]) [0, 1, 2, 3, 7, 8, 9, 10, 11, 12] [⟨_, _, _, _, _, _⟩, ⟨_, _, _, _, _, _⟩, ⟨_, _, _, _, _, _⟩, ⟨_, _, _, _, _, _⟩, ⟨_, _, _, _, _, _⟩, ⟨_, _, _, _, _, _⟩, ⟨_, _, _, _, _, _⟩, ⟨_, _, _, _, _, _⟩, ⟨_, _, _, _, _, _⟩, ⟨_, _, _, _, _, _⟩] rfl (by kernel_rfl) (by simp) _ _ ?_
    go_wp2_with (first
      | (show wpList _ _ _ (⟨_, .load 50 _, _, _, _, _⟩ :: _) _ _; refine wpList_val rfl (op_load1S oneInts ((hS.bring (by repeat (first | exact t0 | apply tS)))) rfl rfl rfl) ?_; go_frame)
      | (show wpList _ _ _ (⟨some 36, .slice _ _ _ _ _, _, _, _, _⟩ :: _) _ _; refine wpList_val rfl (op_cut slInt rfl (v := x.1.2) rfl ((hS.bring (by repeat (first | exact t0 | apply tS))).getOwn.rd) (l := 1) (h := _) (Or.inr rfl) (Or.inl ⟨rfl, rfl⟩) h0 (Nat.le_refl _)) ?_; go_frame)
      )
    refine segQ_mk trivial ?_
    refine ord_fork (n := 6) (os1 := [[4, 5, 6, 13, 14, 15, 16], [4, 5, 13, 6, 14, 15, 16]]) (os2 := [[13, 4, 5, 6, 14, 15, 16]]) (by decide) ?_ ?_
    ·
      refine ord_seg (by repeat (first | exact Clean.body | refine Clean.then ?_ | refine Clean.inBlock ?_ | refine SegQ.clean ?_ | refine FinC.clean ?_)) (n := 5) (rest := [[6, 13, 14, 15, 16], [13, 6, 14, 15, 16]]) [4, 5] [⟨_, _, _, _, _, _⟩, ⟨_, _, _, _, _, _⟩] rfl (by kernel_rfl) (by simp) _ _ ?_
      go_wp2_with (first
        | (show wpList _ _ _ (⟨_, .load 50 _, _, _, _, _⟩ :: _) _ _; refine wpList_val rfl (op_load1S oneInts ((hS.bring (by repeat (first | exact t0 | apply tS)))) rfl rfl rfl) ?_; go_frame)
        | (show wpList _ _ _ (⟨some 29, .indexAddr _ _ _, _, _, _, _⟩ :: _) _ _; refine wpList_val rfl (op_indexAddrZ slInt rfl (v := x.1.2) rfl rfl ((hS.bring (by repeat (first | exact t0 | apply tS))).getOwn.rd) 0 rfl h0) ?_; go_frame)
        )
      refine segQ_mk trivial ?_
      refine ord_fork (n := 4) (os1 := [[6, 13, 14, 15, 16]]) (os2 := [[13, 6, 14, 15, 16]]) (by decide) ?_ ?_
      ·
        refine ord_seg (by repeat (first | exact Clean.body | refine Clean.then ?_ | refine Clean.inBlock ?_ | refine SegQ.clean ?_ | refine FinC.clean ?_)) (n := 3) (rest := [[14, 15, 16]]) [6, 13] [⟨_, _, _, _, _, _⟩, ⟨_, _, _, _, _, _⟩] rfl (by kernel_rfl) (by simp) _ _ ?_
        go_wp2_with (first
          | (show wpList _ _ _ (⟨some 30, .load _ _, _, _, _, _⟩ :: _) _ _; refine wpList_val rfl (op_loadE1 oneInt rfl (v := x.1.2) (k := 0) rfl (f := I64) ((hS.bring (by repeat (first | exact t0 | apply tS))).getOwn.rd) h0') ?_; rw [HH.out]; go_frame)
          | (go_at_call 50; refine Ret.calls (clone_int (cutV 1 x.1.2 1 x.2.waits.length) _ _ (by have h := Rd.cutV (v := x.1.2) (xs := x.2.waits.map fun z => [I64 z]) ((hS.bring (by repeat (first | exact t0 | apply tS))).getOwn.rd) h0 (Nat.le_refl _); rw [HWL.out] at h; exact h) HFL.out HCL.out) ?_; rintro v2 w2 hC; replace hS := hS.frameNew hC; clear hC; rw [HDR.out] at hS; have HSF := hide (isSl hS.getOwn.rd); have HV2 := hide hS.getOwn.rd.cells1; have HV3 := hide hS.getOwn.rd.one1)
          )
        refine segQ_mk trivial ?_
        refine ord_seg (by repeat (first | exact Clean.body | refine Clean.then ?_ | refine Clean.inBlock ?_ | refine SegQ.clean ?_ | refine FinC.clean ?_)) (n := 0) (rest := [[]]) [14, 15, 16] [⟨_, _, _, _, _, _⟩, ⟨_, _, _, _, _, _⟩, ⟨_, _, _, _, _, _⟩] rfl (by kernel_rfl) (by simp) _ _ ?_
        go_wp2_with (first
          | (show wpList _ _ _ (⟨_, .build 71 _, _, _, _, _⟩ :: _) _ _; refine wpList_val rfl (op_build (ps := #[(0, .int .i64 h), (1, U t), (2, v2)]) rfl rfl (buildE3 h t HSF.out) _) ?_; go_frame)
          | (show wpList _ _ _ (⟨_, .store 71 _ _, _, _, _, _⟩ :: _) _ _; (refine wpS_storeAll aggEntry (hS.bring (by repeat (first | exact t0 | apply tS))) rfl rfl rfl (vs := [.int .i64 h, U t, v2]) rfl rfl (ones3 h t HV3.out) rfl ?_); clear hS; intro w hS; go_frame)
          )
        refine segQ_mk trivial ?_
        refine finC_mk (by kernel_rfl) (by
          intro t ht
          cases ht) ?_
        go_wp2_with (first
          | (show wpList _ _ _ (⟨_, .load 3 _, _, _, _, _⟩ :: _) _ _; refine wpList_val rfl (op_load1S oneInt ((hS.bring (by repeat (first | exact t0 | apply tS)))) rfl rfl rfl) ?_; go_frame)
          )
        go_ret2
        refine ⟨rfl, relay (m := m) (ov := ov) (x := x) (v := v2) (e := { x.2 with peer := h, since := t, waits := r }) ?_ rfl⟩
        show SepL R base _ (.blk x.1.1 71 [.int .i64 h, U t, v2] :: .own 3 1 v2 (r.map fun z => [I64 z]) :: _)
        exact hS.sel (by repeat (first | exact Sel.refl | refine Sel.take (by repeat (first | exact t0 | apply tS)) ?_ | apply Sel.drop))
      ·
        refine ord_seg (by repeat (first | exact Clean.body | refine Clean.then ?_ | refine Clean.inBlock ?_ | refine SegQ.clean ?_ | refine FinC.clean ?_)) (n := 4) (rest := [[6, 14, 15, 16]]) [13] [⟨_, _, _, _, _, _⟩] rfl (by kernel_rfl) (by simp) _ _ ?_
        go_wp2_with (first
          | (go_at_call 50; refine Ret.calls (clone_int (cutV 1 x.1.2 1 x.2.waits.length) _ _ (by have h := Rd.cutV (v := x.1.2) (xs := x.2.waits.map fun z => [I64 z]) ((hS.bring (by repeat (first | exact t0 | apply tS))).getOwn.rd) h0 (Nat.le_refl _); rw [HWL.out] at h; exact h) HFL.out HCL.out) ?_; rintro v2 w2 hC; replace hS := hS.frameNew hC; clear hC; rw [HDR.out] at hS; have HSF := hide (isSl hS.getOwn.rd); have HV2 := hide hS.getOwn.rd.cells1; have HV3 := hide hS.getOwn.rd.one1)
          )
        refine segQ_mk trivial ?_
        refine ord_seg (by repeat (first | exact Clean.body | refine Clean.then ?_ | refine Clean.inBlock ?_ | refine SegQ.clean ?_ | refine FinC.clean ?_)) (n := 0) (rest := [[]]) [6, 14, 15, 16] [⟨_, _, _, _, _, _⟩, ⟨_, _, _, _, _, _⟩, ⟨_, _, _, _, _, _⟩, ⟨_, _, _, _, _, _⟩] rfl (by kernel_rfl) (by simp) _ _ ?_
        go_wp2_with (first
          | (show wpList _ _ _ (⟨some 30, .load _ _, _, _, _, _⟩ :: _) _ _; refine wpList_val rfl (op_loadE1 oneInt rfl (v := x.1.2) (k := 0) rfl (f := I64) ((hS.bring (by repeat (first | exact t0 | apply tS))).getOwn.rd) h0') ?_; rw [HH.out]; go_frame)
          | (show wpList _ _ _ (⟨_, .build 71 _, _, _, _, _⟩ :: _) _ _; refine wpList_val rfl (op_build (ps := #[(0, .int .i64 h), (1, U t), (2, v2)]) rfl rfl (buildE3 h t HSF.out) _) ?_; go_frame)
          | (show wpList _ _ _ (⟨_, .store 71 _ _, _, _, _, _⟩ :: _) _ _; (refine wpS_storeAll aggEntry (hS.bring (by repeat (first | exact t0 | apply tS))) rfl rfl rfl (vs := [.int .i64 h, U t, v2]) rfl rfl (ones3 h t HV3.out) rfl ?_); clear hS; intro w hS; go_frame)
          )
        refine segQ_mk trivial ?_
        refine finC_mk (by kernel_rfl) (by
          intro t ht
          cases ht) ?_
        go_wp2_with (first
          | (show wpList _ _ _ (⟨_, .load 3 _, _, _, _, _⟩ :: _) _ _; refine wpList_val rfl (op_load1S oneInt ((hS.bring (by repeat (first | exact t0 | apply tS)))) rfl rfl rfl) ?_; go_frame)
          )
        go_ret2
        refine ⟨rfl, relay (m := m) (ov := ov) (x := x) (v := v2) (e := { x.2 with peer := h, since := t, waits := r }) ?_ rfl⟩
        show SepL R base _ (.blk x.1.1 71 [.int .i64 h, U t, v2] :: .own 3 1 v2 (r.map fun z => [I64 z]) :: _)
        exact hS.sel (by repeat (first | exact Sel.refl | refine Sel.take (by repeat (first | exact t0 | apply tS)) ?_ | apply Sel.drop))
    ·
      refine ord_seg (by repeat (first | exact Clean.body | refine Clean.then ?_ | refine Clean.inBlock ?_ | refine SegQ.clean ?_ | refine FinC.clean ?_)) (n := 6) (rest := [[4, 5, 6, 14, 15, 16]]) [13] [⟨_, _, _, _, _, _⟩] rfl (by kernel_rfl) (by simp) _ _ ?_
      go_wp2_with (first
        | (go_at_call 50; refine Ret.calls (clone_int (cutV 1 x.1.2 1 x.2.waits.length) _ _ (by have h := Rd.cutV (v := x.1.2) (xs := x.2.waits.map fun z => [I64 z]) ((hS.bring (by repeat (first | exact t0 | apply tS))).getOwn.rd) h0 (Nat.le_refl _); rw [HWL.out] at h; exact h) HFL.out HCL.out) ?_; rintro v2 w2 hC; replace hS := hS.frameNew hC; clear hC; rw [HDR.out] at hS; have HSF := hide (isSl hS.getOwn.rd); have HV2 := hide hS.getOwn.rd.cells1; have HV3 := hide hS.getOwn.rd.one1)
        )
      refine segQ_mk trivial ?_
      refine ord_seg (by repeat (first | exact Clean.body | refine Clean.then ?_ | refine Clean.inBlock ?_ | refine SegQ.clean ?_ | refine FinC.clean ?_)) (n := 0) (rest := [[]]) [4, 5, 6, 14, 15, 16] [⟨_, _, _, _, _, _⟩, ⟨_, _, _, _, _, _⟩, ⟨_, _, _, _, _, _⟩, ⟨_, _, _, _, _, _⟩, ⟨_, _, _, _, _, _⟩, ⟨_, _, _, _, _, _⟩] rfl (by kernel_rfl) (by simp) _ _ ?_
      go_wp2_with (first
        | (show wpList _ _ _ (⟨_, .load 50 _, _, _, _, _⟩ :: _) _ _; refine wpList_val rfl (op_load1S oneInts ((hS.bring (by repeat (first | exact t0 | apply tS)))) rfl rfl rfl) ?_; go_frame)
        | (show wpList _ _ _ (⟨some 29, .indexAddr _ _ _, _, _, _, _⟩ :: _) _ _; refine wpList_val rfl (op_indexAddrZ slInt rfl (v := x.1.2) rfl rfl ((hS.bring (by repeat (first | exact t0 | apply tS))).getOwn.rd) 0 rfl h0) ?_; go_frame)
        | (show wpList _ _ _ (⟨some 30, .load _ _, _, _, _, _⟩ :: _) _ _; refine wpList_val rfl (op_loadE1 oneInt rfl (v := x.1.2) (k := 0) rfl (f := I64) ((hS.bring (by repeat (first | exact t0 | apply tS))).getOwn.rd) h0') ?_; rw [HH.out]; go_frame)
        | (show wpList _ _ _ (⟨_, .build 71 _, _, _, _, _⟩ :: _) _ _; refine wpList_val rfl (op_build (ps := #[(0, .int .i64 h), (1, U t), (2, v2)]) rfl rfl (buildE3 h t HSF.out) _) ?_; go_frame)
        | (show wpList _ _ _ (⟨_, .store 71 _ _, _, _, _, _⟩ :: _) _ _; (refine wpS_storeAll aggEntry (hS.bring (by repeat (first | exact t0 | apply tS))) rfl rfl rfl (vs := [.int .i64 h, U t, v2]) rfl rfl (ones3 h t HV3.out) rfl ?_); clear hS; intro w hS; go_frame)
        )
      refine segQ_mk trivial ?_
      refine finC_mk (by kernel_rfl) (by
        intro t ht
        cases ht) ?_
      go_wp2_with (first
        | (show wpList _ _ _ (⟨_, .load 3 _, _, _, _, _⟩ :: _) _ _; refine wpList_val rfl (op_load1S oneInt ((hS.bring (by repeat (first | exact t0 | apply tS)))) rfl rfl rfl) ?_; go_frame)
        )
      go_ret2
      refine ⟨rfl, relay (m := m) (ov := ov) (x := x) (v := v2) (e := { x.2 with peer := h, since := t, waits := r }) ?_ rfl⟩
      show SepL R base _ (.blk x.1.1 71 [.int .i64 h, U t, v2] :: .own 3 1 v2 (r.map fun z => [I64 z]) :: _)
      exact hS.sel (by repeat (first | exact Sel.refl | refine Sel.take (by repeat (first | exact t0 | apply tS)) ?_ | apply Sel.drop))
end
end Go.Proofs.Ytafpdpcbckpkjaa
namespace Go.Proofs.Ytafpdpcbckpkjaa
open Go.RowKit Go.Px
section
variable {R : Nat → Prop} {base w : World} {F : List Hp}
set_option maxRecDepth 100000 in
theorem got_out {p : Nat} {B : List Ent} {i : List Byte} (hS : SepL R base w (hB p B :: F)) (hi : i.length = 32) (hout : i ∉ ids B) :
    Calls Try.prog 24 #[.pointer (some ⟨p, 0, none⟩), HV i] w (Ret fun r w' => r = .bool false ∧ SepL R base w' (hB p B :: F)) := by
  obtain ⟨m, ov, l, hl, hS2⟩ := hB_open hS
  clear hS
  subst hl
  have hS := hS2
  clear hS2
  have KI := isKey hi
  have HLK := hide (get_out hout)
  have HI32 : Hid ((i.map B8).length = 32) := by simp [Hid, hi]
  clear hout hi
  unfold HV at KI HLK ⊢
  unfold bookP at hS
  go_enter Try.func24, Try.ntmps24
  go_wp2_with (first
    | (show wpList _ _ _ (⟨_, .box 28 _, _, _, _, _⟩ :: _) _ _; refine wpS_boxA (cs := i.map B8) hS rfl rfl rfl ?_; clear hS; intro nb w hS; go_frame)
    )
  refine wp_region_text (by kernel_rfl) (by kernel_rfl) (by repeat (first | exact Clean.body | refine Clean.then ?_ | refine Clean.inBlock ?_)) ?_
  replace hS := hS.drew
  go_wp2_with (first
    | (show wpList _ _ _ (⟨_, .load 66 _, _, _, _, _⟩ :: _) _ _; refine wpList_val rfl (op_load1S oneMap ((hS.bring (by repeat (first | exact t0 | apply tS)))) rfl rfl rfl) ?_; go_frame)
    | (show wpList _ _ _ (⟨_, .load 28 _, _, _, _, _⟩ :: _) _ _; refine wpList_val rfl (op_load aggHash rfl rfl ((hS.bring (by repeat (first | exact t0 | apply tS))).getBlk.cells) HI32.out) ?_; go_frame)
    | (show wpList _ _ _ (⟨_, .lookup 66 _ _ false, _, _, _, _⟩ :: _) _ _; refine wpList_val rfl (op_lookup mapTy rfl rfl (x := .agg (i.map B8).toArray) rfl ((hS.bring (by repeat (first | exact t0 | apply tS))).getMap) KI) ?_; rw [HLK.out]; go_frame)
    | (refine fin_mk (by kernel_rfl) ?_)
    )
  go_ret
  exact ⟨rfl, hB_close (m := m) (ov := ov) (hS.sel (by repeat (first | exact Sel.refl | refine Sel.take (by repeat (first | exact t0 | apply tS)) ?_ | apply Sel.drop)))⟩
set_option maxRecDepth 100000 in
theorem quit_s {c : Nat} {v u s : Value} {l : List Int} {q : Int} (hS : SepL R base w (.blk c 71 [u, s, v] :: .own 3 1 v (l.map fun z => [I64 z]) :: F)) (hlen : l.length ≤ 1000000) :
    Calls Try.prog 36 #[.pointer (some ⟨c, 0, none⟩), I64 q] w (Ret fun _ w' => ∃ v', SepL R base w' (.blk c 71 [u, s, v'] :: .own 3 1 v' ((wout q l).map fun z => [I64 z]) :: F)) := by
  go_enter Try.func36, Try.ntmps36
  go_wp2_with (first
    | (show wpList _ _ _ (⟨_, .box _ _, _, _, _, _⟩ :: _) _ _; refine wpS_box1 hS rfl rfl (v := I64 q) rfl rfl ?_; clear hS; intro nb w hS; go_frame)
    | (show wpList _ _ _ (⟨_, .load 50 _, _, _, _, _⟩ :: _) _ _; refine wpList_val rfl (op_load1S oneInts ((hS.bring (by repeat (first | exact t0 | apply tS)))) rfl rfl rfl) ?_; go_frame)
    | (go_at_call 48; (refine Ret.calls (deleteFunc (hS.bring (by repeat (first | exact t0 | apply tS))) hlen) ?_); clear hS; rintro r w hS; have HV2 := hide hS.getOwn.rd.cells1; have HV3 := hide hS.getOwn.rd.one1)
    | (show wpList _ _ _ (⟨_, .store 50 _ _, _, _, _, _⟩ :: _) _ _; (refine wpS_store1 (by kernel_rfl) (hS.bring (by repeat (first | exact t0 | apply tS))) rfl rfl rfl rfl HV2.out HV3.out (by simp) ?_); clear hS; intro w hS; go_frame)
    )
  go_end0
  exact ⟨_, hS.sel (by repeat (first | exact Sel.refl | refine Sel.take (by repeat (first | exact t0 | apply tS)) ?_ | apply Sel.drop))⟩
set_option maxRecDepth 100000 in
theorem goneF {c nq : Nat} {v s : Value} {l : List Int} {y q : Int} {T : TypeId} (hS : SepL R base w (.blk c 71 [I64 y, s, v] :: .own 3 1 v (l.map fun z => [I64 z]) :: .blk nq T [I64 q] :: F)) (hlen : l.length ≤ 1000000) :
    Calls Try.prog 40 #[.pointer (some ⟨c, 0, none⟩), .pointer (some ⟨nq, 0, none⟩)] w (Ret fun r w' => r = .bool (decide (y = q)) ∧ ∃ v', SepL R base w' (.blk c 71 [I64 y, s, v'] :: .own 3 1 v' ((wout q l).map fun z => [I64 z]) :: .blk nq T [I64 q] :: F)) := by
  have HE : Hid ((y == q) = decide (y = q)) := rfl
  go_enter Try.func40, Try.ntmps40
  go_wp2_with (first
    | (show wpList _ _ _ (⟨_, .load 3 _, _, _, _, _⟩ :: _) _ _; refine wpList_val rfl (op_load1S oneInt ((hS.bring (by repeat (first | exact t0 | apply tS)))) rfl rfl rfl) ?_; go_frame)
    | (go_at_call 36; (refine Ret.calls (quit_s (hS.bring (by repeat (first | exact t0 | apply tS))) hlen) ?_); clear hS; rintro r w ⟨v', hS⟩)
    )
  refine wp_region_text (by kernel_rfl) (by kernel_rfl) (by repeat (first | exact Clean.body | refine Clean.then ?_ | refine Clean.inBlock ?_)) ?_
  replace hS := hS.drew
  go_wp2_with (first
    | (show wpList _ _ _ (⟨_, .load 3 _, _, _, _, _⟩ :: _) _ _; refine wpList_val rfl (op_load1S oneInt ((hS.bring (by repeat (first | exact t0 | apply tS)))) rfl rfl rfl) ?_; go_frame)
    | (show wpList _ _ _ (⟨some 12, .binOp _ _ _ _ _, _, _, _, _⟩ :: _) _ _; refine wpList_val rfl (op_eqI' rfl rfl rfl HE.out) ?_; go_frame)
    | (refine fin_mk (by kernel_rfl) ?_)
    )
  go_ret
  exact ⟨rfl, v', hS.sel (by repeat (first | exact Sel.refl | refine Sel.take (by repeat (first | exact t0 | apply tS)) ?_ | apply Sel.drop))⟩
end
end Go.Proofs.Ytafpdpcbckpkjaa
namespace Go.Proofs.Ytafpdpcbckpkjaa
open Go.RowKit Go.Px
section
variable {R : Nat → Prop} {base w : World} {F : List Hp}
set_option maxRecDepth 100000 in
set_option maxHeartbeats 2000000 in
theorem lateF {c nq : Nat} {v u : Value} {s now : Nat} (hS : SepL R base w (.blk c 71 [u, U s, v] :: .blk nq 23 [U now] :: F)) (hs : s < 18446744073709551616) (_hn : now < 18446744073709551616) :
    Calls Try.prog 28 #[.pointer (some ⟨c, 0, none⟩), .pointer (some ⟨nq, 0, none⟩)] w (Ret fun r w' => r = .bool (decide (laterN s [30] ≤ now)) ∧ SepL R base w' (.blk c 71 [u, U s, v] :: .blk nq 23 [U now] :: F)) := by
  have HL : Hid (∀ n ∈ [30], n < 18446744073709551616) := by simp [Hid]
  obtain ⟨bq, hbq⟩ : ∃ b, decide (laterN s [30] ≤ now) = b := ⟨_, rfl⟩
  have HE := hide hbq
  rw [hbq]
  clear hbq
  go_enter Try.func28, Try.ntmps28
  go_wp2_with fail
  refine wp_region_ord (by kernel_rfl) [1] [[0, 1, 2, 3, 6, 4, 5, 7, 8]] (by kernel_rfl) (by kernel_rfl) (fun w' => Blk w' nq 23 [U now]) Up.blk ((hS.bring (by repeat (first | exact t0 | apply tS))).getBlk) (by repeat (first | exact Clean.body | refine Clean.then ?_ | refine Clean.inBlock ?_ | refine SegQ.clean ?_ | refine FinC.clean ?_)) ?_
  replace hS := hS.drew
  refine ord_seg (by repeat (first | exact Clean.body | refine Clean.then ?_ | refine Clean.inBlock ?_ | refine SegQ.clean ?_ | refine FinC.clean ?_)) (n := 2) (rest := [[7, 8]]) [0, 1, 2, 3, 6, 4, 5] [⟨_, _, _, _, _, _⟩, ⟨_, _, _, _, _, _⟩, ⟨_, _, _, _, _, _⟩, ⟨_, _, _, _, _, _⟩, ⟨_, _, _, _, _, _⟩, ⟨_, _, _, _, _, _⟩, ⟨_, _, _, _, _, _⟩] rfl (by kernel_rfl) (by simp) _ _ ?_
  go_wp2_with (first
    | (show wpList _ _ _ (⟨some 7, .load _ _, _, _, _, _⟩ :: _) _ _; refine wpList_val rfl (op_load1S (T := 71) oneU ((hS.bring (by repeat (first | exact t0 | apply tS)))) rfl rfl rfl) ?_; go_frame)
    | (show wpList _ _ _ (⟨some 10, .load _ _, _, _, _, _⟩ :: _) _ _; refine wpList_val rfl (op_load1S (T := 23) oneU ((hS.bring (by repeat (first | exact t0 | apply tS)))) rfl rfl rfl) ?_; go_frame)
    | (show wpList _ _ _ (⟨_, .buildSlice _ 1 _, _, _, _, _⟩ :: _) _ _; refine wpS_build11 slU hS rfl rfl (u := U 30) rfl rfl ?_; clear hS; intro v1 w hS; go_frame)
    | (go_at_call 29; refine Ret.calls (later_any s v1 [30] _ ((hS.bring (by repeat (first | exact t0 | apply tS))).getOwn.rd) hs HL.out) ?_; rintro r w ⟨rfl, rfl⟩)
    )
  refine segQ_mk (((hS.bring (by repeat (first | exact t0 | apply tS))).getBlk) : Blk _ nq 23 [U now]) ?_
  refine ord_seg (by repeat (first | exact Clean.body | refine Clean.then ?_ | refine Clean.inBlock ?_ | refine SegQ.clean ?_ | refine FinC.clean ?_)) (n := 0) (rest := [[]]) [7, 8] [⟨_, _, _, _, _, _⟩, ⟨_, _, _, _, _, _⟩] rfl (by kernel_rfl) (by simp) _ _ ?_
  go_wp2_with (first
    | (show wpList _ _ _ (⟨some 11, .binOp _ _ _ _ _, _, _, _, _⟩ :: _) _ _; refine wpList_val rfl (opU_leq rfl rfl rfl HE.out) ?_; go_frame)
    )
  refine segQ_mk (((hS.bring (by repeat (first | exact t0 | apply tS))).getBlk) : Blk _ nq 23 [U now]) ?_
  refine finC_mk (by kernel_rfl) (by
    intro t ht
    simp only [List.mem_cons, List.not_mem_nil, or_false] at ht
    subst ht
    exact stab_blk (b := nq) (fun w h => h) _ none) ?_
  go_wp2_with fail
  go_ret
  exact ⟨rfl, hS.sel (by repeat (first | exact Sel.refl | refine Sel.take (by repeat (first | exact t0 | apply tS)) ?_ | apply Sel.drop))⟩
end
end Go.Proofs.Ytafpdpcbckpkjaa
