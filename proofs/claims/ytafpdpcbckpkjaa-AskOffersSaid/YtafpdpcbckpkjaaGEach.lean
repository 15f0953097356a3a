/- All entries that are late, or whose peer is gone, go on; whom a book has; what a lack makes. Conditions: those that stand ahead of each theorem. -/
import Derived.Test.YtafpdpcbckpkjaaGOne
namespace Go.Proofs.Ytafpdpcbckpkjaa
open Go.RowKit Go.Px
theorem ok_of {B C : List Ent} (hB : BOk B) (hs : List.Sublist (ids C) (ids B)) (hw : ∀ e ∈ C, ((e.peer :: e.waits).Nodup ∧ e.waits.length ≤ 3) ∧ e.since < 18446744073709551616) : BOk C := by
  refine ⟨hB.nodup.sublist hs, ?_, ?_, fun e he => (hw e he).1, fun e he => (hw e he).2⟩
  · intro e he
    have : e.id ∈ ids B := hs.subset (List.mem_map.2 ⟨e, he, rfl⟩)
    obtain ⟨x, hx, h⟩ := List.mem_map.1 this
    rw [← h]
    exact hB.len x hx
  · have h1 := hs.length_le
    have h2 := hB.few
    simp only [ids, List.length_map] at h1
    omega
section
variable {on : Ent → Ent × Bool} {t : Nat}
theorem mid_ok {A C : List Ent} {e : Ent} (hB : BOk (A ++ e :: C)) (ht : t < 18446744073709551616) (hon : ∀ e, (on e).1.id = e.id) (hw : ∀ e, ((e.peer :: e.waits).Nodup ∧ e.waits.length ≤ 3) → (((on e).1.peer :: (on e).1.waits).Nodup ∧ (on e).1.waits.length ≤ 3)) (hs : ∀ e, (on e).1.since = e.since) :
    BOk (eachB on t A ++ e :: C) ∧ BOk (eachB on t A ++ (on e).1 :: C) := by
  have h1 : List.Sublist (ids (eachB on t A ++ e :: C)) (ids (A ++ e :: C)) := by
    rw [ids_app, ids_app]
    exact (each_ids (t := t) hon A).append (List.Sublist.refl _)
  have h2 : ids (eachB on t A ++ (on e).1 :: C) = ids (eachB on t A ++ e :: C) := by
    simp [ids, hon]
  have hA : ∀ x ∈ eachB on t A, ((x.peer :: x.waits).Nodup ∧ x.waits.length ≤ 3) ∧ x.since < 18446744073709551616 := by
    intro x hx
    unfold eachB at hx
    obtain ⟨y, hy, h⟩ := List.mem_filterMap.1 hx
    have hy2 : y ∈ A ++ e :: C := by simp [hy]
    have w1 := hw y (hB.wait y hy2)
    unfold eachE at h
    split at h
    · exact goE_ok ht w1 h
    · injection h with h
      rw [← h, hs]
      exact ⟨w1, hB.since y hy2⟩
  have hC : ∀ x ∈ e :: C, ((x.peer :: x.waits).Nodup ∧ x.waits.length ≤ 3) ∧ x.since < 18446744073709551616 := by
    intro x hx
    have hy2 : x ∈ A ++ e :: C := List.mem_append_right _ hx
    exact ⟨hB.wait x hy2, hB.since x hy2⟩
  refine ⟨ok_of hB h1 ?_, ok_of hB (h2 ▸ h1) ?_⟩
  · intro x hx
    rcases List.mem_append.1 hx with h | h
    · exact hA x h
    · exact hC x h
  · intro x hx
    rcases List.mem_append.1 hx with h | h
    · exact hA x h
    · rcases List.mem_cons.1 h with rfl | h
      · have := hC e (by simp)
        exact ⟨hw e this.1, by rw [hs]; exact this.2⟩
      · exact hC x (List.mem_cons_of_mem _ h)
theorem each_app (A C : List Ent) : eachB on t (A ++ C) = eachB on t A ++ eachB on t C := by simp [eachB]
theorem eachW_app (A C : List Ent) : eachW on (A ++ C) = eachW on A ++ eachW on C := by simp [eachW]
theorem eachW_len (A : List Ent) : (eachW on A).length ≤ A.length := List.length_filterMap_le _ _
end
section
variable {R : Nat → Prop} {base w : World} {F : List Hp}
theorem swapA (A M F : List Hp) : (A ++ (M ++ F)).Perm (M ++ (A ++ F)) := by
  rw [← List.append_assoc, ← List.append_assoc]
  exact List.perm_append_comm.append_right F
theorem swapB (A M E F : List Hp) : (A ++ (M ++ (E ++ F))).Perm (M ++ (E ++ (A ++ F))) := (swapA A M (E ++ F)).trans ((swapA A E F).append_left M)
/-- a book opened, with other parts kept ahead of it -/
theorem hB_openA (A : List Hp) {p : Nat} {B : List Ent} (hS : SepL R base w (hB p B :: (A ++ F))) : ∃ m ov l, elist l = B ∧ SepL R base w (A ++ (bookP p m ov l ++ (entsP l ++ F))) := by
  obtain ⟨m, ov, l, hl, h⟩ := hB_open hS
  exact ⟨m, ov, l, hl, h.perm (swapB A _ _ F).symm⟩
theorem hB_closeA (A : List Hp) {p m : Nat} {ov : Value} {l : List LE} (hS : SepL R base w (A ++ (bookP p m ov l ++ (entsP l ++ F)))) : SepL R base w (hB p (elist l) :: (A ++ F)) := hB_close (hS.perm (swapB A _ _ F))
theorem pullA (A : List Hp) {p m : Nat} {ov : Value} {l1 l2 : List LE} {x : LE} (hS : SepL R base w (A ++ (bookP p m ov (l1 ++ x :: l2) ++ (entsP (l1 ++ x :: l2) ++ F)))) : SepL R base w (entP x ++ (A ++ (bookP p m ov (l1 ++ x :: l2) ++ (entsP (l1 ++ l2) ++ F)))) := by
  rw [← List.append_assoc] at hS
  have h := pull hS
  rwa [List.append_assoc] at h
theorem relayA (A : List Hp) {p m : Nat} {ov : Value} {l1 l2 : List LE} {x : LE} {e : Ent} {v : Value} (hS : SepL R base w (.blk x.1.1 71 [.int .i64 e.peer, U e.since, v] :: .own 3 1 v (e.waits.map fun z => [I64 z]) :: (A ++ (bookP p m ov (l1 ++ x :: l2) ++ (entsP (l1 ++ l2) ++ F))))) (he : e.id = x.2.id) :
    SepL R base w (hB p (elist l1 ++ [e] ++ elist l2) :: (A ++ F)) := relay (m := m) (ov := ov) (x := x) (v := v) (hS.perm (((swapB A _ _ F).cons _).cons _)) he
theorem next_c {p : Nat} {B1 B2 : List Ent} {e : Ent} {t : Nat} {i : List Byte} (hS : SepL R base w (hB p (B1 ++ [e] ++ B2) :: F)) (ok : BOk (B1 ++ e :: B2)) (hi : e.id = i) :
    Calls Try.prog 37 #[.pointer (some ⟨p, 0, none⟩), .agg (i.map B8).toArray, U t] w (Ret fun r w' => r = nextR e ∧ SepL R base w' (hB p (B1 ++ (goE t e).toList ++ B2) :: F)) := by
  have h := next_s (t := t) (e := e) (B1 := B1) (B2 := B2) (by simpa using hS) ok
  rw [hi] at h
  exact h
theorem each_take {on : Ent → Ent × Bool} {t : Nat} {B : List Ent} {k : Nat} {e : Ent} (hk : k < B.length) (he : B[k] = e) : eachB on t (B.take (k + 1)) = eachB on t (B.take k) ++ (eachE on t e).toList := by
  rw [List.take_succ_eq_append_getElem hk, each_app, he]
  congr 1
theorem eachW_take {on : Ent → Ent × Bool} {B : List Ent} {k : Nat} {e : Ent} (hk : k < B.length) (he : B[k] = e) : eachW on (B.take (k + 1)) = eachW on (B.take k) ++ (wantE on e).toList := by
  rw [List.take_succ_eq_append_getElem hk, eachW_app, he]
  congr 1
end
end Go.Proofs.Ytafpdpcbckpkjaa
namespace Go.Proofs.Ytafpdpcbckpkjaa
open Go.RowKit Go.Px
section
variable {R : Nat → Prop} {base w : World} {F : List Hp}
set_option maxRecDepth 100000 in
set_option maxHeartbeats 4000000 in
theorem eachL {p t : Nat} {cap : Value} {X : Hp} {B : List Ent} {on : Ent → Ent × Bool} (hS : SepL R base w (hB p B :: X :: F)) (ok : BOk B) (ht : t < 18446744073709551616)
    (hid : ∀ e, (on e).1.id = e.id) (hw : ∀ e, ((e.peer :: e.waits).Nodup ∧ e.waits.length ≤ 3) → (((on e).1.peer :: (on e).1.waits).Nodup ∧ (on e).1.waits.length ≤ 3)) (hs : ∀ e, (on e).1.since = e.since)
    (hon : ∀ {R : Nat → Prop} {base w : World} {F : List Hp} {c : Nat} {v : Value} {e : Ent}, e.waits.length ≤ 3 → e.since < 18446744073709551616 → SepL R base w (.blk c 71 [.int .i64 e.peer, U e.since, v] :: .own 3 1 v (e.waits.map fun z => [I64 z]) :: X :: F) →
      Calls Try.prog 28 #[.pointer (some ⟨c, 0, none⟩), cap] w (Ret fun r w' => r = .bool (on e).2 ∧ ∃ v', SepL R base w' (.blk c 71 [.int .i64 (on e).1.peer, U (on e).1.since, v'] :: .own 3 1 v' ((on e).1.waits.map fun z => [I64 z]) :: X :: F))) :
    Calls Try.prog 27 #[.pointer (some ⟨p, 0, none⟩), U t, .func (.func 28) #[] #[cap]] w (Ret fun r w' => SepL R base w' (.own 55 33 r ((eachW on B).map wC) :: hB p (eachB on t B) :: X :: F)) := by
  obtain ⟨m, ov, l, hl, hS2⟩ := hB_openA [X] hS
  clear hS
  have hS := hS2.nilOwn 55 33
  clear hS2
  obtain ⟨n, hn⟩ : ∃ n, B.length = n := ⟨_, rfl⟩
  have HOL : Hid ((bys (ids B)).length = n) := by
    unfold Hid
    rw [bys_length, ← hn]
    simp [ids]
  have HFL := hide (flat_B8s (ids B))
  have hfew := ok.few
  rw [hn] at hfew
  have HCL : Hid ((bys (ids B)).length ≤ 1000000) := by
    unfold Hid
    rw [HOL.out]
    omega
  have HN := hide hn
  have HOK := hide ok
  have HLL := hide hl
  clear hn ok hl
  unfold bookP at hS
  rw [HLL.out] at hS
  go_enter Try.func27, Try.ntmps27
  go_wp2_with (first
    | (show wpList _ _ _ (⟨_, .load 22 _, _, _, _, _⟩ :: _) _ _; refine wpList_val rfl (op_load1S oneHashes ((hS.bring (by repeat (first | exact t0 | apply tS)))) rfl rfl rfl) ?_; go_frame)
    | (go_at_call 42; refine Ret.calls (clone_hash ov (bys (ids B)) _ ((hS.bring (by repeat (first | exact t0 | apply tS))).getOwn.rd) HFL.out HCL.out) ?_; rintro cv w2 hC; replace hS := hS.frameNew hC; clear hC; rw [← HLL.out] at hS)
    | (show wpList _ _ _ (⟨_, .call ⟨.builtin .len, _, _⟩, _, _, _, _⟩ :: _) _ _; refine wpList_val rfl (op_len slHash rfl rfl (v := cv) rfl ((hS.bring (by repeat (first | exact t0 | apply tS))).getOwn.rd)) ?_; rw [HLL.out, HOL.out]; go_frame)
    )
  replace hS : SepL R base w2 (hB p (elist l) :: ([.own 55 33 (.slice none 0 0) [], .own 28 32 cv (bys (ids (elist l))), X] ++ F)) := hB_closeA _ (m := m) (ov := ov) (hS.sel (by repeat (first | exact Sel.refl | refine Sel.take (by repeat (first | exact t0 | apply tS)) ?_ | apply Sel.drop)))
  rw [HLL.out] at hS
  go_loopw [7, 20] (fun av iv wr => ∃ k : Nat, iv = .int .i64 k ∧ k ≤ n ∧ SepL R base wr (hB p (eachB on t (B.take k) ++ B.drop k) :: .own 55 33 av ((eachW on (B.take k)).map wC) :: .own 28 32 cv (bys (ids B)) :: X :: F)) (fun _ iv _ => n - (intOf iv).toNat)
  case atStart => exact ⟨0, rfl, by omega, hS⟩
  case round =>
    clear hS HFL HCL HLL
    obtain ⟨k, rfl, hk, hS⟩ := hrel
    by_cases hlt : k < n
    · have hkB : k < B.length := by rw [HN.out]; exact hlt
      obtain ⟨e, he⟩ : ∃ e, B[k] = e := ⟨_, rfl⟩
      have hd : B.drop k = e :: B.drop (k + 1) := by rw [List.drop_eq_getElem_cons hkB, he]
      have ok := HOK.out
      have hsp : B = B.take k ++ e :: B.drop (k + 1) := by rw [← hd, List.take_append_drop]
      have ok0 := ok
      rw [hsp] at ok0
      obtain ⟨ok1, ok2⟩ := mid_ok ok0 ht hid hw hs
      have hbk : k < (bys (ids B)).length := by rw [HOL.out]; exact hlt
      have HT1 := each_take (on := on) (t := t) hkB he
      have HT2 := eachW_take (on := on) hkB he
      obtain ⟨A, hA⟩ : ∃ A, (eachW on (B.take k)).map wC = A := ⟨_, rfl⟩
      have HAL : Hid (A.length ≤ 32) := by
        unfold Hid
        rw [← hA, List.length_map]
        have := eachW_len (on := on) (B.take k)
        rw [List.length_take] at this
        omega
      rw [hA, hd] at hS
      replace hS : SepL R base wr (hB p (eachB on t (B.take k) ++ e :: B.drop (k + 1)) :: ([.own 55 33 u7 A, .own 28 32 cv (bys (ids B)), X] ++ F)) := hS
      obtain ⟨m, ov, l, hl, hS⟩ := hB_openA _ hS
      obtain ⟨l1, x, l2, hl2, h1, h2, h3⟩ := split_elist hl
      subst hl2
      replace hS := pullA _ hS
      have HBK : Hid ((bys (ids B))[k] = x.2.id.map B8) := by
        have : (ids B)[k]'(by rw [← bys_length]; exact hbk) = x.2.id := by
          simp only [ids, List.getElem_map, he, h2]
        exact (bys_get hbk (by rw [← bys_length]; exact hbk)).trans (by rw [this])
      rw [hl.symm] at ok1
      have HLK := hide (get_in ok1.nodup)
      rw [← h1, ← h2, ← h3] at ok2
      have hi : x.2.id.length = 32 := ok1.len x.2 (by rw [ents_mid]; simp)
      have hwt := ok1.wait x.2 (by rw [ents_mid]; simp)
      have HWT := hide hwt.2
      have HSN := hide (ok1.since x.2 (by rw [ents_mid]; simp))
      have KI := isKey hi
      have HID := hide (hid x.2)
      have HOK2 := hide ok2
      obtain ⟨i, hii⟩ : ∃ i, x.2.id = i := ⟨_, rfl⟩
      have HII2 : Hid ((on x.2).1.id = i) := by
        unfold Hid
        rw [hid, hii]
      rw [hii] at hi KI HLK HBK
      have HI32 : Hid ((i.map B8).length = 32) := by simp [Hid, hi]
      clear hd ok0 ok ok1 ok2 hsp hi hwt he
      rw [← h2] at HT1 HT2
      rw [← h1] at HT1
      unfold HV at KI HLK
      unfold bookP entP entC at hS
      obtain ⟨d, hdd⟩ : ∃ d, B.drop (k + 1) = d := ⟨_, rfl⟩
      have HNX : Hid (∀ G, elist l1 ++ (eachE on t x.2).toList ++ elist l2 = G → eachB on t (B.take (k + 1)) ++ B.drop (k + 1) = G) := by
        rintro G rfl
        rw [HT1, ← h3]
      have HWX : Hid (∀ G, A ++ (wantE on x.2).toList.map wC = G → (eachW on (B.take (k + 1))).map wC = G) := by
        rintro G rfl
        rw [HT2, List.map_append, hA]
      clear HT1 HT2 hdd h1 h2 h3 hl hA
      by_cases hq : (on x.2).2 = true
      · have HQ := hide hq
        cases hwt : (on x.2).1.waits with
        | nil =>
          have HNR : Hid (nextR (on x.2).1 = .tuple #[.int .i64 0, .bool false]) := by
            unfold Hid nextR
            rw [hwt]
          have HGE : Hid (goE t (on x.2).1 = none) := by
            unfold Hid goE
            rw [hwt]
          have HE : Hid (eachE on t x.2 = none) := by
            unfold Hid eachE
            rw [if_pos hq, HGE.out]
          have HW : Hid (wantE on x.2 = none) := by
            unfold Hid wantE
            rw [if_pos hq, hwt]
            rfl
          rw [HE.out] at HNX
          rw [HW.out] at HWX
          clear hwt hq HE HW
          go_wp2_with (first
            | (show wpList _ _ _ (⟨some 22, .indexAddr _ _ _, _, _, _, _⟩ :: _) _ _; refine wpList_val rfl (op_indexAddr slHash rfl (v := cv) rfl (k := k) rfl ((hS.bring (by repeat (first | exact t0 | apply tS))).getOwn.rd) hbk) ?_; go_frame)
            | (show wpList _ _ _ (⟨some 23, .load _ _, _, _, _, _⟩ :: _) _ _; refine wpList_val rfl (op_loadE aggHash rfl (v := cv) (k := k) rfl ((hS.bring (by repeat (first | exact t0 | apply tS))).getOwn.rd) hbk) ?_; rw [HBK.out]; go_frame)
            | (show wpList _ _ _ (⟨_, .alloc 28, _, _, _, _⟩ :: _) _ _; refine wpS_alloc hS rfl rfl Try.zeroValue28 (zs := List.replicate 32 (.int .u8 0)) rfl ?_; clear hS; intro nb w hS; go_frame)
            | (show wpList _ _ _ (⟨_, .store 28 _ _, _, _, _, _⟩ :: _) _ _; (refine wpS_storeAll aggHash (hS.bring (by repeat (first | exact t0 | apply tS))) rfl rfl rfl (vs := i.map B8) rfl HI32.out (flat_B8 i) (by simp) ?_); clear hS; intro w hS; go_frame)
            )
          refine wp_region_text (by kernel_rfl) (by kernel_rfl) (by repeat (first | exact Clean.body | refine Clean.then ?_ | refine Clean.inBlock ?_)) ?_
          replace hS := hS.drew
          go_wp2_with (first
            | (show wpList _ _ _ (⟨_, .load 66 _, _, _, _, _⟩ :: _) _ _; refine wpList_val rfl (op_load1S oneMap ((hS.bring (by repeat (first | exact t0 | apply tS)))) rfl rfl rfl) ?_; go_frame)
            | (show wpList _ _ _ (⟨_, .load 28 _, _, _, _, _⟩ :: _) _ _; refine wpList_val rfl (op_load aggHash rfl rfl ((hS.bring (by repeat (first | exact t0 | apply tS))).getBlk.cells) HI32.out) ?_; go_frame)
            | (show wpList _ _ _ (⟨_, .lookup 66 _ _ false, _, _, _, _⟩ :: _) _ _; refine wpList_val rfl (op_lookup mapTy rfl rfl (x := .agg (i.map B8).toArray) rfl ((hS.bring (by repeat (first | exact t0 | apply tS))).getMap) KI) ?_; rw [HLK.out]; go_frame)
            | (go_at_call 28; refine Ret.calls (hon (e := x.2) (c := x.1.1) (v := x.1.2) (F := .blk nb 28 (i.map B8) :: .own 55 33 u7 A :: .own 28 32 cv (bys (ids B)) :: (bookP p m ov (l1 ++ x :: l2) ++ (entsP (l1 ++ l2) ++ F))) HWT.out HSN.out (by exact hS.sel (by repeat (first | exact Sel.refl | refine Sel.take (by repeat (first | exact t0 | apply tS)) ?_ | apply Sel.drop)))) ?_; clear hS; rintro r w ⟨rfl, v', hS⟩; rw [HQ.out]; replace hS : SepL R base w (hB p (elist l1 ++ [(on x.2).1] ++ elist l2) :: ([.blk nb 28 (i.map B8), .own 55 33 u7 A, .own 28 32 cv (bys (ids B)), X] ++ F)) := relayA _ (m := m) (ov := ov) (x := x) (v := v') (e := (on x.2).1) (by exact hS.sel (by repeat (first | exact Sel.refl | refine Sel.take (by repeat (first | exact t0 | apply tS)) ?_ | apply Sel.drop))) HID.out)
            | (go_at_call 37; refine Ret.calls (next_c hS HOK2.out HII2.out) ?_; clear hS; rintro r w ⟨rfl, hS⟩; rw [HNR.out]; rw [HGE.out] at hS)
            | (refine fin_mk (by kernel_rfl) ?_)
            )
          go_roundw
          case rel =>
            refine ⟨k + 1, by go_num, by omega, ?_⟩
            rw [HNX.out _ rfl, HWX.out A (by simp)]
            exact hS.sel (by repeat (first | exact Sel.refl | refine Sel.take (by repeat (first | exact t0 | apply tS)) ?_ | apply Sel.drop))
          case measure => simp [intOf]; omega
        | cons h r =>
          have HNR : Hid (nextR (on x.2).1 = .tuple #[.int .i64 h, .bool true]) := by
            unfold Hid nextR
            rw [hwt]
          have HGE : Hid (goE t (on x.2).1 = some { (on x.2).1 with peer := h, since := t, waits := r }) := by
            unfold Hid goE
            rw [hwt]
          have HE : Hid (eachE on t x.2 = some { (on x.2).1 with peer := h, since := t, waits := r }) := by
            unfold Hid eachE
            rw [if_pos hq, HGE.out]
          have HW : Hid (wantE on x.2 = some (i, h)) := by
            unfold Hid wantE
            rw [if_pos hq, hwt, ← HII2.out, HID.out]
            rfl
          have HW33 : Hid ((i.map B8 ++ [Value.int .i64 h]).length = 33) := by
            unfold Hid
            rw [List.length_append, HI32.out]
            rfl
          have HF1 : Hid (Flat [i.map B8 ++ [Value.int .i64 h]]) := by
            intro z hz
            rw [List.mem_singleton.1 hz]
            exact flat_want i h
          rw [HE.out] at HNX
          rw [HW.out] at HWX
          clear hwt hq HE HW
          go_wp2_with (first
            | (show wpList _ _ _ (⟨some 22, .indexAddr _ _ _, _, _, _, _⟩ :: _) _ _; refine wpList_val rfl (op_indexAddr slHash rfl (v := cv) rfl (k := k) rfl ((hS.bring (by repeat (first | exact t0 | apply tS))).getOwn.rd) hbk) ?_; go_frame)
            | (show wpList _ _ _ (⟨some 23, .load _ _, _, _, _, _⟩ :: _) _ _; refine wpList_val rfl (op_loadE aggHash rfl (v := cv) (k := k) rfl ((hS.bring (by repeat (first | exact t0 | apply tS))).getOwn.rd) hbk) ?_; rw [HBK.out]; go_frame)
            | (show wpList _ _ _ (⟨_, .alloc 28, _, _, _, _⟩ :: _) _ _; refine wpS_alloc hS rfl rfl Try.zeroValue28 (zs := List.replicate 32 (.int .u8 0)) rfl ?_; clear hS; intro nb w hS; go_frame)
            | (show wpList _ _ _ (⟨_, .store 28 _ _, _, _, _, _⟩ :: _) _ _; (refine wpS_storeAll aggHash (hS.bring (by repeat (first | exact t0 | apply tS))) rfl rfl rfl (vs := i.map B8) rfl HI32.out (flat_B8 i) (by simp) ?_); clear hS; intro w hS; go_frame)
            )
          refine wp_region_text (by kernel_rfl) (by kernel_rfl) (by repeat (first | exact Clean.body | refine Clean.then ?_ | refine Clean.inBlock ?_)) ?_
          replace hS := hS.drew
          go_wp2_with (first
            | (show wpList _ _ _ (⟨_, .load 66 _, _, _, _, _⟩ :: _) _ _; refine wpList_val rfl (op_load1S oneMap ((hS.bring (by repeat (first | exact t0 | apply tS)))) rfl rfl rfl) ?_; go_frame)
            | (show wpList _ _ _ (⟨_, .load 28 _, _, _, _, _⟩ :: _) _ _; refine wpList_val rfl (op_load aggHash rfl rfl ((hS.bring (by repeat (first | exact t0 | apply tS))).getBlk.cells) HI32.out) ?_; go_frame)
            | (show wpList _ _ _ (⟨_, .lookup 66 _ _ false, _, _, _, _⟩ :: _) _ _; refine wpList_val rfl (op_lookup mapTy rfl rfl (x := .agg (i.map B8).toArray) rfl ((hS.bring (by repeat (first | exact t0 | apply tS))).getMap) KI) ?_; rw [HLK.out]; go_frame)
            | (go_at_call 28; refine Ret.calls (hon (e := x.2) (c := x.1.1) (v := x.1.2) (F := .blk nb 28 (i.map B8) :: .own 55 33 u7 A :: .own 28 32 cv (bys (ids B)) :: (bookP p m ov (l1 ++ x :: l2) ++ (entsP (l1 ++ l2) ++ F))) HWT.out HSN.out (by exact hS.sel (by repeat (first | exact Sel.refl | refine Sel.take (by repeat (first | exact t0 | apply tS)) ?_ | apply Sel.drop)))) ?_; clear hS; rintro r w ⟨rfl, v', hS⟩; rw [HQ.out]; replace hS : SepL R base w (hB p (elist l1 ++ [(on x.2).1] ++ elist l2) :: ([.blk nb 28 (i.map B8), .own 55 33 u7 A, .own 28 32 cv (bys (ids B)), X] ++ F)) := relayA _ (m := m) (ov := ov) (x := x) (v := v') (e := (on x.2).1) (by exact hS.sel (by repeat (first | exact Sel.refl | refine Sel.take (by repeat (first | exact t0 | apply tS)) ?_ | apply Sel.drop))) HID.out)
            | (go_at_call 37; refine Ret.calls (next_c hS HOK2.out HII2.out) ?_; clear hS; rintro r w ⟨rfl, hS⟩; rw [HNR.out]; rw [HGE.out] at hS)
            | (show wpList _ _ _ (⟨_, .build 55 _, _, _, _, _⟩ :: _) _ _; refine wpList_val rfl (op_build (ps := #[(0, .agg (i.map B8).toArray), (1, .int .i64 h)]) rfl rfl (buildWant i HI32.out h) _) ?_; go_frame)
            | (show wpList _ _ _ (⟨_, .buildSlice 30 1 _, _, _, _, _⟩ :: _) _ _; refine wpS_build1A slWant (by omega) hS rfl rfl (cs := i.map B8 ++ [.int .i64 h]) rfl HW33.out ?_; clear hS; intro v1 w hS; go_frame)
            | (show wpList _ _ _ (⟨_, .call ⟨.builtin .append, _, _⟩, _, _, _, _⟩ :: _) _ _; (refine wpS_append slWant (hS.bring (by repeat (first | exact t0 | apply tS))) rfl rfl (sv := u7) rfl rfl (ys := [i.map B8 ++ [.int .i64 h]]) ((hS.bring (by repeat (first | exact t0 | apply tS))).getOwn.rd) HF1.out (by rw [List.length_singleton]; have := HAL.out; omega) (by rw [List.length_singleton]; have := HAL.out; simp only [maxLen]; omega) ?_); clear hS; intro v2 w hS; go_frame)
            | (refine fin_mk (by kernel_rfl) ?_)
            )
          go_roundw
          case rel =>
            refine ⟨k + 1, by go_num, by omega, ?_⟩
            rw [HNX.out _ rfl, HWX.out _ rfl]
            exact hS.sel (by repeat (first | exact Sel.refl | refine Sel.take (by repeat (first | exact t0 | apply tS)) ?_ | apply Sel.drop))
          case measure => simp [intOf]; omega
      · have hq2 : (on x.2).2 = false := by simpa using hq
        have HQ := hide hq2
        have HE : Hid (eachE on t x.2 = some (on x.2).1) := by
          unfold Hid eachE
          rw [if_neg hq]
        have HW : Hid (wantE on x.2 = none) := by
          unfold Hid wantE
          rw [if_neg hq]
        rw [HE.out] at HNX
        rw [HW.out] at HWX
        clear hq2 hq HE HW
        go_wp2_with (first
          | (show wpList _ _ _ (⟨some 22, .indexAddr _ _ _, _, _, _, _⟩ :: _) _ _; refine wpList_val rfl (op_indexAddr slHash rfl (v := cv) rfl (k := k) rfl ((hS.bring (by repeat (first | exact t0 | apply tS))).getOwn.rd) hbk) ?_; go_frame)
          | (show wpList _ _ _ (⟨some 23, .load _ _, _, _, _, _⟩ :: _) _ _; refine wpList_val rfl (op_loadE aggHash rfl (v := cv) (k := k) rfl ((hS.bring (by repeat (first | exact t0 | apply tS))).getOwn.rd) hbk) ?_; rw [HBK.out]; go_frame)
          | (show wpList _ _ _ (⟨_, .alloc 28, _, _, _, _⟩ :: _) _ _; refine wpS_alloc hS rfl rfl Try.zeroValue28 (zs := List.replicate 32 (.int .u8 0)) rfl ?_; clear hS; intro nb w hS; go_frame)
          | (show wpList _ _ _ (⟨_, .store 28 _ _, _, _, _, _⟩ :: _) _ _; (refine wpS_storeAll aggHash (hS.bring (by repeat (first | exact t0 | apply tS))) rfl rfl rfl (vs := i.map B8) rfl HI32.out (flat_B8 i) (by simp) ?_); clear hS; intro w hS; go_frame)
          )
        refine wp_region_text (by kernel_rfl) (by kernel_rfl) (by repeat (first | exact Clean.body | refine Clean.then ?_ | refine Clean.inBlock ?_)) ?_
        replace hS := hS.drew
        go_wp2_with (first
          | (show wpList _ _ _ (⟨_, .load 66 _, _, _, _, _⟩ :: _) _ _; refine wpList_val rfl (op_load1S oneMap ((hS.bring (by repeat (first | exact t0 | apply tS)))) rfl rfl rfl) ?_; go_frame)
          | (show wpList _ _ _ (⟨_, .load 28 _, _, _, _, _⟩ :: _) _ _; refine wpList_val rfl (op_load aggHash rfl rfl ((hS.bring (by repeat (first | exact t0 | apply tS))).getBlk.cells) HI32.out) ?_; go_frame)
          | (show wpList _ _ _ (⟨_, .lookup 66 _ _ false, _, _, _, _⟩ :: _) _ _; refine wpList_val rfl (op_lookup mapTy rfl rfl (x := .agg (i.map B8).toArray) rfl ((hS.bring (by repeat (first | exact t0 | apply tS))).getMap) KI) ?_; rw [HLK.out]; go_frame)
          | (go_at_call 28; refine Ret.calls (hon (e := x.2) (c := x.1.1) (v := x.1.2) (F := .blk nb 28 (i.map B8) :: .own 55 33 u7 A :: .own 28 32 cv (bys (ids B)) :: (bookP p m ov (l1 ++ x :: l2) ++ (entsP (l1 ++ l2) ++ F))) HWT.out HSN.out (by exact hS.sel (by repeat (first | exact Sel.refl | refine Sel.take (by repeat (first | exact t0 | apply tS)) ?_ | apply Sel.drop)))) ?_; clear hS; rintro r w ⟨rfl, v', hS⟩; rw [HQ.out]; replace hS : SepL R base w (hB p (elist l1 ++ [(on x.2).1] ++ elist l2) :: ([.blk nb 28 (i.map B8), .own 55 33 u7 A, .own 28 32 cv (bys (ids B)), X] ++ F)) := relayA _ (m := m) (ov := ov) (x := x) (v := v') (e := (on x.2).1) (by exact hS.sel (by repeat (first | exact Sel.refl | refine Sel.take (by repeat (first | exact t0 | apply tS)) ?_ | apply Sel.drop))) HID.out)
          | (refine fin_mk (by kernel_rfl) ?_)
          )
        go_roundw
        case rel =>
          refine ⟨k + 1, by go_num, by omega, ?_⟩
          rw [HNX.out _ rfl, HWX.out A (by simp)]
          exact hS.sel (by repeat (first | exact Sel.refl | refine Sel.take (by repeat (first | exact t0 | apply tS)) ?_ | apply Sel.drop))
        case measure => simp [intOf]; omega
    · have hk2 : k = n := by omega
      subst hk2
      have h1 : B.take k = B := List.take_of_length_le (Nat.le_of_eq HN.out)
      have h2 : B.drop k = [] := List.drop_eq_nil_of_le (Nat.le_of_eq HN.out)
      rw [h1, h2, List.append_nil] at hS
      go_wp2_with fail
      go_ret
      exact hS.sel (by repeat (first | exact Sel.refl | refine Sel.take (by repeat (first | exact t0 | apply tS)) ?_ | apply Sel.drop))
end
end Go.Proofs.Ytafpdpcbckpkjaa
namespace Go.Proofs.Ytafpdpcbckpkjaa
open Go.RowKit Go.Px
section
variable {R : Nat → Prop} {base w : World} {F : List Hp}
set_option maxRecDepth 100000 in
set_option maxHeartbeats 4000000 in
theorem eachG {p t : Nat} {cap : Value} {X : Hp} {B : List Ent} {on : Ent → Ent × Bool} (hS : SepL R base w (hB p B :: X :: F)) (ok : BOk B) (ht : t < 18446744073709551616)
    (hid : ∀ e, (on e).1.id = e.id) (hw : ∀ e, ((e.peer :: e.waits).Nodup ∧ e.waits.length ≤ 3) → (((on e).1.peer :: (on e).1.waits).Nodup ∧ (on e).1.waits.length ≤ 3)) (hs : ∀ e, (on e).1.since = e.since)
    (hon : ∀ {R : Nat → Prop} {base w : World} {F : List Hp} {c : Nat} {v : Value} {e : Ent}, e.waits.length ≤ 3 → e.since < 18446744073709551616 → SepL R base w (.blk c 71 [.int .i64 e.peer, U e.since, v] :: .own 3 1 v (e.waits.map fun z => [I64 z]) :: X :: F) →
      Calls Try.prog 40 #[.pointer (some ⟨c, 0, none⟩), cap] w (Ret fun r w' => r = .bool (on e).2 ∧ ∃ v', SepL R base w' (.blk c 71 [.int .i64 (on e).1.peer, U (on e).1.since, v'] :: .own 3 1 v' ((on e).1.waits.map fun z => [I64 z]) :: X :: F))) :
    Calls Try.prog 27 #[.pointer (some ⟨p, 0, none⟩), U t, .func (.func 40) #[] #[cap]] w (Ret fun r w' => SepL R base w' (.own 55 33 r ((eachW on B).map wC) :: hB p (eachB on t B) :: X :: F)) := by
  obtain ⟨m, ov, l, hl, hS2⟩ := hB_openA [X] hS
  clear hS
  have hS := hS2.nilOwn 55 33
  clear hS2
  obtain ⟨n, hn⟩ : ∃ n, B.length = n := ⟨_, rfl⟩
  have HOL : Hid ((bys (ids B)).length = n) := by
    unfold Hid
    rw [bys_length, ← hn]
    simp [ids]
  have HFL := hide (flat_B8s (ids B))
  have hfew := ok.few
  rw [hn] at hfew
  have HCL : Hid ((bys (ids B)).length ≤ 1000000) := by
    unfold Hid
    rw [HOL.out]
    omega
  have HN := hide hn
  have HOK := hide ok
  have HLL := hide hl
  clear hn ok hl
  unfold bookP at hS
  rw [HLL.out] at hS
  go_enter Try.func27, Try.ntmps27
  go_wp2_with (first
    | (show wpList _ _ _ (⟨_, .load 22 _, _, _, _, _⟩ :: _) _ _; refine wpList_val rfl (op_load1S oneHashes ((hS.bring (by repeat (first | exact t0 | apply tS)))) rfl rfl rfl) ?_; go_frame)
    | (go_at_call 42; refine Ret.calls (clone_hash ov (bys (ids B)) _ ((hS.bring (by repeat (first | exact t0 | apply tS))).getOwn.rd) HFL.out HCL.out) ?_; rintro cv w2 hC; replace hS := hS.frameNew hC; clear hC; rw [← HLL.out] at hS)
    | (show wpList _ _ _ (⟨_, .call ⟨.builtin .len, _, _⟩, _, _, _, _⟩ :: _) _ _; refine wpList_val rfl (op_len slHash rfl rfl (v := cv) rfl ((hS.bring (by repeat (first | exact t0 | apply tS))).getOwn.rd)) ?_; rw [HLL.out, HOL.out]; go_frame)
    )
  replace hS : SepL R base w2 (hB p (elist l) :: ([.own 55 33 (.slice none 0 0) [], .own 28 32 cv (bys (ids (elist l))), X] ++ F)) := hB_closeA _ (m := m) (ov := ov) (hS.sel (by repeat (first | exact Sel.refl | refine Sel.take (by repeat (first | exact t0 | apply tS)) ?_ | apply Sel.drop)))
  rw [HLL.out] at hS
  go_loopw [7, 20] (fun av iv wr => ∃ k : Nat, iv = .int .i64 k ∧ k ≤ n ∧ SepL R base wr (hB p (eachB on t (B.take k) ++ B.drop k) :: .own 55 33 av ((eachW on (B.take k)).map wC) :: .own 28 32 cv (bys (ids B)) :: X :: F)) (fun _ iv _ => n - (intOf iv).toNat)
  case atStart => exact ⟨0, rfl, by omega, hS⟩
  case round =>
    clear hS HFL HCL HLL
    obtain ⟨k, rfl, hk, hS⟩ := hrel
    by_cases hlt : k < n
    · have hkB : k < B.length := by rw [HN.out]; exact hlt
      obtain ⟨e, he⟩ : ∃ e, B[k] = e := ⟨_, rfl⟩
      have hd : B.drop k = e :: B.drop (k + 1) := by rw [List.drop_eq_getElem_cons hkB, he]
      have ok := HOK.out
      have hsp : B = B.take k ++ e :: B.drop (k + 1) := by rw [← hd, List.take_append_drop]
      have ok0 := ok
      rw [hsp] at ok0
      obtain ⟨ok1, ok2⟩ := mid_ok ok0 ht hid hw hs
      have hbk : k < (bys (ids B)).length := by rw [HOL.out]; exact hlt
      have HT1 := each_take (on := on) (t := t) hkB he
      have HT2 := eachW_take (on := on) hkB he
      obtain ⟨A, hA⟩ : ∃ A, (eachW on (B.take k)).map wC = A := ⟨_, rfl⟩
      have HAL : Hid (A.length ≤ 32) := by
        unfold Hid
        rw [← hA, List.length_map]
        have := eachW_len (on := on) (B.take k)
        rw [List.length_take] at this
        omega
      rw [hA, hd] at hS
      replace hS : SepL R base wr (hB p (eachB on t (B.take k) ++ e :: B.drop (k + 1)) :: ([.own 55 33 u7 A, .own 28 32 cv (bys (ids B)), X] ++ F)) := hS
      obtain ⟨m, ov, l, hl, hS⟩ := hB_openA _ hS
      obtain ⟨l1, x, l2, hl2, h1, h2, h3⟩ := split_elist hl
      subst hl2
      replace hS := pullA _ hS
      have HBK : Hid ((bys (ids B))[k] = x.2.id.map B8) := by
        have : (ids B)[k]'(by rw [← bys_length]; exact hbk) = x.2.id := by
          simp only [ids, List.getElem_map, he, h2]
        exact (bys_get hbk (by rw [← bys_length]; exact hbk)).trans (by rw [this])
      rw [hl.symm] at ok1
      have HLK := hide (get_in ok1.nodup)
      rw [← h1, ← h2, ← h3] at ok2
      have hi : x.2.id.length = 32 := ok1.len x.2 (by rw [ents_mid]; simp)
      have hwt := ok1.wait x.2 (by rw [ents_mid]; simp)
      have HWT := hide hwt.2
      have HSN := hide (ok1.since x.2 (by rw [ents_mid]; simp))
      have KI := isKey hi
      have HID := hide (hid x.2)
      have HOK2 := hide ok2
      obtain ⟨i, hii⟩ : ∃ i, x.2.id = i := ⟨_, rfl⟩
      have HII2 : Hid ((on x.2).1.id = i) := by
        unfold Hid
        rw [hid, hii]
      rw [hii] at hi KI HLK HBK
      have HI32 : Hid ((i.map B8).length = 32) := by simp [Hid, hi]
      clear hd ok0 ok ok1 ok2 hsp hi hwt he
      rw [← h2] at HT1 HT2
      rw [← h1] at HT1
      unfold HV at KI HLK
      unfold bookP entP entC at hS
      obtain ⟨d, hdd⟩ : ∃ d, B.drop (k + 1) = d := ⟨_, rfl⟩
      have HNX : Hid (∀ G, elist l1 ++ (eachE on t x.2).toList ++ elist l2 = G → eachB on t (B.take (k + 1)) ++ B.drop (k + 1) = G) := by
        rintro G rfl
        rw [HT1, ← h3]
      have HWX : Hid (∀ G, A ++ (wantE on x.2).toList.map wC = G → (eachW on (B.take (k + 1))).map wC = G) := by
        rintro G rfl
        rw [HT2, List.map_append, hA]
      clear HT1 HT2 hdd h1 h2 h3 hl hA
      by_cases hq : (on x.2).2 = true
      · have HQ := hide hq
        cases hwt : (on x.2).1.waits with
        | nil =>
          have HNR : Hid (nextR (on x.2).1 = .tuple #[.int .i64 0, .bool false]) := by
            unfold Hid nextR
            rw [hwt]
          have HGE : Hid (goE t (on x.2).1 = none) := by
            unfold Hid goE
            rw [hwt]
          have HE : Hid (eachE on t x.2 = none) := by
            unfold Hid eachE
            rw [if_pos hq, HGE.out]
          have HW : Hid (wantE on x.2 = none) := by
            unfold Hid wantE
            rw [if_pos hq, hwt]
            rfl
          rw [HE.out] at HNX
          rw [HW.out] at HWX
          clear hwt hq HE HW
          go_wp2_with (first
            | (show wpList _ _ _ (⟨some 22, .indexAddr _ _ _, _, _, _, _⟩ :: _) _ _; refine wpList_val rfl (op_indexAddr slHash rfl (v := cv) rfl (k := k) rfl ((hS.bring (by repeat (first | exact t0 | apply tS))).getOwn.rd) hbk) ?_; go_frame)
            | (show wpList _ _ _ (⟨some 23, .load _ _, _, _, _, _⟩ :: _) _ _; refine wpList_val rfl (op_loadE aggHash rfl (v := cv) (k := k) rfl ((hS.bring (by repeat (first | exact t0 | apply tS))).getOwn.rd) hbk) ?_; rw [HBK.out]; go_frame)
            | (show wpList _ _ _ (⟨_, .alloc 28, _, _, _, _⟩ :: _) _ _; refine wpS_alloc hS rfl rfl Try.zeroValue28 (zs := List.replicate 32 (.int .u8 0)) rfl ?_; clear hS; intro nb w hS; go_frame)
            | (show wpList _ _ _ (⟨_, .store 28 _ _, _, _, _, _⟩ :: _) _ _; (refine wpS_storeAll aggHash (hS.bring (by repeat (first | exact t0 | apply tS))) rfl rfl rfl (vs := i.map B8) rfl HI32.out (flat_B8 i) (by simp) ?_); clear hS; intro w hS; go_frame)
            )
          refine wp_region_text (by kernel_rfl) (by kernel_rfl) (by repeat (first | exact Clean.body | refine Clean.then ?_ | refine Clean.inBlock ?_)) ?_
          replace hS := hS.drew
          go_wp2_with (first
            | (show wpList _ _ _ (⟨_, .load 66 _, _, _, _, _⟩ :: _) _ _; refine wpList_val rfl (op_load1S oneMap ((hS.bring (by repeat (first | exact t0 | apply tS)))) rfl rfl rfl) ?_; go_frame)
            | (show wpList _ _ _ (⟨_, .load 28 _, _, _, _, _⟩ :: _) _ _; refine wpList_val rfl (op_load aggHash rfl rfl ((hS.bring (by repeat (first | exact t0 | apply tS))).getBlk.cells) HI32.out) ?_; go_frame)
            | (show wpList _ _ _ (⟨_, .lookup 66 _ _ false, _, _, _, _⟩ :: _) _ _; refine wpList_val rfl (op_lookup mapTy rfl rfl (x := .agg (i.map B8).toArray) rfl ((hS.bring (by repeat (first | exact t0 | apply tS))).getMap) KI) ?_; rw [HLK.out]; go_frame)
            | (go_at_call 40; refine Ret.calls (hon (e := x.2) (c := x.1.1) (v := x.1.2) (F := .blk nb 28 (i.map B8) :: .own 55 33 u7 A :: .own 28 32 cv (bys (ids B)) :: (bookP p m ov (l1 ++ x :: l2) ++ (entsP (l1 ++ l2) ++ F))) HWT.out HSN.out (by exact hS.sel (by repeat (first | exact Sel.refl | refine Sel.take (by repeat (first | exact t0 | apply tS)) ?_ | apply Sel.drop)))) ?_; clear hS; rintro r w ⟨rfl, v', hS⟩; rw [HQ.out]; replace hS : SepL R base w (hB p (elist l1 ++ [(on x.2).1] ++ elist l2) :: ([.blk nb 28 (i.map B8), .own 55 33 u7 A, .own 28 32 cv (bys (ids B)), X] ++ F)) := relayA _ (m := m) (ov := ov) (x := x) (v := v') (e := (on x.2).1) (by exact hS.sel (by repeat (first | exact Sel.refl | refine Sel.take (by repeat (first | exact t0 | apply tS)) ?_ | apply Sel.drop))) HID.out)
            | (go_at_call 37; refine Ret.calls (next_c hS HOK2.out HII2.out) ?_; clear hS; rintro r w ⟨rfl, hS⟩; rw [HNR.out]; rw [HGE.out] at hS)
            | (refine fin_mk (by kernel_rfl) ?_)
            )
          go_roundw
          case rel =>
            refine ⟨k + 1, by go_num, by omega, ?_⟩
            rw [HNX.out _ rfl, HWX.out A (by simp)]
            exact hS.sel (by repeat (first | exact Sel.refl | refine Sel.take (by repeat (first | exact t0 | apply tS)) ?_ | apply Sel.drop))
          case measure => simp [intOf]; omega
        | cons h r =>
          have HNR : Hid (nextR (on x.2).1 = .tuple #[.int .i64 h, .bool true]) := by
            unfold Hid nextR
            rw [hwt]
          have HGE : Hid (goE t (on x.2).1 = some { (on x.2).1 with peer := h, since := t, waits := r }) := by
            unfold Hid goE
            rw [hwt]
          have HE : Hid (eachE on t x.2 = some { (on x.2).1 with peer := h, since := t, waits := r }) := by
            unfold Hid eachE
            rw [if_pos hq, HGE.out]
          have HW : Hid (wantE on x.2 = some (i, h)) := by
            unfold Hid wantE
            rw [if_pos hq, hwt, ← HII2.out, HID.out]
            rfl
          have HW33 : Hid ((i.map B8 ++ [Value.int .i64 h]).length = 33) := by
            unfold Hid
            rw [List.length_append, HI32.out]
            rfl
          have HF1 : Hid (Flat [i.map B8 ++ [Value.int .i64 h]]) := by
            intro z hz
            rw [List.mem_singleton.1 hz]
            exact flat_want i h
          rw [HE.out] at HNX
          rw [HW.out] at HWX
          clear hwt hq HE HW
          go_wp2_with (first
            | (show wpList _ _ _ (⟨some 22, .indexAddr _ _ _, _, _, _, _⟩ :: _) _ _; refine wpList_val rfl (op_indexAddr slHash rfl (v := cv) rfl (k := k) rfl ((hS.bring (by repeat (first | exact t0 | apply tS))).getOwn.rd) hbk) ?_; go_frame)
            | (show wpList _ _ _ (⟨some 23, .load _ _, _, _, _, _⟩ :: _) _ _; refine wpList_val rfl (op_loadE aggHash rfl (v := cv) (k := k) rfl ((hS.bring (by repeat (first | exact t0 | apply tS))).getOwn.rd) hbk) ?_; rw [HBK.out]; go_frame)
            | (show wpList _ _ _ (⟨_, .alloc 28, _, _, _, _⟩ :: _) _ _; refine wpS_alloc hS rfl rfl Try.zeroValue28 (zs := List.replicate 32 (.int .u8 0)) rfl ?_; clear hS; intro nb w hS; go_frame)
            | (show wpList _ _ _ (⟨_, .store 28 _ _, _, _, _, _⟩ :: _) _ _; (refine wpS_storeAll aggHash (hS.bring (by repeat (first | exact t0 | apply tS))) rfl rfl rfl (vs := i.map B8) rfl HI32.out (flat_B8 i) (by simp) ?_); clear hS; intro w hS; go_frame)
            )
          refine wp_region_text (by kernel_rfl) (by kernel_rfl) (by repeat (first | exact Clean.body | refine Clean.then ?_ | refine Clean.inBlock ?_)) ?_
          replace hS := hS.drew
          go_wp2_with (first
            | (show wpList _ _ _ (⟨_, .load 66 _, _, _, _, _⟩ :: _) _ _; refine wpList_val rfl (op_load1S oneMap ((hS.bring (by repeat (first | exact t0 | apply tS)))) rfl rfl rfl) ?_; go_frame)
            | (show wpList _ _ _ (⟨_, .load 28 _, _, _, _, _⟩ :: _) _ _; refine wpList_val rfl (op_load aggHash rfl rfl ((hS.bring (by repeat (first | exact t0 | apply tS))).getBlk.cells) HI32.out) ?_; go_frame)
            | (show wpList _ _ _ (⟨_, .lookup 66 _ _ false, _, _, _, _⟩ :: _) _ _; refine wpList_val rfl (op_lookup mapTy rfl rfl (x := .agg (i.map B8).toArray) rfl ((hS.bring (by repeat (first | exact t0 | apply tS))).getMap) KI) ?_; rw [HLK.out]; go_frame)
            | (go_at_call 40; refine Ret.calls (hon (e := x.2) (c := x.1.1) (v := x.1.2) (F := .blk nb 28 (i.map B8) :: .own 55 33 u7 A :: .own 28 32 cv (bys (ids B)) :: (bookP p m ov (l1 ++ x :: l2) ++ (entsP (l1 ++ l2) ++ F))) HWT.out HSN.out (by exact hS.sel (by repeat (first | exact Sel.refl | refine Sel.take (by repeat (first | exact t0 | apply tS)) ?_ | apply Sel.drop)))) ?_; clear hS; rintro r w ⟨rfl, v', hS⟩; rw [HQ.out]; replace hS : SepL R base w (hB p (elist l1 ++ [(on x.2).1] ++ elist l2) :: ([.blk nb 28 (i.map B8), .own 55 33 u7 A, .own 28 32 cv (bys (ids B)), X] ++ F)) := relayA _ (m := m) (ov := ov) (x := x) (v := v') (e := (on x.2).1) (by exact hS.sel (by repeat (first | exact Sel.refl | refine Sel.take (by repeat (first | exact t0 | apply tS)) ?_ | apply Sel.drop))) HID.out)
            | (go_at_call 37; refine Ret.calls (next_c hS HOK2.out HII2.out) ?_; clear hS; rintro r w ⟨rfl, hS⟩; rw [HNR.out]; rw [HGE.out] at hS)
            | (show wpList _ _ _ (⟨_, .build 55 _, _, _, _, _⟩ :: _) _ _; refine wpList_val rfl (op_build (ps := #[(0, .agg (i.map B8).toArray), (1, .int .i64 h)]) rfl rfl (buildWant i HI32.out h) _) ?_; go_frame)
            | (show wpList _ _ _ (⟨_, .buildSlice 30 1 _, _, _, _, _⟩ :: _) _ _; refine wpS_build1A slWant (by omega) hS rfl rfl (cs := i.map B8 ++ [.int .i64 h]) rfl HW33.out ?_; clear hS; intro v1 w hS; go_frame)
            | (show wpList _ _ _ (⟨_, .call ⟨.builtin .append, _, _⟩, _, _, _, _⟩ :: _) _ _; (refine wpS_append slWant (hS.bring (by repeat (first | exact t0 | apply tS))) rfl rfl (sv := u7) rfl rfl (ys := [i.map B8 ++ [.int .i64 h]]) ((hS.bring (by repeat (first | exact t0 | apply tS))).getOwn.rd) HF1.out (by rw [List.length_singleton]; have := HAL.out; omega) (by rw [List.length_singleton]; have := HAL.out; simp only [maxLen]; omega) ?_); clear hS; intro v2 w hS; go_frame)
            | (refine fin_mk (by kernel_rfl) ?_)
            )
          go_roundw
          case rel =>
            refine ⟨k + 1, by go_num, by omega, ?_⟩
            rw [HNX.out _ rfl, HWX.out _ rfl]
            exact hS.sel (by repeat (first | exact Sel.refl | refine Sel.take (by repeat (first | exact t0 | apply tS)) ?_ | apply Sel.drop))
          case measure => simp [intOf]; omega
      · have hq2 : (on x.2).2 = false := by simpa using hq
        have HQ := hide hq2
        have HE : Hid (eachE on t x.2 = some (on x.2).1) := by
          unfold Hid eachE
          rw [if_neg hq]
        have HW : Hid (wantE on x.2 = none) := by
          unfold Hid wantE
          rw [if_neg hq]
        rw [HE.out] at HNX
        rw [HW.out] at HWX
        clear hq2 hq HE HW
        go_wp2_with (first
          | (show wpList _ _ _ (⟨some 22, .indexAddr _ _ _, _, _, _, _⟩ :: _) _ _; refine wpList_val rfl (op_indexAddr slHash rfl (v := cv) rfl (k := k) rfl ((hS.bring (by repeat (first | exact t0 | apply tS))).getOwn.rd) hbk) ?_; go_frame)
          | (show wpList _ _ _ (⟨some 23, .load _ _, _, _, _, _⟩ :: _) _ _; refine wpList_val rfl (op_loadE aggHash rfl (v := cv) (k := k) rfl ((hS.bring (by repeat (first | exact t0 | apply tS))).getOwn.rd) hbk) ?_; rw [HBK.out]; go_frame)
          | (show wpList _ _ _ (⟨_, .alloc 28, _, _, _, _⟩ :: _) _ _; refine wpS_alloc hS rfl rfl Try.zeroValue28 (zs := List.replicate 32 (.int .u8 0)) rfl ?_; clear hS; intro nb w hS; go_frame)
          | (show wpList _ _ _ (⟨_, .store 28 _ _, _, _, _, _⟩ :: _) _ _; (refine wpS_storeAll aggHash (hS.bring (by repeat (first | exact t0 | apply tS))) rfl rfl rfl (vs := i.map B8) rfl HI32.out (flat_B8 i) (by simp) ?_); clear hS; intro w hS; go_frame)
          )
        refine wp_region_text (by kernel_rfl) (by kernel_rfl) (by repeat (first | exact Clean.body | refine Clean.then ?_ | refine Clean.inBlock ?_)) ?_
        replace hS := hS.drew
        go_wp2_with (first
          | (show wpList _ _ _ (⟨_, .load 66 _, _, _, _, _⟩ :: _) _ _; refine wpList_val rfl (op_load1S oneMap ((hS.bring (by repeat (first | exact t0 | apply tS)))) rfl rfl rfl) ?_; go_frame)
          | (show wpList _ _ _ (⟨_, .load 28 _, _, _, _, _⟩ :: _) _ _; refine wpList_val rfl (op_load aggHash rfl rfl ((hS.bring (by repeat (first | exact t0 | apply tS))).getBlk.cells) HI32.out) ?_; go_frame)
          | (show wpList _ _ _ (⟨_, .lookup 66 _ _ false, _, _, _, _⟩ :: _) _ _; refine wpList_val rfl (op_lookup mapTy rfl rfl (x := .agg (i.map B8).toArray) rfl ((hS.bring (by repeat (first | exact t0 | apply tS))).getMap) KI) ?_; rw [HLK.out]; go_frame)
          | (go_at_call 40; refine Ret.calls (hon (e := x.2) (c := x.1.1) (v := x.1.2) (F := .blk nb 28 (i.map B8) :: .own 55 33 u7 A :: .own 28 32 cv (bys (ids B)) :: (bookP p m ov (l1 ++ x :: l2) ++ (entsP (l1 ++ l2) ++ F))) HWT.out HSN.out (by exact hS.sel (by repeat (first | exact Sel.refl | refine Sel.take (by repeat (first | exact t0 | apply tS)) ?_ | apply Sel.drop)))) ?_; clear hS; rintro r w ⟨rfl, v', hS⟩; rw [HQ.out]; replace hS : SepL R base w (hB p (elist l1 ++ [(on x.2).1] ++ elist l2) :: ([.blk nb 28 (i.map B8), .own 55 33 u7 A, .own 28 32 cv (bys (ids B)), X] ++ F)) := relayA _ (m := m) (ov := ov) (x := x) (v := v') (e := (on x.2).1) (by exact hS.sel (by repeat (first | exact Sel.refl | refine Sel.take (by repeat (first | exact t0 | apply tS)) ?_ | apply Sel.drop))) HID.out)
          | (refine fin_mk (by kernel_rfl) ?_)
          )
        go_roundw
        case rel =>
          refine ⟨k + 1, by go_num, by omega, ?_⟩
          rw [HNX.out _ rfl, HWX.out A (by simp)]
          exact hS.sel (by repeat (first | exact Sel.refl | refine Sel.take (by repeat (first | exact t0 | apply tS)) ?_ | apply Sel.drop))
        case measure => simp [intOf]; omega
    · have hk2 : k = n := by omega
      subst hk2
      have h1 : B.take k = B := List.take_of_length_le (Nat.le_of_eq HN.out)
      have h2 : B.drop k = [] := List.drop_eq_nil_of_le (Nat.le_of_eq HN.out)
      rw [h1, h2, List.append_nil] at hS
      go_wp2_with fail
      go_ret
      exact hS.sel (by repeat (first | exact Sel.refl | refine Sel.take (by repeat (first | exact t0 | apply tS)) ?_ | apply Sel.drop))
end
end Go.Proofs.Ytafpdpcbckpkjaa
namespace Go.Proofs.Ytafpdpcbckpkjaa
open Go.RowKit Go.Px
section
variable {R : Nat → Prop} {base w : World} {F : List Hp}
theorem lateq {c nq : Nat} {v : Value} {e : Ent} {now : Nat} (hS : SepL R base w (.blk c 71 [.int .i64 e.peer, U e.since, v] :: .own 3 1 v (e.waits.map fun z => [I64 z]) :: .blk nq 23 [U now] :: F)) (hs : e.since < 18446744073709551616) (hn : now < 18446744073709551616) :
    Calls Try.prog 28 #[.pointer (some ⟨c, 0, none⟩), .pointer (some ⟨nq, 0, none⟩)] w (Ret fun r w' => r = .bool (lateOn now e).2 ∧ ∃ v', SepL R base w' (.blk c 71 [.int .i64 (lateOn now e).1.peer, U (lateOn now e).1.since, v'] :: .own 3 1 v' ((lateOn now e).1.waits.map fun z => [I64 z]) :: .blk nq 23 [U now] :: F)) := by
  refine Ret.calls (lateF (F := .own 3 1 v (e.waits.map fun z => [I64 z]) :: F) (hS.sel (by repeat (first | exact Sel.refl | refine Sel.take (by repeat (first | exact t0 | apply tS)) ?_ | apply Sel.drop))) hs hn) ?_
  rintro r w' ⟨rfl, h⟩
  exact ⟨rfl, v, h.perm ((List.Perm.swap _ _ _).cons _)⟩
theorem goneq {c nq : Nat} {v : Value} {e : Ent} {q : Int} (hl : e.waits.length ≤ 3) (hS : SepL R base w (.blk c 71 [.int .i64 e.peer, U e.since, v] :: .own 3 1 v (e.waits.map fun z => [I64 z]) :: .blk nq 3 [I64 q] :: F)) :
    Calls Try.prog 40 #[.pointer (some ⟨c, 0, none⟩), .pointer (some ⟨nq, 0, none⟩)] w (Ret fun r w' => r = .bool (goneOn q e).2 ∧ ∃ v', SepL R base w' (.blk c 71 [.int .i64 (goneOn q e).1.peer, U (goneOn q e).1.since, v'] :: .own 3 1 v' ((goneOn q e).1.waits.map fun z => [I64 z]) :: .blk nq 3 [I64 q] :: F)) :=
  goneF hS (by omega)
set_option maxRecDepth 100000 in
set_option maxHeartbeats 1000000 in
theorem gone_s {p now : Nat} {q : Int} {B : List Ent} (hS : SepL R base w (hB p B :: F)) (ok : BOk B) (hn : now < 18446744073709551616) :
    Calls Try.prog 25 #[.pointer (some ⟨p, 0, none⟩), I64 q, U now] w (Ret fun r w' => SepL R base w' (.own 55 33 r ((eachW (goneOn q) B).map wC) :: hB p (eachB (goneOn q) now B) :: F)) := by
  go_enter Try.func25, Try.ntmps25
  go_wp2_with (first
    | (show wpList _ _ _ (⟨_, .box _ _, _, _, _, _⟩ :: _) _ _; refine wpS_box1 hS rfl rfl (v := I64 q) rfl rfl ?_; clear hS; intro nq w hS; go_frame)
    | (go_at_call 27; refine Ret.calls (eachG (X := .blk nq 3 [I64 q]) (on := goneOn q) (B := B) (F := F) (by exact hS.sel (by repeat (first | exact Sel.refl | refine Sel.take (by repeat (first | exact t0 | apply tS)) ?_ | apply Sel.drop))) ok hn (fun _ => rfl) (fun _ h => quitE_ok h) (fun _ => rfl) (fun hl _ h => (goneq hl h)) ) ?_; clear hS; rintro r w hS)
    )
  go_ret
  exact hS.sel (by repeat (first | exact Sel.refl | refine Sel.take (by repeat (first | exact t0 | apply tS)) ?_ | apply Sel.drop))
set_option maxRecDepth 100000 in
set_option maxHeartbeats 1000000 in
theorem late_s {p now : Nat} {B : List Ent} (hS : SepL R base w (hB p B :: F)) (ok : BOk B) (hn : now < 18446744073709551616) :
    Calls Try.prog 13 #[.pointer (some ⟨p, 0, none⟩), U now] w (Ret fun r w' => SepL R base w' (.own 55 33 r ((eachW (lateOn now) B).map wC) :: hB p (eachB (lateOn now) now B) :: F)) := by
  go_enter Try.func13, Try.ntmps13
  go_wp2_with (first
    | (show wpList _ _ _ (⟨_, .box _ _, _, _, _, _⟩ :: _) _ _; refine wpS_box1 hS rfl rfl (v := U now) rfl rfl ?_; clear hS; intro nq w hS; go_frame)
    | (show wpList _ _ _ (⟨_, .load 23 _, _, _, _, _⟩ :: _) _ _; refine wpList_val rfl (op_load1S oneU ((hS.bring (by repeat (first | exact t0 | apply tS)))) rfl rfl rfl) ?_; go_frame)
    | (go_at_call 27; refine Ret.calls (eachL (X := .blk nq 23 [U now]) (on := lateOn now) (B := B) (F := F) (by exact hS.sel (by repeat (first | exact Sel.refl | refine Sel.take (by repeat (first | exact t0 | apply tS)) ?_ | apply Sel.drop))) ok hn (fun _ => rfl) (fun _ h => h) (fun _ => rfl) (fun _ hs h => (lateq h hs hn)) ) ?_; clear hS; rintro r w hS)
    )
  go_ret
  exact hS.sel (by repeat (first | exact Sel.refl | refine Sel.take (by repeat (first | exact t0 | apply tS)) ?_ | apply Sel.drop))
end
end Go.Proofs.Ytafpdpcbckpkjaa
