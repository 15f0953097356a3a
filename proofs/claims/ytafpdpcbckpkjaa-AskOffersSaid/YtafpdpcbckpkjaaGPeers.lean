/- Whom a book has for what is asked for; what a lack makes. Conditions: those that stand ahead of each theorem. -/
import Derived.Test.YtafpdpcbckpkjaaGEach
namespace Go.Proofs.Ytafpdpcbckpkjaa
open Go.RowKit Go.Px
section
variable {R : Nat → Prop} {base w : World} {F : List Hp}
theorem pushA (A : List Hp) {p m : Nat} {ov : Value} {l1 l2 : List LE} {x : LE} (hS : SepL R base w (entP x ++ (A ++ (bookP p m ov (l1 ++ x :: l2) ++ (entsP (l1 ++ l2) ++ F))))) : SepL R base w (A ++ (bookP p m ov (l1 ++ x :: l2) ++ (entsP (l1 ++ x :: l2) ++ F))) := by
  have h := push (A := A ++ bookP p m ov (l1 ++ x :: l2)) (F := F) (l1 := l1) (l2 := l2) (x := x) (by rw [List.append_assoc]; exact hS)
  rwa [List.append_assoc] at h
set_option maxRecDepth 100000 in
theorem peers_out {p : Nat} {B : List Ent} {i : List Byte} (hS : SepL R base w (hB p B :: F)) (hi : i.length = 32) (hout : i ∉ ids B) :
    Calls Try.prog 20 #[.pointer (some ⟨p, 0, none⟩), HV i] w (Ret fun r w' => SepL R base w' (.own 3 1 r [] :: hB p B :: F)) := by
  obtain ⟨m, ov, l, hl, hS2⟩ := hB_open hS
  clear hS
  subst hl
  have hS := hS2
  clear hS2
  have KI := isKey hi
  have HLK := hide (get_out hout)
  have HI32 : Hid ((i.map B8).length = 32) := by simp [Hid, hi]
  clear hout hi
  unfold HV at KI HLK ⊢
  unfold bookP at hS
  go_enter Try.func20, Try.ntmps20
  go_wp2_with (first
    | (show wpList _ _ _ (⟨_, .box 28 _, _, _, _, _⟩ :: _) _ _; refine wpS_boxA (cs := i.map B8) hS rfl rfl rfl ?_; clear hS; intro nb w hS; go_frame)
    )
  refine wp_region_text (by kernel_rfl) (by kernel_rfl) (by repeat (first | exact Clean.body | refine Clean.then ?_ | refine Clean.inBlock ?_)) ?_
  replace hS := hS.drew
  go_wp2_with (first
    | (show wpList _ _ _ (⟨_, .load 66 _, _, _, _, _⟩ :: _) _ _; refine wpList_val rfl (op_load1S oneMap ((hS.bring (by repeat (first | exact t0 | apply tS)))) rfl rfl rfl) ?_; go_frame)
    | (show wpList _ _ _ (⟨_, .load 28 _, _, _, _, _⟩ :: _) _ _; refine wpList_val rfl (op_load aggHash rfl rfl ((hS.bring (by repeat (first | exact t0 | apply tS))).getBlk.cells) HI32.out) ?_; go_frame)
    | (show wpList _ _ _ (⟨_, .lookup 66 _ _ false, _, _, _, _⟩ :: _) _ _; refine wpList_val rfl (op_lookup mapTy rfl rfl (x := .agg (i.map B8).toArray) rfl ((hS.bring (by repeat (first | exact t0 | apply tS))).getMap) KI) ?_; rw [HLK.out]; go_frame)
    | (refine fin_mk (by kernel_rfl) ?_)
    )
  go_ret
  exact (hB_close (m := m) (ov := ov) (hS.sel (by repeat (first | exact Sel.refl | refine Sel.take (by repeat (first | exact t0 | apply tS)) ?_ | apply Sel.drop)))).nilOwn 3 1
set_option maxRecDepth 100000 in
set_option maxHeartbeats 8000000 in
theorem peers_in {p : Nat} {B1 B2 : List Ent} {e : Ent} (hS : SepL R base w (hB p (B1 ++ e :: B2) :: F)) (ok : BOk (B1 ++ e :: B2)) :
    Calls Try.prog 20 #[.pointer (some ⟨p, 0, none⟩), HV e.id] w (Ret fun r w' => SepL R base w' (.own 3 1 r ((e.peer :: e.waits).map fun z => [I64 z]) :: hB p (B1 ++ e :: B2) :: F)) := by
  obtain ⟨m, ov, l, hl, hS2⟩ := hB_open hS
  clear hS
  obtain ⟨l1, x, l2, hl, h1, h2, h3⟩ := split_elist hl
  subst hl h1 h2 h3
  rw [← ents_mid] at ok
  have hi : x.2.id.length = 32 := ok.len x.2 (by rw [ents_mid]; simp)
  have hw := ok.wait x.2 (by rw [ents_mid]; simp)
  have hS := pull hS2
  clear hS2
  have KI := isKey hi
  have HLK := hide (get_in ok.nodup)
  have HB1 : Hid (([[Value.int .i64 x.2.peer]].length + (x.2.waits.map fun z => [I64 z]).length) * 8 ≤ 140737488355328) := by
    unfold Hid
    simp
    omega
  have HB2 : Hid ([[Value.int .i64 x.2.peer]].length + (x.2.waits.map fun z => [I64 z]).length ≤ maxLen) := by
    unfold Hid maxLen
    simp
    omega
  have FINP : ∀ {w : World} {v : Value}, SepL R base w (.own 3 1 v ([[Value.int .i64 x.2.peer]] ++ (x.2.waits.map fun z => [I64 z])) :: (entP x ++ (bookP p m ov (l1 ++ x :: l2) ++ (entsP (l1 ++ l2) ++ F)))) → SepL R base w (.own 3 1 v ((x.2.peer :: x.2.waits).map fun z => [I64 z]) :: hB p (elist l1 ++ x.2 :: elist l2) :: F) := by
    intro w v h
    have h2 := pushA [.own 3 1 v ([[Value.int .i64 x.2.peer]] ++ (x.2.waits.map fun z => [I64 z]))] (x := x) (l1 := l1) (l2 := l2) (p := p) (m := m) (ov := ov) (F := F) (h.perm (swapA [_] (entP x) (bookP p m ov (l1 ++ x :: l2) ++ (entsP (l1 ++ l2) ++ F))))
    have h3 := hB_closeA _ h2
    rw [ents_mid] at h3
    exact h3.perm (.swap _ _ _)
  obtain ⟨i, hii⟩ : ∃ i, x.2.id = i := ⟨_, rfl⟩
  rw [hii] at hi KI HLK ⊢
  have HI32 : Hid ((i.map B8).length = 32) := by simp [Hid, hi]
  clear ok hi hii hw
  unfold HV at KI HLK ⊢
  unfold bookP entP entC at hS FINP
  go_enter Try.func20, Try.ntmps20
  go_wp2_with (first
    | (show wpList _ _ _ (⟨_, .box 28 _, _, _, _, _⟩ :: _) _ _; refine wpS_boxA (cs := i.map B8) hS rfl rfl rfl ?_; clear hS; intro nb w hS; go_frame)
    )
  refine wp_region_text (by kernel_rfl) (by kernel_rfl) (by repeat (first | exact Clean.body | refine Clean.then ?_ | refine Clean.inBlock ?_)) ?_
  replace hS := hS.drew
  go_wp2_with (first
    | (show wpList _ _ _ (⟨_, .load 66 _, _, _, _, _⟩ :: _) _ _; refine wpList_val rfl (op_load1S oneMap ((hS.bring (by repeat (first | exact t0 | apply tS)))) rfl rfl rfl) ?_; go_frame)
    | (show wpList _ _ _ (⟨_, .load 28 _, _, _, _, _⟩ :: _) _ _; refine wpList_val rfl (op_load aggHash rfl rfl ((hS.bring (by repeat (first | exact t0 | apply tS))).getBlk.cells) HI32.out) ?_; go_frame)
    | (show wpList _ _ _ (⟨_, .lookup 66 _ _ false, _, _, _, _⟩ :: _) _ _; refine wpList_val rfl (op_lookup mapTy rfl rfl (x := .agg (i.map B8).toArray) rfl ((hS.bring (by repeat (first | exact t0 | apply tS))).getMap) KI) ?_; rw [HLK.out]; go_frame)
    | (refine fin_mk (by kernel_rfl) ?_)
    )
  refine wp_region_ord (by kernel_rfl) [3] [[0, 1, 2, 4, 10, 11, 12, 14, 3, 5, 6, 7, 13, 8, 9, 15, 16, 17, 18, 19, 20], [0, 1, 2, 4, 10, 11, 12, 14, 3, 5, 6, 7, 13, 8, 15, 16, 17, 18, 9, 19, 20], [0, 1, 2, 4, 10, 11, 12, 14, 3, 5, 6, 7, 13, 15, 8, 16, 17, 18, 9, 19, 20], [0, 1, 2, 4, 10, 11, 12, 14, 3, 13, 5, 6, 7, 8, 9, 15, 16, 17, 18, 19, 20], [0, 1, 2, 4, 10, 11, 12, 14, 3, 13, 5, 6, 7, 8, 15, 16, 17, 18, 9, 19, 20], [0, 1, 2, 4, 10, 11, 12, 14, 3, 13, 5, 6, 7, 15, 8, 16, 17, 18, 9, 19, 20], [0, 1, 2, 4, 10, 11, 12, 14, 3, 13, 15, 16, 17, 5, 6, 7, 8, 18, 9, 19, 20], [0, 1, 2, 4, 10, 11, 12, 14, 3, 13, 15, 16, 17, 18, 5, 6, 7, 8, 9, 19, 20], [0, 1, 2, 4, 10, 11, 12, 14, 13, 3, 5, 6, 7, 8, 9, 15, 16, 17, 18, 19, 20], [0, 1, 2, 4, 10, 11, 12, 14, 13, 3, 5, 6, 7, 8, 15, 16, 17, 18, 9, 19, 20], [0, 1, 2, 4, 10, 11, 12, 14, 13, 3, 5, 6, 7, 15, 8, 16, 17, 18, 9, 19, 20], [0, 1, 2, 4, 10, 11, 12, 14, 13, 3, 15, 16, 17, 5, 6, 7, 8, 18, 9, 19, 20], [0, 1, 2, 4, 10, 11, 12, 14, 13, 3, 15, 16, 17, 18, 5, 6, 7, 8, 9, 19, 20], [0, 1, 2, 4, 10, 11, 12, 14, 13, 15, 3, 16, 17, 5, 6, 7, 8, 18, 9, 19, 20], [0, 1, 2, 4, 10, 11, 12, 14, 13, 15, 3, 16, 17, 18, 5, 6, 7, 8, 9, 19, 20]] (by kernel_rfl) (by kernel_rfl) (fun w' => Blk w' nb 28 (i.map B8)) Up.blk (((hS.bring (by repeat (first | exact t0 | apply tS))).getBlk) : Blk _ nb 28 (i.map B8)) (by repeat (first | exact Clean.body | refine Clean.then ?_ | refine Clean.inBlock ?_ | refine SegQ.clean ?_ | refine FinC.clean ?_)) ?_
  replace hS := hS.drew
  refine ord_seg (by repeat (first | exact Clean.body | refine Clean.then ?_ | refine Clean.inBlock ?_ | refine SegQ.clean ?_ | refine FinC.clean ?_)) (n := 13) (rest := [[3, 5, 6, 7, 13, 8, 9, 15, 16, 17, 18, 19, 20], [3, 5, 6, 7, 13, 8, 15, 16, 17, 18, 9, 19, 20], [3, 5, 6, 7, 13, 15, 8, 16, 17, 18, 9, 19, 20], [3, 13, 5, 6, 7, 8, 9, 15, 16, 17, 18, 19, 20], [3, 13, 5, 6, 7, 8, 15, 16, 17, 18, 9, 19, 20], [3, 13, 5, 6, 7, 15, 8, 16, 17, 18, 9, 19, 20], [3, 13, 15, 16, 17, 5, 6, 7, 8, 18, 9, 19, 20], [3, 13, 15, 16, 17, 18, 5, 6, 7, 8, 9, 19, 20], [13, 3, 5, 6, 7, 8, 9, 15, 16, 17, 18, 19, 20], [13, 3, 5, 6, 7, 8, 15, 16, 17, 18, 9, 19, 20], [13, 3, 5, 6, 7, 15, 8, 16, 17, 18, 9, 19, 20], [13, 3, 15, 16, 17, 5, 6, 7, 8, 18, 9, 19, 20], [13, 3, 15, 16, 17, 18, 5, 6, 7, 8, 9, 19, 20], [13, 15, 3, 16, 17, 5, 6, 7, 8, 18, 9, 19, 20], [13, 15, 3, 16, 17, 18, 5, 6, 7, 8, 9, 19, 20]]) [0, 1, 2, 4, 10, 11, 12, 14] [⟨_, _, _, _, _, _⟩, ⟨_, _, _, _, _, _⟩, ⟨_, _, _, _, _, _⟩, ⟨_, _, _, _, _, _⟩, ⟨_, _, _, _, _, _⟩, ⟨_, _, _, _, _, _⟩, ⟨_, _, _, _, _, _⟩, ⟨_, _, _, _, _, _⟩] rfl (by kernel_rfl) (by simp) _ _ ?_
  go_wp2_with (first
    | (show wpList _ _ _ (⟨_, .load 28 _, _, _, _, _⟩ :: _) _ _; refine wpList_val rfl (op_load aggHash rfl rfl ((hS.bring (by repeat (first | exact t0 | apply tS))).getBlk.cells) HI32.out) ?_; go_frame)
    )
  refine segQ_mk (((hS.bring (by repeat (first | exact t0 | apply tS))).getBlk) : Blk _ nb 28 (i.map B8)) ?_
  refine ord_fork (n := 12) (os1 := [[3, 5, 6, 7, 13, 8, 9, 15, 16, 17, 18, 19, 20], [3, 5, 6, 7, 13, 8, 15, 16, 17, 18, 9, 19, 20], [3, 5, 6, 7, 13, 15, 8, 16, 17, 18, 9, 19, 20], [3, 13, 5, 6, 7, 8, 9, 15, 16, 17, 18, 19, 20], [3, 13, 5, 6, 7, 8, 15, 16, 17, 18, 9, 19, 20], [3, 13, 5, 6, 7, 15, 8, 16, 17, 18, 9, 19, 20], [3, 13, 15, 16, 17, 5, 6, 7, 8, 18, 9, 19, 20], [3, 13, 15, 16, 17, 18, 5, 6, 7, 8, 9, 19, 20]]) (os2 := [[13, 3, 5, 6, 7, 8, 9, 15, 16, 17, 18, 19, 20], [13, 3, 5, 6, 7, 8, 15, 16, 17, 18, 9, 19, 20], [13, 3, 5, 6, 7, 15, 8, 16, 17, 18, 9, 19, 20], [13, 3, 15, 16, 17, 5, 6, 7, 8, 18, 9, 19, 20], [13, 3, 15, 16, 17, 18, 5, 6, 7, 8, 9, 19, 20], [13, 15, 3, 16, 17, 5, 6, 7, 8, 18, 9, 19, 20], [13, 15, 3, 16, 17, 18, 5, 6, 7, 8, 9, 19, 20]]) (by decide) ?_ ?_
  ·
    refine ord_seg (by repeat (first | exact Clean.body | refine Clean.then ?_ | refine Clean.inBlock ?_ | refine SegQ.clean ?_ | refine FinC.clean ?_)) (n := 12) (rest := [[5, 6, 7, 13, 8, 9, 15, 16, 17, 18, 19, 20], [5, 6, 7, 13, 8, 15, 16, 17, 18, 9, 19, 20], [5, 6, 7, 13, 15, 8, 16, 17, 18, 9, 19, 20], [13, 5, 6, 7, 8, 9, 15, 16, 17, 18, 19, 20], [13, 5, 6, 7, 8, 15, 16, 17, 18, 9, 19, 20], [13, 5, 6, 7, 15, 8, 16, 17, 18, 9, 19, 20], [13, 15, 16, 17, 5, 6, 7, 8, 18, 9, 19, 20], [13, 15, 16, 17, 18, 5, 6, 7, 8, 9, 19, 20]]) [3] [⟨_, _, _, _, _, _⟩] rfl (by kernel_rfl) (by simp) _ _ ?_
    go_wp2_with (first
      | (show wpList _ _ _ (⟨_, .load 66 _, _, _, _, _⟩ :: _) _ _; refine wpList_val rfl (op_load1S oneMap ((hS.bring (by repeat (first | exact t0 | apply tS)))) rfl rfl rfl) ?_; go_frame)
      )
    refine segQ_mk (((hS.bring (by repeat (first | exact t0 | apply tS))).getBlk) : Blk _ nb 28 (i.map B8)) ?_
    refine ord_fork (n := 11) (os1 := [[5, 6, 7, 13, 8, 9, 15, 16, 17, 18, 19, 20], [5, 6, 7, 13, 8, 15, 16, 17, 18, 9, 19, 20], [5, 6, 7, 13, 15, 8, 16, 17, 18, 9, 19, 20]]) (os2 := [[13, 5, 6, 7, 8, 9, 15, 16, 17, 18, 19, 20], [13, 5, 6, 7, 8, 15, 16, 17, 18, 9, 19, 20], [13, 5, 6, 7, 15, 8, 16, 17, 18, 9, 19, 20], [13, 15, 16, 17, 5, 6, 7, 8, 18, 9, 19, 20], [13, 15, 16, 17, 18, 5, 6, 7, 8, 9, 19, 20]]) (by decide) ?_ ?_
    ·
      refine ord_seg (by repeat (first | exact Clean.body | refine Clean.then ?_ | refine Clean.inBlock ?_ | refine SegQ.clean ?_ | refine FinC.clean ?_)) (n := 11) (rest := [[6, 7, 13, 8, 9, 15, 16, 17, 18, 19, 20], [6, 7, 13, 8, 15, 16, 17, 18, 9, 19, 20], [6, 7, 13, 15, 8, 16, 17, 18, 9, 19, 20]]) [5] [⟨_, _, _, _, _, _⟩] rfl (by kernel_rfl) (by simp) _ _ ?_
      go_wp2_with (first
        | (show wpList _ _ _ (⟨_, .lookup 66 _ _ false, _, _, _, _⟩ :: _) _ _; refine wpList_val rfl (op_lookup mapTy rfl rfl (x := .agg (i.map B8).toArray) rfl ((hS.bring (by repeat (first | exact t0 | apply tS))).getMap) KI) ?_; rw [HLK.out]; go_frame)
        )
      refine segQ_mk (((hS.bring (by repeat (first | exact t0 | apply tS))).getBlk) : Blk _ nb 28 (i.map B8)) ?_
      refine ord_seg (by repeat (first | exact Clean.body | refine Clean.then ?_ | refine Clean.inBlock ?_ | refine SegQ.clean ?_ | refine FinC.clean ?_)) (n := 8) (rest := [[8, 9, 15, 16, 17, 18, 19, 20], [8, 15, 16, 17, 18, 9, 19, 20], [15, 8, 16, 17, 18, 9, 19, 20]]) [6, 7, 13] [⟨_, _, _, _, _, _⟩, ⟨_, _, _, _, _, _⟩, ⟨_, _, _, _, _, _⟩] rfl (by kernel_rfl) (by simp) _ _ ?_
      go_wp2_with (first
        | (show wpList _ _ _ (⟨_, .load 66 _, _, _, _, _⟩ :: _) _ _; refine wpList_val rfl (op_load1S oneMap ((hS.bring (by repeat (first | exact t0 | apply tS)))) rfl rfl rfl) ?_; go_frame)
        )
      refine segQ_mk (((hS.bring (by repeat (first | exact t0 | apply tS))).getBlk) : Blk _ nb 28 (i.map B8)) ?_
      refine ord_fork (n := 7) (os1 := [[8, 9, 15, 16, 17, 18, 19, 20], [8, 15, 16, 17, 18, 9, 19, 20]]) (os2 := [[15, 8, 16, 17, 18, 9, 19, 20]]) (by decide) ?_ ?_
      ·
        refine ord_seg (by repeat (first | exact Clean.body | refine Clean.then ?_ | refine Clean.inBlock ?_ | refine SegQ.clean ?_ | refine FinC.clean ?_)) (n := 7) (rest := [[9, 15, 16, 17, 18, 19, 20], [15, 16, 17, 18, 9, 19, 20]]) [8] [⟨_, _, _, _, _, _⟩] rfl (by kernel_rfl) (by simp) _ _ ?_
        go_wp2_with (first
          | (show wpList _ _ _ (⟨_, .load 3 _, _, _, _, _⟩ :: _) _ _; refine wpList_val rfl (op_load1S oneInt ((hS.bring (by repeat (first | exact t0 | apply tS)))) rfl rfl rfl) ?_; go_frame)
          )
        refine segQ_mk (((hS.bring (by repeat (first | exact t0 | apply tS))).getBlk) : Blk _ nb 28 (i.map B8)) ?_
        refine ord_fork (n := 6) (os1 := [[9, 15, 16, 17, 18, 19, 20]]) (os2 := [[15, 16, 17, 18, 9, 19, 20]]) (by decide) ?_ ?_
        ·
          refine ord_seg (by repeat (first | exact Clean.body | refine Clean.then ?_ | refine Clean.inBlock ?_ | refine SegQ.clean ?_ | refine FinC.clean ?_)) (n := 5) (rest := [[16, 17, 18, 19, 20]]) [9, 15] [⟨_, _, _, _, _, _⟩, ⟨_, _, _, _, _, _⟩] rfl (by kernel_rfl) (by simp) _ _ ?_
          go_wp2_with (first
            | (show wpList _ _ _ (⟨_, .lookup 66 _ _ false, _, _, _, _⟩ :: _) _ _; refine wpList_val rfl (op_lookup mapTy rfl rfl (x := .agg (i.map B8).toArray) rfl ((hS.bring (by repeat (first | exact t0 | apply tS))).getMap) KI) ?_; rw [HLK.out]; go_frame)
            | (show wpList _ _ _ (⟨_, .buildSlice 50 1 _, _, _, _, _⟩ :: _) _ _; refine wpS_build11 slInt hS rfl rfl (u := .int .i64 x.2.peer) rfl rfl ?_; clear hS; intro v1 w hS; go_frame)
            )
          refine segQ_mk (((hS.bring (by repeat (first | exact t0 | apply tS))).getBlk) : Blk _ nb 28 (i.map B8)) ?_
          refine ord_seg (by repeat (first | exact Clean.body | refine Clean.then ?_ | refine Clean.inBlock ?_ | refine SegQ.clean ?_ | refine FinC.clean ?_)) (n := 1) (rest := [[20]]) [16, 17, 18, 19] [⟨_, _, _, _, _, _⟩, ⟨_, _, _, _, _, _⟩, ⟨_, _, _, _, _, _⟩, ⟨_, _, _, _, _, _⟩] rfl (by kernel_rfl) (by simp) _ _ ?_
          go_wp2_with (first
            | (show wpList _ _ _ (⟨_, .load 50 _, _, _, _, _⟩ :: _) _ _; refine wpList_val rfl (op_load1S oneInts ((hS.bring (by repeat (first | exact t0 | apply tS)))) rfl rfl rfl) ?_; go_frame)
            | (show wpList _ _ _ (⟨_, .call ⟨.builtin .append, _, _⟩, _, _, _, _⟩ :: _) _ _; (refine wpS_append slInt (hS.bring (by repeat (first | exact t0 | apply tS))) rfl rfl (sv := v1) rfl rfl (ys := x.2.waits.map fun z => [I64 z]) ((hS.bring (by repeat (first | exact t0 | apply tS))).getOwn.rd) (flat_ints _) HB1.out HB2.out ?_); clear hS; intro v2 w hS; go_frame)
            )
          refine segQ_mk (((hS.bring (by repeat (first | exact t0 | apply tS))).getBlk) : Blk _ nb 28 (i.map B8)) ?_
          refine ord_seg (by repeat (first | exact Clean.body | refine Clean.then ?_ | refine Clean.inBlock ?_ | refine SegQ.clean ?_ | refine FinC.clean ?_)) (n := 0) (rest := [[]]) [20] [⟨_, _, _, _, _, _⟩] rfl (by kernel_rfl) (by simp) _ _ ?_
          go_wp2_with fail
          refine segQ_mk (((hS.bring (by repeat (first | exact t0 | apply tS))).getBlk) : Blk _ nb 28 (i.map B8)) ?_
          refine finC_mk (by kernel_rfl) (by
            intro t ht
            simp only [List.mem_cons, List.not_mem_nil, or_false] at ht
            subst ht
            exact stab_blk (b := nb) (fun w h => h) _ none) ?_
          go_wp2_with fail
          go_ret
          exact FINP (by exact hS.sel (by repeat (first | exact Sel.refl | refine Sel.take (by repeat (first | exact t0 | apply tS)) ?_ | apply Sel.drop)))
        ·
          refine ord_seg (by repeat (first | exact Clean.body | refine Clean.then ?_ | refine Clean.inBlock ?_ | refine SegQ.clean ?_ | refine FinC.clean ?_)) (n := 6) (rest := [[16, 17, 18, 9, 19, 20]]) [15] [⟨_, _, _, _, _, _⟩] rfl (by kernel_rfl) (by simp) _ _ ?_
          go_wp2_with (first
            | (show wpList _ _ _ (⟨_, .lookup 66 _ _ false, _, _, _, _⟩ :: _) _ _; refine wpList_val rfl (op_lookup mapTy rfl rfl (x := .agg (i.map B8).toArray) rfl ((hS.bring (by repeat (first | exact t0 | apply tS))).getMap) KI) ?_; rw [HLK.out]; go_frame)
            )
          refine segQ_mk (((hS.bring (by repeat (first | exact t0 | apply tS))).getBlk) : Blk _ nb 28 (i.map B8)) ?_
          refine ord_seg (by repeat (first | exact Clean.body | refine Clean.then ?_ | refine Clean.inBlock ?_ | refine SegQ.clean ?_ | refine FinC.clean ?_)) (n := 1) (rest := [[20]]) [16, 17, 18, 9, 19] [⟨_, _, _, _, _, _⟩, ⟨_, _, _, _, _, _⟩, ⟨_, _, _, _, _, _⟩, ⟨_, _, _, _, _, _⟩, ⟨_, _, _, _, _, _⟩] rfl (by kernel_rfl) (by simp) _ _ ?_
          go_wp2_with (first
            | (show wpList _ _ _ (⟨_, .load 50 _, _, _, _, _⟩ :: _) _ _; refine wpList_val rfl (op_load1S oneInts ((hS.bring (by repeat (first | exact t0 | apply tS)))) rfl rfl rfl) ?_; go_frame)
            | (show wpList _ _ _ (⟨_, .buildSlice 50 1 _, _, _, _, _⟩ :: _) _ _; refine wpS_build11 slInt hS rfl rfl (u := .int .i64 x.2.peer) rfl rfl ?_; clear hS; intro v1 w hS; go_frame)
            | (show wpList _ _ _ (⟨_, .call ⟨.builtin .append, _, _⟩, _, _, _, _⟩ :: _) _ _; (refine wpS_append slInt (hS.bring (by repeat (first | exact t0 | apply tS))) rfl rfl (sv := v1) rfl rfl (ys := x.2.waits.map fun z => [I64 z]) ((hS.bring (by repeat (first | exact t0 | apply tS))).getOwn.rd) (flat_ints _) HB1.out HB2.out ?_); clear hS; intro v2 w hS; go_frame)
            )
          refine segQ_mk (((hS.bring (by repeat (first | exact t0 | apply tS))).getBlk) : Blk _ nb 28 (i.map B8)) ?_
          refine ord_seg (by repeat (first | exact Clean.body | refine Clean.then ?_ | refine Clean.inBlock ?_ | refine SegQ.clean ?_ | refine FinC.clean ?_)) (n := 0) (rest := [[]]) [20] [⟨_, _, _, _, _, _⟩] rfl (by kernel_rfl) (by simp) _ _ ?_
          go_wp2_with fail
          refine segQ_mk (((hS.bring (by repeat (first | exact t0 | apply tS))).getBlk) : Blk _ nb 28 (i.map B8)) ?_
          refine finC_mk (by kernel_rfl) (by
            intro t ht
            simp only [List.mem_cons, List.not_mem_nil, or_false] at ht
            subst ht
            exact stab_blk (b := nb) (fun w h => h) _ none) ?_
          go_wp2_with fail
          go_ret
          exact FINP (by exact hS.sel (by repeat (first | exact Sel.refl | refine Sel.take (by repeat (first | exact t0 | apply tS)) ?_ | apply Sel.drop)))
      ·
        refine ord_seg (by repeat (first | exact Clean.body | refine Clean.then ?_ | refine Clean.inBlock ?_ | refine SegQ.clean ?_ | refine FinC.clean ?_)) (n := 7) (rest := [[8, 16, 17, 18, 9, 19, 20]]) [15] [⟨_, _, _, _, _, _⟩] rfl (by kernel_rfl) (by simp) _ _ ?_
        go_wp2_with (first
          | (show wpList _ _ _ (⟨_, .lookup 66 _ _ false, _, _, _, _⟩ :: _) _ _; refine wpList_val rfl (op_lookup mapTy rfl rfl (x := .agg (i.map B8).toArray) rfl ((hS.bring (by repeat (first | exact t0 | apply tS))).getMap) KI) ?_; rw [HLK.out]; go_frame)
          )
        refine segQ_mk (((hS.bring (by repeat (first | exact t0 | apply tS))).getBlk) : Blk _ nb 28 (i.map B8)) ?_
        refine ord_seg (by repeat (first | exact Clean.body | refine Clean.then ?_ | refine Clean.inBlock ?_ | refine SegQ.clean ?_ | refine FinC.clean ?_)) (n := 1) (rest := [[20]]) [8, 16, 17, 18, 9, 19] [⟨_, _, _, _, _, _⟩, ⟨_, _, _, _, _, _⟩, ⟨_, _, _, _, _, _⟩, ⟨_, _, _, _, _, _⟩, ⟨_, _, _, _, _, _⟩, ⟨_, _, _, _, _, _⟩] rfl (by kernel_rfl) (by simp) _ _ ?_
        go_wp2_with (first
          | (show wpList _ _ _ (⟨_, .load 50 _, _, _, _, _⟩ :: _) _ _; refine wpList_val rfl (op_load1S oneInts ((hS.bring (by repeat (first | exact t0 | apply tS)))) rfl rfl rfl) ?_; go_frame)
          | (show wpList _ _ _ (⟨_, .load 3 _, _, _, _, _⟩ :: _) _ _; refine wpList_val rfl (op_load1S oneInt ((hS.bring (by repeat (first | exact t0 | apply tS)))) rfl rfl rfl) ?_; go_frame)
          | (show wpList _ _ _ (⟨_, .buildSlice 50 1 _, _, _, _, _⟩ :: _) _ _; refine wpS_build11 slInt hS rfl rfl (u := .int .i64 x.2.peer) rfl rfl ?_; clear hS; intro v1 w hS; go_frame)
          | (show wpList _ _ _ (⟨_, .call ⟨.builtin .append, _, _⟩, _, _, _, _⟩ :: _) _ _; (refine wpS_append slInt (hS.bring (by repeat (first | exact t0 | apply tS))) rfl rfl (sv := v1) rfl rfl (ys := x.2.waits.map fun z => [I64 z]) ((hS.bring (by repeat (first | exact t0 | apply tS))).getOwn.rd) (flat_ints _) HB1.out HB2.out ?_); clear hS; intro v2 w hS; go_frame)
          )
        refine segQ_mk (((hS.bring (by repeat (first | exact t0 | apply tS))).getBlk) : Blk _ nb 28 (i.map B8)) ?_
        refine ord_seg (by repeat (first | exact Clean.body | refine Clean.then ?_ | refine Clean.inBlock ?_ | refine SegQ.clean ?_ | refine FinC.clean ?_)) (n := 0) (rest := [[]]) [20] [⟨_, _, _, _, _, _⟩] rfl (by kernel_rfl) (by simp) _ _ ?_
        go_wp2_with fail
        refine segQ_mk (((hS.bring (by repeat (first | exact t0 | apply tS))).getBlk) : Blk _ nb 28 (i.map B8)) ?_
        refine finC_mk (by kernel_rfl) (by
          intro t ht
          simp only [List.mem_cons, List.not_mem_nil, or_false] at ht
          subst ht
          exact stab_blk (b := nb) (fun w h => h) _ none) ?_
        go_wp2_with fail
        go_ret
        exact FINP (by exact hS.sel (by repeat (first | exact Sel.refl | refine Sel.take (by repeat (first | exact t0 | apply tS)) ?_ | apply Sel.drop)))
    ·
      refine ord_seg (by repeat (first | exact Clean.body | refine Clean.then ?_ | refine Clean.inBlock ?_ | refine SegQ.clean ?_ | refine FinC.clean ?_)) (n := 11) (rest := [[5, 6, 7, 8, 9, 15, 16, 17, 18, 19, 20], [5, 6, 7, 8, 15, 16, 17, 18, 9, 19, 20], [5, 6, 7, 15, 8, 16, 17, 18, 9, 19, 20], [15, 16, 17, 5, 6, 7, 8, 18, 9, 19, 20], [15, 16, 17, 18, 5, 6, 7, 8, 9, 19, 20]]) [13] [⟨_, _, _, _, _, _⟩] rfl (by kernel_rfl) (by simp) _ _ ?_
      go_wp2_with (first
        | (show wpList _ _ _ (⟨_, .load 66 _, _, _, _, _⟩ :: _) _ _; refine wpList_val rfl (op_load1S oneMap ((hS.bring (by repeat (first | exact t0 | apply tS)))) rfl rfl rfl) ?_; go_frame)
        )
      refine segQ_mk (((hS.bring (by repeat (first | exact t0 | apply tS))).getBlk) : Blk _ nb 28 (i.map B8)) ?_
      refine ord_fork (n := 10) (os1 := [[5, 6, 7, 8, 9, 15, 16, 17, 18, 19, 20], [5, 6, 7, 8, 15, 16, 17, 18, 9, 19, 20], [5, 6, 7, 15, 8, 16, 17, 18, 9, 19, 20]]) (os2 := [[15, 16, 17, 5, 6, 7, 8, 18, 9, 19, 20], [15, 16, 17, 18, 5, 6, 7, 8, 9, 19, 20]]) (by decide) ?_ ?_
      ·
        refine ord_seg (by repeat (first | exact Clean.body | refine Clean.then ?_ | refine Clean.inBlock ?_ | refine SegQ.clean ?_ | refine FinC.clean ?_)) (n := 10) (rest := [[6, 7, 8, 9, 15, 16, 17, 18, 19, 20], [6, 7, 8, 15, 16, 17, 18, 9, 19, 20], [6, 7, 15, 8, 16, 17, 18, 9, 19, 20]]) [5] [⟨_, _, _, _, _, _⟩] rfl (by kernel_rfl) (by simp) _ _ ?_
        go_wp2_with (first
          | (show wpList _ _ _ (⟨_, .lookup 66 _ _ false, _, _, _, _⟩ :: _) _ _; refine wpList_val rfl (op_lookup mapTy rfl rfl (x := .agg (i.map B8).toArray) rfl ((hS.bring (by repeat (first | exact t0 | apply tS))).getMap) KI) ?_; rw [HLK.out]; go_frame)
          )
        refine segQ_mk (((hS.bring (by repeat (first | exact t0 | apply tS))).getBlk) : Blk _ nb 28 (i.map B8)) ?_
        refine ord_seg (by repeat (first | exact Clean.body | refine Clean.then ?_ | refine Clean.inBlock ?_ | refine SegQ.clean ?_ | refine FinC.clean ?_)) (n := 8) (rest := [[8, 9, 15, 16, 17, 18, 19, 20], [8, 15, 16, 17, 18, 9, 19, 20], [15, 8, 16, 17, 18, 9, 19, 20]]) [6, 7] [⟨_, _, _, _, _, _⟩, ⟨_, _, _, _, _, _⟩] rfl (by kernel_rfl) (by simp) _ _ ?_
        go_wp2_with fail
        refine segQ_mk (((hS.bring (by repeat (first | exact t0 | apply tS))).getBlk) : Blk _ nb 28 (i.map B8)) ?_
        refine ord_fork (n := 7) (os1 := [[8, 9, 15, 16, 17, 18, 19, 20], [8, 15, 16, 17, 18, 9, 19, 20]]) (os2 := [[15, 8, 16, 17, 18, 9, 19, 20]]) (by decide) ?_ ?_
        ·
          refine ord_seg (by repeat (first | exact Clean.body | refine Clean.then ?_ | refine Clean.inBlock ?_ | refine SegQ.clean ?_ | refine FinC.clean ?_)) (n := 7) (rest := [[9, 15, 16, 17, 18, 19, 20], [15, 16, 17, 18, 9, 19, 20]]) [8] [⟨_, _, _, _, _, _⟩] rfl (by kernel_rfl) (by simp) _ _ ?_
          go_wp2_with (first
            | (show wpList _ _ _ (⟨_, .load 3 _, _, _, _, _⟩ :: _) _ _; refine wpList_val rfl (op_load1S oneInt ((hS.bring (by repeat (first | exact t0 | apply tS)))) rfl rfl rfl) ?_; go_frame)
            )
          refine segQ_mk (((hS.bring (by repeat (first | exact t0 | apply tS))).getBlk) : Blk _ nb 28 (i.map B8)) ?_
          refine ord_fork (n := 6) (os1 := [[9, 15, 16, 17, 18, 19, 20]]) (os2 := [[15, 16, 17, 18, 9, 19, 20]]) (by decide) ?_ ?_
          ·
            refine ord_seg (by repeat (first | exact Clean.body | refine Clean.then ?_ | refine Clean.inBlock ?_ | refine SegQ.clean ?_ | refine FinC.clean ?_)) (n := 5) (rest := [[16, 17, 18, 19, 20]]) [9, 15] [⟨_, _, _, _, _, _⟩, ⟨_, _, _, _, _, _⟩] rfl (by kernel_rfl) (by simp) _ _ ?_
            go_wp2_with (first
              | (show wpList _ _ _ (⟨_, .lookup 66 _ _ false, _, _, _, _⟩ :: _) _ _; refine wpList_val rfl (op_lookup mapTy rfl rfl (x := .agg (i.map B8).toArray) rfl ((hS.bring (by repeat (first | exact t0 | apply tS))).getMap) KI) ?_; rw [HLK.out]; go_frame)
              | (show wpList _ _ _ (⟨_, .buildSlice 50 1 _, _, _, _, _⟩ :: _) _ _; refine wpS_build11 slInt hS rfl rfl (u := .int .i64 x.2.peer) rfl rfl ?_; clear hS; intro v1 w hS; go_frame)
              )
            refine segQ_mk (((hS.bring (by repeat (first | exact t0 | apply tS))).getBlk) : Blk _ nb 28 (i.map B8)) ?_
            refine ord_seg (by repeat (first | exact Clean.body | refine Clean.then ?_ | refine Clean.inBlock ?_ | refine SegQ.clean ?_ | refine FinC.clean ?_)) (n := 1) (rest := [[20]]) [16, 17, 18, 19] [⟨_, _, _, _, _, _⟩, ⟨_, _, _, _, _, _⟩, ⟨_, _, _, _, _, _⟩, ⟨_, _, _, _, _, _⟩] rfl (by kernel_rfl) (by simp) _ _ ?_
            go_wp2_with (first
              | (show wpList _ _ _ (⟨_, .load 50 _, _, _, _, _⟩ :: _) _ _; refine wpList_val rfl (op_load1S oneInts ((hS.bring (by repeat (first | exact t0 | apply tS)))) rfl rfl rfl) ?_; go_frame)
              | (show wpList _ _ _ (⟨_, .call ⟨.builtin .append, _, _⟩, _, _, _, _⟩ :: _) _ _; (refine wpS_append slInt (hS.bring (by repeat (first | exact t0 | apply tS))) rfl rfl (sv := v1) rfl rfl (ys := x.2.waits.map fun z => [I64 z]) ((hS.bring (by repeat (first | exact t0 | apply tS))).getOwn.rd) (flat_ints _) HB1.out HB2.out ?_); clear hS; intro v2 w hS; go_frame)
              )
            refine segQ_mk (((hS.bring (by repeat (first | exact t0 | apply tS))).getBlk) : Blk _ nb 28 (i.map B8)) ?_
            refine ord_seg (by repeat (first | exact Clean.body | refine Clean.then ?_ | refine Clean.inBlock ?_ | refine SegQ.clean ?_ | refine FinC.clean ?_)) (n := 0) (rest := [[]]) [20] [⟨_, _, _, _, _, _⟩] rfl (by kernel_rfl) (by simp) _ _ ?_
            go_wp2_with fail
            refine segQ_mk (((hS.bring (by repeat (first | exact t0 | apply tS))).getBlk) : Blk _ nb 28 (i.map B8)) ?_
            refine finC_mk (by kernel_rfl) (by
              intro t ht
              simp only [List.mem_cons, List.not_mem_nil, or_false] at ht
              subst ht
              exact stab_blk (b := nb) (fun w h => h) _ none) ?_
            go_wp2_with fail
            go_ret
            exact FINP (by exact hS.sel (by repeat (first | exact Sel.refl | refine Sel.take (by repeat (first | exact t0 | apply tS)) ?_ | apply Sel.drop)))
          ·
            refine ord_seg (by repeat (first | exact Clean.body | refine Clean.then ?_ | refine Clean.inBlock ?_ | refine SegQ.clean ?_ | refine FinC.clean ?_)) (n := 6) (rest := [[16, 17, 18, 9, 19, 20]]) [15] [⟨_, _, _, _, _, _⟩] rfl (by kernel_rfl) (by simp) _ _ ?_
            go_wp2_with (first
              | (show wpList _ _ _ (⟨_, .lookup 66 _ _ false, _, _, _, _⟩ :: _) _ _; refine wpList_val rfl (op_lookup mapTy rfl rfl (x := .agg (i.map B8).toArray) rfl ((hS.bring (by repeat (first | exact t0 | apply tS))).getMap) KI) ?_; rw [HLK.out]; go_frame)
              )
            refine segQ_mk (((hS.bring (by repeat (first | exact t0 | apply tS))).getBlk) : Blk _ nb 28 (i.map B8)) ?_
            refine ord_seg (by repeat (first | exact Clean.body | refine Clean.then ?_ | refine Clean.inBlock ?_ | refine SegQ.clean ?_ | refine FinC.clean ?_)) (n := 1) (rest := [[20]]) [16, 17, 18, 9, 19] [⟨_, _, _, _, _, _⟩, ⟨_, _, _, _, _, _⟩, ⟨_, _, _, _, _, _⟩, ⟨_, _, _, _, _, _⟩, ⟨_, _, _, _, _, _⟩] rfl (by kernel_rfl) (by simp) _ _ ?_
            go_wp2_with (first
              | (show wpList _ _ _ (⟨_, .load 50 _, _, _, _, _⟩ :: _) _ _; refine wpList_val rfl (op_load1S oneInts ((hS.bring (by repeat (first | exact t0 | apply tS)))) rfl rfl rfl) ?_; go_frame)
              | (show wpList _ _ _ (⟨_, .buildSlice 50 1 _, _, _, _, _⟩ :: _) _ _; refine wpS_build11 slInt hS rfl rfl (u := .int .i64 x.2.peer) rfl rfl ?_; clear hS; intro v1 w hS; go_frame)
              | (show wpList _ _ _ (⟨_, .call ⟨.builtin .append, _, _⟩, _, _, _, _⟩ :: _) _ _; (refine wpS_append slInt (hS.bring (by repeat (first | exact t0 | apply tS))) rfl rfl (sv := v1) rfl rfl (ys := x.2.waits.map fun z => [I64 z]) ((hS.bring (by repeat (first | exact t0 | apply tS))).getOwn.rd) (flat_ints _) HB1.out HB2.out ?_); clear hS; intro v2 w hS; go_frame)
              )
            refine segQ_mk (((hS.bring (by repeat (first | exact t0 | apply tS))).getBlk) : Blk _ nb 28 (i.map B8)) ?_
            refine ord_seg (by repeat (first | exact Clean.body | refine Clean.then ?_ | refine Clean.inBlock ?_ | refine SegQ.clean ?_ | refine FinC.clean ?_)) (n := 0) (rest := [[]]) [20] [⟨_, _, _, _, _, _⟩] rfl (by kernel_rfl) (by simp) _ _ ?_
            go_wp2_with fail
            refine segQ_mk (((hS.bring (by repeat (first | exact t0 | apply tS))).getBlk) : Blk _ nb 28 (i.map B8)) ?_
            refine finC_mk (by kernel_rfl) (by
              intro t ht
              simp only [List.mem_cons, List.not_mem_nil, or_false] at ht
              subst ht
              exact stab_blk (b := nb) (fun w h => h) _ none) ?_
            go_wp2_with fail
            go_ret
            exact FINP (by exact hS.sel (by repeat (first | exact Sel.refl | refine Sel.take (by repeat (first | exact t0 | apply tS)) ?_ | apply Sel.drop)))
        ·
          refine ord_seg (by repeat (first | exact Clean.body | refine Clean.then ?_ | refine Clean.inBlock ?_ | refine SegQ.clean ?_ | refine FinC.clean ?_)) (n := 7) (rest := [[8, 16, 17, 18, 9, 19, 20]]) [15] [⟨_, _, _, _, _, _⟩] rfl (by kernel_rfl) (by simp) _ _ ?_
          go_wp2_with (first
            | (show wpList _ _ _ (⟨_, .lookup 66 _ _ false, _, _, _, _⟩ :: _) _ _; refine wpList_val rfl (op_lookup mapTy rfl rfl (x := .agg (i.map B8).toArray) rfl ((hS.bring (by repeat (first | exact t0 | apply tS))).getMap) KI) ?_; rw [HLK.out]; go_frame)
            )
          refine segQ_mk (((hS.bring (by repeat (first | exact t0 | apply tS))).getBlk) : Blk _ nb 28 (i.map B8)) ?_
          refine ord_seg (by repeat (first | exact Clean.body | refine Clean.then ?_ | refine Clean.inBlock ?_ | refine SegQ.clean ?_ | refine FinC.clean ?_)) (n := 1) (rest := [[20]]) [8, 16, 17, 18, 9, 19] [⟨_, _, _, _, _, _⟩, ⟨_, _, _, _, _, _⟩, ⟨_, _, _, _, _, _⟩, ⟨_, _, _, _, _, _⟩, ⟨_, _, _, _, _, _⟩, ⟨_, _, _, _, _, _⟩] rfl (by kernel_rfl) (by simp) _ _ ?_
          go_wp2_with (first
            | (show wpList _ _ _ (⟨_, .load 50 _, _, _, _, _⟩ :: _) _ _; refine wpList_val rfl (op_load1S oneInts ((hS.bring (by repeat (first | exact t0 | apply tS)))) rfl rfl rfl) ?_; go_frame)
            | (show wpList _ _ _ (⟨_, .load 3 _, _, _, _, _⟩ :: _) _ _; refine wpList_val rfl (op_load1S oneInt ((hS.bring (by repeat (first | exact t0 | apply tS)))) rfl rfl rfl) ?_; go_frame)
            | (show wpList _ _ _ (⟨_, .buildSlice 50 1 _, _, _, _, _⟩ :: _) _ _; refine wpS_build11 slInt hS rfl rfl (u := .int .i64 x.2.peer) rfl rfl ?_; clear hS; intro v1 w hS; go_frame)
            | (show wpList _ _ _ (⟨_, .call ⟨.builtin .append, _, _⟩, _, _, _, _⟩ :: _) _ _; (refine wpS_append slInt (hS.bring (by repeat (first | exact t0 | apply tS))) rfl rfl (sv := v1) rfl rfl (ys := x.2.waits.map fun z => [I64 z]) ((hS.bring (by repeat (first | exact t0 | apply tS))).getOwn.rd) (flat_ints _) HB1.out HB2.out ?_); clear hS; intro v2 w hS; go_frame)
            )
          refine segQ_mk (((hS.bring (by repeat (first | exact t0 | apply tS))).getBlk) : Blk _ nb 28 (i.map B8)) ?_
          refine ord_seg (by repeat (first | exact Clean.body | refine Clean.then ?_ | refine Clean.inBlock ?_ | refine SegQ.clean ?_ | refine FinC.clean ?_)) (n := 0) (rest := [[]]) [20] [⟨_, _, _, _, _, _⟩] rfl (by kernel_rfl) (by simp) _ _ ?_
          go_wp2_with fail
          refine segQ_mk (((hS.bring (by repeat (first | exact t0 | apply tS))).getBlk) : Blk _ nb 28 (i.map B8)) ?_
          refine finC_mk (by kernel_rfl) (by
            intro t ht
            simp only [List.mem_cons, List.not_mem_nil, or_false] at ht
            subst ht
            exact stab_blk (b := nb) (fun w h => h) _ none) ?_
          go_wp2_with fail
          go_ret
          exact FINP (by exact hS.sel (by repeat (first | exact Sel.refl | refine Sel.take (by repeat (first | exact t0 | apply tS)) ?_ | apply Sel.drop)))
      ·
        refine ord_seg (by repeat (first | exact Clean.body | refine Clean.then ?_ | refine Clean.inBlock ?_ | refine SegQ.clean ?_ | refine FinC.clean ?_)) (n := 10) (rest := [[16, 17, 5, 6, 7, 8, 18, 9, 19, 20], [16, 17, 18, 5, 6, 7, 8, 9, 19, 20]]) [15] [⟨_, _, _, _, _, _⟩] rfl (by kernel_rfl) (by simp) _ _ ?_
        go_wp2_with (first
          | (show wpList _ _ _ (⟨_, .lookup 66 _ _ false, _, _, _, _⟩ :: _) _ _; refine wpList_val rfl (op_lookup mapTy rfl rfl (x := .agg (i.map B8).toArray) rfl ((hS.bring (by repeat (first | exact t0 | apply tS))).getMap) KI) ?_; rw [HLK.out]; go_frame)
          )
        refine segQ_mk (((hS.bring (by repeat (first | exact t0 | apply tS))).getBlk) : Blk _ nb 28 (i.map B8)) ?_
        refine ord_seg (by repeat (first | exact Clean.body | refine Clean.then ?_ | refine Clean.inBlock ?_ | refine SegQ.clean ?_ | refine FinC.clean ?_)) (n := 8) (rest := [[5, 6, 7, 8, 18, 9, 19, 20], [18, 5, 6, 7, 8, 9, 19, 20]]) [16, 17] [⟨_, _, _, _, _, _⟩, ⟨_, _, _, _, _, _⟩] rfl (by kernel_rfl) (by simp) _ _ ?_
        go_wp2_with fail
        refine segQ_mk (((hS.bring (by repeat (first | exact t0 | apply tS))).getBlk) : Blk _ nb 28 (i.map B8)) ?_
        refine ord_fork (n := 7) (os1 := [[5, 6, 7, 8, 18, 9, 19, 20]]) (os2 := [[18, 5, 6, 7, 8, 9, 19, 20]]) (by decide) ?_ ?_
        ·
          refine ord_seg (by repeat (first | exact Clean.body | refine Clean.then ?_ | refine Clean.inBlock ?_ | refine SegQ.clean ?_ | refine FinC.clean ?_)) (n := 7) (rest := [[6, 7, 8, 18, 9, 19, 20]]) [5] [⟨_, _, _, _, _, _⟩] rfl (by kernel_rfl) (by simp) _ _ ?_
          go_wp2_with (first
            | (show wpList _ _ _ (⟨_, .lookup 66 _ _ false, _, _, _, _⟩ :: _) _ _; refine wpList_val rfl (op_lookup mapTy rfl rfl (x := .agg (i.map B8).toArray) rfl ((hS.bring (by repeat (first | exact t0 | apply tS))).getMap) KI) ?_; rw [HLK.out]; go_frame)
            )
          refine segQ_mk (((hS.bring (by repeat (first | exact t0 | apply tS))).getBlk) : Blk _ nb 28 (i.map B8)) ?_
          refine ord_seg (by repeat (first | exact Clean.body | refine Clean.then ?_ | refine Clean.inBlock ?_ | refine SegQ.clean ?_ | refine FinC.clean ?_)) (n := 1) (rest := [[20]]) [6, 7, 8, 18, 9, 19] [⟨_, _, _, _, _, _⟩, ⟨_, _, _, _, _, _⟩, ⟨_, _, _, _, _, _⟩, ⟨_, _, _, _, _, _⟩, ⟨_, _, _, _, _, _⟩, ⟨_, _, _, _, _, _⟩] rfl (by kernel_rfl) (by simp) _ _ ?_
          go_wp2_with (first
            | (show wpList _ _ _ (⟨_, .load 50 _, _, _, _, _⟩ :: _) _ _; refine wpList_val rfl (op_load1S oneInts ((hS.bring (by repeat (first | exact t0 | apply tS)))) rfl rfl rfl) ?_; go_frame)
            | (show wpList _ _ _ (⟨_, .load 3 _, _, _, _, _⟩ :: _) _ _; refine wpList_val rfl (op_load1S oneInt ((hS.bring (by repeat (first | exact t0 | apply tS)))) rfl rfl rfl) ?_; go_frame)
            | (show wpList _ _ _ (⟨_, .buildSlice 50 1 _, _, _, _, _⟩ :: _) _ _; refine wpS_build11 slInt hS rfl rfl (u := .int .i64 x.2.peer) rfl rfl ?_; clear hS; intro v1 w hS; go_frame)
            | (show wpList _ _ _ (⟨_, .call ⟨.builtin .append, _, _⟩, _, _, _, _⟩ :: _) _ _; (refine wpS_append slInt (hS.bring (by repeat (first | exact t0 | apply tS))) rfl rfl (sv := v1) rfl rfl (ys := x.2.waits.map fun z => [I64 z]) ((hS.bring (by repeat (first | exact t0 | apply tS))).getOwn.rd) (flat_ints _) HB1.out HB2.out ?_); clear hS; intro v2 w hS; go_frame)
            )
          refine segQ_mk (((hS.bring (by repeat (first | exact t0 | apply tS))).getBlk) : Blk _ nb 28 (i.map B8)) ?_
          refine ord_seg (by repeat (first | exact Clean.body | refine Clean.then ?_ | refine Clean.inBlock ?_ | refine SegQ.clean ?_ | refine FinC.clean ?_)) (n := 0) (rest := [[]]) [20] [⟨_, _, _, _, _, _⟩] rfl (by kernel_rfl) (by simp) _ _ ?_
          go_wp2_with fail
          refine segQ_mk (((hS.bring (by repeat (first | exact t0 | apply tS))).getBlk) : Blk _ nb 28 (i.map B8)) ?_
          refine finC_mk (by kernel_rfl) (by
            intro t ht
            simp only [List.mem_cons, List.not_mem_nil, or_false] at ht
            subst ht
            exact stab_blk (b := nb) (fun w h => h) _ none) ?_
          go_wp2_with fail
          go_ret
          exact FINP (by exact hS.sel (by repeat (first | exact Sel.refl | refine Sel.take (by repeat (first | exact t0 | apply tS)) ?_ | apply Sel.drop)))
        ·
          refine ord_seg (by repeat (first | exact Clean.body | refine Clean.then ?_ | refine Clean.inBlock ?_ | refine SegQ.clean ?_ | refine FinC.clean ?_)) (n := 6) (rest := [[6, 7, 8, 9, 19, 20]]) [18, 5] [⟨_, _, _, _, _, _⟩, ⟨_, _, _, _, _, _⟩] rfl (by kernel_rfl) (by simp) _ _ ?_
          go_wp2_with (first
            | (show wpList _ _ _ (⟨_, .load 50 _, _, _, _, _⟩ :: _) _ _; refine wpList_val rfl (op_load1S oneInts ((hS.bring (by repeat (first | exact t0 | apply tS)))) rfl rfl rfl) ?_; go_frame)
            | (show wpList _ _ _ (⟨_, .lookup 66 _ _ false, _, _, _, _⟩ :: _) _ _; refine wpList_val rfl (op_lookup mapTy rfl rfl (x := .agg (i.map B8).toArray) rfl ((hS.bring (by repeat (first | exact t0 | apply tS))).getMap) KI) ?_; rw [HLK.out]; go_frame)
            )
          refine segQ_mk (((hS.bring (by repeat (first | exact t0 | apply tS))).getBlk) : Blk _ nb 28 (i.map B8)) ?_
          refine ord_seg (by repeat (first | exact Clean.body | refine Clean.then ?_ | refine Clean.inBlock ?_ | refine SegQ.clean ?_ | refine FinC.clean ?_)) (n := 1) (rest := [[20]]) [6, 7, 8, 9, 19] [⟨_, _, _, _, _, _⟩, ⟨_, _, _, _, _, _⟩, ⟨_, _, _, _, _, _⟩, ⟨_, _, _, _, _, _⟩, ⟨_, _, _, _, _, _⟩] rfl (by kernel_rfl) (by simp) _ _ ?_
          go_wp2_with (first
            | (show wpList _ _ _ (⟨_, .load 3 _, _, _, _, _⟩ :: _) _ _; refine wpList_val rfl (op_load1S oneInt ((hS.bring (by repeat (first | exact t0 | apply tS)))) rfl rfl rfl) ?_; go_frame)
            | (show wpList _ _ _ (⟨_, .buildSlice 50 1 _, _, _, _, _⟩ :: _) _ _; refine wpS_build11 slInt hS rfl rfl (u := .int .i64 x.2.peer) rfl rfl ?_; clear hS; intro v1 w hS; go_frame)
            | (show wpList _ _ _ (⟨_, .call ⟨.builtin .append, _, _⟩, _, _, _, _⟩ :: _) _ _; (refine wpS_append slInt (hS.bring (by repeat (first | exact t0 | apply tS))) rfl rfl (sv := v1) rfl rfl (ys := x.2.waits.map fun z => [I64 z]) ((hS.bring (by repeat (first | exact t0 | apply tS))).getOwn.rd) (flat_ints _) HB1.out HB2.out ?_); clear hS; intro v2 w hS; go_frame)
            )
          refine segQ_mk (((hS.bring (by repeat (first | exact t0 | apply tS))).getBlk) : Blk _ nb 28 (i.map B8)) ?_
          refine ord_seg (by repeat (first | exact Clean.body | refine Clean.then ?_ | refine Clean.inBlock ?_ | refine SegQ.clean ?_ | refine FinC.clean ?_)) (n := 0) (rest := [[]]) [20] [⟨_, _, _, _, _, _⟩] rfl (by kernel_rfl) (by simp) _ _ ?_
          go_wp2_with fail
          refine segQ_mk (((hS.bring (by repeat (first | exact t0 | apply tS))).getBlk) : Blk _ nb 28 (i.map B8)) ?_
          refine finC_mk (by kernel_rfl) (by
            intro t ht
            simp only [List.mem_cons, List.not_mem_nil, or_false] at ht
            subst ht
            exact stab_blk (b := nb) (fun w h => h) _ none) ?_
          go_wp2_with fail
          go_ret
          exact FINP (by exact hS.sel (by repeat (first | exact Sel.refl | refine Sel.take (by repeat (first | exact t0 | apply tS)) ?_ | apply Sel.drop)))
  ·
    refine ord_seg (by repeat (first | exact Clean.body | refine Clean.then ?_ | refine Clean.inBlock ?_ | refine SegQ.clean ?_ | refine FinC.clean ?_)) (n := 12) (rest := [[3, 5, 6, 7, 8, 9, 15, 16, 17, 18, 19, 20], [3, 5, 6, 7, 8, 15, 16, 17, 18, 9, 19, 20], [3, 5, 6, 7, 15, 8, 16, 17, 18, 9, 19, 20], [3, 15, 16, 17, 5, 6, 7, 8, 18, 9, 19, 20], [3, 15, 16, 17, 18, 5, 6, 7, 8, 9, 19, 20], [15, 3, 16, 17, 5, 6, 7, 8, 18, 9, 19, 20], [15, 3, 16, 17, 18, 5, 6, 7, 8, 9, 19, 20]]) [13] [⟨_, _, _, _, _, _⟩] rfl (by kernel_rfl) (by simp) _ _ ?_
    go_wp2_with (first
      | (show wpList _ _ _ (⟨_, .load 66 _, _, _, _, _⟩ :: _) _ _; refine wpList_val rfl (op_load1S oneMap ((hS.bring (by repeat (first | exact t0 | apply tS)))) rfl rfl rfl) ?_; go_frame)
      )
    refine segQ_mk (((hS.bring (by repeat (first | exact t0 | apply tS))).getBlk) : Blk _ nb 28 (i.map B8)) ?_
    refine ord_fork (n := 11) (os1 := [[3, 5, 6, 7, 8, 9, 15, 16, 17, 18, 19, 20], [3, 5, 6, 7, 8, 15, 16, 17, 18, 9, 19, 20], [3, 5, 6, 7, 15, 8, 16, 17, 18, 9, 19, 20], [3, 15, 16, 17, 5, 6, 7, 8, 18, 9, 19, 20], [3, 15, 16, 17, 18, 5, 6, 7, 8, 9, 19, 20]]) (os2 := [[15, 3, 16, 17, 5, 6, 7, 8, 18, 9, 19, 20], [15, 3, 16, 17, 18, 5, 6, 7, 8, 9, 19, 20]]) (by decide) ?_ ?_
    ·
      refine ord_seg (by repeat (first | exact Clean.body | refine Clean.then ?_ | refine Clean.inBlock ?_ | refine SegQ.clean ?_ | refine FinC.clean ?_)) (n := 11) (rest := [[5, 6, 7, 8, 9, 15, 16, 17, 18, 19, 20], [5, 6, 7, 8, 15, 16, 17, 18, 9, 19, 20], [5, 6, 7, 15, 8, 16, 17, 18, 9, 19, 20], [15, 16, 17, 5, 6, 7, 8, 18, 9, 19, 20], [15, 16, 17, 18, 5, 6, 7, 8, 9, 19, 20]]) [3] [⟨_, _, _, _, _, _⟩] rfl (by kernel_rfl) (by simp) _ _ ?_
      go_wp2_with (first
        | (show wpList _ _ _ (⟨_, .load 66 _, _, _, _, _⟩ :: _) _ _; refine wpList_val rfl (op_load1S oneMap ((hS.bring (by repeat (first | exact t0 | apply tS)))) rfl rfl rfl) ?_; go_frame)
        )
      refine segQ_mk (((hS.bring (by repeat (first | exact t0 | apply tS))).getBlk) : Blk _ nb 28 (i.map B8)) ?_
      refine ord_fork (n := 10) (os1 := [[5, 6, 7, 8, 9, 15, 16, 17, 18, 19, 20], [5, 6, 7, 8, 15, 16, 17, 18, 9, 19, 20], [5, 6, 7, 15, 8, 16, 17, 18, 9, 19, 20]]) (os2 := [[15, 16, 17, 5, 6, 7, 8, 18, 9, 19, 20], [15, 16, 17, 18, 5, 6, 7, 8, 9, 19, 20]]) (by decide) ?_ ?_
      ·
        refine ord_seg (by repeat (first | exact Clean.body | refine Clean.then ?_ | refine Clean.inBlock ?_ | refine SegQ.clean ?_ | refine FinC.clean ?_)) (n := 10) (rest := [[6, 7, 8, 9, 15, 16, 17, 18, 19, 20], [6, 7, 8, 15, 16, 17, 18, 9, 19, 20], [6, 7, 15, 8, 16, 17, 18, 9, 19, 20]]) [5] [⟨_, _, _, _, _, _⟩] rfl (by kernel_rfl) (by simp) _ _ ?_
        go_wp2_with (first
          | (show wpList _ _ _ (⟨_, .lookup 66 _ _ false, _, _, _, _⟩ :: _) _ _; refine wpList_val rfl (op_lookup mapTy rfl rfl (x := .agg (i.map B8).toArray) rfl ((hS.bring (by repeat (first | exact t0 | apply tS))).getMap) KI) ?_; rw [HLK.out]; go_frame)
          )
        refine segQ_mk (((hS.bring (by repeat (first | exact t0 | apply tS))).getBlk) : Blk _ nb 28 (i.map B8)) ?_
        refine ord_seg (by repeat (first | exact Clean.body | refine Clean.then ?_ | refine Clean.inBlock ?_ | refine SegQ.clean ?_ | refine FinC.clean ?_)) (n := 8) (rest := [[8, 9, 15, 16, 17, 18, 19, 20], [8, 15, 16, 17, 18, 9, 19, 20], [15, 8, 16, 17, 18, 9, 19, 20]]) [6, 7] [⟨_, _, _, _, _, _⟩, ⟨_, _, _, _, _, _⟩] rfl (by kernel_rfl) (by simp) _ _ ?_
        go_wp2_with fail
        refine segQ_mk (((hS.bring (by repeat (first | exact t0 | apply tS))).getBlk) : Blk _ nb 28 (i.map B8)) ?_
        refine ord_fork (n := 7) (os1 := [[8, 9, 15, 16, 17, 18, 19, 20], [8, 15, 16, 17, 18, 9, 19, 20]]) (os2 := [[15, 8, 16, 17, 18, 9, 19, 20]]) (by decide) ?_ ?_
        ·
          refine ord_seg (by repeat (first | exact Clean.body | refine Clean.then ?_ | refine Clean.inBlock ?_ | refine SegQ.clean ?_ | refine FinC.clean ?_)) (n := 7) (rest := [[9, 15, 16, 17, 18, 19, 20], [15, 16, 17, 18, 9, 19, 20]]) [8] [⟨_, _, _, _, _, _⟩] rfl (by kernel_rfl) (by simp) _ _ ?_
          go_wp2_with (first
            | (show wpList _ _ _ (⟨_, .load 3 _, _, _, _, _⟩ :: _) _ _; refine wpList_val rfl (op_load1S oneInt ((hS.bring (by repeat (first | exact t0 | apply tS)))) rfl rfl rfl) ?_; go_frame)
            )
          refine segQ_mk (((hS.bring (by repeat (first | exact t0 | apply tS))).getBlk) : Blk _ nb 28 (i.map B8)) ?_
          refine ord_fork (n := 6) (os1 := [[9, 15, 16, 17, 18, 19, 20]]) (os2 := [[15, 16, 17, 18, 9, 19, 20]]) (by decide) ?_ ?_
          ·
            refine ord_seg (by repeat (first | exact Clean.body | refine Clean.then ?_ | refine Clean.inBlock ?_ | refine SegQ.clean ?_ | refine FinC.clean ?_)) (n := 5) (rest := [[16, 17, 18, 19, 20]]) [9, 15] [⟨_, _, _, _, _, _⟩, ⟨_, _, _, _, _, _⟩] rfl (by kernel_rfl) (by simp) _ _ ?_
            go_wp2_with (first
              | (show wpList _ _ _ (⟨_, .lookup 66 _ _ false, _, _, _, _⟩ :: _) _ _; refine wpList_val rfl (op_lookup mapTy rfl rfl (x := .agg (i.map B8).toArray) rfl ((hS.bring (by repeat (first | exact t0 | apply tS))).getMap) KI) ?_; rw [HLK.out]; go_frame)
              | (show wpList _ _ _ (⟨_, .buildSlice 50 1 _, _, _, _, _⟩ :: _) _ _; refine wpS_build11 slInt hS rfl rfl (u := .int .i64 x.2.peer) rfl rfl ?_; clear hS; intro v1 w hS; go_frame)
              )
            refine segQ_mk (((hS.bring (by repeat (first | exact t0 | apply tS))).getBlk) : Blk _ nb 28 (i.map B8)) ?_
            refine ord_seg (by repeat (first | exact Clean.body | refine Clean.then ?_ | refine Clean.inBlock ?_ | refine SegQ.clean ?_ | refine FinC.clean ?_)) (n := 1) (rest := [[20]]) [16, 17, 18, 19] [⟨_, _, _, _, _, _⟩, ⟨_, _, _, _, _, _⟩, ⟨_, _, _, _, _, _⟩, ⟨_, _, _, _, _, _⟩] rfl (by kernel_rfl) (by simp) _ _ ?_
            go_wp2_with (first
              | (show wpList _ _ _ (⟨_, .load 50 _, _, _, _, _⟩ :: _) _ _; refine wpList_val rfl (op_load1S oneInts ((hS.bring (by repeat (first | exact t0 | apply tS)))) rfl rfl rfl) ?_; go_frame)
              | (show wpList _ _ _ (⟨_, .call ⟨.builtin .append, _, _⟩, _, _, _, _⟩ :: _) _ _; (refine wpS_append slInt (hS.bring (by repeat (first | exact t0 | apply tS))) rfl rfl (sv := v1) rfl rfl (ys := x.2.waits.map fun z => [I64 z]) ((hS.bring (by repeat (first | exact t0 | apply tS))).getOwn.rd) (flat_ints _) HB1.out HB2.out ?_); clear hS; intro v2 w hS; go_frame)
              )
            refine segQ_mk (((hS.bring (by repeat (first | exact t0 | apply tS))).getBlk) : Blk _ nb 28 (i.map B8)) ?_
            refine ord_seg (by repeat (first | exact Clean.body | refine Clean.then ?_ | refine Clean.inBlock ?_ | refine SegQ.clean ?_ | refine FinC.clean ?_)) (n := 0) (rest := [[]]) [20] [⟨_, _, _, _, _, _⟩] rfl (by kernel_rfl) (by simp) _ _ ?_
            go_wp2_with fail
            refine segQ_mk (((hS.bring (by repeat (first | exact t0 | apply tS))).getBlk) : Blk _ nb 28 (i.map B8)) ?_
            refine finC_mk (by kernel_rfl) (by
              intro t ht
              simp only [List.mem_cons, List.not_mem_nil, or_false] at ht
              subst ht
              exact stab_blk (b := nb) (fun w h => h) _ none) ?_
            go_wp2_with fail
            go_ret
            exact FINP (by exact hS.sel (by repeat (first | exact Sel.refl | refine Sel.take (by repeat (first | exact t0 | apply tS)) ?_ | apply Sel.drop)))
          ·
            refine ord_seg (by repeat (first | exact Clean.body | refine Clean.then ?_ | refine Clean.inBlock ?_ | refine SegQ.clean ?_ | refine FinC.clean ?_)) (n := 6) (rest := [[16, 17, 18, 9, 19, 20]]) [15] [⟨_, _, _, _, _, _⟩] rfl (by kernel_rfl) (by simp) _ _ ?_
            go_wp2_with (first
              | (show wpList _ _ _ (⟨_, .lookup 66 _ _ false, _, _, _, _⟩ :: _) _ _; refine wpList_val rfl (op_lookup mapTy rfl rfl (x := .agg (i.map B8).toArray) rfl ((hS.bring (by repeat (first | exact t0 | apply tS))).getMap) KI) ?_; rw [HLK.out]; go_frame)
              )
            refine segQ_mk (((hS.bring (by repeat (first | exact t0 | apply tS))).getBlk) : Blk _ nb 28 (i.map B8)) ?_
            refine ord_seg (by repeat (first | exact Clean.body | refine Clean.then ?_ | refine Clean.inBlock ?_ | refine SegQ.clean ?_ | refine FinC.clean ?_)) (n := 1) (rest := [[20]]) [16, 17, 18, 9, 19] [⟨_, _, _, _, _, _⟩, ⟨_, _, _, _, _, _⟩, ⟨_, _, _, _, _, _⟩, ⟨_, _, _, _, _, _⟩, ⟨_, _, _, _, _, _⟩] rfl (by kernel_rfl) (by simp) _ _ ?_
            go_wp2_with (first
              | (show wpList _ _ _ (⟨_, .load 50 _, _, _, _, _⟩ :: _) _ _; refine wpList_val rfl (op_load1S oneInts ((hS.bring (by repeat (first | exact t0 | apply tS)))) rfl rfl rfl) ?_; go_frame)
              | (show wpList _ _ _ (⟨_, .buildSlice 50 1 _, _, _, _, _⟩ :: _) _ _; refine wpS_build11 slInt hS rfl rfl (u := .int .i64 x.2.peer) rfl rfl ?_; clear hS; intro v1 w hS; go_frame)
              | (show wpList _ _ _ (⟨_, .call ⟨.builtin .append, _, _⟩, _, _, _, _⟩ :: _) _ _; (refine wpS_append slInt (hS.bring (by repeat (first | exact t0 | apply tS))) rfl rfl (sv := v1) rfl rfl (ys := x.2.waits.map fun z => [I64 z]) ((hS.bring (by repeat (first | exact t0 | apply tS))).getOwn.rd) (flat_ints _) HB1.out HB2.out ?_); clear hS; intro v2 w hS; go_frame)
              )
            refine segQ_mk (((hS.bring (by repeat (first | exact t0 | apply tS))).getBlk) : Blk _ nb 28 (i.map B8)) ?_
            refine ord_seg (by repeat (first | exact Clean.body | refine Clean.then ?_ | refine Clean.inBlock ?_ | refine SegQ.clean ?_ | refine FinC.clean ?_)) (n := 0) (rest := [[]]) [20] [⟨_, _, _, _, _, _⟩] rfl (by kernel_rfl) (by simp) _ _ ?_
            go_wp2_with fail
            refine segQ_mk (((hS.bring (by repeat (first | exact t0 | apply tS))).getBlk) : Blk _ nb 28 (i.map B8)) ?_
            refine finC_mk (by kernel_rfl) (by
              intro t ht
              simp only [List.mem_cons, List.not_mem_nil, or_false] at ht
              subst ht
              exact stab_blk (b := nb) (fun w h => h) _ none) ?_
            go_wp2_with fail
            go_ret
            exact FINP (by exact hS.sel (by repeat (first | exact Sel.refl | refine Sel.take (by repeat (first | exact t0 | apply tS)) ?_ | apply Sel.drop)))
        ·
          refine ord_seg (by repeat (first | exact Clean.body | refine Clean.then ?_ | refine Clean.inBlock ?_ | refine SegQ.clean ?_ | refine FinC.clean ?_)) (n := 7) (rest := [[8, 16, 17, 18, 9, 19, 20]]) [15] [⟨_, _, _, _, _, _⟩] rfl (by kernel_rfl) (by simp) _ _ ?_
          go_wp2_with (first
            | (show wpList _ _ _ (⟨_, .lookup 66 _ _ false, _, _, _, _⟩ :: _) _ _; refine wpList_val rfl (op_lookup mapTy rfl rfl (x := .agg (i.map B8).toArray) rfl ((hS.bring (by repeat (first | exact t0 | apply tS))).getMap) KI) ?_; rw [HLK.out]; go_frame)
            )
          refine segQ_mk (((hS.bring (by repeat (first | exact t0 | apply tS))).getBlk) : Blk _ nb 28 (i.map B8)) ?_
          refine ord_seg (by repeat (first | exact Clean.body | refine Clean.then ?_ | refine Clean.inBlock ?_ | refine SegQ.clean ?_ | refine FinC.clean ?_)) (n := 1) (rest := [[20]]) [8, 16, 17, 18, 9, 19] [⟨_, _, _, _, _, _⟩, ⟨_, _, _, _, _, _⟩, ⟨_, _, _, _, _, _⟩, ⟨_, _, _, _, _, _⟩, ⟨_, _, _, _, _, _⟩, ⟨_, _, _, _, _, _⟩] rfl (by kernel_rfl) (by simp) _ _ ?_
          go_wp2_with (first
            | (show wpList _ _ _ (⟨_, .load 50 _, _, _, _, _⟩ :: _) _ _; refine wpList_val rfl (op_load1S oneInts ((hS.bring (by repeat (first | exact t0 | apply tS)))) rfl rfl rfl) ?_; go_frame)
            | (show wpList _ _ _ (⟨_, .load 3 _, _, _, _, _⟩ :: _) _ _; refine wpList_val rfl (op_load1S oneInt ((hS.bring (by repeat (first | exact t0 | apply tS)))) rfl rfl rfl) ?_; go_frame)
            | (show wpList _ _ _ (⟨_, .buildSlice 50 1 _, _, _, _, _⟩ :: _) _ _; refine wpS_build11 slInt hS rfl rfl (u := .int .i64 x.2.peer) rfl rfl ?_; clear hS; intro v1 w hS; go_frame)
            | (show wpList _ _ _ (⟨_, .call ⟨.builtin .append, _, _⟩, _, _, _, _⟩ :: _) _ _; (refine wpS_append slInt (hS.bring (by repeat (first | exact t0 | apply tS))) rfl rfl (sv := v1) rfl rfl (ys := x.2.waits.map fun z => [I64 z]) ((hS.bring (by repeat (first | exact t0 | apply tS))).getOwn.rd) (flat_ints _) HB1.out HB2.out ?_); clear hS; intro v2 w hS; go_frame)
            )
          refine segQ_mk (((hS.bring (by repeat (first | exact t0 | apply tS))).getBlk) : Blk _ nb 28 (i.map B8)) ?_
          refine ord_seg (by repeat (first | exact Clean.body | refine Clean.then ?_ | refine Clean.inBlock ?_ | refine SegQ.clean ?_ | refine FinC.clean ?_)) (n := 0) (rest := [[]]) [20] [⟨_, _, _, _, _, _⟩] rfl (by kernel_rfl) (by simp) _ _ ?_
          go_wp2_with fail
          refine segQ_mk (((hS.bring (by repeat (first | exact t0 | apply tS))).getBlk) : Blk _ nb 28 (i.map B8)) ?_
          refine finC_mk (by kernel_rfl) (by
            intro t ht
            simp only [List.mem_cons, List.not_mem_nil, or_false] at ht
            subst ht
            exact stab_blk (b := nb) (fun w h => h) _ none) ?_
          go_wp2_with fail
          go_ret
          exact FINP (by exact hS.sel (by repeat (first | exact Sel.refl | refine Sel.take (by repeat (first | exact t0 | apply tS)) ?_ | apply Sel.drop)))
      ·
        refine ord_seg (by repeat (first | exact Clean.body | refine Clean.then ?_ | refine Clean.inBlock ?_ | refine SegQ.clean ?_ | refine FinC.clean ?_)) (n := 10) (rest := [[16, 17, 5, 6, 7, 8, 18, 9, 19, 20], [16, 17, 18, 5, 6, 7, 8, 9, 19, 20]]) [15] [⟨_, _, _, _, _, _⟩] rfl (by kernel_rfl) (by simp) _ _ ?_
        go_wp2_with (first
          | (show wpList _ _ _ (⟨_, .lookup 66 _ _ false, _, _, _, _⟩ :: _) _ _; refine wpList_val rfl (op_lookup mapTy rfl rfl (x := .agg (i.map B8).toArray) rfl ((hS.bring (by repeat (first | exact t0 | apply tS))).getMap) KI) ?_; rw [HLK.out]; go_frame)
          )
        refine segQ_mk (((hS.bring (by repeat (first | exact t0 | apply tS))).getBlk) : Blk _ nb 28 (i.map B8)) ?_
        refine ord_seg (by repeat (first | exact Clean.body | refine Clean.then ?_ | refine Clean.inBlock ?_ | refine SegQ.clean ?_ | refine FinC.clean ?_)) (n := 8) (rest := [[5, 6, 7, 8, 18, 9, 19, 20], [18, 5, 6, 7, 8, 9, 19, 20]]) [16, 17] [⟨_, _, _, _, _, _⟩, ⟨_, _, _, _, _, _⟩] rfl (by kernel_rfl) (by simp) _ _ ?_
        go_wp2_with fail
        refine segQ_mk (((hS.bring (by repeat (first | exact t0 | apply tS))).getBlk) : Blk _ nb 28 (i.map B8)) ?_
        refine ord_fork (n := 7) (os1 := [[5, 6, 7, 8, 18, 9, 19, 20]]) (os2 := [[18, 5, 6, 7, 8, 9, 19, 20]]) (by decide) ?_ ?_
        ·
          refine ord_seg (by repeat (first | exact Clean.body | refine Clean.then ?_ | refine Clean.inBlock ?_ | refine SegQ.clean ?_ | refine FinC.clean ?_)) (n := 7) (rest := [[6, 7, 8, 18, 9, 19, 20]]) [5] [⟨_, _, _, _, _, _⟩] rfl (by kernel_rfl) (by simp) _ _ ?_
          go_wp2_with (first
            | (show wpList _ _ _ (⟨_, .lookup 66 _ _ false, _, _, _, _⟩ :: _) _ _; refine wpList_val rfl (op_lookup mapTy rfl rfl (x := .agg (i.map B8).toArray) rfl ((hS.bring (by repeat (first | exact t0 | apply tS))).getMap) KI) ?_; rw [HLK.out]; go_frame)
            )
          refine segQ_mk (((hS.bring (by repeat (first | exact t0 | apply tS))).getBlk) : Blk _ nb 28 (i.map B8)) ?_
          refine ord_seg (by repeat (first | exact Clean.body | refine Clean.then ?_ | refine Clean.inBlock ?_ | refine SegQ.clean ?_ | refine FinC.clean ?_)) (n := 1) (rest := [[20]]) [6, 7, 8, 18, 9, 19] [⟨_, _, _, _, _, _⟩, ⟨_, _, _, _, _, _⟩, ⟨_, _, _, _, _, _⟩, ⟨_, _, _, _, _, _⟩, ⟨_, _, _, _, _, _⟩, ⟨_, _, _, _, _, _⟩] rfl (by kernel_rfl) (by simp) _ _ ?_
          go_wp2_with (first
            | (show wpList _ _ _ (⟨_, .load 50 _, _, _, _, _⟩ :: _) _ _; refine wpList_val rfl (op_load1S oneInts ((hS.bring (by repeat (first | exact t0 | apply tS)))) rfl rfl rfl) ?_; go_frame)
            | (show wpList _ _ _ (⟨_, .load 3 _, _, _, _, _⟩ :: _) _ _; refine wpList_val rfl (op_load1S oneInt ((hS.bring (by repeat (first | exact t0 | apply tS)))) rfl rfl rfl) ?_; go_frame)
            | (show wpList _ _ _ (⟨_, .buildSlice 50 1 _, _, _, _, _⟩ :: _) _ _; refine wpS_build11 slInt hS rfl rfl (u := .int .i64 x.2.peer) rfl rfl ?_; clear hS; intro v1 w hS; go_frame)
            | (show wpList _ _ _ (⟨_, .call ⟨.builtin .append, _, _⟩, _, _, _, _⟩ :: _) _ _; (refine wpS_append slInt (hS.bring (by repeat (first | exact t0 | apply tS))) rfl rfl (sv := v1) rfl rfl (ys := x.2.waits.map fun z => [I64 z]) ((hS.bring (by repeat (first | exact t0 | apply tS))).getOwn.rd) (flat_ints _) HB1.out HB2.out ?_); clear hS; intro v2 w hS; go_frame)
            )
          refine segQ_mk (((hS.bring (by repeat (first | exact t0 | apply tS))).getBlk) : Blk _ nb 28 (i.map B8)) ?_
          refine ord_seg (by repeat (first | exact Clean.body | refine Clean.then ?_ | refine Clean.inBlock ?_ | refine SegQ.clean ?_ | refine FinC.clean ?_)) (n := 0) (rest := [[]]) [20] [⟨_, _, _, _, _, _⟩] rfl (by kernel_rfl) (by simp) _ _ ?_
          go_wp2_with fail
          refine segQ_mk (((hS.bring (by repeat (first | exact t0 | apply tS))).getBlk) : Blk _ nb 28 (i.map B8)) ?_
          refine finC_mk (by kernel_rfl) (by
            intro t ht
            simp only [List.mem_cons, List.not_mem_nil, or_false] at ht
            subst ht
            exact stab_blk (b := nb) (fun w h => h) _ none) ?_
          go_wp2_with fail
          go_ret
          exact FINP (by exact hS.sel (by repeat (first | exact Sel.refl | refine Sel.take (by repeat (first | exact t0 | apply tS)) ?_ | apply Sel.drop)))
        ·
          refine ord_seg (by repeat (first | exact Clean.body | refine Clean.then ?_ | refine Clean.inBlock ?_ | refine SegQ.clean ?_ | refine FinC.clean ?_)) (n := 6) (rest := [[6, 7, 8, 9, 19, 20]]) [18, 5] [⟨_, _, _, _, _, _⟩, ⟨_, _, _, _, _, _⟩] rfl (by kernel_rfl) (by simp) _ _ ?_
          go_wp2_with (first
            | (show wpList _ _ _ (⟨_, .load 50 _, _, _, _, _⟩ :: _) _ _; refine wpList_val rfl (op_load1S oneInts ((hS.bring (by repeat (first | exact t0 | apply tS)))) rfl rfl rfl) ?_; go_frame)
            | (show wpList _ _ _ (⟨_, .lookup 66 _ _ false, _, _, _, _⟩ :: _) _ _; refine wpList_val rfl (op_lookup mapTy rfl rfl (x := .agg (i.map B8).toArray) rfl ((hS.bring (by repeat (first | exact t0 | apply tS))).getMap) KI) ?_; rw [HLK.out]; go_frame)
            )
          refine segQ_mk (((hS.bring (by repeat (first | exact t0 | apply tS))).getBlk) : Blk _ nb 28 (i.map B8)) ?_
          refine ord_seg (by repeat (first | exact Clean.body | refine Clean.then ?_ | refine Clean.inBlock ?_ | refine SegQ.clean ?_ | refine FinC.clean ?_)) (n := 1) (rest := [[20]]) [6, 7, 8, 9, 19] [⟨_, _, _, _, _, _⟩, ⟨_, _, _, _, _, _⟩, ⟨_, _, _, _, _, _⟩, ⟨_, _, _, _, _, _⟩, ⟨_, _, _, _, _, _⟩] rfl (by kernel_rfl) (by simp) _ _ ?_
          go_wp2_with (first
            | (show wpList _ _ _ (⟨_, .load 3 _, _, _, _, _⟩ :: _) _ _; refine wpList_val rfl (op_load1S oneInt ((hS.bring (by repeat (first | exact t0 | apply tS)))) rfl rfl rfl) ?_; go_frame)
            | (show wpList _ _ _ (⟨_, .buildSlice 50 1 _, _, _, _, _⟩ :: _) _ _; refine wpS_build11 slInt hS rfl rfl (u := .int .i64 x.2.peer) rfl rfl ?_; clear hS; intro v1 w hS; go_frame)
            | (show wpList _ _ _ (⟨_, .call ⟨.builtin .append, _, _⟩, _, _, _, _⟩ :: _) _ _; (refine wpS_append slInt (hS.bring (by repeat (first | exact t0 | apply tS))) rfl rfl (sv := v1) rfl rfl (ys := x.2.waits.map fun z => [I64 z]) ((hS.bring (by repeat (first | exact t0 | apply tS))).getOwn.rd) (flat_ints _) HB1.out HB2.out ?_); clear hS; intro v2 w hS; go_frame)
            )
          refine segQ_mk (((hS.bring (by repeat (first | exact t0 | apply tS))).getBlk) : Blk _ nb 28 (i.map B8)) ?_
          refine ord_seg (by repeat (first | exact Clean.body | refine Clean.then ?_ | refine Clean.inBlock ?_ | refine SegQ.clean ?_ | refine FinC.clean ?_)) (n := 0) (rest := [[]]) [20] [⟨_, _, _, _, _, _⟩] rfl (by kernel_rfl) (by simp) _ _ ?_
          go_wp2_with fail
          refine segQ_mk (((hS.bring (by repeat (first | exact t0 | apply tS))).getBlk) : Blk _ nb 28 (i.map B8)) ?_
          refine finC_mk (by kernel_rfl) (by
            intro t ht
            simp only [List.mem_cons, List.not_mem_nil, or_false] at ht
            subst ht
            exact stab_blk (b := nb) (fun w h => h) _ none) ?_
          go_wp2_with fail
          go_ret
          exact FINP (by exact hS.sel (by repeat (first | exact Sel.refl | refine Sel.take (by repeat (first | exact t0 | apply tS)) ?_ | apply Sel.drop)))
    ·
      refine ord_seg (by repeat (first | exact Clean.body | refine Clean.then ?_ | refine Clean.inBlock ?_ | refine SegQ.clean ?_ | refine FinC.clean ?_)) (n := 11) (rest := [[3, 16, 17, 5, 6, 7, 8, 18, 9, 19, 20], [3, 16, 17, 18, 5, 6, 7, 8, 9, 19, 20]]) [15] [⟨_, _, _, _, _, _⟩] rfl (by kernel_rfl) (by simp) _ _ ?_
      go_wp2_with (first
        | (show wpList _ _ _ (⟨_, .lookup 66 _ _ false, _, _, _, _⟩ :: _) _ _; refine wpList_val rfl (op_lookup mapTy rfl rfl (x := .agg (i.map B8).toArray) rfl ((hS.bring (by repeat (first | exact t0 | apply tS))).getMap) KI) ?_; rw [HLK.out]; go_frame)
        )
      refine segQ_mk (((hS.bring (by repeat (first | exact t0 | apply tS))).getBlk) : Blk _ nb 28 (i.map B8)) ?_
      refine ord_seg (by repeat (first | exact Clean.body | refine Clean.then ?_ | refine Clean.inBlock ?_ | refine SegQ.clean ?_ | refine FinC.clean ?_)) (n := 8) (rest := [[5, 6, 7, 8, 18, 9, 19, 20], [18, 5, 6, 7, 8, 9, 19, 20]]) [3, 16, 17] [⟨_, _, _, _, _, _⟩, ⟨_, _, _, _, _, _⟩, ⟨_, _, _, _, _, _⟩] rfl (by kernel_rfl) (by simp) _ _ ?_
      go_wp2_with (first
        | (show wpList _ _ _ (⟨_, .load 66 _, _, _, _, _⟩ :: _) _ _; refine wpList_val rfl (op_load1S oneMap ((hS.bring (by repeat (first | exact t0 | apply tS)))) rfl rfl rfl) ?_; go_frame)
        )
      refine segQ_mk (((hS.bring (by repeat (first | exact t0 | apply tS))).getBlk) : Blk _ nb 28 (i.map B8)) ?_
      refine ord_fork (n := 7) (os1 := [[5, 6, 7, 8, 18, 9, 19, 20]]) (os2 := [[18, 5, 6, 7, 8, 9, 19, 20]]) (by decide) ?_ ?_
      ·
        refine ord_seg (by repeat (first | exact Clean.body | refine Clean.then ?_ | refine Clean.inBlock ?_ | refine SegQ.clean ?_ | refine FinC.clean ?_)) (n := 7) (rest := [[6, 7, 8, 18, 9, 19, 20]]) [5] [⟨_, _, _, _, _, _⟩] rfl (by kernel_rfl) (by simp) _ _ ?_
        go_wp2_with (first
          | (show wpList _ _ _ (⟨_, .lookup 66 _ _ false, _, _, _, _⟩ :: _) _ _; refine wpList_val rfl (op_lookup mapTy rfl rfl (x := .agg (i.map B8).toArray) rfl ((hS.bring (by repeat (first | exact t0 | apply tS))).getMap) KI) ?_; rw [HLK.out]; go_frame)
          )
        refine segQ_mk (((hS.bring (by repeat (first | exact t0 | apply tS))).getBlk) : Blk _ nb 28 (i.map B8)) ?_
        refine ord_seg (by repeat (first | exact Clean.body | refine Clean.then ?_ | refine Clean.inBlock ?_ | refine SegQ.clean ?_ | refine FinC.clean ?_)) (n := 1) (rest := [[20]]) [6, 7, 8, 18, 9, 19] [⟨_, _, _, _, _, _⟩, ⟨_, _, _, _, _, _⟩, ⟨_, _, _, _, _, _⟩, ⟨_, _, _, _, _, _⟩, ⟨_, _, _, _, _, _⟩, ⟨_, _, _, _, _, _⟩] rfl (by kernel_rfl) (by simp) _ _ ?_
        go_wp2_with (first
          | (show wpList _ _ _ (⟨_, .load 50 _, _, _, _, _⟩ :: _) _ _; refine wpList_val rfl (op_load1S oneInts ((hS.bring (by repeat (first | exact t0 | apply tS)))) rfl rfl rfl) ?_; go_frame)
          | (show wpList _ _ _ (⟨_, .load 3 _, _, _, _, _⟩ :: _) _ _; refine wpList_val rfl (op_load1S oneInt ((hS.bring (by repeat (first | exact t0 | apply tS)))) rfl rfl rfl) ?_; go_frame)
          | (show wpList _ _ _ (⟨_, .buildSlice 50 1 _, _, _, _, _⟩ :: _) _ _; refine wpS_build11 slInt hS rfl rfl (u := .int .i64 x.2.peer) rfl rfl ?_; clear hS; intro v1 w hS; go_frame)
          | (show wpList _ _ _ (⟨_, .call ⟨.builtin .append, _, _⟩, _, _, _, _⟩ :: _) _ _; (refine wpS_append slInt (hS.bring (by repeat (first | exact t0 | apply tS))) rfl rfl (sv := v1) rfl rfl (ys := x.2.waits.map fun z => [I64 z]) ((hS.bring (by repeat (first | exact t0 | apply tS))).getOwn.rd) (flat_ints _) HB1.out HB2.out ?_); clear hS; intro v2 w hS; go_frame)
          )
        refine segQ_mk (((hS.bring (by repeat (first | exact t0 | apply tS))).getBlk) : Blk _ nb 28 (i.map B8)) ?_
        refine ord_seg (by repeat (first | exact Clean.body | refine Clean.then ?_ | refine Clean.inBlock ?_ | refine SegQ.clean ?_ | refine FinC.clean ?_)) (n := 0) (rest := [[]]) [20] [⟨_, _, _, _, _, _⟩] rfl (by kernel_rfl) (by simp) _ _ ?_
        go_wp2_with fail
        refine segQ_mk (((hS.bring (by repeat (first | exact t0 | apply tS))).getBlk) : Blk _ nb 28 (i.map B8)) ?_
        refine finC_mk (by kernel_rfl) (by
          intro t ht
          simp only [List.mem_cons, List.not_mem_nil, or_false] at ht
          subst ht
          exact stab_blk (b := nb) (fun w h => h) _ none) ?_
        go_wp2_with fail
        go_ret
        exact FINP (by exact hS.sel (by repeat (first | exact Sel.refl | refine Sel.take (by repeat (first | exact t0 | apply tS)) ?_ | apply Sel.drop)))
      ·
        refine ord_seg (by repeat (first | exact Clean.body | refine Clean.then ?_ | refine Clean.inBlock ?_ | refine SegQ.clean ?_ | refine FinC.clean ?_)) (n := 6) (rest := [[6, 7, 8, 9, 19, 20]]) [18, 5] [⟨_, _, _, _, _, _⟩, ⟨_, _, _, _, _, _⟩] rfl (by kernel_rfl) (by simp) _ _ ?_
        go_wp2_with (first
          | (show wpList _ _ _ (⟨_, .load 50 _, _, _, _, _⟩ :: _) _ _; refine wpList_val rfl (op_load1S oneInts ((hS.bring (by repeat (first | exact t0 | apply tS)))) rfl rfl rfl) ?_; go_frame)
          | (show wpList _ _ _ (⟨_, .lookup 66 _ _ false, _, _, _, _⟩ :: _) _ _; refine wpList_val rfl (op_lookup mapTy rfl rfl (x := .agg (i.map B8).toArray) rfl ((hS.bring (by repeat (first | exact t0 | apply tS))).getMap) KI) ?_; rw [HLK.out]; go_frame)
          )
        refine segQ_mk (((hS.bring (by repeat (first | exact t0 | apply tS))).getBlk) : Blk _ nb 28 (i.map B8)) ?_
        refine ord_seg (by repeat (first | exact Clean.body | refine Clean.then ?_ | refine Clean.inBlock ?_ | refine SegQ.clean ?_ | refine FinC.clean ?_)) (n := 1) (rest := [[20]]) [6, 7, 8, 9, 19] [⟨_, _, _, _, _, _⟩, ⟨_, _, _, _, _, _⟩, ⟨_, _, _, _, _, _⟩, ⟨_, _, _, _, _, _⟩, ⟨_, _, _, _, _, _⟩] rfl (by kernel_rfl) (by simp) _ _ ?_
        go_wp2_with (first
          | (show wpList _ _ _ (⟨_, .load 3 _, _, _, _, _⟩ :: _) _ _; refine wpList_val rfl (op_load1S oneInt ((hS.bring (by repeat (first | exact t0 | apply tS)))) rfl rfl rfl) ?_; go_frame)
          | (show wpList _ _ _ (⟨_, .buildSlice 50 1 _, _, _, _, _⟩ :: _) _ _; refine wpS_build11 slInt hS rfl rfl (u := .int .i64 x.2.peer) rfl rfl ?_; clear hS; intro v1 w hS; go_frame)
          | (show wpList _ _ _ (⟨_, .call ⟨.builtin .append, _, _⟩, _, _, _, _⟩ :: _) _ _; (refine wpS_append slInt (hS.bring (by repeat (first | exact t0 | apply tS))) rfl rfl (sv := v1) rfl rfl (ys := x.2.waits.map fun z => [I64 z]) ((hS.bring (by repeat (first | exact t0 | apply tS))).getOwn.rd) (flat_ints _) HB1.out HB2.out ?_); clear hS; intro v2 w hS; go_frame)
          )
        refine segQ_mk (((hS.bring (by repeat (first | exact t0 | apply tS))).getBlk) : Blk _ nb 28 (i.map B8)) ?_
        refine ord_seg (by repeat (first | exact Clean.body | refine Clean.then ?_ | refine Clean.inBlock ?_ | refine SegQ.clean ?_ | refine FinC.clean ?_)) (n := 0) (rest := [[]]) [20] [⟨_, _, _, _, _, _⟩] rfl (by kernel_rfl) (by simp) _ _ ?_
        go_wp2_with fail
        refine segQ_mk (((hS.bring (by repeat (first | exact t0 | apply tS))).getBlk) : Blk _ nb 28 (i.map B8)) ?_
        refine finC_mk (by kernel_rfl) (by
          intro t ht
          simp only [List.mem_cons, List.not_mem_nil, or_false] at ht
          subst ht
          exact stab_blk (b := nb) (fun w h => h) _ none) ?_
        go_wp2_with fail
        go_ret
        exact FINP (by exact hS.sel (by repeat (first | exact Sel.refl | refine Sel.take (by repeat (first | exact t0 | apply tS)) ?_ | apply Sel.drop)))
end
end Go.Proofs.Ytafpdpcbckpkjaa
namespace Go.Proofs.Ytafpdpcbckpkjaa
open Go.RowKit Go.Px
section
variable {R : Nat → Prop} {base w : World} {F : List Hp}
set_option maxRecDepth 100000 in
theorem lack_out {p t : Nat} {q : Int} {B : List Ent} {i : List Byte} (hS : SepL R base w (hB p B :: F)) (hi : i.length = 32) (hout : i ∉ ids B) :
    Calls Try.prog 23 #[.pointer (some ⟨p, 0, none⟩), HV i, I64 q, U t] w (Ret fun r w' => r = .tuple #[.int .i64 0, .bool false] ∧ SepL R base w' (hB p B :: F)) := by
  obtain ⟨m, ov, l, hl, hS2⟩ := hB_open hS
  clear hS
  subst hl
  have hS := hS2
  clear hS2
  have KI := isKey hi
  have HLK := hide (get_out hout)
  have HI32 : Hid ((i.map B8).length = 32) := by simp [Hid, hi]
  clear hout hi
  unfold HV at KI HLK ⊢
  unfold bookP at hS
  go_enter Try.func23, Try.ntmps23
  go_wp2_with (first
    | (show wpList _ _ _ (⟨_, .box 28 _, _, _, _, _⟩ :: _) _ _; refine wpS_boxA (cs := i.map B8) hS rfl rfl rfl ?_; clear hS; intro nb w hS; go_frame)
    )
  refine wp_region_text (by kernel_rfl) (by kernel_rfl) (by repeat (first | exact Clean.body | refine Clean.then ?_ | refine Clean.inBlock ?_)) ?_
  replace hS := hS.drew
  go_wp2_with (first
    | (show wpList _ _ _ (⟨_, .load 66 _, _, _, _, _⟩ :: _) _ _; refine wpList_val rfl (op_load1S oneMap ((hS.bring (by repeat (first | exact t0 | apply tS)))) rfl rfl rfl) ?_; go_frame)
    | (show wpList _ _ _ (⟨_, .load 28 _, _, _, _, _⟩ :: _) _ _; refine wpList_val rfl (op_load aggHash rfl rfl ((hS.bring (by repeat (first | exact t0 | apply tS))).getBlk.cells) HI32.out) ?_; go_frame)
    | (show wpList _ _ _ (⟨_, .lookup 66 _ _ false, _, _, _, _⟩ :: _) _ _; refine wpList_val rfl (op_lookup mapTy rfl rfl (x := .agg (i.map B8).toArray) rfl ((hS.bring (by repeat (first | exact t0 | apply tS))).getMap) KI) ?_; rw [HLK.out]; go_frame)
    | (refine fin_mk (by kernel_rfl) ?_)
    )
  go_ret2
  exact ⟨rfl, hB_close (m := m) (ov := ov) (hS.sel (by repeat (first | exact Sel.refl | refine Sel.take (by repeat (first | exact t0 | apply tS)) ?_ | apply Sel.drop)))⟩
/-- whom to ask next, where a peer lacks it -/
def lackR (q : Int) (e : Ent) : Value := if e.peer ≠ q then .tuple #[.int .i64 0, .bool false] else nextR e
set_option maxRecDepth 100000 in
set_option maxHeartbeats 1000000 in
theorem lack_in {p t : Nat} {q : Int} {B1 B2 : List Ent} {e : Ent} (hS : SepL R base w (hB p (B1 ++ e :: B2) :: F)) (ok : BOk (B1 ++ e :: B2)) :
    Calls Try.prog 23 #[.pointer (some ⟨p, 0, none⟩), HV e.id, I64 q, U t] w (Ret fun r w' => r = lackR q e ∧ SepL R base w' (hB p (B1 ++ (lackE q t e).toList ++ B2) :: F)) := by
  obtain ⟨m, ov, l, hl, hS2⟩ := hB_open hS
  clear hS
  obtain ⟨l1, x, l2, hl, h1, h2, h3⟩ := split_elist hl
  subst hl h1 h2 h3
  have HOK := hide ok
  rw [← ents_mid] at ok
  have hi : x.2.id.length = 32 := ok.len x.2 (by rw [ents_mid]; simp)
  have hw := ok.wait x.2 (by rw [ents_mid]; simp)
  have HWL : Hid (x.2.waits.length ≤ 1000000) := by
    unfold Hid
    omega
  have hS := pull hS2
  clear hS2
  have KI := isKey hi
  have HLK := hide (get_in ok.nodup)
  obtain ⟨i, hii⟩ : ∃ i, x.2.id = i := ⟨_, rfl⟩
  have HII := hide hii
  rw [hii] at hi KI HLK ⊢
  have HI32 : Hid ((i.map B8).length = 32) := by simp [Hid, hi]
  clear ok hi hii hw
  unfold HV at KI HLK ⊢
  unfold bookP entP entC at hS
  by_cases hq : x.2.peer = q
  · have HQ : Hid ((x.2.peer != q) = false) := by
      unfold Hid
      simp [hq]
    have HE : Hid (lackE q t x.2 = goE t x.2) := if_neg (by simp [hq])
    have HR : Hid (lackR q x.2 = nextR x.2) := if_neg (by simp [hq])
    rw [HE.out, HR.out]
    clear hq HE HR
    cases hwt : x.2.waits with
    | nil =>
      have HNR : Hid (nextR x.2 = .tuple #[.int .i64 0, .bool false]) := by
        unfold Hid nextR
        rw [hwt]
      rw [HNR.out]
      go_enter Try.func23, Try.ntmps23
      go_wp2_with (first
        | (show wpList _ _ _ (⟨_, .box 28 _, _, _, _, _⟩ :: _) _ _; refine wpS_boxA (cs := i.map B8) hS rfl rfl rfl ?_; clear hS; intro nb w hS; go_frame)
        )
      refine wp_region_text (by kernel_rfl) (by kernel_rfl) (by repeat (first | exact Clean.body | refine Clean.then ?_ | refine Clean.inBlock ?_)) ?_
      replace hS := hS.drew
      go_wp2_with (first
        | (show wpList _ _ _ (⟨_, .load 66 _, _, _, _, _⟩ :: _) _ _; refine wpList_val rfl (op_load1S oneMap ((hS.bring (by repeat (first | exact t0 | apply tS)))) rfl rfl rfl) ?_; go_frame)
        | (show wpList _ _ _ (⟨_, .load 28 _, _, _, _, _⟩ :: _) _ _; refine wpList_val rfl (op_load aggHash rfl rfl ((hS.bring (by repeat (first | exact t0 | apply tS))).getBlk.cells) HI32.out) ?_; go_frame)
        | (show wpList _ _ _ (⟨_, .lookup 66 _ _ false, _, _, _, _⟩ :: _) _ _; refine wpList_val rfl (op_lookup mapTy rfl rfl (x := .agg (i.map B8).toArray) rfl ((hS.bring (by repeat (first | exact t0 | apply tS))).getMap) KI) ?_; rw [HLK.out]; go_frame)
        | (refine fin_mk (by kernel_rfl) ?_)
        )
      refine wp_region_text (by kernel_rfl) (by kernel_rfl) (by repeat (first | exact Clean.body | refine Clean.then ?_ | refine Clean.inBlock ?_)) ?_
      replace hS := hS.drew
      go_wp2_with (first
        | (show wpList _ _ _ (⟨_, .load 66 _, _, _, _, _⟩ :: _) _ _; refine wpList_val rfl (op_load1S oneMap ((hS.bring (by repeat (first | exact t0 | apply tS)))) rfl rfl rfl) ?_; go_frame)
        | (show wpList _ _ _ (⟨_, .load 3 _, _, _, _, _⟩ :: _) _ _; refine wpList_val rfl (op_load1S oneInt ((hS.bring (by repeat (first | exact t0 | apply tS)))) rfl rfl rfl) ?_; go_frame)
        | (show wpList _ _ _ (⟨_, .load 28 _, _, _, _, _⟩ :: _) _ _; refine wpList_val rfl (op_load aggHash rfl rfl ((hS.bring (by repeat (first | exact t0 | apply tS))).getBlk.cells) HI32.out) ?_; go_frame)
        | (show wpList _ _ _ (⟨_, .lookup 66 _ _ false, _, _, _, _⟩ :: _) _ _; refine wpList_val rfl (op_lookup mapTy rfl rfl (x := .agg (i.map B8).toArray) rfl ((hS.bring (by repeat (first | exact t0 | apply tS))).getMap) KI) ?_; rw [HLK.out]; go_frame)
        | (refine fin_mk (by kernel_rfl) ?_)
        | (show wpList _ _ _ (⟨some 33, .binOp _ _ _ _ _, _, _, _, _⟩ :: _) _ _; refine wpList_val rfl (op_ineI rfl rfl rfl HQ.out) ?_; go_frame)
        | (go_at_call 37; refine Ret.calls (next_c (B1 := elist l1) (B2 := elist l2) (e := x.2) (F := F) (relay_same (m := m) (ov := ov) (by exact hS.sel (by repeat (first | exact Sel.refl | refine Sel.take (by repeat (first | exact t0 | apply tS)) ?_ | apply Sel.drop)))) HOK.out HII.out) ?_; clear hS; rintro r w ⟨rfl, hS⟩; rw [HNR.out])
        )
      go_ret2
      exact ⟨rfl, hS⟩
    | cons h r =>
      have HNR : Hid (nextR x.2 = .tuple #[.int .i64 h, .bool true]) := by
        unfold Hid nextR
        rw [hwt]
      rw [HNR.out]
      go_enter Try.func23, Try.ntmps23
      go_wp2_with (first
        | (show wpList _ _ _ (⟨_, .box 28 _, _, _, _, _⟩ :: _) _ _; refine wpS_boxA (cs := i.map B8) hS rfl rfl rfl ?_; clear hS; intro nb w hS; go_frame)
        )
      refine wp_region_text (by kernel_rfl) (by kernel_rfl) (by repeat (first | exact Clean.body | refine Clean.then ?_ | refine Clean.inBlock ?_)) ?_
      replace hS := hS.drew
      go_wp2_with (first
        | (show wpList _ _ _ (⟨_, .load 66 _, _, _, _, _⟩ :: _) _ _; refine wpList_val rfl (op_load1S oneMap ((hS.bring (by repeat (first | exact t0 | apply tS)))) rfl rfl rfl) ?_; go_frame)
        | (show wpList _ _ _ (⟨_, .load 28 _, _, _, _, _⟩ :: _) _ _; refine wpList_val rfl (op_load aggHash rfl rfl ((hS.bring (by repeat (first | exact t0 | apply tS))).getBlk.cells) HI32.out) ?_; go_frame)
        | (show wpList _ _ _ (⟨_, .lookup 66 _ _ false, _, _, _, _⟩ :: _) _ _; refine wpList_val rfl (op_lookup mapTy rfl rfl (x := .agg (i.map B8).toArray) rfl ((hS.bring (by repeat (first | exact t0 | apply tS))).getMap) KI) ?_; rw [HLK.out]; go_frame)
        | (refine fin_mk (by kernel_rfl) ?_)
        )
      refine wp_region_text (by kernel_rfl) (by kernel_rfl) (by repeat (first | exact Clean.body | refine Clean.then ?_ | refine Clean.inBlock ?_)) ?_
      replace hS := hS.drew
      go_wp2_with (first
        | (show wpList _ _ _ (⟨_, .load 66 _, _, _, _, _⟩ :: _) _ _; refine wpList_val rfl (op_load1S oneMap ((hS.bring (by repeat (first | exact t0 | apply tS)))) rfl rfl rfl) ?_; go_frame)
        | (show wpList _ _ _ (⟨_, .load 3 _, _, _, _, _⟩ :: _) _ _; refine wpList_val rfl (op_load1S oneInt ((hS.bring (by repeat (first | exact t0 | apply tS)))) rfl rfl rfl) ?_; go_frame)
        | (show wpList _ _ _ (⟨_, .load 28 _, _, _, _, _⟩ :: _) _ _; refine wpList_val rfl (op_load aggHash rfl rfl ((hS.bring (by repeat (first | exact t0 | apply tS))).getBlk.cells) HI32.out) ?_; go_frame)
        | (show wpList _ _ _ (⟨_, .lookup 66 _ _ false, _, _, _, _⟩ :: _) _ _; refine wpList_val rfl (op_lookup mapTy rfl rfl (x := .agg (i.map B8).toArray) rfl ((hS.bring (by repeat (first | exact t0 | apply tS))).getMap) KI) ?_; rw [HLK.out]; go_frame)
        | (refine fin_mk (by kernel_rfl) ?_)
        | (show wpList _ _ _ (⟨some 33, .binOp _ _ _ _ _, _, _, _, _⟩ :: _) _ _; refine wpList_val rfl (op_ineI rfl rfl rfl HQ.out) ?_; go_frame)
        | (go_at_call 37; refine Ret.calls (next_c (B1 := elist l1) (B2 := elist l2) (e := x.2) (F := F) (relay_same (m := m) (ov := ov) (by exact hS.sel (by repeat (first | exact Sel.refl | refine Sel.take (by repeat (first | exact t0 | apply tS)) ?_ | apply Sel.drop)))) HOK.out HII.out) ?_; clear hS; rintro r w ⟨rfl, hS⟩; rw [HNR.out])
        )
      go_ret2
      exact ⟨rfl, hS⟩
  · have HQ : Hid ((x.2.peer != q) = true) := by
      unfold Hid
      simp [hq]
    have HE : Hid (lackE q t x.2 = some (quitE q x.2)) := if_pos hq
    have HR : Hid (lackR q x.2 = .tuple #[.int .i64 0, .bool false]) := if_pos hq
    rw [HE.out, HR.out]
    clear hq HE HR
    go_enter Try.func23, Try.ntmps23
    go_wp2_with (first
      | (show wpList _ _ _ (⟨_, .box 28 _, _, _, _, _⟩ :: _) _ _; refine wpS_boxA (cs := i.map B8) hS rfl rfl rfl ?_; clear hS; intro nb w hS; go_frame)
      )
    refine wp_region_text (by kernel_rfl) (by kernel_rfl) (by repeat (first | exact Clean.body | refine Clean.then ?_ | refine Clean.inBlock ?_)) ?_
    replace hS := hS.drew
    go_wp2_with (first
      | (show wpList _ _ _ (⟨_, .load 66 _, _, _, _, _⟩ :: _) _ _; refine wpList_val rfl (op_load1S oneMap ((hS.bring (by repeat (first | exact t0 | apply tS)))) rfl rfl rfl) ?_; go_frame)
      | (show wpList _ _ _ (⟨_, .load 28 _, _, _, _, _⟩ :: _) _ _; refine wpList_val rfl (op_load aggHash rfl rfl ((hS.bring (by repeat (first | exact t0 | apply tS))).getBlk.cells) HI32.out) ?_; go_frame)
      | (show wpList _ _ _ (⟨_, .lookup 66 _ _ false, _, _, _, _⟩ :: _) _ _; refine wpList_val rfl (op_lookup mapTy rfl rfl (x := .agg (i.map B8).toArray) rfl ((hS.bring (by repeat (first | exact t0 | apply tS))).getMap) KI) ?_; rw [HLK.out]; go_frame)
      | (refine fin_mk (by kernel_rfl) ?_)
      )
    refine wp_region_text (by kernel_rfl) (by kernel_rfl) (by repeat (first | exact Clean.body | refine Clean.then ?_ | refine Clean.inBlock ?_)) ?_
    replace hS := hS.drew
    go_wp2_with (first
      | (show wpList _ _ _ (⟨_, .load 66 _, _, _, _, _⟩ :: _) _ _; refine wpList_val rfl (op_load1S oneMap ((hS.bring (by repeat (first | exact t0 | apply tS)))) rfl rfl rfl) ?_; go_frame)
      | (show wpList _ _ _ (⟨_, .load 3 _, _, _, _, _⟩ :: _) _ _; refine wpList_val rfl (op_load1S oneInt ((hS.bring (by repeat (first | exact t0 | apply tS)))) rfl rfl rfl) ?_; go_frame)
      | (show wpList _ _ _ (⟨_, .load 28 _, _, _, _, _⟩ :: _) _ _; refine wpList_val rfl (op_load aggHash rfl rfl ((hS.bring (by repeat (first | exact t0 | apply tS))).getBlk.cells) HI32.out) ?_; go_frame)
      | (show wpList _ _ _ (⟨_, .lookup 66 _ _ false, _, _, _, _⟩ :: _) _ _; refine wpList_val rfl (op_lookup mapTy rfl rfl (x := .agg (i.map B8).toArray) rfl ((hS.bring (by repeat (first | exact t0 | apply tS))).getMap) KI) ?_; rw [HLK.out]; go_frame)
      | (refine fin_mk (by kernel_rfl) ?_)
      | (show wpList _ _ _ (⟨some 33, .binOp _ _ _ _ _, _, _, _, _⟩ :: _) _ _; refine wpList_val rfl (op_ineI rfl rfl rfl HQ.out) ?_; go_frame)
      | (go_at_call 36; refine Ret.calls (quit_s (c := x.1.1) (v := x.1.2) (l := x.2.waits) (q := q) (F := .blk nb 28 (i.map B8) :: (bookP p m ov (l1 ++ x :: l2) ++ (entsP (l1 ++ l2) ++ F))) (by exact hS.sel (by repeat (first | exact Sel.refl | refine Sel.take (by repeat (first | exact t0 | apply tS)) ?_ | apply Sel.drop))) HWL.out) ?_; clear hS; rintro r w ⟨v', hS⟩)
      )
    go_ret2
    exact ⟨rfl, relay (m := m) (ov := ov) (x := x) (v := v') (e := quitE q x.2) (by exact hS.sel (by repeat (first | exact Sel.refl | refine Sel.take (by repeat (first | exact t0 | apply tS)) ?_ | apply Sel.drop))) rfl⟩
end
end Go.Proofs.Ytafpdpcbckpkjaa
