/- A queue: made, what waits, all that is known, whether one is known. Conditions: those that stand ahead of each theorem. -/
import Derived.Test.YtffagjkjeojaaaaKS
namespace Go.Proofs.Ytffagjkjeojaaaa
open Go.RowKit Go.Px
theorem zs_of {P : Program} {t : TypeId} {z0 : Value} {n b : Nat} (h : (P.info? t).map (fun i => (i.zero, i.size, i.bytes)) = some (some z0, n, b)) : ∀ i z, P.info? t = some i → i.zero = some z → z.cells.toList = z0.cells.toList := by
  intro i z hi hz
  rw [hi] at h
  simp only [Option.map_some, Option.some.injEq, Prod.mk.injEq] at h
  rw [hz] at h
  have h1 := h.1
  injection h1 with h1
  rw [h1]
theorem buildQ (s : Nat) (w : World) : (Instr.build 53 #[(0, .pointer (some ⟨s, 0, none⟩))]).run Try.prog w = .ok (.agg #[.pointer (some ⟨s, 0, none⟩), .slice none 0 0]) w := run_build w 53 _ _ (by kernel_rfl)
section
variable {R : Nat → Prop} {base w : World} {F : List Hp}
set_option maxRecDepth 100000 in
set_option maxHeartbeats 1000000 in
theorem kall_s {s : Nat} {L : List Id} (hS : SepL R base w (hK s L :: F)) :
    Calls Try.prog 36 #[.pointer (some ⟨s, 0, none⟩)] w (Ret fun r w' => SepL R base w' (.own 24 32 r (bys L) :: hK s L :: F)) := by
  obtain ⟨m, rv, ring, f, hinv, h⟩ := hK_open hS
  clear hS
  have hS := h
  clear h
  have HI := hide hinv
  have HRL : Hid ((bys ring).length = ring.length) := bys_length ring
  have hrl := hinv.len
  have hfl : f ≤ ring.length := by
    have h1 := hinv.few
    have h2 := hinv.lt
    omega
  have HF1 : Hid (f ≤ (bys ring).length) := by unfold Hid; rw [HRL.out]; exact hfl
  have HEQ := hide hinv.eq
  have HC1 : Hid (∀ w : World, Rd 32 w rv (bys ring) → Rd 32 w (cutV 32 rv f (bys ring).length) (bys (ring.drop f))) := fun w h => by
    have h1 := h.cutV HF1.out (Nat.le_refl _)
    rwa [List.take_of_length_le (by simp), ← bys_drop] at h1
  have HC2 : Hid (∀ w : World, Rd 32 w rv (bys ring) → Rd 32 w (cutV 32 rv 0 f) (bys (ring.take f))) := fun w h => by
    have h1 := h.cutV (l := 0) (h := f) (Nat.zero_le _) HF1.out
    rwa [List.drop_zero, Nat.sub_zero, ← bys_take] at h1
  have HB1 : Hid ((([] : List (List Value)).length + (bys (ring.drop f)).length) * 32 ≤ 140737488355328) := by
    unfold Hid
    rw [bys_length, List.length_drop, List.length_nil]
    omega
  have HB2 : Hid (([] : List (List Value)).length + (bys (ring.drop f)).length ≤ maxLen) := by
    unfold Hid maxLen
    rw [bys_length, List.length_drop, List.length_nil]
    omega
  have HB3 : Hid (((bys (ring.drop f)).length + (bys (ring.take f)).length) * 32 ≤ 140737488355328) := by
    unfold Hid
    rw [bys_length, bys_length, List.length_drop, List.length_take]
    omega
  have HB4 : Hid ((bys (ring.drop f)).length + (bys (ring.take f)).length ≤ maxLen) := by
    unfold Hid maxLen
    rw [bys_length, bys_length, List.length_drop, List.length_take]
    omega
  clear hinv
  go_enter Try.func36, Try.ntmps36
  go_wp2_with (first
    | (show wpList _ _ _ (⟨_, .load 31 _, _, _, _, _⟩ :: _) _ _; refine wpList_val rfl (op_load1S (b := s) (T := 61) oneHashes ((hS.bring (by repeat (first | exact t0 | apply tS)))) rfl rfl rfl) ?_; go_frame)
    | (show wpList _ _ _ (⟨_, .load 3 _, _, _, _, _⟩ :: _) _ _; refine wpList_val rfl (op_load1S (b := s) (T := 61) oneInt ((hS.bring (by repeat (first | exact t0 | apply tS)))) rfl rfl rfl) ?_; go_frame)
    | (show wpList _ _ _ (⟨_, .call ⟨.builtin .len, _, _⟩, _, _, _, _⟩ :: _) _ _; refine wpList_val rfl (op_len slHash rfl rfl (v := rv) (xs := bys ring) rfl ((hS.bring (by repeat (first | exact t0 | apply tS))).getOwn.rd)) ?_; rw [HRL.out]; go_frame)
    | (show wpList _ _ _ (⟨_, .makeSlice _ _ _, _, _, _, _⟩ :: _) _ _; refine wpS_make slHash (zs := List.replicate 32 (.int .u8 0)) (zs_of iHash) hS rfl rfl (l := 0) (c := ring.length) rfl rfl (by omega) (by omega) (by omega) ?_; clear hS; intro v3 w hS; rw [List.replicate_zero] at hS; go_frame)
    | (show wpList _ _ _ (⟨some 21, .slice _ _ _ _ _, _, _, _, _⟩ :: _) _ _; refine wpList_val rfl (op_cut slHash rfl (v := rv) (xs := bys ring) rfl ((hS.bring (by repeat (first | exact t0 | apply tS))).getOwn.rd) (l := f) (h := _) (Or.inr rfl) (Or.inl ⟨rfl, rfl⟩) HF1.out (Nat.le_refl _)) ?_; go_frame)
    | (show wpList _ _ _ (⟨some 22, .call _, _, _, _, _⟩ :: _) _ _; (refine wpS_append slHash (hS.bring (by repeat (first | exact t0 | apply tS))) rfl rfl (sv := v3) (xs := []) (xv := cutV 32 rv f (bys ring).length) rfl rfl (ys := bys (ring.drop f)) (HC1.out _ ((hS.bring (by repeat (first | exact t0 | apply tS))).getOwn.rd)) (flat_bys _) HB1.out HB2.out ?_); clear hS; intro v4 w hS; rw [List.nil_append] at hS; go_frame)
    | (show wpList _ _ _ (⟨some 32, .slice _ _ _ _ _, _, _, _, _⟩ :: _) _ _; refine wpList_val rfl (op_cut slHash rfl (v := rv) (xs := bys ring) rfl ((hS.bring (by repeat (first | exact t0 | apply tS))).getOwn.rd) (l := 0) (h := f) (Or.inl ⟨rfl, rfl⟩) (Or.inr rfl) (by omega) HF1.out) ?_; go_frame)
    | (show wpList _ _ _ (⟨some 33, .call _, _, _, _, _⟩ :: _) _ _; (refine wpS_append slHash (hS.bring (by repeat (first | exact t0 | apply tS))) rfl rfl (sv := v4) (xs := bys (ring.drop f)) (xv := cutV 32 rv 0 f) rfl rfl (ys := bys (ring.take f)) (HC2.out _ ((hS.bring (by repeat (first | exact t0 | apply tS))).getOwn.rd)) (flat_bys _) HB3.out HB4.out ?_); clear hS; intro v5 w hS; rw [← bys_app, ← HEQ.out] at hS; go_frame)
    | (refine fin_mk (by kernel_rfl) ?_)
    )
  refine wp_region_text (by kernel_rfl) (by kernel_rfl) (by repeat (first | exact Clean.body | refine Clean.then ?_ | refine Clean.inBlock ?_)) ?_
  replace hS := hS.drew
  go_wp2_with (first
    | (show wpList _ _ _ (⟨_, .load 31 _, _, _, _, _⟩ :: _) _ _; refine wpList_val rfl (op_load1S (b := s) (T := 61) oneHashes ((hS.bring (by repeat (first | exact t0 | apply tS)))) rfl rfl rfl) ?_; go_frame)
    | (show wpList _ _ _ (⟨_, .load 3 _, _, _, _, _⟩ :: _) _ _; refine wpList_val rfl (op_load1S (b := s) (T := 61) oneInt ((hS.bring (by repeat (first | exact t0 | apply tS)))) rfl rfl rfl) ?_; go_frame)
    | (show wpList _ _ _ (⟨_, .call ⟨.builtin .len, _, _⟩, _, _, _, _⟩ :: _) _ _; refine wpList_val rfl (op_len slHash rfl rfl (v := rv) (xs := bys ring) rfl ((hS.bring (by repeat (first | exact t0 | apply tS))).getOwn.rd)) ?_; rw [HRL.out]; go_frame)
    | (show wpList _ _ _ (⟨_, .makeSlice _ _ _, _, _, _, _⟩ :: _) _ _; refine wpS_make slHash (zs := List.replicate 32 (.int .u8 0)) (zs_of iHash) hS rfl rfl (l := 0) (c := ring.length) rfl rfl (by omega) (by omega) (by omega) ?_; clear hS; intro v3 w hS; rw [List.replicate_zero] at hS; go_frame)
    | (show wpList _ _ _ (⟨some 21, .slice _ _ _ _ _, _, _, _, _⟩ :: _) _ _; refine wpList_val rfl (op_cut slHash rfl (v := rv) (xs := bys ring) rfl ((hS.bring (by repeat (first | exact t0 | apply tS))).getOwn.rd) (l := f) (h := _) (Or.inr rfl) (Or.inl ⟨rfl, rfl⟩) HF1.out (Nat.le_refl _)) ?_; go_frame)
    | (show wpList _ _ _ (⟨some 22, .call _, _, _, _, _⟩ :: _) _ _; (refine wpS_append slHash (hS.bring (by repeat (first | exact t0 | apply tS))) rfl rfl (sv := v3) (xs := []) (xv := cutV 32 rv f (bys ring).length) rfl rfl (ys := bys (ring.drop f)) (HC1.out _ ((hS.bring (by repeat (first | exact t0 | apply tS))).getOwn.rd)) (flat_bys _) HB1.out HB2.out ?_); clear hS; intro v4 w hS; rw [List.nil_append] at hS; go_frame)
    | (show wpList _ _ _ (⟨some 32, .slice _ _ _ _ _, _, _, _, _⟩ :: _) _ _; refine wpList_val rfl (op_cut slHash rfl (v := rv) (xs := bys ring) rfl ((hS.bring (by repeat (first | exact t0 | apply tS))).getOwn.rd) (l := 0) (h := f) (Or.inl ⟨rfl, rfl⟩) (Or.inr rfl) (by omega) HF1.out) ?_; go_frame)
    | (show wpList _ _ _ (⟨some 33, .call _, _, _, _, _⟩ :: _) _ _; (refine wpS_append slHash (hS.bring (by repeat (first | exact t0 | apply tS))) rfl rfl (sv := v4) (xs := bys (ring.drop f)) (xv := cutV 32 rv 0 f) rfl rfl (ys := bys (ring.take f)) (HC2.out _ ((hS.bring (by repeat (first | exact t0 | apply tS))).getOwn.rd)) (flat_bys _) HB3.out HB4.out ?_); clear hS; intro v5 w hS; rw [← bys_app, ← HEQ.out] at hS; go_frame)
    | (refine fin_mk (by kernel_rfl) ?_)
    )
  refine wp_region_text (by kernel_rfl) (by kernel_rfl) (by repeat (first | exact Clean.body | refine Clean.then ?_ | refine Clean.inBlock ?_)) ?_
  replace hS := hS.drew
  go_wp2_with (first
    | (show wpList _ _ _ (⟨_, .load 31 _, _, _, _, _⟩ :: _) _ _; refine wpList_val rfl (op_load1S (b := s) (T := 61) oneHashes ((hS.bring (by repeat (first | exact t0 | apply tS)))) rfl rfl rfl) ?_; go_frame)
    | (show wpList _ _ _ (⟨_, .load 3 _, _, _, _, _⟩ :: _) _ _; refine wpList_val rfl (op_load1S (b := s) (T := 61) oneInt ((hS.bring (by repeat (first | exact t0 | apply tS)))) rfl rfl rfl) ?_; go_frame)
    | (show wpList _ _ _ (⟨_, .call ⟨.builtin .len, _, _⟩, _, _, _, _⟩ :: _) _ _; refine wpList_val rfl (op_len slHash rfl rfl (v := rv) (xs := bys ring) rfl ((hS.bring (by repeat (first | exact t0 | apply tS))).getOwn.rd)) ?_; rw [HRL.out]; go_frame)
    | (show wpList _ _ _ (⟨_, .makeSlice _ _ _, _, _, _, _⟩ :: _) _ _; refine wpS_make slHash (zs := List.replicate 32 (.int .u8 0)) (zs_of iHash) hS rfl rfl (l := 0) (c := ring.length) rfl rfl (by omega) (by omega) (by omega) ?_; clear hS; intro v3 w hS; rw [List.replicate_zero] at hS; go_frame)
    | (show wpList _ _ _ (⟨some 21, .slice _ _ _ _ _, _, _, _, _⟩ :: _) _ _; refine wpList_val rfl (op_cut slHash rfl (v := rv) (xs := bys ring) rfl ((hS.bring (by repeat (first | exact t0 | apply tS))).getOwn.rd) (l := f) (h := _) (Or.inr rfl) (Or.inl ⟨rfl, rfl⟩) HF1.out (Nat.le_refl _)) ?_; go_frame)
    | (show wpList _ _ _ (⟨some 22, .call _, _, _, _, _⟩ :: _) _ _; (refine wpS_append slHash (hS.bring (by repeat (first | exact t0 | apply tS))) rfl rfl (sv := v3) (xs := []) (xv := cutV 32 rv f (bys ring).length) rfl rfl (ys := bys (ring.drop f)) (HC1.out _ ((hS.bring (by repeat (first | exact t0 | apply tS))).getOwn.rd)) (flat_bys _) HB1.out HB2.out ?_); clear hS; intro v4 w hS; rw [List.nil_append] at hS; go_frame)
    | (show wpList _ _ _ (⟨some 32, .slice _ _ _ _ _, _, _, _, _⟩ :: _) _ _; refine wpList_val rfl (op_cut slHash rfl (v := rv) (xs := bys ring) rfl ((hS.bring (by repeat (first | exact t0 | apply tS))).getOwn.rd) (l := 0) (h := f) (Or.inl ⟨rfl, rfl⟩) (Or.inr rfl) (by omega) HF1.out) ?_; go_frame)
    | (show wpList _ _ _ (⟨some 33, .call _, _, _, _, _⟩ :: _) _ _; (refine wpS_append slHash (hS.bring (by repeat (first | exact t0 | apply tS))) rfl rfl (sv := v4) (xs := bys (ring.drop f)) (xv := cutV 32 rv 0 f) rfl rfl (ys := bys (ring.take f)) (HC2.out _ ((hS.bring (by repeat (first | exact t0 | apply tS))).getOwn.rd)) (flat_bys _) HB3.out HB4.out ?_); clear hS; intro v5 w hS; rw [← bys_app, ← HEQ.out] at hS; go_frame)
    | (refine fin_mk (by kernel_rfl) ?_)
    )
  go_ret
  have h1 := hK_close (hS.sel (by repeat (first | exact Sel.refl | refine Sel.take (by repeat (first | exact t0 | apply tS)) ?_ | apply Sel.drop)) : SepL R base _ (.blk s 61 [rv, I64 (f : Nat), .map (some m), I64 64] :: .own 24 32 rv (bys ring) :: .map Try.prog 24 m (ents L) :: .own 24 32 v5 (bys L) :: F)) HI.out
  exact h1.sel (by repeat (first | exact Sel.refl | refine Sel.take (by repeat (first | exact t0 | apply tS)) ?_ | apply Sel.drop))
set_option maxRecDepth 100000 in
theorem qnew_s (hS : SepL R base w F) : Calls Try.prog 11 #[] w (Ret fun r w' => ∃ p, r = .pointer (some ⟨p, 0, none⟩) ∧ SepL R base w' (hQ p ⟨[], []⟩ :: F)) := by
  go_enter Try.func11, Try.ntmps11
  go_wp2_with (first
    | (go_at_call 26; refine Ret.calls (knew_s hS) ?_; clear hS; rintro r w ⟨s, rfl, hS⟩)
    | (show wpList _ _ _ (⟨_, .build _ _, _, _, _, _⟩ :: _) _ _; refine wpList_val rfl (op_build (ps := #[(0, .pointer (some ⟨s, 0, none⟩))]) rfl rfl (buildQ s) _) ?_; go_frame)
    | (show wpList _ _ _ (⟨_, .box _ _, _, _, _, _⟩ :: _) _ _; refine wpS_boxA (cs := [.pointer (some ⟨s, 0, none⟩), .slice none 0 0]) hS rfl rfl rfl ?_; clear hS; intro p w hS; go_frame)
    )
  go_ret
  exact ⟨p, rfl, hQ_close (s := s) (wv := .slice none 0 0) (q := ⟨[], []⟩) ((hS.nilOwn 24 32).sel (by repeat (first | exact Sel.refl | refine Sel.take (by repeat (first | exact t0 | apply tS)) ?_ | apply Sel.drop)))⟩
set_option maxRecDepth 100000 in
theorem qwaits_s {p : Nat} {q : Qu} (hS : SepL R base w (hQ p q :: F)) (hok : QOk q) :
    Calls Try.prog 20 #[.pointer (some ⟨p, 0, none⟩)] w (Ret fun r w' => SepL R base w' (.own 24 32 r (bys q.waits) :: hQ p q :: F)) := by
  obtain ⟨s, wv, h⟩ := hQ_open hS
  clear hS
  have hS := h
  clear h
  have HWL : Hid ((bys q.waits).length ≤ 1000000) := by unfold Hid; rw [bys_length]; have := hok.wl; omega
  clear hok
  go_enter Try.func20, Try.ntmps20
  go_wp2_with (first
    | (show wpList _ _ _ (⟨_, .load 31 _, _, _, _, _⟩ :: _) _ _; refine wpList_val rfl (op_load1S (b := p) (T := 53) oneHashes ((hS.bring (by repeat (first | exact t0 | apply tS)))) rfl rfl rfl) ?_; go_frame)
    | (go_at_call 35; refine Ret.calls (clone_hash wv (bys q.waits) _ ((hS.bring (by repeat (first | exact t0 | apply tS))).getOwn.rd) (flat_bys _) HWL.out) ?_; rintro cv w2 hC; replace hS := hS.frameNew hC; clear hC; rw [List.singleton_append] at hS)
    )
  go_ret
  have h1 := hQ_close (hS.sel (by repeat (first | exact Sel.refl | refine Sel.take (by repeat (first | exact t0 | apply tS)) ?_ | apply Sel.drop)) : SepL R base _ (.blk p 53 [.pointer (some ⟨s, 0, none⟩), wv] :: hK s q.known :: .own 24 32 wv (bys q.waits) :: .own 24 32 cv (bys q.waits) :: F))
  exact h1.sel (by repeat (first | exact Sel.refl | refine Sel.take (by repeat (first | exact t0 | apply tS)) ?_ | apply Sel.drop))
set_option maxRecDepth 100000 in
theorem qall_s {p : Nat} {q : Qu} (hS : SepL R base w (hQ p q :: F)) :
    Calls Try.prog 21 #[.pointer (some ⟨p, 0, none⟩)] w (Ret fun r w' => SepL R base w' (.own 24 32 r (bys q.known) :: hQ p q :: F)) := by
  obtain ⟨s, wv, h⟩ := hQ_open hS
  clear hS
  have hS := h
  clear h
  go_enter Try.func21, Try.ntmps21
  go_wp2_with (first
    | (show wpList _ _ _ (⟨_, .load 48 _, _, _, _, _⟩ :: _) _ _; refine wpList_val rfl (op_load1S (b := p) (T := 53) oneSet ((hS.bring (by repeat (first | exact t0 | apply tS)))) rfl rfl rfl) ?_; go_frame)
    | (go_at_call 36; (refine Ret.calls (kall_s (s := s) (L := q.known) (hS.bring (by repeat (first | exact t0 | apply tS)))) ?_); clear hS; rintro cv w hS)
    )
  go_ret
  have h1 := hQ_close (hS.sel (by repeat (first | exact Sel.refl | refine Sel.take (by repeat (first | exact t0 | apply tS)) ?_ | apply Sel.drop)) : SepL R base _ (.blk p 53 [.pointer (some ⟨s, 0, none⟩), wv] :: hK s q.known :: .own 24 32 wv (bys q.waits) :: .own 24 32 cv (bys q.known) :: F))
  exact h1.sel (by repeat (first | exact Sel.refl | refine Sel.take (by repeat (first | exact t0 | apply tS)) ?_ | apply Sel.drop))
set_option maxRecDepth 100000 in
theorem qhas_s {p : Nat} {q : Qu} {x : Id} (hS : SepL R base w (hQ p q :: F)) (hx : x.length = 32) {b : Bool} (hb : Hid (decide (x ∈ q.known) = b)) :
    Calls Try.prog 22 #[.pointer (some ⟨p, 0, none⟩), HV x] w (Ret fun r w' => r = .bool b ∧ SepL R base w' (hQ p q :: F)) := by
  obtain ⟨s, wv, h⟩ := hQ_open hS
  clear hS
  have hS := h
  clear h
  have HX32 : Hid ((x.map B8).length = 32) := by simp [Hid, hx]
  have HX0 := hide hx
  have HMK := hb
  clear hx
  unfold HV
  go_enter Try.func22, Try.ntmps22
  go_wp2_with (first
    | (show wpList _ _ _ (⟨_, .box _ _, _, _, _, _⟩ :: _) _ _; refine wpS_boxA (cs := x.map B8) hS rfl rfl rfl ?_; clear hS; intro nb w hS; go_frame)
    )
  refine wp_region_text (by kernel_rfl) (by kernel_rfl) (by repeat (first | exact Clean.body | refine Clean.then ?_ | refine Clean.inBlock ?_)) ?_
  replace hS := hS.drew
  go_wp2_with (first
    | go_big_skip
    | (show wpList _ _ _ (⟨_, .load 48 _, _, _, _, _⟩ :: _) _ _; refine wpList_val rfl (op_load1S (b := p) (T := 53) oneSet ((hS.bring (by repeat (first | exact t0 | apply tS)))) rfl rfl rfl) ?_; go_frame)
    | (show wpList _ _ _ (⟨_, .load 31 _, _, _, _, _⟩ :: _) _ _; refine wpList_val rfl (op_load1S (b := p) (T := 53) oneHashes ((hS.bring (by repeat (first | exact t0 | apply tS)))) rfl rfl rfl) ?_; go_frame)
    | (show wpList _ _ _ (⟨_, .load 24 _, _, _, _, _⟩ :: _) _ _; refine wpList_val rfl (op_load aggHash rfl rfl (SepL.getBlk (b := nb) (T := 24) ((hS.bring (by repeat (first | exact t0 | apply tS))))).cells HX32.out) ?_; go_frame)
    | (go_at_call 27; (refine Ret.calls (khas_s (s := s) (L := q.known) (x := x) (hS.bring (by repeat (first | exact t0 | apply tS))) HX0.out HMK.out) ?_); clear hS; rintro r1 w ⟨rfl, hS⟩)
    | (refine fin_mk (by kernel_rfl) ?_)
    )
  go_ret
  have h1 := hQ_close (hS.sel (by repeat (first | exact Sel.refl | refine Sel.take (by repeat (first | exact t0 | apply tS)) ?_ | apply Sel.drop)) : SepL R base _ (.blk p 53 [.pointer (some ⟨s, 0, none⟩), wv] :: hK s q.known :: .own 24 32 wv (bys q.waits) :: F))
  exact ⟨rfl, h1⟩
/-- one more is put: what it is before the last cut -/
theorem put_yes {q : Qu} {x : Id} (h : x ∈ q.known) : put1 q x = q := if_pos h
theorem put_no {q : Qu} {x : Id} (h : x ∉ q.known) : put1 q x = ⟨q.known, last64 (outId x q.waits ++ [x])⟩ := if_neg h
set_option maxRecDepth 100000 in
set_option maxHeartbeats 4000000 in
theorem qput_s {p : Nat} {q0 : Qu} {l : List Id} (hS : SepL R base w (hQ p q0 :: F)) (hok0 : QOk q0) {v : Value} (hl : RdIn R base 32 v (bys l)) (h32 : Is32 l) :
    Calls Try.prog 13 #[.pointer (some ⟨p, 0, none⟩), v] w (Ret fun _ w' => SepL R base w' (hQ p (putQ q0 l) :: F)) := by
  have HL : Hid ((bys l).length = l.length) := bys_length l
  have hmax := (hS.rd hl).len
  rw [HL.out] at hmax
  unfold maxLen at hmax
  have H32 := hide h32
  have HOK := hide hok0
  clear h32 hok0
  go_enter Try.func13, Try.ntmps13
  go_wp2_with (first
    | (show wpList _ _ _ (⟨_, .call ⟨.builtin .len, _, _⟩, _, _, _, _⟩ :: _) _ _; refine wpList_val rfl (op_len slHash rfl rfl (v := v) (xs := bys l) rfl (by exact hS.rd hl)) ?_; rw [HL.out]; go_frame)
    )
  go_loopw [11] (fun iv wr => ∃ (k : Nat), iv = .int .i64 k ∧ k ≤ l.length ∧ SepL R base wr (hQ p (putQ q0 (l.take k)) :: F)) (fun iv _ => l.length - (intOf iv).toNat)
  case atStart => exact ⟨0, rfl, by omega, hS⟩
  case round =>
    clear hS
    obtain ⟨k, rfl, hk, hS0⟩ := hrel
    by_cases hlt : k < l.length
    · have hlk : k < (bys l).length := by rw [HL.out]; exact hlt
      obtain ⟨x, hx⟩ : ∃ x, l[k] = x := ⟨_, rfl⟩
      have hx32 : x.length = 32 := by rw [← hx]; exact H32.out _ (List.getElem_mem hlt)
      have HX0 := hide hx32
      have HX : Hid ((bys l)[k] = x.map B8) := by
        unfold Hid
        rw [bys_get hlk hlt, hx]
      have HX32 : Hid ((x.map B8).length = 32) := by simp [Hid, hx32]
      have hqk : QOk (putQ q0 (l.take k)) := HOK.out.put fun y hy => H32.out y (List.mem_of_mem_take hy)
      have hsn : putQ q0 (l.take (k + 1)) = put1 (putQ q0 (l.take k)) x := by rw [List.take_succ_eq_append_getElem hlt, hx, putQ_snoc]
      obtain ⟨q, hq⟩ : ∃ q, putQ q0 (l.take k) = q := ⟨_, rfl⟩
      rw [hq] at hS0 hqk hsn
      have HSN := hide hsn
      obtain ⟨s, wv, hS⟩ := hQ_open hS0
      clear hS0 hx hsn hq
      have HW32 := hide hqk.w32
      have hwl := hqk.wl
      have HWL : Hid ((bys q.waits).length ≤ 1000000) := by unfold Hid; rw [bys_length]; omega
      by_cases hmem : x ∈ q.known
      · have HMK : Hid (decide (x ∈ q.known) = true) := decide_eq_true hmem
        have HP := hide (put_yes hmem)
        clear hmem hqk hx32
        go_wp2_with (first
          | (show wpList _ _ _ (⟨_, .indexAddr 31 _ (.tmp 11), _, _, _, _⟩ :: _) _ _; refine wpList_val rfl (op_indexAddr slHash rfl (v := v) (xs := bys l) rfl (k := k) rfl (by exact hS.rd hl) hlk) ?_; go_frame)
          | (show wpList _ _ _ (⟨some 14, .load _ _, _, _, _, _⟩ :: _) _ _; refine wpList_val rfl (op_loadE aggHash rfl (v := v) (xs := bys l) (k := k) rfl (by exact hS.rd hl) hlk) ?_; rw [HX.out]; go_frame)
          | (show wpList _ _ _ (⟨some 5, .alloc _, _, _, _, _⟩ :: _) _ _; refine wpS_alloc hS rfl rfl Try.zeroValue24 (zs := List.replicate 32 (.int .u8 0)) rfl ?_; clear hS; intro nb w hS; go_frame)
          | (show wpList _ _ _ (⟨_, .store 24 _ _, _, _, _, _⟩ :: _) _ _; (refine wpS_storeAll (b := nb) aggHash (hS.bring (by repeat (first | exact t0 | apply tS))) rfl rfl rfl (vs := x.map B8) rfl HX32.out (flat_B8 x) rfl ?_); clear hS; intro w hS; go_frame)
          )
        refine wp_region_text (by kernel_rfl) (by kernel_rfl) (by repeat (first | exact Clean.body | refine Clean.then ?_ | refine Clean.inBlock ?_)) ?_
        replace hS := hS.drew
        go_wp2_with (first
          | (show wpList _ _ _ (⟨_, .load 48 _, _, _, _, _⟩ :: _) _ _; refine wpList_val rfl (op_load1S (b := p) (T := 53) oneSet ((hS.bring (by repeat (first | exact t0 | apply tS)))) rfl rfl rfl) ?_; go_frame)
          | (show wpList _ _ _ (⟨_, .load 31 _, _, _, _, _⟩ :: _) _ _; refine wpList_val rfl (op_load1S (b := p) (T := 53) oneHashes ((hS.bring (by repeat (first | exact t0 | apply tS)))) rfl rfl rfl) ?_; go_frame)
          | (show wpList _ _ _ (⟨_, .load 24 _, _, _, _, _⟩ :: _) _ _; refine wpList_val rfl (op_load aggHash rfl rfl (SepL.getBlk (b := nb) (T := 24) ((hS.bring (by repeat (first | exact t0 | apply tS))))).cells HX32.out) ?_; go_frame)
          | (go_at_call 27; (refine Ret.calls (khas_s (s := s) (L := q.known) (x := x) (hS.bring (by repeat (first | exact t0 | apply tS))) HX0.out HMK.out) ?_); clear hS; rintro r1 w ⟨rfl, hS⟩)
          | (refine fin_mk (by kernel_rfl) ?_)
          )
        go_roundw
        case rel =>
          have h1 := hQ_close (hS.sel (by repeat (first | exact Sel.refl | refine Sel.take (by repeat (first | exact t0 | apply tS)) ?_ | apply Sel.drop)) : SepL R base _ (.blk p 53 [.pointer (some ⟨s, 0, none⟩), wv] :: hK s q.known :: .own 24 32 wv (bys q.waits) :: F))
          refine ⟨k + 1, by go_num, by omega, ?_⟩
          rw [HSN.out, HP.out]
          exact h1
        case measure => simp [intOf]; omega
      · have HMK : Hid (decide (x ∈ q.known) = false) := decide_eq_false hmem
        have hp := put_no hmem
        obtain ⟨A, hA⟩ : ∃ A, outId x q.waits = A := ⟨_, rfl⟩
        rw [hA] at hp
        have hal : A.length ≤ 64 := by
          rw [← hA]
          exact Nat.le_trans (outId_sub x q.waits).length_le hwl
        have HA1 : Hid (((bys A).length + (bys [x]).length) * 32 ≤ 140737488355328) := by
          unfold Hid
          rw [bys_length, bys_length, List.length_singleton]
          omega
        have HA2 : Hid ((bys A).length + (bys [x]).length ≤ maxLen) := by
          unfold Hid maxLen
          rw [bys_length, bys_length, List.length_singleton]
          omega
        have HLN : Hid ((bys (A ++ [x])).length = A.length + 1) := by
          unfold Hid
          rw [bys_length, List.length_append, List.length_singleton]
        have HIL2 : Hid (0 < (bys (A ++ [x])).length) := by unfold Hid; rw [HLN.out]; omega
        have HWL2 : Hid ((bys (A ++ [x])).length ≤ 1000000) := by unfold Hid; rw [HLN.out]; omega
        have HDL2 : Hid ((bys (A ++ [x])).take 0 ++ (bys (A ++ [x])).drop (0 + 1) = bys ((A ++ [x]).drop 1)) := by
          unfold Hid
          rw [List.take_zero, List.nil_append, ← bys_drop]
        obtain ⟨g, hg⟩ : ∃ g : Bool, decide ((64 : Int) < ((A.length + 1 : Nat) : Int)) = g := ⟨_, rfl⟩
        have HGT := hide hg
        have hlast : last64 (A ++ [x]) = if g then (A ++ [x]).drop 1 else A ++ [x] := by
          unfold last64
          rw [List.length_append, List.length_singleton, ← hg]
          by_cases h : 64 < A.length + 1
          · rw [if_pos h, if_pos (decide_eq_true (by omega))]
          · rw [if_neg h, decide_eq_false (by omega)]
            rfl
        rw [hlast] at hp
        have HP := hide hp
        by_cases hw : x ∈ q.waits
        · obtain ⟨a, b, hab, hna⟩ := mem_first hw
          have HIX : Hid (ixOf x q.waits = a.length) := by unfold Hid; rw [hab, ix_at hna]
          obtain ⟨i, hi⟩ : ∃ i, a.length = i := ⟨_, rfl⟩
          rw [hi] at HIX
          have hil : i < q.waits.length := by rw [hab, ← hi]; simp
          have HIL : Hid (i < (bys q.waits).length) := by unfold Hid; rw [bys_length]; exact hil
          have HGE : Hid (decide ((0 : Int) ≤ (i : Int)) = true) := decide_eq_true (by omega)
          have HDL : Hid ((bys q.waits).take i ++ (bys q.waits).drop (i + 1) = bys A) := by
            unfold Hid
            have hnd := hqk.wn
            rw [← bys_take, ← bys_drop, ← bys_app, ← hA, hab]
            rw [hab] at hnd
            rw [outId_mid hnd, ← hi]
            simp
          clear hmem hqk hx32 hp hA hg hlast hw hab hna hi
          cases g
          · go_wp2_with (first
              | (show wpList _ _ _ (⟨_, .indexAddr 31 _ (.tmp 11), _, _, _, _⟩ :: _) _ _; refine wpList_val rfl (op_indexAddr slHash rfl (v := v) (xs := bys l) rfl (k := k) rfl (by exact hS.rd hl) hlk) ?_; go_frame)
              | (show wpList _ _ _ (⟨some 14, .load _ _, _, _, _, _⟩ :: _) _ _; refine wpList_val rfl (op_loadE aggHash rfl (v := v) (xs := bys l) (k := k) rfl (by exact hS.rd hl) hlk) ?_; rw [HX.out]; go_frame)
              | (show wpList _ _ _ (⟨some 5, .alloc _, _, _, _, _⟩ :: _) _ _; refine wpS_alloc hS rfl rfl Try.zeroValue24 (zs := List.replicate 32 (.int .u8 0)) rfl ?_; clear hS; intro nb w hS; go_frame)
              | (show wpList _ _ _ (⟨_, .store 24 _ _, _, _, _, _⟩ :: _) _ _; (refine wpS_storeAll (b := nb) aggHash (hS.bring (by repeat (first | exact t0 | apply tS))) rfl rfl rfl (vs := x.map B8) rfl HX32.out (flat_B8 x) rfl ?_); clear hS; intro w hS; go_frame)
              )
            refine wp_region_text (by kernel_rfl) (by kernel_rfl) (by repeat (first | exact Clean.body | refine Clean.then ?_ | refine Clean.inBlock ?_)) ?_
            replace hS := hS.drew
            go_wp2_with (first
              | (show wpList _ _ _ (⟨_, .load 48 _, _, _, _, _⟩ :: _) _ _; refine wpList_val rfl (op_load1S (b := p) (T := 53) oneSet ((hS.bring (by repeat (first | exact t0 | apply tS)))) rfl rfl rfl) ?_; go_frame)
              | (show wpList _ _ _ (⟨_, .load 31 _, _, _, _, _⟩ :: _) _ _; refine wpList_val rfl (op_load1S (b := p) (T := 53) oneHashes ((hS.bring (by repeat (first | exact t0 | apply tS)))) rfl rfl rfl) ?_; go_frame)
              | (show wpList _ _ _ (⟨_, .load 24 _, _, _, _, _⟩ :: _) _ _; refine wpList_val rfl (op_load aggHash rfl rfl (SepL.getBlk (b := nb) (T := 24) ((hS.bring (by repeat (first | exact t0 | apply tS))))).cells HX32.out) ?_; go_frame)
              | (go_at_call 27; (refine Ret.calls (khas_s (s := s) (L := q.known) (x := x) (hS.bring (by repeat (first | exact t0 | apply tS))) HX0.out HMK.out) ?_); clear hS; rintro r1 w ⟨rfl, hS⟩)
              | (refine fin_mk (by kernel_rfl) ?_)
              )
            refine wp_region_text (by kernel_rfl) (by kernel_rfl) (by repeat (first | exact Clean.body | refine Clean.then ?_ | refine Clean.inBlock ?_)) ?_
            replace hS := hS.drew
            go_wp2_with (first
              | (show wpList _ _ _ (⟨_, .load 48 _, _, _, _, _⟩ :: _) _ _; refine wpList_val rfl (op_load1S (b := p) (T := 53) oneSet ((hS.bring (by repeat (first | exact t0 | apply tS)))) rfl rfl rfl) ?_; go_frame)
              | (show wpList _ _ _ (⟨_, .load 31 _, _, _, _, _⟩ :: _) _ _; refine wpList_val rfl (op_load1S (b := p) (T := 53) oneHashes ((hS.bring (by repeat (first | exact t0 | apply tS)))) rfl rfl rfl) ?_; go_frame)
              | (show wpList _ _ _ (⟨_, .load 24 _, _, _, _, _⟩ :: _) _ _; refine wpList_val rfl (op_load aggHash rfl rfl (SepL.getBlk (b := nb) (T := 24) ((hS.bring (by repeat (first | exact t0 | apply tS))))).cells HX32.out) ?_; go_frame)
              | (go_at_call 27; (refine Ret.calls (khas_s (s := s) (L := q.known) (x := x) (hS.bring (by repeat (first | exact t0 | apply tS))) HX0.out HMK.out) ?_); clear hS; rintro r1 w ⟨rfl, hS⟩)
              | (refine fin_mk (by kernel_rfl) ?_)
              | (go_at_call 28; refine Ret.calls (hS.callNo (index_hash wv q.waits x _ ((hS.bring (by repeat (first | exact t0 | apply tS))).getOwn.rd) HX0.out HW32.out)) ?_; clear hS; rintro r1 w ⟨rfl, hS⟩; rw [HIX.out])
              | (show wpList _ _ _ (⟨some 28, .binOp _ _ _ _ _, _, _, _, _⟩ :: _) _ _; refine wpList_val rfl (op_igeq rfl rfl rfl HGE.out) ?_; go_frame)
              | (show wpList _ _ _ (⟨some 36, .binOp _ _ _ _ _, _, _, _, _⟩ :: _) _ _; refine wpList_val rfl (op_iaddN rfl rfl rfl (i + 1) (by omega) (by omega)) ?_; go_frame)
              | (go_at_call 29; (refine Ret.calls (delete_hash (v := wv) (xs := bys q.waits) (i := i) (hS.bring (by repeat (first | exact t0 | apply tS))) HIL.out (flat_bys _) HWL.out) ?_); clear hS; rintro wv2 w hS; rw [HDL.out] at hS; have HV1 := hide hS.getOwn.rd.cells1; have HV2 := hide hS.getOwn.rd.one1)
              | (show wpList _ _ _ (⟨_, .store 31 (.tmp 39) _, _, _, _, _⟩ :: _) _ _; (refine wpS_store1 (b := p) (T := 53) (by kernel_rfl) (hS.bring (by repeat (first | exact t0 | apply tS))) rfl rfl rfl (v := wv2) rfl HV1.out HV2.out (by simp) ?_); clear hS; intro w hS; go_frame)
              )
            obtain ⟨W1, hW1⟩ : ∃ W1, W1 = wv2 := ⟨_, rfl⟩
            subst hW1
            refine wp_region_text (by kernel_rfl) (by kernel_rfl) (by repeat (first | exact Clean.body | refine Clean.then ?_ | refine Clean.inBlock ?_)) ?_
            replace hS := hS.drew
            go_wp2_with (first
              | (show wpList _ _ _ (⟨_, .load 48 _, _, _, _, _⟩ :: _) _ _; refine wpList_val rfl (op_load1S (b := p) (T := 53) oneSet ((hS.bring (by repeat (first | exact t0 | apply tS)))) rfl rfl rfl) ?_; go_frame)
              | (show wpList _ _ _ (⟨_, .load 31 _, _, _, _, _⟩ :: _) _ _; refine wpList_val rfl (op_load1S (b := p) (T := 53) oneHashes ((hS.bring (by repeat (first | exact t0 | apply tS)))) rfl rfl rfl) ?_; go_frame)
              | (show wpList _ _ _ (⟨_, .load 24 _, _, _, _, _⟩ :: _) _ _; refine wpList_val rfl (op_load aggHash rfl rfl (SepL.getBlk (b := nb) (T := 24) ((hS.bring (by repeat (first | exact t0 | apply tS))))).cells HX32.out) ?_; go_frame)
              | (go_at_call 27; (refine Ret.calls (khas_s (s := s) (L := q.known) (x := x) (hS.bring (by repeat (first | exact t0 | apply tS))) HX0.out HMK.out) ?_); clear hS; rintro r1 w ⟨rfl, hS⟩)
              | (refine fin_mk (by kernel_rfl) ?_)
              | (show wpList _ _ _ (⟨some 46, .buildSlice _ _ _, _, _, _, _⟩ :: _) _ _; refine wpS_build1A slHash (by omega) hS rfl rfl (cs := x.map B8) rfl HX32.out ?_; clear hS; intro v46 w hS; go_frame)
              | (show wpList _ _ _ (⟨some 47, .call _, _, _, _, _⟩ :: _) _ _; (refine wpS_append slHash (hS.bring (by repeat (first | exact t0 | apply tS))) rfl rfl (sv := W1) (xs := bys A) (xv := v46) rfl rfl (ys := bys [x]) ((hS.bring (by repeat (first | exact t0 | apply tS))).getOwn.rd) (flat_bys _) HA1.out HA2.out ?_); clear hS; intro v47 w hS; rw [← bys_app] at hS; have HU1 := hide hS.getOwn.rd.cells1; have HU2 := hide hS.getOwn.rd.one1; go_frame)
              | (show wpList _ _ _ (⟨_, .store 31 (.tmp 49) _, _, _, _, _⟩ :: _) _ _; (refine wpS_store1 (b := p) (T := 53) (by kernel_rfl) (hS.bring (by repeat (first | exact t0 | apply tS))) rfl rfl rfl (v := v47) rfl HU1.out HU2.out (by simp) ?_); clear hS; intro w hS; go_frame)
              | (refine fin_mk (by kernel_rfl) ?_)
              | (show wpList _ _ _ (⟨some 54, .call _, _, _, _, _⟩ :: _) _ _; refine wpList_val rfl (op_len slHash rfl rfl (v := v47) (xs := bys (A ++ [x])) rfl ((hS.bring (by repeat (first | exact t0 | apply tS))).getOwn.rd)) ?_; rw [HLN.out]; go_frame)
              | (show wpList _ _ _ (⟨some 55, .binOp _ _ _ _ _, _, _, _, _⟩ :: _) _ _; refine wpList_val rfl (op_igtr rfl rfl rfl HGT.out) ?_; go_frame)
              | (go_at_call 29; (refine Ret.calls (delete_hash (v := v47) (xs := bys (A ++ [x])) (i := 0) (hS.bring (by repeat (first | exact t0 | apply tS))) HIL2.out (flat_bys _) HWL2.out) ?_); clear hS; rintro wv3 w hS; rw [HDL2.out] at hS; have HT1 := hide hS.getOwn.rd.cells1; have HT2 := hide hS.getOwn.rd.one1)
              | (show wpList _ _ _ (⟨_, .store 31 (.tmp 63) _, _, _, _, _⟩ :: _) _ _; (refine wpS_store1 (b := p) (T := 53) (by kernel_rfl) (hS.bring (by repeat (first | exact t0 | apply tS))) rfl rfl rfl (v := wv3) rfl HT1.out HT2.out (by simp) ?_); clear hS; intro w hS; go_frame)
              )
            go_roundw
            case rel =>
              have h1 := hQ_close (q := ⟨q.known, A ++ [x]⟩) (hS.sel (by repeat (first | exact Sel.refl | refine Sel.take (by repeat (first | exact t0 | apply tS)) ?_ | apply Sel.drop)) : SepL R base _ (.blk p 53 [.pointer (some ⟨s, 0, none⟩), v47] :: hK s q.known :: .own 24 32 v47 (bys (A ++ [x])) :: F))
              refine ⟨k + 1, by go_num, by omega, ?_⟩
              rw [HSN.out, HP.out]
              exact h1
            case measure => simp [intOf]; omega
          · go_wp2_with (first
              | (show wpList _ _ _ (⟨_, .indexAddr 31 _ (.tmp 11), _, _, _, _⟩ :: _) _ _; refine wpList_val rfl (op_indexAddr slHash rfl (v := v) (xs := bys l) rfl (k := k) rfl (by exact hS.rd hl) hlk) ?_; go_frame)
              | (show wpList _ _ _ (⟨some 14, .load _ _, _, _, _, _⟩ :: _) _ _; refine wpList_val rfl (op_loadE aggHash rfl (v := v) (xs := bys l) (k := k) rfl (by exact hS.rd hl) hlk) ?_; rw [HX.out]; go_frame)
              | (show wpList _ _ _ (⟨some 5, .alloc _, _, _, _, _⟩ :: _) _ _; refine wpS_alloc hS rfl rfl Try.zeroValue24 (zs := List.replicate 32 (.int .u8 0)) rfl ?_; clear hS; intro nb w hS; go_frame)
              | (show wpList _ _ _ (⟨_, .store 24 _ _, _, _, _, _⟩ :: _) _ _; (refine wpS_storeAll (b := nb) aggHash (hS.bring (by repeat (first | exact t0 | apply tS))) rfl rfl rfl (vs := x.map B8) rfl HX32.out (flat_B8 x) rfl ?_); clear hS; intro w hS; go_frame)
              )
            refine wp_region_text (by kernel_rfl) (by kernel_rfl) (by repeat (first | exact Clean.body | refine Clean.then ?_ | refine Clean.inBlock ?_)) ?_
            replace hS := hS.drew
            go_wp2_with (first
              | (show wpList _ _ _ (⟨_, .load 48 _, _, _, _, _⟩ :: _) _ _; refine wpList_val rfl (op_load1S (b := p) (T := 53) oneSet ((hS.bring (by repeat (first | exact t0 | apply tS)))) rfl rfl rfl) ?_; go_frame)
              | (show wpList _ _ _ (⟨_, .load 31 _, _, _, _, _⟩ :: _) _ _; refine wpList_val rfl (op_load1S (b := p) (T := 53) oneHashes ((hS.bring (by repeat (first | exact t0 | apply tS)))) rfl rfl rfl) ?_; go_frame)
              | (show wpList _ _ _ (⟨_, .load 24 _, _, _, _, _⟩ :: _) _ _; refine wpList_val rfl (op_load aggHash rfl rfl (SepL.getBlk (b := nb) (T := 24) ((hS.bring (by repeat (first | exact t0 | apply tS))))).cells HX32.out) ?_; go_frame)
              | (go_at_call 27; (refine Ret.calls (khas_s (s := s) (L := q.known) (x := x) (hS.bring (by repeat (first | exact t0 | apply tS))) HX0.out HMK.out) ?_); clear hS; rintro r1 w ⟨rfl, hS⟩)
              | (refine fin_mk (by kernel_rfl) ?_)
              )
            refine wp_region_text (by kernel_rfl) (by kernel_rfl) (by repeat (first | exact Clean.body | refine Clean.then ?_ | refine Clean.inBlock ?_)) ?_
            replace hS := hS.drew
            go_wp2_with (first
              | (show wpList _ _ _ (⟨_, .load 48 _, _, _, _, _⟩ :: _) _ _; refine wpList_val rfl (op_load1S (b := p) (T := 53) oneSet ((hS.bring (by repeat (first | exact t0 | apply tS)))) rfl rfl rfl) ?_; go_frame)
              | (show wpList _ _ _ (⟨_, .load 31 _, _, _, _, _⟩ :: _) _ _; refine wpList_val rfl (op_load1S (b := p) (T := 53) oneHashes ((hS.bring (by repeat (first | exact t0 | apply tS)))) rfl rfl rfl) ?_; go_frame)
              | (show wpList _ _ _ (⟨_, .load 24 _, _, _, _, _⟩ :: _) _ _; refine wpList_val rfl (op_load aggHash rfl rfl (SepL.getBlk (b := nb) (T := 24) ((hS.bring (by repeat (first | exact t0 | apply tS))))).cells HX32.out) ?_; go_frame)
              | (go_at_call 27; (refine Ret.calls (khas_s (s := s) (L := q.known) (x := x) (hS.bring (by repeat (first | exact t0 | apply tS))) HX0.out HMK.out) ?_); clear hS; rintro r1 w ⟨rfl, hS⟩)
              | (refine fin_mk (by kernel_rfl) ?_)
              | (go_at_call 28; refine Ret.calls (hS.callNo (index_hash wv q.waits x _ ((hS.bring (by repeat (first | exact t0 | apply tS))).getOwn.rd) HX0.out HW32.out)) ?_; clear hS; rintro r1 w ⟨rfl, hS⟩; rw [HIX.out])
              | (show wpList _ _ _ (⟨some 28, .binOp _ _ _ _ _, _, _, _, _⟩ :: _) _ _; refine wpList_val rfl (op_igeq rfl rfl rfl HGE.out) ?_; go_frame)
              | (show wpList _ _ _ (⟨some 36, .binOp _ _ _ _ _, _, _, _, _⟩ :: _) _ _; refine wpList_val rfl (op_iaddN rfl rfl rfl (i + 1) (by omega) (by omega)) ?_; go_frame)
              | (go_at_call 29; (refine Ret.calls (delete_hash (v := wv) (xs := bys q.waits) (i := i) (hS.bring (by repeat (first | exact t0 | apply tS))) HIL.out (flat_bys _) HWL.out) ?_); clear hS; rintro wv2 w hS; rw [HDL.out] at hS; have HV1 := hide hS.getOwn.rd.cells1; have HV2 := hide hS.getOwn.rd.one1)
              | (show wpList _ _ _ (⟨_, .store 31 (.tmp 39) _, _, _, _, _⟩ :: _) _ _; (refine wpS_store1 (b := p) (T := 53) (by kernel_rfl) (hS.bring (by repeat (first | exact t0 | apply tS))) rfl rfl rfl (v := wv2) rfl HV1.out HV2.out (by simp) ?_); clear hS; intro w hS; go_frame)
              )
            obtain ⟨W1, hW1⟩ : ∃ W1, W1 = wv2 := ⟨_, rfl⟩
            subst hW1
            refine wp_region_text (by kernel_rfl) (by kernel_rfl) (by repeat (first | exact Clean.body | refine Clean.then ?_ | refine Clean.inBlock ?_)) ?_
            replace hS := hS.drew
            go_wp2_with (first
              | (show wpList _ _ _ (⟨_, .load 48 _, _, _, _, _⟩ :: _) _ _; refine wpList_val rfl (op_load1S (b := p) (T := 53) oneSet ((hS.bring (by repeat (first | exact t0 | apply tS)))) rfl rfl rfl) ?_; go_frame)
              | (show wpList _ _ _ (⟨_, .load 31 _, _, _, _, _⟩ :: _) _ _; refine wpList_val rfl (op_load1S (b := p) (T := 53) oneHashes ((hS.bring (by repeat (first | exact t0 | apply tS)))) rfl rfl rfl) ?_; go_frame)
              | (show wpList _ _ _ (⟨_, .load 24 _, _, _, _, _⟩ :: _) _ _; refine wpList_val rfl (op_load aggHash rfl rfl (SepL.getBlk (b := nb) (T := 24) ((hS.bring (by repeat (first | exact t0 | apply tS))))).cells HX32.out) ?_; go_frame)
              | (go_at_call 27; (refine Ret.calls (khas_s (s := s) (L := q.known) (x := x) (hS.bring (by repeat (first | exact t0 | apply tS))) HX0.out HMK.out) ?_); clear hS; rintro r1 w ⟨rfl, hS⟩)
              | (refine fin_mk (by kernel_rfl) ?_)
              | (show wpList _ _ _ (⟨some 46, .buildSlice _ _ _, _, _, _, _⟩ :: _) _ _; refine wpS_build1A slHash (by omega) hS rfl rfl (cs := x.map B8) rfl HX32.out ?_; clear hS; intro v46 w hS; go_frame)
              | (show wpList _ _ _ (⟨some 47, .call _, _, _, _, _⟩ :: _) _ _; (refine wpS_append slHash (hS.bring (by repeat (first | exact t0 | apply tS))) rfl rfl (sv := W1) (xs := bys A) (xv := v46) rfl rfl (ys := bys [x]) ((hS.bring (by repeat (first | exact t0 | apply tS))).getOwn.rd) (flat_bys _) HA1.out HA2.out ?_); clear hS; intro v47 w hS; rw [← bys_app] at hS; have HU1 := hide hS.getOwn.rd.cells1; have HU2 := hide hS.getOwn.rd.one1; go_frame)
              | (show wpList _ _ _ (⟨_, .store 31 (.tmp 49) _, _, _, _, _⟩ :: _) _ _; (refine wpS_store1 (b := p) (T := 53) (by kernel_rfl) (hS.bring (by repeat (first | exact t0 | apply tS))) rfl rfl rfl (v := v47) rfl HU1.out HU2.out (by simp) ?_); clear hS; intro w hS; go_frame)
              | (refine fin_mk (by kernel_rfl) ?_)
              | (show wpList _ _ _ (⟨some 54, .call _, _, _, _, _⟩ :: _) _ _; refine wpList_val rfl (op_len slHash rfl rfl (v := v47) (xs := bys (A ++ [x])) rfl ((hS.bring (by repeat (first | exact t0 | apply tS))).getOwn.rd)) ?_; rw [HLN.out]; go_frame)
              | (show wpList _ _ _ (⟨some 55, .binOp _ _ _ _ _, _, _, _, _⟩ :: _) _ _; refine wpList_val rfl (op_igtr rfl rfl rfl HGT.out) ?_; go_frame)
              | (go_at_call 29; (refine Ret.calls (delete_hash (v := v47) (xs := bys (A ++ [x])) (i := 0) (hS.bring (by repeat (first | exact t0 | apply tS))) HIL2.out (flat_bys _) HWL2.out) ?_); clear hS; rintro wv3 w hS; rw [HDL2.out] at hS; have HT1 := hide hS.getOwn.rd.cells1; have HT2 := hide hS.getOwn.rd.one1)
              | (show wpList _ _ _ (⟨_, .store 31 (.tmp 63) _, _, _, _, _⟩ :: _) _ _; (refine wpS_store1 (b := p) (T := 53) (by kernel_rfl) (hS.bring (by repeat (first | exact t0 | apply tS))) rfl rfl rfl (v := wv3) rfl HT1.out HT2.out (by simp) ?_); clear hS; intro w hS; go_frame)
              )
            go_roundw
            case rel =>
              have h1 := hQ_close (q := ⟨q.known, (A ++ [x]).drop 1⟩) (hS.sel (by repeat (first | exact Sel.refl | refine Sel.take (by repeat (first | exact t0 | apply tS)) ?_ | apply Sel.drop)) : SepL R base _ (.blk p 53 [.pointer (some ⟨s, 0, none⟩), wv3] :: hK s q.known :: .own 24 32 wv3 (bys ((A ++ [x]).drop 1)) :: F))
              refine ⟨k + 1, by go_num, by omega, ?_⟩
              rw [HSN.out, HP.out]
              exact h1
            case measure => simp [intOf]; omega
        · have HIX := hide (ix_none hw)
          have HGE : Hid (decide ((0 : Int) ≤ -1) = false) := rfl
          have hAw : A = q.waits := by rw [← hA]; exact outId_none hw
          subst hAw
          obtain ⟨W1, hW1⟩ : ∃ W1, W1 = wv := ⟨_, rfl⟩
          subst hW1
          clear hmem hqk hx32 hp hA hg hlast hw
          cases g
          · go_wp2_with (first
              | (show wpList _ _ _ (⟨_, .indexAddr 31 _ (.tmp 11), _, _, _, _⟩ :: _) _ _; refine wpList_val rfl (op_indexAddr slHash rfl (v := v) (xs := bys l) rfl (k := k) rfl (by exact hS.rd hl) hlk) ?_; go_frame)
              | (show wpList _ _ _ (⟨some 14, .load _ _, _, _, _, _⟩ :: _) _ _; refine wpList_val rfl (op_loadE aggHash rfl (v := v) (xs := bys l) (k := k) rfl (by exact hS.rd hl) hlk) ?_; rw [HX.out]; go_frame)
              | (show wpList _ _ _ (⟨some 5, .alloc _, _, _, _, _⟩ :: _) _ _; refine wpS_alloc hS rfl rfl Try.zeroValue24 (zs := List.replicate 32 (.int .u8 0)) rfl ?_; clear hS; intro nb w hS; go_frame)
              | (show wpList _ _ _ (⟨_, .store 24 _ _, _, _, _, _⟩ :: _) _ _; (refine wpS_storeAll (b := nb) aggHash (hS.bring (by repeat (first | exact t0 | apply tS))) rfl rfl rfl (vs := x.map B8) rfl HX32.out (flat_B8 x) rfl ?_); clear hS; intro w hS; go_frame)
              )
            refine wp_region_text (by kernel_rfl) (by kernel_rfl) (by repeat (first | exact Clean.body | refine Clean.then ?_ | refine Clean.inBlock ?_)) ?_
            replace hS := hS.drew
            go_wp2_with (first
              | (show wpList _ _ _ (⟨_, .load 48 _, _, _, _, _⟩ :: _) _ _; refine wpList_val rfl (op_load1S (b := p) (T := 53) oneSet ((hS.bring (by repeat (first | exact t0 | apply tS)))) rfl rfl rfl) ?_; go_frame)
              | (show wpList _ _ _ (⟨_, .load 31 _, _, _, _, _⟩ :: _) _ _; refine wpList_val rfl (op_load1S (b := p) (T := 53) oneHashes ((hS.bring (by repeat (first | exact t0 | apply tS)))) rfl rfl rfl) ?_; go_frame)
              | (show wpList _ _ _ (⟨_, .load 24 _, _, _, _, _⟩ :: _) _ _; refine wpList_val rfl (op_load aggHash rfl rfl (SepL.getBlk (b := nb) (T := 24) ((hS.bring (by repeat (first | exact t0 | apply tS))))).cells HX32.out) ?_; go_frame)
              | (go_at_call 27; (refine Ret.calls (khas_s (s := s) (L := q.known) (x := x) (hS.bring (by repeat (first | exact t0 | apply tS))) HX0.out HMK.out) ?_); clear hS; rintro r1 w ⟨rfl, hS⟩)
              | (refine fin_mk (by kernel_rfl) ?_)
              )
            refine wp_region_text (by kernel_rfl) (by kernel_rfl) (by repeat (first | exact Clean.body | refine Clean.then ?_ | refine Clean.inBlock ?_)) ?_
            replace hS := hS.drew
            go_wp2_with (first
              | (show wpList _ _ _ (⟨_, .load 48 _, _, _, _, _⟩ :: _) _ _; refine wpList_val rfl (op_load1S (b := p) (T := 53) oneSet ((hS.bring (by repeat (first | exact t0 | apply tS)))) rfl rfl rfl) ?_; go_frame)
              | (show wpList _ _ _ (⟨_, .load 31 _, _, _, _, _⟩ :: _) _ _; refine wpList_val rfl (op_load1S (b := p) (T := 53) oneHashes ((hS.bring (by repeat (first | exact t0 | apply tS)))) rfl rfl rfl) ?_; go_frame)
              | (show wpList _ _ _ (⟨_, .load 24 _, _, _, _, _⟩ :: _) _ _; refine wpList_val rfl (op_load aggHash rfl rfl (SepL.getBlk (b := nb) (T := 24) ((hS.bring (by repeat (first | exact t0 | apply tS))))).cells HX32.out) ?_; go_frame)
              | (go_at_call 27; (refine Ret.calls (khas_s (s := s) (L := q.known) (x := x) (hS.bring (by repeat (first | exact t0 | apply tS))) HX0.out HMK.out) ?_); clear hS; rintro r1 w ⟨rfl, hS⟩)
              | (refine fin_mk (by kernel_rfl) ?_)
              | (go_at_call 28; refine Ret.calls (hS.callNo (index_hash W1 q.waits x _ ((hS.bring (by repeat (first | exact t0 | apply tS))).getOwn.rd) HX0.out HW32.out)) ?_; clear hS; rintro r1 w ⟨rfl, hS⟩; rw [HIX.out])
              | (show wpList _ _ _ (⟨some 28, .binOp _ _ _ _ _, _, _, _, _⟩ :: _) _ _; refine wpList_val rfl (op_igeq rfl rfl rfl HGE.out) ?_; go_frame)
              | (show wpList _ _ _ (⟨some 36, .binOp _ _ _ _ _, _, _, _, _⟩ :: _) _ _; refine wpList_val rfl (op_iaddN rfl rfl rfl (i + 1) (by omega) (by omega)) ?_; go_frame)
              )
            refine wp_region_text (by kernel_rfl) (by kernel_rfl) (by repeat (first | exact Clean.body | refine Clean.then ?_ | refine Clean.inBlock ?_)) ?_
            replace hS := hS.drew
            go_wp2_with (first
              | (show wpList _ _ _ (⟨_, .load 48 _, _, _, _, _⟩ :: _) _ _; refine wpList_val rfl (op_load1S (b := p) (T := 53) oneSet ((hS.bring (by repeat (first | exact t0 | apply tS)))) rfl rfl rfl) ?_; go_frame)
              | (show wpList _ _ _ (⟨_, .load 31 _, _, _, _, _⟩ :: _) _ _; refine wpList_val rfl (op_load1S (b := p) (T := 53) oneHashes ((hS.bring (by repeat (first | exact t0 | apply tS)))) rfl rfl rfl) ?_; go_frame)
              | (show wpList _ _ _ (⟨_, .load 24 _, _, _, _, _⟩ :: _) _ _; refine wpList_val rfl (op_load aggHash rfl rfl (SepL.getBlk (b := nb) (T := 24) ((hS.bring (by repeat (first | exact t0 | apply tS))))).cells HX32.out) ?_; go_frame)
              | (go_at_call 27; (refine Ret.calls (khas_s (s := s) (L := q.known) (x := x) (hS.bring (by repeat (first | exact t0 | apply tS))) HX0.out HMK.out) ?_); clear hS; rintro r1 w ⟨rfl, hS⟩)
              | (refine fin_mk (by kernel_rfl) ?_)
              | (show wpList _ _ _ (⟨some 46, .buildSlice _ _ _, _, _, _, _⟩ :: _) _ _; refine wpS_build1A slHash (by omega) hS rfl rfl (cs := x.map B8) rfl HX32.out ?_; clear hS; intro v46 w hS; go_frame)
              | (show wpList _ _ _ (⟨some 47, .call _, _, _, _, _⟩ :: _) _ _; (refine wpS_append slHash (hS.bring (by repeat (first | exact t0 | apply tS))) rfl rfl (sv := W1) (xs := bys q.waits) (xv := v46) rfl rfl (ys := bys [x]) ((hS.bring (by repeat (first | exact t0 | apply tS))).getOwn.rd) (flat_bys _) HA1.out HA2.out ?_); clear hS; intro v47 w hS; rw [← bys_app] at hS; have HU1 := hide hS.getOwn.rd.cells1; have HU2 := hide hS.getOwn.rd.one1; go_frame)
              | (show wpList _ _ _ (⟨_, .store 31 (.tmp 49) _, _, _, _, _⟩ :: _) _ _; (refine wpS_store1 (b := p) (T := 53) (by kernel_rfl) (hS.bring (by repeat (first | exact t0 | apply tS))) rfl rfl rfl (v := v47) rfl HU1.out HU2.out (by simp) ?_); clear hS; intro w hS; go_frame)
              | (refine fin_mk (by kernel_rfl) ?_)
              | (show wpList _ _ _ (⟨some 54, .call _, _, _, _, _⟩ :: _) _ _; refine wpList_val rfl (op_len slHash rfl rfl (v := v47) (xs := bys (q.waits ++ [x])) rfl ((hS.bring (by repeat (first | exact t0 | apply tS))).getOwn.rd)) ?_; rw [HLN.out]; go_frame)
              | (show wpList _ _ _ (⟨some 55, .binOp _ _ _ _ _, _, _, _, _⟩ :: _) _ _; refine wpList_val rfl (op_igtr rfl rfl rfl HGT.out) ?_; go_frame)
              | (go_at_call 29; (refine Ret.calls (delete_hash (v := v47) (xs := bys (q.waits ++ [x])) (i := 0) (hS.bring (by repeat (first | exact t0 | apply tS))) HIL2.out (flat_bys _) HWL2.out) ?_); clear hS; rintro wv3 w hS; rw [HDL2.out] at hS; have HT1 := hide hS.getOwn.rd.cells1; have HT2 := hide hS.getOwn.rd.one1)
              | (show wpList _ _ _ (⟨_, .store 31 (.tmp 63) _, _, _, _, _⟩ :: _) _ _; (refine wpS_store1 (b := p) (T := 53) (by kernel_rfl) (hS.bring (by repeat (first | exact t0 | apply tS))) rfl rfl rfl (v := wv3) rfl HT1.out HT2.out (by simp) ?_); clear hS; intro w hS; go_frame)
              )
            go_roundw
            case rel =>
              have h1 := hQ_close (q := ⟨q.known, q.waits ++ [x]⟩) (hS.sel (by repeat (first | exact Sel.refl | refine Sel.take (by repeat (first | exact t0 | apply tS)) ?_ | apply Sel.drop)) : SepL R base _ (.blk p 53 [.pointer (some ⟨s, 0, none⟩), v47] :: hK s q.known :: .own 24 32 v47 (bys (q.waits ++ [x])) :: F))
              refine ⟨k + 1, by go_num, by omega, ?_⟩
              rw [HSN.out, HP.out]
              exact h1
            case measure => simp [intOf]; omega
          · go_wp2_with (first
              | (show wpList _ _ _ (⟨_, .indexAddr 31 _ (.tmp 11), _, _, _, _⟩ :: _) _ _; refine wpList_val rfl (op_indexAddr slHash rfl (v := v) (xs := bys l) rfl (k := k) rfl (by exact hS.rd hl) hlk) ?_; go_frame)
              | (show wpList _ _ _ (⟨some 14, .load _ _, _, _, _, _⟩ :: _) _ _; refine wpList_val rfl (op_loadE aggHash rfl (v := v) (xs := bys l) (k := k) rfl (by exact hS.rd hl) hlk) ?_; rw [HX.out]; go_frame)
              | (show wpList _ _ _ (⟨some 5, .alloc _, _, _, _, _⟩ :: _) _ _; refine wpS_alloc hS rfl rfl Try.zeroValue24 (zs := List.replicate 32 (.int .u8 0)) rfl ?_; clear hS; intro nb w hS; go_frame)
              | (show wpList _ _ _ (⟨_, .store 24 _ _, _, _, _, _⟩ :: _) _ _; (refine wpS_storeAll (b := nb) aggHash (hS.bring (by repeat (first | exact t0 | apply tS))) rfl rfl rfl (vs := x.map B8) rfl HX32.out (flat_B8 x) rfl ?_); clear hS; intro w hS; go_frame)
              )
            refine wp_region_text (by kernel_rfl) (by kernel_rfl) (by repeat (first | exact Clean.body | refine Clean.then ?_ | refine Clean.inBlock ?_)) ?_
            replace hS := hS.drew
            go_wp2_with (first
              | (show wpList _ _ _ (⟨_, .load 48 _, _, _, _, _⟩ :: _) _ _; refine wpList_val rfl (op_load1S (b := p) (T := 53) oneSet ((hS.bring (by repeat (first | exact t0 | apply tS)))) rfl rfl rfl) ?_; go_frame)
              | (show wpList _ _ _ (⟨_, .load 31 _, _, _, _, _⟩ :: _) _ _; refine wpList_val rfl (op_load1S (b := p) (T := 53) oneHashes ((hS.bring (by repeat (first | exact t0 | apply tS)))) rfl rfl rfl) ?_; go_frame)
              | (show wpList _ _ _ (⟨_, .load 24 _, _, _, _, _⟩ :: _) _ _; refine wpList_val rfl (op_load aggHash rfl rfl (SepL.getBlk (b := nb) (T := 24) ((hS.bring (by repeat (first | exact t0 | apply tS))))).cells HX32.out) ?_; go_frame)
              | (go_at_call 27; (refine Ret.calls (khas_s (s := s) (L := q.known) (x := x) (hS.bring (by repeat (first | exact t0 | apply tS))) HX0.out HMK.out) ?_); clear hS; rintro r1 w ⟨rfl, hS⟩)
              | (refine fin_mk (by kernel_rfl) ?_)
              )
            refine wp_region_text (by kernel_rfl) (by kernel_rfl) (by repeat (first | exact Clean.body | refine Clean.then ?_ | refine Clean.inBlock ?_)) ?_
            replace hS := hS.drew
            go_wp2_with (first
              | (show wpList _ _ _ (⟨_, .load 48 _, _, _, _, _⟩ :: _) _ _; refine wpList_val rfl (op_load1S (b := p) (T := 53) oneSet ((hS.bring (by repeat (first | exact t0 | apply tS)))) rfl rfl rfl) ?_; go_frame)
              | (show wpList _ _ _ (⟨_, .load 31 _, _, _, _, _⟩ :: _) _ _; refine wpList_val rfl (op_load1S (b := p) (T := 53) oneHashes ((hS.bring (by repeat (first | exact t0 | apply tS)))) rfl rfl rfl) ?_; go_frame)
              | (show wpList _ _ _ (⟨_, .load 24 _, _, _, _, _⟩ :: _) _ _; refine wpList_val rfl (op_load aggHash rfl rfl (SepL.getBlk (b := nb) (T := 24) ((hS.bring (by repeat (first | exact t0 | apply tS))))).cells HX32.out) ?_; go_frame)
              | (go_at_call 27; (refine Ret.calls (khas_s (s := s) (L := q.known) (x := x) (hS.bring (by repeat (first | exact t0 | apply tS))) HX0.out HMK.out) ?_); clear hS; rintro r1 w ⟨rfl, hS⟩)
              | (refine fin_mk (by kernel_rfl) ?_)
              | (go_at_call 28; refine Ret.calls (hS.callNo (index_hash W1 q.waits x _ ((hS.bring (by repeat (first | exact t0 | apply tS))).getOwn.rd) HX0.out HW32.out)) ?_; clear hS; rintro r1 w ⟨rfl, hS⟩; rw [HIX.out])
              | (show wpList _ _ _ (⟨some 28, .binOp _ _ _ _ _, _, _, _, _⟩ :: _) _ _; refine wpList_val rfl (op_igeq rfl rfl rfl HGE.out) ?_; go_frame)
              | (show wpList _ _ _ (⟨some 36, .binOp _ _ _ _ _, _, _, _, _⟩ :: _) _ _; refine wpList_val rfl (op_iaddN rfl rfl rfl (i + 1) (by omega) (by omega)) ?_; go_frame)
              )
            refine wp_region_text (by kernel_rfl) (by kernel_rfl) (by repeat (first | exact Clean.body | refine Clean.then ?_ | refine Clean.inBlock ?_)) ?_
            replace hS := hS.drew
            go_wp2_with (first
              | (show wpList _ _ _ (⟨_, .load 48 _, _, _, _, _⟩ :: _) _ _; refine wpList_val rfl (op_load1S (b := p) (T := 53) oneSet ((hS.bring (by repeat (first | exact t0 | apply tS)))) rfl rfl rfl) ?_; go_frame)
              | (show wpList _ _ _ (⟨_, .load 31 _, _, _, _, _⟩ :: _) _ _; refine wpList_val rfl (op_load1S (b := p) (T := 53) oneHashes ((hS.bring (by repeat (first | exact t0 | apply tS)))) rfl rfl rfl) ?_; go_frame)
              | (show wpList _ _ _ (⟨_, .load 24 _, _, _, _, _⟩ :: _) _ _; refine wpList_val rfl (op_load aggHash rfl rfl (SepL.getBlk (b := nb) (T := 24) ((hS.bring (by repeat (first | exact t0 | apply tS))))).cells HX32.out) ?_; go_frame)
              | (go_at_call 27; (refine Ret.calls (khas_s (s := s) (L := q.known) (x := x) (hS.bring (by repeat (first | exact t0 | apply tS))) HX0.out HMK.out) ?_); clear hS; rintro r1 w ⟨rfl, hS⟩)
              | (refine fin_mk (by kernel_rfl) ?_)
              | (show wpList _ _ _ (⟨some 46, .buildSlice _ _ _, _, _, _, _⟩ :: _) _ _; refine wpS_build1A slHash (by omega) hS rfl rfl (cs := x.map B8) rfl HX32.out ?_; clear hS; intro v46 w hS; go_frame)
              | (show wpList _ _ _ (⟨some 47, .call _, _, _, _, _⟩ :: _) _ _; (refine wpS_append slHash (hS.bring (by repeat (first | exact t0 | apply tS))) rfl rfl (sv := W1) (xs := bys q.waits) (xv := v46) rfl rfl (ys := bys [x]) ((hS.bring (by repeat (first | exact t0 | apply tS))).getOwn.rd) (flat_bys _) HA1.out HA2.out ?_); clear hS; intro v47 w hS; rw [← bys_app] at hS; have HU1 := hide hS.getOwn.rd.cells1; have HU2 := hide hS.getOwn.rd.one1; go_frame)
              | (show wpList _ _ _ (⟨_, .store 31 (.tmp 49) _, _, _, _, _⟩ :: _) _ _; (refine wpS_store1 (b := p) (T := 53) (by kernel_rfl) (hS.bring (by repeat (first | exact t0 | apply tS))) rfl rfl rfl (v := v47) rfl HU1.out HU2.out (by simp) ?_); clear hS; intro w hS; go_frame)
              | (refine fin_mk (by kernel_rfl) ?_)
              | (show wpList _ _ _ (⟨some 54, .call _, _, _, _, _⟩ :: _) _ _; refine wpList_val rfl (op_len slHash rfl rfl (v := v47) (xs := bys (q.waits ++ [x])) rfl ((hS.bring (by repeat (first | exact t0 | apply tS))).getOwn.rd)) ?_; rw [HLN.out]; go_frame)
              | (show wpList _ _ _ (⟨some 55, .binOp _ _ _ _ _, _, _, _, _⟩ :: _) _ _; refine wpList_val rfl (op_igtr rfl rfl rfl HGT.out) ?_; go_frame)
              | (go_at_call 29; (refine Ret.calls (delete_hash (v := v47) (xs := bys (q.waits ++ [x])) (i := 0) (hS.bring (by repeat (first | exact t0 | apply tS))) HIL2.out (flat_bys _) HWL2.out) ?_); clear hS; rintro wv3 w hS; rw [HDL2.out] at hS; have HT1 := hide hS.getOwn.rd.cells1; have HT2 := hide hS.getOwn.rd.one1)
              | (show wpList _ _ _ (⟨_, .store 31 (.tmp 63) _, _, _, _, _⟩ :: _) _ _; (refine wpS_store1 (b := p) (T := 53) (by kernel_rfl) (hS.bring (by repeat (first | exact t0 | apply tS))) rfl rfl rfl (v := wv3) rfl HT1.out HT2.out (by simp) ?_); clear hS; intro w hS; go_frame)
              )
            go_roundw
            case rel =>
              have h1 := hQ_close (q := ⟨q.known, (q.waits ++ [x]).drop 1⟩) (hS.sel (by repeat (first | exact Sel.refl | refine Sel.take (by repeat (first | exact t0 | apply tS)) ?_ | apply Sel.drop)) : SepL R base _ (.blk p 53 [.pointer (some ⟨s, 0, none⟩), wv3] :: hK s q.known :: .own 24 32 wv3 (bys ((q.waits ++ [x]).drop 1)) :: F))
              refine ⟨k + 1, by go_num, by omega, ?_⟩
              rw [HSN.out, HP.out]
              exact h1
            case measure => simp [intOf]; omega
    · have hk2 : k = l.length := by omega
      subst hk2
      rw [List.take_length] at hS0
      go_wp2_with fail
      refine bodyPost_end (results_none rfl _ _ _) rfl ?_
      exact hS0
end
end Go.Proofs.Ytffagjkjeojaaaa
