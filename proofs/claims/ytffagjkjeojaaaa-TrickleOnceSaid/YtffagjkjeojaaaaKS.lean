/- A set of known ids: made, asked for one, told more, and all of it. Conditions: those that stand ahead of each theorem. -/
import Derived.Test.YtffagjkjeojaaaaQM
namespace Go.Proofs.Ytffagjkjeojaaaa
open Go.RowKit Go.Px
theorem buildSet (m : Nat) (w : World) : (Instr.build 61 #[(2, .map (some m)), (3, I64 64)]).run Try.prog w = .ok (.agg #[.slice none 0 0, I64 0, .map (some m), I64 64]) w := run_build w 61 _ _ (by kernel_rfl)
theorem ret_tmp2 {P : Program} {fn : Func} {R : Value → World → Prop} {a : Act} {w : World} {s t : Nat} {u v : Value} (hr : fn.results = #[.tmp s, .tmp t]) (hd : a.defers = []) (hu : a.tmps.getD s undef = u) (hv : a.tmps.getD t undef = v) (h : R (.tuple #[u, v]) w) : bodyPost P fn (Ret R) .ret a w := by
  refine bodyPost_ret (v := .tuple #[u, v]) ?_ hd h
  have hu' : a.tmps[s]?.getD undef = u := by simpa using hu
  have hv' : a.tmps[t]?.getD undef = v := by simpa using hv
  simp [results, hr, hu', hv']
section
variable {R : Nat → Prop} {base w : World} {F : List Hp}
set_option maxRecDepth 100000 in
theorem knew_s (hS : SepL R base w F) : Calls Try.prog 26 #[I64 64] w (Ret fun r w' => ∃ s, r = .tuple #[.pointer (some ⟨s, 0, none⟩), I64 0] ∧ SepL R base w' (hK s [] :: F)) := by
  go_enter Try.func26, Try.ntmps26
  go_wp2_with (first
    | go_big_skip
    | (show wpList _ _ _ (⟨_, .makeMap _ _, _, _, _, _⟩ :: _) _ _; refine wpS_makeMap mapTy hS rfl rfl ?_; clear hS; intro m w hS; go_frame)
    | (show wpList _ _ _ (⟨_, .build _ _, _, _, _, _⟩ :: _) _ _; refine wpList_val rfl (op_build (ps := #[(2, .map (some m)), (3, I64 64)]) rfl rfl (buildSet m) _) ?_; go_frame)
    | (show wpList _ _ _ (⟨_, .box _ _, _, _, _, _⟩ :: _) _ _; refine wpS_boxA (cs := [.slice none 0 0, I64 0, .map (some m), I64 64]) hS rfl rfl rfl ?_; clear hS; intro s w hS; go_frame)
    )
  refine ret_tmp2 rfl rfl rfl rfl ?_
  exact ⟨s, rfl, hK_close (m := m) (f := 0) (rv := .slice none 0 0) (ring := []) ((hS.nilOwn 24 32).sel (by repeat (first | exact Sel.refl | refine Sel.take (by repeat (first | exact t0 | apply tS)) ?_ | apply Sel.drop))) Kinv.nil⟩
set_option maxRecDepth 100000 in
set_option maxHeartbeats 1000000 in
theorem khas_s {s : Nat} {L : List Id} {x : Id} (hS : SepL R base w (hK s L :: F)) (hx : x.length = 32) {b : Bool} (hb : Hid (decide (x ∈ L) = b)) :
    Calls Try.prog 27 #[.pointer (some ⟨s, 0, none⟩), HV x] w (Ret fun r w' => r = .bool b ∧ SepL R base w' (hK s L :: F)) := by
  obtain ⟨m, rv, ring, f, hinv, h⟩ := hK_open hS
  clear hS
  have hS := h
  clear h
  have HI := hide hinv
  have KX := isKey hx
  have HX32 : Hid ((x.map B8).length = 32) := by simp [Hid, hx]
  obtain ⟨c, hc, hg⟩ : ∃ c : Int, (mget (ents L) (HV x)).getD (I64 0) = I64 c ∧ decide ((0 : Int) < c) = b := by
    rw [mget_ents hinv.nd, ← hb.out]
    by_cases h : x ∈ L
    · exact ⟨1, by rw [if_pos h], by simp [h]⟩
    · exact ⟨0, by rw [if_neg h], by simp [h]⟩
  unfold HV at KX hc ⊢
  have HGET : Hid ((mget (ents L) (.agg (x.map B8).toArray)).getD (.int .i64 0) = I64 c) := hc
  have HG := hide hg
  clear hc hg hinv hx
  go_enter Try.func27, Try.ntmps27
  go_wp2_with (first
    | (show wpList _ _ _ (⟨_, .box _ _, _, _, _, _⟩ :: _) _ _; refine wpS_boxA (cs := x.map B8) hS rfl rfl rfl ?_; clear hS; intro nb w hS; go_frame)
    )
  refine wp_region_text (by kernel_rfl) (by kernel_rfl) (by repeat (first | exact Clean.body | refine Clean.then ?_ | refine Clean.inBlock ?_)) ?_
  replace hS := hS.drew
  go_wp2_with (first
    | go_big_skip
    | (show wpList _ _ _ (⟨_, .load 58 _, _, _, _, _⟩ :: _) _ _; refine wpList_val rfl (op_load1S (b := s) (T := 61) oneMap ((hS.bring (by repeat (first | exact t0 | apply tS)))) rfl rfl rfl) ?_; go_frame)
    | (show wpList _ _ _ (⟨_, .load 24 _, _, _, _, _⟩ :: _) _ _; refine wpList_val rfl (op_load aggHash rfl rfl (SepL.getBlk (b := nb) (T := 24) ((hS.bring (by repeat (first | exact t0 | apply tS))))).cells HX32.out) ?_; go_frame)
    | (show wpList _ _ _ (⟨_, .lookup _ _ _ _, _, _, _, _⟩ :: _) _ _; refine wpList_val rfl (op_lookup mapTy rfl rfl (b := m) (x := .agg (x.map B8).toArray) rfl (SepL.getMap ((hS.bring (by repeat (first | exact t0 | apply tS))))) KX) ?_; rw [HGET.out]; go_frame)
    | (show wpList _ _ _ (⟨some 14, .binOp _ _ _ _ _, _, _, _, _⟩ :: _) _ _; refine wpList_val rfl (op_igtr rfl rfl rfl HG.out) ?_; go_frame)
    | (refine fin_mk (by kernel_rfl) ?_)
    )
  go_ret
  exact ⟨rfl, hK_close (hS.sel (by repeat (first | exact Sel.refl | refine Sel.take (by repeat (first | exact t0 | apply tS)) ?_ | apply Sel.drop))) HI.out⟩
set_option maxRecDepth 100000 in
set_option maxHeartbeats 4000000 in
theorem kadd_s {s : Nat} {L l : List Id} (hS : SepL R base w (hK s L :: F)) {v : Value} (hl : RdIn R base 32 v (bys l)) (h32 : Is32 l) (hlen : l.length ≤ 100000) :
    Calls Try.prog 33 #[.pointer (some ⟨s, 0, none⟩), v] w (Ret fun r w' => SepL R base w' (.own 24 32 r (bys (gones L l)) :: hK s (adds L l) :: F)) := by
  have HL : Hid ((bys l).length = l.length) := bys_length l
  have H32 := hide h32
  clear h32
  go_enter Try.func33, Try.ntmps33
  go_wp2_with (first
    | (show wpList _ _ _ (⟨_, .call ⟨.builtin .len, _, _⟩, _, _, _, _⟩ :: _) _ _; refine wpList_val rfl (op_len slHash rfl rfl (v := v) (xs := bys l) rfl (by exact hS.rd hl)) ?_; rw [HL.out]; go_frame)
    )
  go_loopw [5, 13] (fun gv iv wr => ∃ (k : Nat), iv = .int .i64 k ∧ k ≤ l.length ∧ SepL R base wr (.own 24 32 gv (bys (gones L (l.take k))) :: hK s (adds L (l.take k)) :: F)) (fun _ iv _ => l.length - (intOf iv).toNat)
  case atStart => exact ⟨0, rfl, by omega, hS.nilOwn 24 32⟩
  case round =>
    clear hS
    obtain ⟨k, rfl, hk, hS0⟩ := hrel
    by_cases hlt : k < l.length
    · have hlk : k < (bys l).length := by rw [HL.out]; exact hlt
      obtain ⟨x, hx⟩ : ∃ x, l[k] = x := ⟨_, rfl⟩
      have hx32 : x.length = 32 := by rw [← hx]; exact H32.out _ (List.getElem_mem hlt)
      have HX : Hid ((bys l)[k] = x.map B8) := by
        unfold Hid
        rw [bys_get hlk hlt, hx]
      have HX32 : Hid ((x.map B8).length = 32) := by simp [Hid, hx32]
      have KX := isKey hx32
      have hsn : l.take (k + 1) = l.take k ++ [x] := by rw [List.take_succ_eq_append_getElem hlt, hx]
      have hgl := gones_len (l.take k) L
      rw [List.length_take] at hgl
      obtain ⟨G, hG⟩ : ∃ G, gones L (l.take k) = G := ⟨_, rfl⟩
      obtain ⟨M, hM⟩ : ∃ M, adds L (l.take k) = M := ⟨_, rfl⟩
      have hG1 : gones L (l.take (k + 1)) = G ++ gone1 M x := by
        rw [hsn, gones_app, hG, hM]
        unfold gones gones
        rw [List.append_nil]
      have hM1 : adds L (l.take (k + 1)) = add1 M x := by rw [hsn, adds_app, hM]; rfl
      have hGl : G.length ≤ 100000 := by rw [← hG]; omega
      have HG1 : Hid (((bys G).length + (bys [x]).length) * 32 ≤ 140737488355328) := by
        unfold Hid
        rw [bys_length, bys_length, List.length_singleton]
        omega
      have HGN := hide hG1
      have HMN := hide hM1
      rw [hG, hM] at hS0
      obtain ⟨m, rv, ring, f, hinv, hS1⟩ := hK_open (hS0.sel (by repeat (first | exact Sel.refl | refine Sel.take (by repeat (first | exact t0 | apply tS)) ?_ | apply Sel.drop)) : SepL R base _ (hK s M :: .own 24 32 u5 (bys G) :: F))
      clear hS0
      have hS := hS1
      clear hS1
      have HI := hide hinv
      have hrl := hinv.len
      have hfl := hinv.lt
      unfold HV at KX
      clear hx hsn hgl hG hM hG1 hM1
      by_cases hmem : x ∈ M
      · have HGET : Hid ((mget (ents M) (.agg (x.map B8).toArray)).getD (.int .i64 0) = I64 1) := (mget_ents hinv.nd x).trans (if_pos hmem)
        have HG : Hid (decide ((0 : Int) < 1) = true) := rfl
        have HE1 : Hid (gone1 M x = []) := if_pos hmem
        have HE2 : Hid (add1 M x = M) := if_pos hmem
        clear hmem hinv
        go_wp2_with (first
          | (show wpList _ _ _ (⟨some 15, .indexAddr _ _ _, _, _, _, _⟩ :: _) _ _; refine wpList_val rfl (op_indexAddr slHash rfl (v := v) (xs := bys l) rfl (k := k) rfl (by exact hS.rd hl) hlk) ?_; go_frame)
          | (show wpList _ _ _ (⟨some 16, .load _ _, _, _, _, _⟩ :: _) _ _; refine wpList_val rfl (op_loadE aggHash rfl (v := v) (xs := bys l) (k := k) rfl (by exact hS.rd hl) hlk) ?_; rw [HX.out]; go_frame)
          | (show wpList _ _ _ (⟨some 7, .alloc _, _, _, _, _⟩ :: _) _ _; refine wpS_alloc hS rfl rfl Try.zeroValue24 (zs := List.replicate 32 (.int .u8 0)) rfl ?_; clear hS; intro nb w hS; go_frame)
          | (show wpList _ _ _ (⟨_, .store 24 (.tmp 7) _, _, _, _, _⟩ :: _) _ _; (refine wpS_storeAll (b := nb) aggHash (hS.bring (by repeat (first | exact t0 | apply tS))) rfl rfl rfl (vs := x.map B8) rfl HX32.out (flat_B8 x) rfl ?_); clear hS; intro w hS; go_frame)
          )
        refine wp_region_text (by kernel_rfl) (by kernel_rfl) (by repeat (first | exact Clean.body | refine Clean.then ?_ | refine Clean.inBlock ?_)) ?_
        replace hS := hS.drew
        go_wp2_with (first
          | (show wpList _ _ _ (⟨_, .load 58 _, _, _, _, _⟩ :: _) _ _; refine wpList_val rfl (op_load1S (b := s) (T := 61) oneMap ((hS.bring (by repeat (first | exact t0 | apply tS)))) rfl rfl rfl) ?_; go_frame)
          | (show wpList _ _ _ (⟨_, .load 24 (.tmp 7), _, _, _, _⟩ :: _) _ _; refine wpList_val rfl (op_load aggHash rfl rfl (SepL.getBlk (b := nb) (T := 24) ((hS.bring (by repeat (first | exact t0 | apply tS))))).cells HX32.out) ?_; go_frame)
          | (show wpList _ _ _ (⟨some 22, .lookup _ _ _ _, _, _, _, _⟩ :: _) _ _; refine wpList_val rfl (op_lookup mapTy rfl rfl (b := m) (x := .agg (x.map B8).toArray) rfl (SepL.getMap ((hS.bring (by repeat (first | exact t0 | apply tS))))) KX) ?_; rw [HGET.out]; go_frame)
          | (show wpList _ _ _ (⟨some 23, .binOp _ _ _ _ _, _, _, _, _⟩ :: _) _ _; refine wpList_val rfl (op_igtr rfl rfl rfl HG.out) ?_; go_frame)
          | (refine fin_mk (by kernel_rfl) ?_)
          )
        go_roundw
        case rel =>
          have h1 := hK_close (hS.sel (by repeat (first | exact Sel.refl | refine Sel.take (by repeat (first | exact t0 | apply tS)) ?_ | apply Sel.drop)) : SepL R base _ (.blk s 61 [rv, I64 (f : Nat), .map (some m), I64 64] :: .own 24 32 rv (bys ring) :: .map Try.prog 24 m (ents M) :: .own 24 32 u5 (bys G) :: F)) HI.out
          refine ⟨k + 1, by go_num, by omega, ?_⟩
          rw [HGN.out, HMN.out, HE1.out, HE2.out, List.append_nil]
          exact h1.sel (by repeat (first | exact Sel.refl | refine Sel.take (by repeat (first | exact t0 | apply tS)) ?_ | apply Sel.drop))
        case measure => simp [intOf]; omega
      · have HGET : Hid ((mget (ents M) (.agg (x.map B8).toArray)).getD (.int .i64 0) = I64 0) := (mget_ents hinv.nd x).trans (if_neg hmem)
        have HG : Hid (decide ((0 : Int) < 0) = false) := rfl
        have HPUT : Hid (mput (ents M) (.agg (x.map B8).toArray) (I64 1) = ents (M ++ [x])) := mput_ents hmem
        have HRL : Hid ((bys ring).length = ring.length) := bys_length ring
        by_cases hroom : ring.length < 64
        · obtain ⟨he1, he2, hinv2⟩ := hinv.room hmem hx32 hroom
          have HE1 := hide he1
          have HE2 := hide he2
          have HI2 := hide hinv2
          have HLT : Hid (decide ((ring.length : Int) < 64) = true) := decide_eq_true (by omega)
          have HA1 : Hid (((bys ring).length + (bys [x]).length) * 32 ≤ 140737488355328) := by
            unfold Hid
            rw [bys_length, bys_length, List.length_singleton]
            omega
          have HA2 : Hid ((bys ring).length + (bys [x]).length ≤ maxLen) := by
            unfold Hid maxLen
            rw [bys_length, bys_length, List.length_singleton]
            omega
          clear hmem hinv he1 he2 hinv2 hroom
          go_wp2_with (first
            | (show wpList _ _ _ (⟨some 15, .indexAddr _ _ _, _, _, _, _⟩ :: _) _ _; refine wpList_val rfl (op_indexAddr slHash rfl (v := v) (xs := bys l) rfl (k := k) rfl (by exact hS.rd hl) hlk) ?_; go_frame)
            | (show wpList _ _ _ (⟨some 16, .load _ _, _, _, _, _⟩ :: _) _ _; refine wpList_val rfl (op_loadE aggHash rfl (v := v) (xs := bys l) (k := k) rfl (by exact hS.rd hl) hlk) ?_; rw [HX.out]; go_frame)
            | (show wpList _ _ _ (⟨some 7, .alloc _, _, _, _, _⟩ :: _) _ _; refine wpS_alloc hS rfl rfl Try.zeroValue24 (zs := List.replicate 32 (.int .u8 0)) rfl ?_; clear hS; intro nb w hS; go_frame)
            | (show wpList _ _ _ (⟨_, .store 24 (.tmp 7) _, _, _, _, _⟩ :: _) _ _; (refine wpS_storeAll (b := nb) aggHash (hS.bring (by repeat (first | exact t0 | apply tS))) rfl rfl rfl (vs := x.map B8) rfl HX32.out (flat_B8 x) rfl ?_); clear hS; intro w hS; go_frame)
            )
          refine wp_region_text (by kernel_rfl) (by kernel_rfl) (by repeat (first | exact Clean.body | refine Clean.then ?_ | refine Clean.inBlock ?_)) ?_
          replace hS := hS.drew
          go_wp2_with (first
            | (show wpList _ _ _ (⟨_, .load 58 _, _, _, _, _⟩ :: _) _ _; refine wpList_val rfl (op_load1S (b := s) (T := 61) oneMap ((hS.bring (by repeat (first | exact t0 | apply tS)))) rfl rfl rfl) ?_; go_frame)
            | (show wpList _ _ _ (⟨_, .load 24 (.tmp 7), _, _, _, _⟩ :: _) _ _; refine wpList_val rfl (op_load aggHash rfl rfl (SepL.getBlk (b := nb) (T := 24) ((hS.bring (by repeat (first | exact t0 | apply tS))))).cells HX32.out) ?_; go_frame)
            | (show wpList _ _ _ (⟨some 22, .lookup _ _ _ _, _, _, _, _⟩ :: _) _ _; refine wpList_val rfl (op_lookup mapTy rfl rfl (b := m) (x := .agg (x.map B8).toArray) rfl (SepL.getMap ((hS.bring (by repeat (first | exact t0 | apply tS))))) KX) ?_; rw [HGET.out]; go_frame)
            | (show wpList _ _ _ (⟨some 23, .binOp _ _ _ _ _, _, _, _, _⟩ :: _) _ _; refine wpList_val rfl (op_igtr rfl rfl rfl HG.out) ?_; go_frame)
            | (refine fin_mk (by kernel_rfl) ?_)
            )
          refine wp_region_text (by kernel_rfl) (by kernel_rfl) (by repeat (first | exact Clean.body | refine Clean.then ?_ | refine Clean.inBlock ?_)) ?_
          replace hS := hS.drew
          go_wp2_with (first
            | (show wpList _ _ _ (⟨_, .load 58 _, _, _, _, _⟩ :: _) _ _; refine wpList_val rfl (op_load1S (b := s) (T := 61) oneMap ((hS.bring (by repeat (first | exact t0 | apply tS)))) rfl rfl rfl) ?_; go_frame)
            | (show wpList _ _ _ (⟨_, .load 24 (.tmp 7), _, _, _, _⟩ :: _) _ _; refine wpList_val rfl (op_load aggHash rfl rfl (SepL.getBlk (b := nb) (T := 24) ((hS.bring (by repeat (first | exact t0 | apply tS))))).cells HX32.out) ?_; go_frame)
            | (show wpList _ _ _ (⟨some 22, .lookup _ _ _ _, _, _, _, _⟩ :: _) _ _; refine wpList_val rfl (op_lookup mapTy rfl rfl (b := m) (x := .agg (x.map B8).toArray) rfl (SepL.getMap ((hS.bring (by repeat (first | exact t0 | apply tS))))) KX) ?_; rw [HGET.out]; go_frame)
            | (show wpList _ _ _ (⟨some 23, .binOp _ _ _ _ _, _, _, _, _⟩ :: _) _ _; refine wpList_val rfl (op_igtr rfl rfl rfl HG.out) ?_; go_frame)
            | (refine fin_mk (by kernel_rfl) ?_)
            | (show wpList _ _ _ (⟨_, .mapUpdate _ _ _ _, _, _, _, _⟩ :: _) _ _; (refine wpS_mput mapTy (hS.bring (by repeat (first | exact t0 | apply tS))) rfl rfl rfl (b := m) (x := .agg (x.map B8).toArray) (v := I64 1) rfl rfl KX ?_); clear hS; intro w hS; rw [HPUT.out] at hS; go_frame)
            | (show wpList _ _ _ (⟨_, .load 31 _, _, _, _, _⟩ :: _) _ _; refine wpList_val rfl (op_load1S (b := s) (T := 61) oneHashes ((hS.bring (by repeat (first | exact t0 | apply tS)))) rfl rfl rfl) ?_; go_frame)
            | (show wpList _ _ _ (⟨some 33, .call _, _, _, _, _⟩ :: _) _ _; refine wpList_val rfl (op_len slHash rfl rfl (v := rv) (xs := bys ring) rfl ((hS.bring (by repeat (first | exact t0 | apply tS))).getOwn.rd)) ?_; rw [HRL.out]; go_frame)
            | (show wpList _ _ _ (⟨_, .load 3 _, _, _, _, _⟩ :: _) _ _; refine wpList_val rfl (op_load1S (b := s) (T := 61) oneInt ((hS.bring (by repeat (first | exact t0 | apply tS)))) rfl rfl rfl) ?_; go_frame)
            | (show wpList _ _ _ (⟨some 38, .binOp _ _ _ _ _, _, _, _, _⟩ :: _) _ _; refine wpList_val rfl (op_ilss rfl rfl rfl HLT.out) ?_; go_frame)
            )
          refine wp_region_text (by kernel_rfl) (by kernel_rfl) (by repeat (first | exact Clean.body | refine Clean.then ?_ | refine Clean.inBlock ?_)) ?_
          replace hS := hS.drew
          go_wp2_with (first
            | (show wpList _ _ _ (⟨_, .load 58 _, _, _, _, _⟩ :: _) _ _; refine wpList_val rfl (op_load1S (b := s) (T := 61) oneMap ((hS.bring (by repeat (first | exact t0 | apply tS)))) rfl rfl rfl) ?_; go_frame)
            | (show wpList _ _ _ (⟨_, .load 24 (.tmp 7), _, _, _, _⟩ :: _) _ _; refine wpList_val rfl (op_load aggHash rfl rfl (SepL.getBlk (b := nb) (T := 24) ((hS.bring (by repeat (first | exact t0 | apply tS))))).cells HX32.out) ?_; go_frame)
            | (show wpList _ _ _ (⟨some 22, .lookup _ _ _ _, _, _, _, _⟩ :: _) _ _; refine wpList_val rfl (op_lookup mapTy rfl rfl (b := m) (x := .agg (x.map B8).toArray) rfl (SepL.getMap ((hS.bring (by repeat (first | exact t0 | apply tS))))) KX) ?_; rw [HGET.out]; go_frame)
            | (show wpList _ _ _ (⟨some 23, .binOp _ _ _ _ _, _, _, _, _⟩ :: _) _ _; refine wpList_val rfl (op_igtr rfl rfl rfl HG.out) ?_; go_frame)
            | (refine fin_mk (by kernel_rfl) ?_)
            | (show wpList _ _ _ (⟨_, .mapUpdate _ _ _ _, _, _, _, _⟩ :: _) _ _; (refine wpS_mput mapTy (hS.bring (by repeat (first | exact t0 | apply tS))) rfl rfl rfl (b := m) (x := .agg (x.map B8).toArray) (v := I64 1) rfl rfl KX ?_); clear hS; intro w hS; rw [HPUT.out] at hS; go_frame)
            | (show wpList _ _ _ (⟨_, .load 31 _, _, _, _, _⟩ :: _) _ _; refine wpList_val rfl (op_load1S (b := s) (T := 61) oneHashes ((hS.bring (by repeat (first | exact t0 | apply tS)))) rfl rfl rfl) ?_; go_frame)
            | (show wpList _ _ _ (⟨some 33, .call _, _, _, _, _⟩ :: _) _ _; refine wpList_val rfl (op_len slHash rfl rfl (v := rv) (xs := bys ring) rfl ((hS.bring (by repeat (first | exact t0 | apply tS))).getOwn.rd)) ?_; rw [HRL.out]; go_frame)
            | (show wpList _ _ _ (⟨_, .load 3 _, _, _, _, _⟩ :: _) _ _; refine wpList_val rfl (op_load1S (b := s) (T := 61) oneInt ((hS.bring (by repeat (first | exact t0 | apply tS)))) rfl rfl rfl) ?_; go_frame)
            | (show wpList _ _ _ (⟨some 38, .binOp _ _ _ _ _, _, _, _, _⟩ :: _) _ _; refine wpList_val rfl (op_ilss rfl rfl rfl HLT.out) ?_; go_frame)
            )
          refine wp_region_text (by kernel_rfl) (by kernel_rfl) (by repeat (first | exact Clean.body | refine Clean.then ?_ | refine Clean.inBlock ?_)) ?_
          replace hS := hS.drew
          go_wp2_with (first
            | (show wpList _ _ _ (⟨_, .load 58 _, _, _, _, _⟩ :: _) _ _; refine wpList_val rfl (op_load1S (b := s) (T := 61) oneMap ((hS.bring (by repeat (first | exact t0 | apply tS)))) rfl rfl rfl) ?_; go_frame)
            | (show wpList _ _ _ (⟨_, .load 24 (.tmp 7), _, _, _, _⟩ :: _) _ _; refine wpList_val rfl (op_load aggHash rfl rfl (SepL.getBlk (b := nb) (T := 24) ((hS.bring (by repeat (first | exact t0 | apply tS))))).cells HX32.out) ?_; go_frame)
            | (show wpList _ _ _ (⟨some 22, .lookup _ _ _ _, _, _, _, _⟩ :: _) _ _; refine wpList_val rfl (op_lookup mapTy rfl rfl (b := m) (x := .agg (x.map B8).toArray) rfl (SepL.getMap ((hS.bring (by repeat (first | exact t0 | apply tS))))) KX) ?_; rw [HGET.out]; go_frame)
            | (show wpList _ _ _ (⟨some 23, .binOp _ _ _ _ _, _, _, _, _⟩ :: _) _ _; refine wpList_val rfl (op_igtr rfl rfl rfl HG.out) ?_; go_frame)
            | (refine fin_mk (by kernel_rfl) ?_)
            | (show wpList _ _ _ (⟨_, .mapUpdate _ _ _ _, _, _, _, _⟩ :: _) _ _; (refine wpS_mput mapTy (hS.bring (by repeat (first | exact t0 | apply tS))) rfl rfl rfl (b := m) (x := .agg (x.map B8).toArray) (v := I64 1) rfl rfl KX ?_); clear hS; intro w hS; rw [HPUT.out] at hS; go_frame)
            | (show wpList _ _ _ (⟨_, .load 31 _, _, _, _, _⟩ :: _) _ _; refine wpList_val rfl (op_load1S (b := s) (T := 61) oneHashes ((hS.bring (by repeat (first | exact t0 | apply tS)))) rfl rfl rfl) ?_; go_frame)
            | (show wpList _ _ _ (⟨some 33, .call _, _, _, _, _⟩ :: _) _ _; refine wpList_val rfl (op_len slHash rfl rfl (v := rv) (xs := bys ring) rfl ((hS.bring (by repeat (first | exact t0 | apply tS))).getOwn.rd)) ?_; rw [HRL.out]; go_frame)
            | (show wpList _ _ _ (⟨_, .load 3 _, _, _, _, _⟩ :: _) _ _; refine wpList_val rfl (op_load1S (b := s) (T := 61) oneInt ((hS.bring (by repeat (first | exact t0 | apply tS)))) rfl rfl rfl) ?_; go_frame)
            | (show wpList _ _ _ (⟨some 38, .binOp _ _ _ _ _, _, _, _, _⟩ :: _) _ _; refine wpList_val rfl (op_ilss rfl rfl rfl HLT.out) ?_; go_frame)
            | (show wpList _ _ _ (⟨some 45, .buildSlice _ _ _, _, _, _, _⟩ :: _) _ _; refine wpS_build1A slHash (by omega) hS rfl rfl (cs := x.map B8) rfl HX32.out ?_; clear hS; intro v45 w hS; go_frame)
            | (show wpList _ _ _ (⟨some 46, .call _, _, _, _, _⟩ :: _) _ _; (refine wpS_append slHash (hS.bring (by repeat (first | exact t0 | apply tS))) rfl rfl (sv := rv) (xs := bys ring) (xv := v45) rfl rfl (ys := bys [x]) ((hS.bring (by repeat (first | exact t0 | apply tS))).getOwn.rd) (flat_bys _) HA1.out HA2.out ?_); clear hS; intro v46 w hS; rw [← bys_app] at hS; have HD1 := hide hS.getOwn.rd.cells1; have HD2 := hide hS.getOwn.rd.one1; go_frame)
            | (show wpList _ _ _ (⟨_, .store 31 _ _, _, _, _, _⟩ :: _) _ _; (refine wpS_store1 (b := s) (T := 61) (by kernel_rfl) (hS.bring (by repeat (first | exact t0 | apply tS))) rfl rfl rfl (v := v46) rfl HD1.out HD2.out (by simp) ?_); clear hS; intro w hS; go_frame)
            )
          go_roundw
          case rel =>
            have h1 := hK_close (hS.sel (by repeat (first | exact Sel.refl | refine Sel.take (by repeat (first | exact t0 | apply tS)) ?_ | apply Sel.drop)) : SepL R base _ (.blk s 61 [v46, I64 (f : Nat), .map (some m), I64 64] :: .own 24 32 v46 (bys (ring ++ [x])) :: .map Try.prog 24 m (ents (M ++ [x])) :: .own 24 32 u5 (bys G) :: F)) HI2.out
            refine ⟨k + 1, by go_num, by omega, ?_⟩
            rw [HGN.out, HMN.out, HE1.out, HE2.out, List.append_nil]
            exact h1.sel (by repeat (first | exact Sel.refl | refine Sel.take (by repeat (first | exact t0 | apply tS)) ?_ | apply Sel.drop))
          case measure => simp [intOf]; omega
        · obtain ⟨hf, he0, he1, he2, hinv2⟩ := hinv.full hmem hx32 hroom
          obtain ⟨y, hy⟩ : ∃ y, ring[f] = y := ⟨_, rfl⟩
          rw [hy] at he0 he2
          have hy32 : y.length = 32 := by rw [← hy]; exact hinv.ring32 _ (List.getElem_mem hf)
          have HFR : Hid (f < (bys ring).length) := by unfold Hid; rw [bys_length]; exact hf
          have HY : Hid ((bys ring)[f]'HFR.out = y.map B8) := by
            unfold Hid
            rw [bys_get HFR.out hf, hy]
          have HY32 : Hid ((y.map B8).length = 32) := by simp [Hid, hy32]
          have KY := isKey hy32
          unfold HV at KY
          have HDEL : Hid (mdel (ents (M ++ [x])) (.agg (y.map B8).toArray) = ents (M.drop 1 ++ [x])) := by
            unfold Hid
            rw [show M ++ [x] = y :: (M.drop 1 ++ [x]) by rw [← List.cons_append, ← he0]]
            refine mdel_ents fun hin => ?_
            have hnd := hinv.nd
            rw [he0] at hnd
            rcases List.mem_append.1 hin with h1 | h1
            · exact (List.nodup_cons.1 hnd).1 h1
            · rw [List.mem_singleton.1 h1] at he0
              exact hmem (by rw [he0]; simp)
          have HE1 := hide he1
          have HE2 := hide he2
          have HI2 := hide hinv2
          have HLT : Hid (decide ((ring.length : Int) < 64) = false) := decide_eq_false (by omega)
          have HG2 : Hid ((bys G).length + (bys [y]).length ≤ maxLen) := by
            unfold Hid maxLen
            rw [bys_length, bys_length, List.length_singleton]
            omega
          clear hmem hinv he0 he1 he2 hinv2 hroom hy hf
          go_wp2_with (first
            | (show wpList _ _ _ (⟨some 15, .indexAddr _ _ _, _, _, _, _⟩ :: _) _ _; refine wpList_val rfl (op_indexAddr slHash rfl (v := v) (xs := bys l) rfl (k := k) rfl (by exact hS.rd hl) hlk) ?_; go_frame)
            | (show wpList _ _ _ (⟨some 16, .load _ _, _, _, _, _⟩ :: _) _ _; refine wpList_val rfl (op_loadE aggHash rfl (v := v) (xs := bys l) (k := k) rfl (by exact hS.rd hl) hlk) ?_; rw [HX.out]; go_frame)
            | (show wpList _ _ _ (⟨some 7, .alloc _, _, _, _, _⟩ :: _) _ _; refine wpS_alloc hS rfl rfl Try.zeroValue24 (zs := List.replicate 32 (.int .u8 0)) rfl ?_; clear hS; intro nb w hS; go_frame)
            | (show wpList _ _ _ (⟨_, .store 24 (.tmp 7) _, _, _, _, _⟩ :: _) _ _; (refine wpS_storeAll (b := nb) aggHash (hS.bring (by repeat (first | exact t0 | apply tS))) rfl rfl rfl (vs := x.map B8) rfl HX32.out (flat_B8 x) rfl ?_); clear hS; intro w hS; go_frame)
            )
          refine wp_region_text (by kernel_rfl) (by kernel_rfl) (by repeat (first | exact Clean.body | refine Clean.then ?_ | refine Clean.inBlock ?_)) ?_
          replace hS := hS.drew
          go_wp2_with (first
            | (show wpList _ _ _ (⟨_, .load 58 _, _, _, _, _⟩ :: _) _ _; refine wpList_val rfl (op_load1S (b := s) (T := 61) oneMap ((hS.bring (by repeat (first | exact t0 | apply tS)))) rfl rfl rfl) ?_; go_frame)
            | (show wpList _ _ _ (⟨_, .load 24 (.tmp 7), _, _, _, _⟩ :: _) _ _; refine wpList_val rfl (op_load aggHash rfl rfl (SepL.getBlk (b := nb) (T := 24) ((hS.bring (by repeat (first | exact t0 | apply tS))))).cells HX32.out) ?_; go_frame)
            | (show wpList _ _ _ (⟨some 22, .lookup _ _ _ _, _, _, _, _⟩ :: _) _ _; refine wpList_val rfl (op_lookup mapTy rfl rfl (b := m) (x := .agg (x.map B8).toArray) rfl (SepL.getMap ((hS.bring (by repeat (first | exact t0 | apply tS))))) KX) ?_; rw [HGET.out]; go_frame)
            | (show wpList _ _ _ (⟨some 23, .binOp _ _ _ _ _, _, _, _, _⟩ :: _) _ _; refine wpList_val rfl (op_igtr rfl rfl rfl HG.out) ?_; go_frame)
            | (refine fin_mk (by kernel_rfl) ?_)
            )
          refine wp_region_text (by kernel_rfl) (by kernel_rfl) (by repeat (first | exact Clean.body | refine Clean.then ?_ | refine Clean.inBlock ?_)) ?_
          replace hS := hS.drew
          go_wp2_with (first
            | (show wpList _ _ _ (⟨_, .load 58 _, _, _, _, _⟩ :: _) _ _; refine wpList_val rfl (op_load1S (b := s) (T := 61) oneMap ((hS.bring (by repeat (first | exact t0 | apply tS)))) rfl rfl rfl) ?_; go_frame)
            | (show wpList _ _ _ (⟨_, .load 24 (.tmp 7), _, _, _, _⟩ :: _) _ _; refine wpList_val rfl (op_load aggHash rfl rfl (SepL.getBlk (b := nb) (T := 24) ((hS.bring (by repeat (first | exact t0 | apply tS))))).cells HX32.out) ?_; go_frame)
            | (show wpList _ _ _ (⟨some 22, .lookup _ _ _ _, _, _, _, _⟩ :: _) _ _; refine wpList_val rfl (op_lookup mapTy rfl rfl (b := m) (x := .agg (x.map B8).toArray) rfl (SepL.getMap ((hS.bring (by repeat (first | exact t0 | apply tS))))) KX) ?_; rw [HGET.out]; go_frame)
            | (show wpList _ _ _ (⟨some 23, .binOp _ _ _ _ _, _, _, _, _⟩ :: _) _ _; refine wpList_val rfl (op_igtr rfl rfl rfl HG.out) ?_; go_frame)
            | (refine fin_mk (by kernel_rfl) ?_)
            | (show wpList _ _ _ (⟨_, .mapUpdate _ _ _ _, _, _, _, _⟩ :: _) _ _; (refine wpS_mput mapTy (hS.bring (by repeat (first | exact t0 | apply tS))) rfl rfl rfl (b := m) (x := .agg (x.map B8).toArray) (v := I64 1) rfl rfl KX ?_); clear hS; intro w hS; rw [HPUT.out] at hS; go_frame)
            | (show wpList _ _ _ (⟨_, .load 31 _, _, _, _, _⟩ :: _) _ _; refine wpList_val rfl (op_load1S (b := s) (T := 61) oneHashes ((hS.bring (by repeat (first | exact t0 | apply tS)))) rfl rfl rfl) ?_; go_frame)
            | (show wpList _ _ _ (⟨some 33, .call _, _, _, _, _⟩ :: _) _ _; refine wpList_val rfl (op_len slHash rfl rfl (v := rv) (xs := bys ring) rfl ((hS.bring (by repeat (first | exact t0 | apply tS))).getOwn.rd)) ?_; rw [HRL.out]; go_frame)
            | (show wpList _ _ _ (⟨_, .load 3 _, _, _, _, _⟩ :: _) _ _; refine wpList_val rfl (op_load1S (b := s) (T := 61) oneInt ((hS.bring (by repeat (first | exact t0 | apply tS)))) rfl rfl rfl) ?_; go_frame)
            | (show wpList _ _ _ (⟨some 38, .binOp _ _ _ _ _, _, _, _, _⟩ :: _) _ _; refine wpList_val rfl (op_ilss rfl rfl rfl HLT.out) ?_; go_frame)
            )
          refine wp_region_text (by kernel_rfl) (by kernel_rfl) (by repeat (first | exact Clean.body | refine Clean.then ?_ | refine Clean.inBlock ?_)) ?_
          replace hS := hS.drew
          go_wp2_with (first
            | (show wpList _ _ _ (⟨_, .load 58 _, _, _, _, _⟩ :: _) _ _; refine wpList_val rfl (op_load1S (b := s) (T := 61) oneMap ((hS.bring (by repeat (first | exact t0 | apply tS)))) rfl rfl rfl) ?_; go_frame)
            | (show wpList _ _ _ (⟨_, .load 24 (.tmp 7), _, _, _, _⟩ :: _) _ _; refine wpList_val rfl (op_load aggHash rfl rfl (SepL.getBlk (b := nb) (T := 24) ((hS.bring (by repeat (first | exact t0 | apply tS))))).cells HX32.out) ?_; go_frame)
            | (show wpList _ _ _ (⟨some 22, .lookup _ _ _ _, _, _, _, _⟩ :: _) _ _; refine wpList_val rfl (op_lookup mapTy rfl rfl (b := m) (x := .agg (x.map B8).toArray) rfl (SepL.getMap ((hS.bring (by repeat (first | exact t0 | apply tS))))) KX) ?_; rw [HGET.out]; go_frame)
            | (show wpList _ _ _ (⟨some 23, .binOp _ _ _ _ _, _, _, _, _⟩ :: _) _ _; refine wpList_val rfl (op_igtr rfl rfl rfl HG.out) ?_; go_frame)
            | (refine fin_mk (by kernel_rfl) ?_)
            | (show wpList _ _ _ (⟨_, .mapUpdate _ _ _ _, _, _, _, _⟩ :: _) _ _; (refine wpS_mput mapTy (hS.bring (by repeat (first | exact t0 | apply tS))) rfl rfl rfl (b := m) (x := .agg (x.map B8).toArray) (v := I64 1) rfl rfl KX ?_); clear hS; intro w hS; rw [HPUT.out] at hS; go_frame)
            | (show wpList _ _ _ (⟨_, .load 31 _, _, _, _, _⟩ :: _) _ _; refine wpList_val rfl (op_load1S (b := s) (T := 61) oneHashes ((hS.bring (by repeat (first | exact t0 | apply tS)))) rfl rfl rfl) ?_; go_frame)
            | (show wpList _ _ _ (⟨some 33, .call _, _, _, _, _⟩ :: _) _ _; refine wpList_val rfl (op_len slHash rfl rfl (v := rv) (xs := bys ring) rfl ((hS.bring (by repeat (first | exact t0 | apply tS))).getOwn.rd)) ?_; rw [HRL.out]; go_frame)
            | (show wpList _ _ _ (⟨_, .load 3 _, _, _, _, _⟩ :: _) _ _; refine wpList_val rfl (op_load1S (b := s) (T := 61) oneInt ((hS.bring (by repeat (first | exact t0 | apply tS)))) rfl rfl rfl) ?_; go_frame)
            | (show wpList _ _ _ (⟨some 38, .binOp _ _ _ _ _, _, _, _, _⟩ :: _) _ _; refine wpList_val rfl (op_ilss rfl rfl rfl HLT.out) ?_; go_frame)
            )
          refine wp_region_text (by kernel_rfl) (by kernel_rfl) (by repeat (first | exact Clean.body | refine Clean.then ?_ | refine Clean.inBlock ?_)) ?_
          replace hS := hS.drew
          go_wp2_with (first
            | (show wpList _ _ _ (⟨_, .load 58 _, _, _, _, _⟩ :: _) _ _; refine wpList_val rfl (op_load1S (b := s) (T := 61) oneMap ((hS.bring (by repeat (first | exact t0 | apply tS)))) rfl rfl rfl) ?_; go_frame)
            | (show wpList _ _ _ (⟨_, .load 24 (.tmp 7), _, _, _, _⟩ :: _) _ _; refine wpList_val rfl (op_load aggHash rfl rfl (SepL.getBlk (b := nb) (T := 24) ((hS.bring (by repeat (first | exact t0 | apply tS))))).cells HX32.out) ?_; go_frame)
            | (show wpList _ _ _ (⟨some 22, .lookup _ _ _ _, _, _, _, _⟩ :: _) _ _; refine wpList_val rfl (op_lookup mapTy rfl rfl (b := m) (x := .agg (x.map B8).toArray) rfl (SepL.getMap ((hS.bring (by repeat (first | exact t0 | apply tS))))) KX) ?_; rw [HGET.out]; go_frame)
            | (show wpList _ _ _ (⟨some 23, .binOp _ _ _ _ _, _, _, _, _⟩ :: _) _ _; refine wpList_val rfl (op_igtr rfl rfl rfl HG.out) ?_; go_frame)
            | (refine fin_mk (by kernel_rfl) ?_)
            | (show wpList _ _ _ (⟨_, .mapUpdate _ _ _ _, _, _, _, _⟩ :: _) _ _; (refine wpS_mput mapTy (hS.bring (by repeat (first | exact t0 | apply tS))) rfl rfl rfl (b := m) (x := .agg (x.map B8).toArray) (v := I64 1) rfl rfl KX ?_); clear hS; intro w hS; rw [HPUT.out] at hS; go_frame)
            | (show wpList _ _ _ (⟨_, .load 31 _, _, _, _, _⟩ :: _) _ _; refine wpList_val rfl (op_load1S (b := s) (T := 61) oneHashes ((hS.bring (by repeat (first | exact t0 | apply tS)))) rfl rfl rfl) ?_; go_frame)
            | (show wpList _ _ _ (⟨some 33, .call _, _, _, _, _⟩ :: _) _ _; refine wpList_val rfl (op_len slHash rfl rfl (v := rv) (xs := bys ring) rfl ((hS.bring (by repeat (first | exact t0 | apply tS))).getOwn.rd)) ?_; rw [HRL.out]; go_frame)
            | (show wpList _ _ _ (⟨_, .load 3 _, _, _, _, _⟩ :: _) _ _; refine wpList_val rfl (op_load1S (b := s) (T := 61) oneInt ((hS.bring (by repeat (first | exact t0 | apply tS)))) rfl rfl rfl) ?_; go_frame)
            | (show wpList _ _ _ (⟨some 38, .binOp _ _ _ _ _, _, _, _, _⟩ :: _) _ _; refine wpList_val rfl (op_ilss rfl rfl rfl HLT.out) ?_; go_frame)
            | (show wpList _ _ _ (⟨some 57, .indexAddr _ _ _, _, _, _, _⟩ :: _) _ _; refine wpList_val rfl (op_indexAddr slHash rfl (v := rv) (xs := bys ring) rfl (k := f) rfl ((hS.bring (by repeat (first | exact t0 | apply tS))).getOwn.rd) HFR.out) ?_; go_frame)
            | (show wpList _ _ _ (⟨some 58, .load _ _, _, _, _, _⟩ :: _) _ _; refine wpList_val rfl (op_loadE aggHash rfl (v := rv) (xs := bys ring) (k := f) rfl ((hS.bring (by repeat (first | exact t0 | apply tS))).getOwn.rd) HFR.out) ?_; rw [HY.out]; go_frame)
            | (show wpList _ _ _ (⟨some 8, .alloc _, _, _, _, _⟩ :: _) _ _; refine wpS_alloc hS rfl rfl Try.zeroValue24 (zs := List.replicate 32 (.int .u8 0)) rfl ?_; clear hS; intro n8 w hS; go_frame)
            | (show wpList _ _ _ (⟨_, .store 24 (.tmp 8) _, _, _, _, _⟩ :: _) _ _; (refine wpS_storeAll (b := n8) aggHash (hS.bring (by repeat (first | exact t0 | apply tS))) rfl rfl rfl (vs := y.map B8) rfl HY32.out (flat_B8 y) rfl ?_); clear hS; intro w hS; go_frame)
            | (show wpList _ _ _ (⟨_, .load 24 (.tmp 8), _, _, _, _⟩ :: _) _ _; refine wpList_val rfl (op_load aggHash rfl rfl (SepL.getBlk (b := n8) (T := 24) ((hS.bring (by repeat (first | exact t0 | apply tS))))).cells HY32.out) ?_; go_frame)
            | (show wpList _ _ _ (⟨_, .call ⟨.builtin .delete, _, _⟩, _, _, _, _⟩ :: _) _ _; (refine wpS_mdel mapTy (hS.bring (by repeat (first | exact t0 | apply tS))) rfl rfl rfl rfl (b := m) (x := .agg (y.map B8).toArray) rfl KY ?_); clear hS; intro w hS; rw [HDEL.out] at hS; go_frame)
            | (show wpList _ _ _ (⟨some 66, .buildSlice _ _ _, _, _, _, _⟩ :: _) _ _; refine wpS_build1A slHash (by omega) hS rfl rfl (cs := y.map B8) rfl HY32.out ?_; clear hS; intro v66 w hS; go_frame)
            | (show wpList _ _ _ (⟨some 67, .call _, _, _, _, _⟩ :: _) _ _; (refine wpS_append slHash (hS.bring (by repeat (first | exact t0 | apply tS))) rfl rfl (sv := u5) (xs := bys G) (xv := v66) rfl rfl (ys := bys [y]) ((hS.bring (by repeat (first | exact t0 | apply tS))).getOwn.rd) (flat_bys _) HG1.out HG2.out ?_); clear hS; intro v67 w hS; rw [← bys_app] at hS; go_frame)
            | (show wpList _ _ _ (⟨some 77, .indexAddr _ _ _, _, _, _, _⟩ :: _) _ _; refine wpList_val rfl (op_indexAddr slHash rfl (v := rv) (xs := bys ring) rfl (k := f) rfl ((hS.bring (by repeat (first | exact t0 | apply tS))).getOwn.rd) HFR.out) ?_; go_frame)
            | (show wpList _ _ _ (⟨_, .store 24 (.tmp 77) _, _, _, _, _⟩ :: _) _ _; (refine wpS_storeE aggHash (hS.bring (by repeat (first | exact t0 | apply tS))) rfl rfl (v := rv) (xs := bys ring) (k := f) rfl (vs := x.map B8) rfl HX32.out (flat_B8 x) HFR.out ?_); clear hS; intro w hS; rw [bys_set] at hS; go_frame)
            | (show wpList _ _ _ (⟨some 83, .binOp _ _ _ _ _, _, _, _, _⟩ :: _) _ _; refine wpList_val rfl (op_iaddN rfl rfl rfl (f + 1) (by omega) (by omega)) ?_; go_frame)
            | (show wpList _ _ _ (⟨some 88, .binOp _ _ _ _ _, _, _, _, _⟩ :: _) _ _; refine wpList_val rfl (op_iremN rfl rfl (b := 64) rfl (by omega)) ?_; go_frame)
            | (show wpList _ _ _ (⟨_, .store 3 _ _, _, _, _, _⟩ :: _) _ _; (refine wpS_store1 (b := s) (T := 61) (by kernel_rfl) (hS.bring (by repeat (first | exact t0 | apply tS))) rfl rfl rfl (v := I64 ((f + 1) % 64 : Nat)) rfl rfl rfl (by simp) ?_); clear hS; intro w hS; go_frame)
            )
          refine wp_region_text (by kernel_rfl) (by kernel_rfl) (by repeat (first | exact Clean.body | refine Clean.then ?_ | refine Clean.inBlock ?_)) ?_
          replace hS := hS.drew
          go_wp2_with (first
            | (show wpList _ _ _ (⟨_, .load 58 _, _, _, _, _⟩ :: _) _ _; refine wpList_val rfl (op_load1S (b := s) (T := 61) oneMap ((hS.bring (by repeat (first | exact t0 | apply tS)))) rfl rfl rfl) ?_; go_frame)
            | (show wpList _ _ _ (⟨_, .load 24 (.tmp 7), _, _, _, _⟩ :: _) _ _; refine wpList_val rfl (op_load aggHash rfl rfl (SepL.getBlk (b := nb) (T := 24) ((hS.bring (by repeat (first | exact t0 | apply tS))))).cells HX32.out) ?_; go_frame)
            | (show wpList _ _ _ (⟨some 22, .lookup _ _ _ _, _, _, _, _⟩ :: _) _ _; refine wpList_val rfl (op_lookup mapTy rfl rfl (b := m) (x := .agg (x.map B8).toArray) rfl (SepL.getMap ((hS.bring (by repeat (first | exact t0 | apply tS))))) KX) ?_; rw [HGET.out]; go_frame)
            | (show wpList _ _ _ (⟨some 23, .binOp _ _ _ _ _, _, _, _, _⟩ :: _) _ _; refine wpList_val rfl (op_igtr rfl rfl rfl HG.out) ?_; go_frame)
            | (refine fin_mk (by kernel_rfl) ?_)
            | (show wpList _ _ _ (⟨some 57, .indexAddr _ _ _, _, _, _, _⟩ :: _) _ _; refine wpList_val rfl (op_indexAddr slHash rfl (v := rv) (xs := bys ring) rfl (k := f) rfl ((hS.bring (by repeat (first | exact t0 | apply tS))).getOwn.rd) HFR.out) ?_; go_frame)
            | (show wpList _ _ _ (⟨some 58, .load _ _, _, _, _, _⟩ :: _) _ _; refine wpList_val rfl (op_loadE aggHash rfl (v := rv) (xs := bys ring) (k := f) rfl ((hS.bring (by repeat (first | exact t0 | apply tS))).getOwn.rd) HFR.out) ?_; rw [HY.out]; go_frame)
            | (show wpList _ _ _ (⟨some 8, .alloc _, _, _, _, _⟩ :: _) _ _; refine wpS_alloc hS rfl rfl Try.zeroValue24 (zs := List.replicate 32 (.int .u8 0)) rfl ?_; clear hS; intro n8 w hS; go_frame)
            | (show wpList _ _ _ (⟨_, .store 24 (.tmp 8) _, _, _, _, _⟩ :: _) _ _; (refine wpS_storeAll (b := n8) aggHash (hS.bring (by repeat (first | exact t0 | apply tS))) rfl rfl rfl (vs := y.map B8) rfl HY32.out (flat_B8 y) rfl ?_); clear hS; intro w hS; go_frame)
            | (show wpList _ _ _ (⟨_, .load 24 (.tmp 8), _, _, _, _⟩ :: _) _ _; refine wpList_val rfl (op_load aggHash rfl rfl (SepL.getBlk (b := n8) (T := 24) ((hS.bring (by repeat (first | exact t0 | apply tS))))).cells HY32.out) ?_; go_frame)
            | (show wpList _ _ _ (⟨_, .call ⟨.builtin .delete, _, _⟩, _, _, _, _⟩ :: _) _ _; (refine wpS_mdel mapTy (hS.bring (by repeat (first | exact t0 | apply tS))) rfl rfl rfl rfl (b := m) (x := .agg (y.map B8).toArray) rfl KY ?_); clear hS; intro w hS; rw [HDEL.out] at hS; go_frame)
            | (show wpList _ _ _ (⟨some 66, .buildSlice _ _ _, _, _, _, _⟩ :: _) _ _; refine wpS_build1A slHash (by omega) hS rfl rfl (cs := y.map B8) rfl HY32.out ?_; clear hS; intro v66 w hS; go_frame)
            | (show wpList _ _ _ (⟨some 67, .call _, _, _, _, _⟩ :: _) _ _; (refine wpS_append slHash (hS.bring (by repeat (first | exact t0 | apply tS))) rfl rfl (sv := u5) (xs := bys G) (xv := v66) rfl rfl (ys := bys [y]) ((hS.bring (by repeat (first | exact t0 | apply tS))).getOwn.rd) (flat_bys _) HG1.out HG2.out ?_); clear hS; intro v67 w hS; rw [← bys_app] at hS; go_frame)
            | (show wpList _ _ _ (⟨some 77, .indexAddr _ _ _, _, _, _, _⟩ :: _) _ _; refine wpList_val rfl (op_indexAddr slHash rfl (v := rv) (xs := bys ring) rfl (k := f) rfl ((hS.bring (by repeat (first | exact t0 | apply tS))).getOwn.rd) HFR.out) ?_; go_frame)
            | (show wpList _ _ _ (⟨_, .store 24 (.tmp 77) _, _, _, _, _⟩ :: _) _ _; (refine wpS_storeE aggHash (hS.bring (by repeat (first | exact t0 | apply tS))) rfl rfl (v := rv) (xs := bys ring) (k := f) rfl (vs := x.map B8) rfl HX32.out (flat_B8 x) HFR.out ?_); clear hS; intro w hS; rw [bys_set] at hS; go_frame)
            | (show wpList _ _ _ (⟨some 83, .binOp _ _ _ _ _, _, _, _, _⟩ :: _) _ _; refine wpList_val rfl (op_iaddN rfl rfl rfl (f + 1) (by omega) (by omega)) ?_; go_frame)
            | (show wpList _ _ _ (⟨some 88, .binOp _ _ _ _ _, _, _, _, _⟩ :: _) _ _; refine wpList_val rfl (op_iremN rfl rfl (b := 64) rfl (by omega)) ?_; go_frame)
            | (show wpList _ _ _ (⟨_, .store 3 _ _, _, _, _, _⟩ :: _) _ _; (refine wpS_store1 (b := s) (T := 61) (by kernel_rfl) (hS.bring (by repeat (first | exact t0 | apply tS))) rfl rfl rfl (v := I64 ((f + 1) % 64 : Nat)) rfl rfl rfl (by simp) ?_); clear hS; intro w hS; go_frame)
            )
          refine wp_region_text (by kernel_rfl) (by kernel_rfl) (by repeat (first | exact Clean.body | refine Clean.then ?_ | refine Clean.inBlock ?_)) ?_
          replace hS := hS.drew
          go_wp2_with (first
            | (show wpList _ _ _ (⟨_, .load 58 _, _, _, _, _⟩ :: _) _ _; refine wpList_val rfl (op_load1S (b := s) (T := 61) oneMap ((hS.bring (by repeat (first | exact t0 | apply tS)))) rfl rfl rfl) ?_; go_frame)
            | (show wpList _ _ _ (⟨_, .load 24 (.tmp 7), _, _, _, _⟩ :: _) _ _; refine wpList_val rfl (op_load aggHash rfl rfl (SepL.getBlk (b := nb) (T := 24) ((hS.bring (by repeat (first | exact t0 | apply tS))))).cells HX32.out) ?_; go_frame)
            | (show wpList _ _ _ (⟨some 22, .lookup _ _ _ _, _, _, _, _⟩ :: _) _ _; refine wpList_val rfl (op_lookup mapTy rfl rfl (b := m) (x := .agg (x.map B8).toArray) rfl (SepL.getMap ((hS.bring (by repeat (first | exact t0 | apply tS))))) KX) ?_; rw [HGET.out]; go_frame)
            | (show wpList _ _ _ (⟨some 23, .binOp _ _ _ _ _, _, _, _, _⟩ :: _) _ _; refine wpList_val rfl (op_igtr rfl rfl rfl HG.out) ?_; go_frame)
            | (refine fin_mk (by kernel_rfl) ?_)
            | (show wpList _ _ _ (⟨_, .mapUpdate _ _ _ _, _, _, _, _⟩ :: _) _ _; (refine wpS_mput mapTy (hS.bring (by repeat (first | exact t0 | apply tS))) rfl rfl rfl (b := m) (x := .agg (x.map B8).toArray) (v := I64 1) rfl rfl KX ?_); clear hS; intro w hS; rw [HPUT.out] at hS; go_frame)
            | (show wpList _ _ _ (⟨_, .load 31 _, _, _, _, _⟩ :: _) _ _; refine wpList_val rfl (op_load1S (b := s) (T := 61) oneHashes ((hS.bring (by repeat (first | exact t0 | apply tS)))) rfl rfl rfl) ?_; go_frame)
            | (show wpList _ _ _ (⟨some 33, .call _, _, _, _, _⟩ :: _) _ _; refine wpList_val rfl (op_len slHash rfl rfl (v := rv) (xs := bys ring) rfl ((hS.bring (by repeat (first | exact t0 | apply tS))).getOwn.rd)) ?_; rw [HRL.out]; go_frame)
            | (show wpList _ _ _ (⟨_, .load 3 _, _, _, _, _⟩ :: _) _ _; refine wpList_val rfl (op_load1S (b := s) (T := 61) oneInt ((hS.bring (by repeat (first | exact t0 | apply tS)))) rfl rfl rfl) ?_; go_frame)
            | (show wpList _ _ _ (⟨some 38, .binOp _ _ _ _ _, _, _, _, _⟩ :: _) _ _; refine wpList_val rfl (op_ilss rfl rfl rfl HLT.out) ?_; go_frame)
            | (show wpList _ _ _ (⟨some 57, .indexAddr _ _ _, _, _, _, _⟩ :: _) _ _; refine wpList_val rfl (op_indexAddr slHash rfl (v := rv) (xs := bys ring) rfl (k := f) rfl ((hS.bring (by repeat (first | exact t0 | apply tS))).getOwn.rd) HFR.out) ?_; go_frame)
            | (show wpList _ _ _ (⟨some 58, .load _ _, _, _, _, _⟩ :: _) _ _; refine wpList_val rfl (op_loadE aggHash rfl (v := rv) (xs := bys ring) (k := f) rfl ((hS.bring (by repeat (first | exact t0 | apply tS))).getOwn.rd) HFR.out) ?_; rw [HY.out]; go_frame)
            | (show wpList _ _ _ (⟨some 8, .alloc _, _, _, _, _⟩ :: _) _ _; refine wpS_alloc hS rfl rfl Try.zeroValue24 (zs := List.replicate 32 (.int .u8 0)) rfl ?_; clear hS; intro n8 w hS; go_frame)
            | (show wpList _ _ _ (⟨_, .store 24 (.tmp 8) _, _, _, _, _⟩ :: _) _ _; (refine wpS_storeAll (b := n8) aggHash (hS.bring (by repeat (first | exact t0 | apply tS))) rfl rfl rfl (vs := y.map B8) rfl HY32.out (flat_B8 y) rfl ?_); clear hS; intro w hS; go_frame)
            | (show wpList _ _ _ (⟨_, .load 24 (.tmp 8), _, _, _, _⟩ :: _) _ _; refine wpList_val rfl (op_load aggHash rfl rfl (SepL.getBlk (b := n8) (T := 24) ((hS.bring (by repeat (first | exact t0 | apply tS))))).cells HY32.out) ?_; go_frame)
            | (show wpList _ _ _ (⟨_, .call ⟨.builtin .delete, _, _⟩, _, _, _, _⟩ :: _) _ _; (refine wpS_mdel mapTy (hS.bring (by repeat (first | exact t0 | apply tS))) rfl rfl rfl rfl (b := m) (x := .agg (y.map B8).toArray) rfl KY ?_); clear hS; intro w hS; rw [HDEL.out] at hS; go_frame)
            | (show wpList _ _ _ (⟨some 66, .buildSlice _ _ _, _, _, _, _⟩ :: _) _ _; refine wpS_build1A slHash (by omega) hS rfl rfl (cs := y.map B8) rfl HY32.out ?_; clear hS; intro v66 w hS; go_frame)
            | (show wpList _ _ _ (⟨some 67, .call _, _, _, _, _⟩ :: _) _ _; (refine wpS_append slHash (hS.bring (by repeat (first | exact t0 | apply tS))) rfl rfl (sv := u5) (xs := bys G) (xv := v66) rfl rfl (ys := bys [y]) ((hS.bring (by repeat (first | exact t0 | apply tS))).getOwn.rd) (flat_bys _) HG1.out HG2.out ?_); clear hS; intro v67 w hS; rw [← bys_app] at hS; go_frame)
            | (show wpList _ _ _ (⟨some 77, .indexAddr _ _ _, _, _, _, _⟩ :: _) _ _; refine wpList_val rfl (op_indexAddr slHash rfl (v := rv) (xs := bys ring) rfl (k := f) rfl ((hS.bring (by repeat (first | exact t0 | apply tS))).getOwn.rd) HFR.out) ?_; go_frame)
            | (show wpList _ _ _ (⟨_, .store 24 (.tmp 77) _, _, _, _, _⟩ :: _) _ _; (refine wpS_storeE aggHash (hS.bring (by repeat (first | exact t0 | apply tS))) rfl rfl (v := rv) (xs := bys ring) (k := f) rfl (vs := x.map B8) rfl HX32.out (flat_B8 x) HFR.out ?_); clear hS; intro w hS; rw [bys_set] at hS; go_frame)
            | (show wpList _ _ _ (⟨some 83, .binOp _ _ _ _ _, _, _, _, _⟩ :: _) _ _; refine wpList_val rfl (op_iaddN rfl rfl rfl (f + 1) (by omega) (by omega)) ?_; go_frame)
            | (show wpList _ _ _ (⟨some 88, .binOp _ _ _ _ _, _, _, _, _⟩ :: _) _ _; refine wpList_val rfl (op_iremN rfl rfl (b := 64) rfl (by omega)) ?_; go_frame)
            | (show wpList _ _ _ (⟨_, .store 3 _ _, _, _, _, _⟩ :: _) _ _; (refine wpS_store1 (b := s) (T := 61) (by kernel_rfl) (hS.bring (by repeat (first | exact t0 | apply tS))) rfl rfl rfl (v := I64 ((f + 1) % 64 : Nat)) rfl rfl rfl (by simp) ?_); clear hS; intro w hS; go_frame)
            )
          refine wp_region_text (by kernel_rfl) (by kernel_rfl) (by repeat (first | exact Clean.body | refine Clean.then ?_ | refine Clean.inBlock ?_)) ?_
          replace hS := hS.drew
          go_wp2_with (first
            | (show wpList _ _ _ (⟨_, .load 58 _, _, _, _, _⟩ :: _) _ _; refine wpList_val rfl (op_load1S (b := s) (T := 61) oneMap ((hS.bring (by repeat (first | exact t0 | apply tS)))) rfl rfl rfl) ?_; go_frame)
            | (show wpList _ _ _ (⟨_, .load 24 (.tmp 7), _, _, _, _⟩ :: _) _ _; refine wpList_val rfl (op_load aggHash rfl rfl (SepL.getBlk (b := nb) (T := 24) ((hS.bring (by repeat (first | exact t0 | apply tS))))).cells HX32.out) ?_; go_frame)
            | (show wpList _ _ _ (⟨some 22, .lookup _ _ _ _, _, _, _, _⟩ :: _) _ _; refine wpList_val rfl (op_lookup mapTy rfl rfl (b := m) (x := .agg (x.map B8).toArray) rfl (SepL.getMap ((hS.bring (by repeat (first | exact t0 | apply tS))))) KX) ?_; rw [HGET.out]; go_frame)
            | (show wpList _ _ _ (⟨some 23, .binOp _ _ _ _ _, _, _, _, _⟩ :: _) _ _; refine wpList_val rfl (op_igtr rfl rfl rfl HG.out) ?_; go_frame)
            | (refine fin_mk (by kernel_rfl) ?_)
            | (show wpList _ _ _ (⟨_, .mapUpdate _ _ _ _, _, _, _, _⟩ :: _) _ _; (refine wpS_mput mapTy (hS.bring (by repeat (first | exact t0 | apply tS))) rfl rfl rfl (b := m) (x := .agg (x.map B8).toArray) (v := I64 1) rfl rfl KX ?_); clear hS; intro w hS; rw [HPUT.out] at hS; go_frame)
            | (show wpList _ _ _ (⟨_, .load 31 _, _, _, _, _⟩ :: _) _ _; refine wpList_val rfl (op_load1S (b := s) (T := 61) oneHashes ((hS.bring (by repeat (first | exact t0 | apply tS)))) rfl rfl rfl) ?_; go_frame)
            | (show wpList _ _ _ (⟨some 33, .call _, _, _, _, _⟩ :: _) _ _; refine wpList_val rfl (op_len slHash rfl rfl (v := rv) (xs := bys ring) rfl ((hS.bring (by repeat (first | exact t0 | apply tS))).getOwn.rd)) ?_; rw [HRL.out]; go_frame)
            | (show wpList _ _ _ (⟨_, .load 3 _, _, _, _, _⟩ :: _) _ _; refine wpList_val rfl (op_load1S (b := s) (T := 61) oneInt ((hS.bring (by repeat (first | exact t0 | apply tS)))) rfl rfl rfl) ?_; go_frame)
            | (show wpList _ _ _ (⟨some 38, .binOp _ _ _ _ _, _, _, _, _⟩ :: _) _ _; refine wpList_val rfl (op_ilss rfl rfl rfl HLT.out) ?_; go_frame)
            | (show wpList _ _ _ (⟨some 57, .indexAddr _ _ _, _, _, _, _⟩ :: _) _ _; refine wpList_val rfl (op_indexAddr slHash rfl (v := rv) (xs := bys ring) rfl (k := f) rfl ((hS.bring (by repeat (first | exact t0 | apply tS))).getOwn.rd) HFR.out) ?_; go_frame)
            | (show wpList _ _ _ (⟨some 58, .load _ _, _, _, _, _⟩ :: _) _ _; refine wpList_val rfl (op_loadE aggHash rfl (v := rv) (xs := bys ring) (k := f) rfl ((hS.bring (by repeat (first | exact t0 | apply tS))).getOwn.rd) HFR.out) ?_; rw [HY.out]; go_frame)
            | (show wpList _ _ _ (⟨some 8, .alloc _, _, _, _, _⟩ :: _) _ _; refine wpS_alloc hS rfl rfl Try.zeroValue24 (zs := List.replicate 32 (.int .u8 0)) rfl ?_; clear hS; intro n8 w hS; go_frame)
            | (show wpList _ _ _ (⟨_, .store 24 (.tmp 8) _, _, _, _, _⟩ :: _) _ _; (refine wpS_storeAll (b := n8) aggHash (hS.bring (by repeat (first | exact t0 | apply tS))) rfl rfl rfl (vs := y.map B8) rfl HY32.out (flat_B8 y) rfl ?_); clear hS; intro w hS; go_frame)
            | (show wpList _ _ _ (⟨_, .load 24 (.tmp 8), _, _, _, _⟩ :: _) _ _; refine wpList_val rfl (op_load aggHash rfl rfl (SepL.getBlk (b := n8) (T := 24) ((hS.bring (by repeat (first | exact t0 | apply tS))))).cells HY32.out) ?_; go_frame)
            | (show wpList _ _ _ (⟨_, .call ⟨.builtin .delete, _, _⟩, _, _, _, _⟩ :: _) _ _; (refine wpS_mdel mapTy (hS.bring (by repeat (first | exact t0 | apply tS))) rfl rfl rfl rfl (b := m) (x := .agg (y.map B8).toArray) rfl KY ?_); clear hS; intro w hS; rw [HDEL.out] at hS; go_frame)
            | (show wpList _ _ _ (⟨some 66, .buildSlice _ _ _, _, _, _, _⟩ :: _) _ _; refine wpS_build1A slHash (by omega) hS rfl rfl (cs := y.map B8) rfl HY32.out ?_; clear hS; intro v66 w hS; go_frame)
            | (show wpList _ _ _ (⟨some 67, .call _, _, _, _, _⟩ :: _) _ _; (refine wpS_append slHash (hS.bring (by repeat (first | exact t0 | apply tS))) rfl rfl (sv := u5) (xs := bys G) (xv := v66) rfl rfl (ys := bys [y]) ((hS.bring (by repeat (first | exact t0 | apply tS))).getOwn.rd) (flat_bys _) HG1.out HG2.out ?_); clear hS; intro v67 w hS; rw [← bys_app] at hS; go_frame)
            | (show wpList _ _ _ (⟨some 77, .indexAddr _ _ _, _, _, _, _⟩ :: _) _ _; refine wpList_val rfl (op_indexAddr slHash rfl (v := rv) (xs := bys ring) rfl (k := f) rfl ((hS.bring (by repeat (first | exact t0 | apply tS))).getOwn.rd) HFR.out) ?_; go_frame)
            | (show wpList _ _ _ (⟨_, .store 24 (.tmp 77) _, _, _, _, _⟩ :: _) _ _; (refine wpS_storeE aggHash (hS.bring (by repeat (first | exact t0 | apply tS))) rfl rfl (v := rv) (xs := bys ring) (k := f) rfl (vs := x.map B8) rfl HX32.out (flat_B8 x) HFR.out ?_); clear hS; intro w hS; rw [bys_set] at hS; go_frame)
            | (show wpList _ _ _ (⟨some 83, .binOp _ _ _ _ _, _, _, _, _⟩ :: _) _ _; refine wpList_val rfl (op_iaddN rfl rfl rfl (f + 1) (by omega) (by omega)) ?_; go_frame)
            | (show wpList _ _ _ (⟨some 88, .binOp _ _ _ _ _, _, _, _, _⟩ :: _) _ _; refine wpList_val rfl (op_iremN rfl rfl (b := 64) rfl (by omega)) ?_; go_frame)
            | (show wpList _ _ _ (⟨_, .store 3 _ _, _, _, _, _⟩ :: _) _ _; (refine wpS_store1 (b := s) (T := 61) (by kernel_rfl) (hS.bring (by repeat (first | exact t0 | apply tS))) rfl rfl rfl (v := I64 ((f + 1) % 64 : Nat)) rfl rfl rfl (by simp) ?_); clear hS; intro w hS; go_frame)
            )
          go_roundw
          case rel =>
            have h1 := hK_close (hS.sel (by repeat (first | exact Sel.refl | refine Sel.take (by repeat (first | exact t0 | apply tS)) ?_ | apply Sel.drop)) : SepL R base _ (.blk s 61 [rv, I64 ((f + 1) % 64 : Nat), .map (some m), I64 64] :: .own 24 32 rv (bys (ring.set f x)) :: .map Try.prog 24 m (ents (M.drop 1 ++ [x])) :: .own 24 32 v67 (bys (G ++ [y])) :: F)) HI2.out
            refine ⟨k + 1, by go_num, by omega, ?_⟩
            rw [HGN.out, HMN.out, HE1.out, HE2.out]
            exact h1.sel (by repeat (first | exact Sel.refl | refine Sel.take (by repeat (first | exact t0 | apply tS)) ?_ | apply Sel.drop))
          case measure => simp [intOf]; omega
    · have hk2 : k = l.length := by omega
      subst hk2
      rw [List.take_length] at hS0
      go_wp2_with fail
      go_ret
      exact hS0
end
end Go.Proofs.Ytffagjkjeojaaaa
