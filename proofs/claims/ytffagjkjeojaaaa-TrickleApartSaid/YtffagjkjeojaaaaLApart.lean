/- What waits is not known and waits once, and neither is more than there is room for: the law returns true. Conditions: those that stand ahead of each theorem. -/
import Derived.Test.YtffagjkjeojaaaaLAl
namespace Go.Proofs.Ytffagjkjeojaaaa
open Go.RowKit Go.Px
theorem runs_ok {L : List (Value × PA)} (hL : ∀ x ∈ L, Is32 x.2.ids) : QOk (runs (L.map (·.2))) := QOk.nil.runs fun a ha => by
  obtain ⟨x, hx, rfl⟩ := List.mem_map.1 ha
  exact hL x hx
set_option maxRecDepth 100000 in
set_option maxHeartbeats 8000000 in
theorem trickleApart_w {W : World} {v : Value} {L : List (Value × PA)} (hv : AIn All W v L) (hL : ∀ x ∈ L, Is32 x.2.ids) :
    Calls Try.prog 4 #[v] W (Ret fun r w' => r = .bool true ∧ Chg No W w') := by
  have hS := SepL.start W
  have H32 := hide hL
  have hqo := runs_ok hL
  obtain ⟨q, hq⟩ : ∃ q, runs (L.map (·.2)) = q := ⟨_, rfl⟩
  have HQ := hide hq
  rw [hq] at hqo
  have HQO := hide hqo
  have HWL : Hid ((bys q.waits).length = q.waits.length) := bys_length _
  have HKN : Hid ((bys q.known).length = q.known.length) := bys_length _
  have hwl := hqo.wl
  have hkl := hqo.kl
  have HW64 : Hid (decide ((q.waits.length : Int) ≤ 64) = true) := decide_eq_true (by omega)
  have HK64 : Hid (decide ((q.known.length : Int) ≤ 64) = true) := decide_eq_true (by omega)
  clear hL hq hqo
  cases hg : greatA (L.map (·.2)) with
  | true =>
    have HGR := hide hg
    clear hg
    go_enter Try.func4, Try.ntmps4
    go_wp2_with (first
      | go_big_skip
      | (go_at_call 9; refine Ret.calls (alive_s hS) ?_; clear hS; rintro r w ⟨rfl, hS⟩)
      | (go_at_call 10; refine Ret.calls (great_s hS hv HGR.out) ?_; clear hS; rintro r w ⟨rfl, hS⟩)
      )
    go_ret
    exact ⟨rfl, hS.chg⟩
  | false =>
    have HGR := hide hg
    clear hg
    go_enter Try.func4, Try.ntmps4
    go_wp2_with (first
      | go_big_skip
      | (go_at_call 9; refine Ret.calls (alive_s hS) ?_; clear hS; rintro r w ⟨rfl, hS⟩)
      | (go_at_call 10; refine Ret.calls (great_s hS hv HGR.out) ?_; clear hS; rintro r w ⟨rfl, hS⟩)
      | (go_at_call 24; refine Ret.calls (grown_s hS hv H32.out HGR.out) ?_; clear hS; rintro r w ⟨p, rfl, hS⟩; rw [HQ.out] at hS)
      | (go_at_call 20; (refine Ret.calls (qwaits_s (p := p) (q := q) (hS.bring (by repeat (first | exact t0 | apply tS))) HQO.out) ?_); clear hS; rintro wv w hS)
      | (show wpList _ _ _ (⟨some 16, .call _, _, _, _, _⟩ :: _) _ _; refine wpList_val rfl (op_len slHash rfl rfl (v := wv) (xs := bys q.waits) rfl ((hS.bring (by repeat (first | exact t0 | apply tS))).getOwn.rd)) ?_; rw [HWL.out]; go_frame)
      )
    go_loopw [17] (fun iv wr => ∃ k : Nat, iv = .int .i64 k ∧ k ≤ q.waits.length ∧ SepL All W wr [.own 24 32 wv (bys q.waits), hQ p q]) (fun iv _ => q.waits.length - (intOf iv).toNat)
    case atStart => exact ⟨0, rfl, by omega, hS.sel (by repeat (first | exact Sel.refl | refine Sel.take (by repeat (first | exact t0 | apply tS)) ?_ | apply Sel.drop))⟩
    case round =>
      clear hS
      obtain ⟨k, rfl, hk, hS⟩ := hrel
      by_cases hlt : k < q.waits.length
      · have HKL : Hid (k < (bys q.waits).length) := by unfold Hid; rw [HWL.out]; exact hlt
        have HKLE : Hid (k ≤ (bys q.waits).length) := by unfold Hid; rw [HWL.out]; exact hk
        obtain ⟨x, hx⟩ : ∃ x, q.waits[k] = x := ⟨_, rfl⟩
        have hxm : x ∈ q.waits := by rw [← hx]; exact List.getElem_mem hlt
        have hx32 := HQO.out.w32 x hxm
        have HX0 := hide hx32
        have HX32 : Hid ((x.map B8).length = 32) := by simp [Hid, hx32]
        have HX : Hid ((bys q.waits)[k]'HKL.out = x.map B8) := by
          unfold Hid
          rw [bys_get HKL.out hlt, hx]
        have HMK : Hid (decide (x ∈ q.known) = false) := decide_eq_false (HQO.out.apart x hxm)
        have HMT : Hid (decide (x ∈ q.waits.take k) = false) := by
          refine decide_eq_false fun h => ?_
          have hn := HQO.out.wn
          rw [← List.take_append_drop k q.waits, List.drop_eq_getElem_cons hlt, hx] at hn
          exact (List.nodup_append.1 hn).2.2 x h x (by simp) rfl
        have HT32 : Hid (Is32 (q.waits.take k)) := HQO.out.w32.sub (List.take_sublist k q.waits)
        have HCUT : Hid (∀ w : World, Rd 32 w wv (bys q.waits) → Rd 32 w (cutV 32 wv 0 k) (bys (q.waits.take k))) := fun w h => by
          have h1 := h.cutV (l := 0) (h := k) (Nat.zero_le _) HKLE.out
          rwa [List.drop_zero, Nat.sub_zero, ← bys_take] at h1
        clear hx hxm hx32
        go_wp2_with (first
          | (show wpList _ _ _ (⟨some 20, .indexAddr _ _ _, _, _, _, _⟩ :: _) _ _; refine wpList_val rfl (op_indexAddr slHash rfl (v := wv) (xs := bys q.waits) rfl (k := k) rfl ((hS.bring (by repeat (first | exact t0 | apply tS))).getOwn.rd) HKL.out) ?_; go_frame)
          | (show wpList _ _ _ (⟨some 21, .load _ _, _, _, _, _⟩ :: _) _ _; refine wpList_val rfl (op_loadE aggHash rfl (v := wv) (xs := bys q.waits) (k := k) rfl ((hS.bring (by repeat (first | exact t0 | apply tS))).getOwn.rd) HKL.out) ?_; rw [HX.out]; go_frame)
          | (show wpList _ _ _ (⟨_, .alloc _, _, _, _, _⟩ :: _) _ _; refine wpS_alloc hS rfl rfl Try.zeroValue24 (zs := List.replicate 32 (.int .u8 0)) rfl ?_; clear hS; intro nb w hS; go_frame)
          | (show wpList _ _ _ (⟨_, .store 24 _ _, _, _, _, _⟩ :: _) _ _; (refine wpS_storeAll (b := nb) aggHash (hS.bring (by repeat (first | exact t0 | apply tS))) rfl rfl rfl (vs := x.map B8) rfl HX32.out (flat_B8 x) rfl ?_); clear hS; intro w hS; go_frame)
          )
        refine wp_region_text (by kernel_rfl) (by kernel_rfl) (by repeat (first | exact Clean.body | refine Clean.then ?_ | refine Clean.inBlock ?_)) ?_
        replace hS := hS.drew
        go_wp2_with (first
          | go_big_skip
          | (show wpList _ _ _ (⟨_, .load 24 _, _, _, _, _⟩ :: _) _ _; refine wpList_val rfl (op_load aggHash rfl rfl (SepL.getBlk (b := nb) (T := 24) ((hS.bring (by repeat (first | exact t0 | apply tS))))).cells HX32.out) ?_; go_frame)
          | (go_at_call 22; (refine Ret.calls (qhas_s (p := p) (q := q) (x := x) (hS.bring (by repeat (first | exact t0 | apply tS))) HX0.out HMK) ?_); clear hS; rintro r1 w ⟨rfl, hS⟩)
          | (show wpList _ _ _ (⟨some 28, .slice _ _ _ _ _, _, _, _, _⟩ :: _) _ _; refine wpList_val rfl (op_cut slHash rfl (v := wv) (xs := bys q.waits) rfl ((hS.bring (by repeat (first | exact t0 | apply tS))).getOwn.rd) (l := 0) (h := k) (Or.inl ⟨rfl, rfl⟩) (Or.inr rfl) (Nat.zero_le _) HKLE.out) ?_; go_frame)
          | (go_at_call 25; refine Ret.calls (hS.callNo (has11_w (v := cutV 32 wv 0 k) (l := q.waits.take k) (x := x) (HCUT.out _ ((hS.bring (by repeat (first | exact t0 | apply tS))).getOwn.rd)) HT32.out HX0.out HMT)) ?_; clear hS; rintro r1 w ⟨rfl, hS⟩)
          | (refine fin_mk (by kernel_rfl) ?_)
          )
        go_roundw
        case rel => exact ⟨k + 1, by go_num, by omega, hS.sel (by repeat (first | exact Sel.refl | refine Sel.take (by repeat (first | exact t0 | apply tS)) ?_ | apply Sel.drop))⟩
        case measure => simp [intOf]; omega
      · go_wp2_with (first
          | go_big_skip
          | (show wpList _ _ _ (⟨some 34, .call _, _, _, _, _⟩ :: _) _ _; refine wpList_val rfl (op_len slHash rfl rfl (v := wv) (xs := bys q.waits) rfl ((hS.bring (by repeat (first | exact t0 | apply tS))).getOwn.rd)) ?_; rw [HWL.out]; go_frame)
          | (show wpList _ _ _ (⟨some 35, .binOp _ _ _ _ _, _, _, _, _⟩ :: _) _ _; refine wpList_val rfl (op_ileq rfl rfl rfl HW64.out) ?_; go_frame)
          | (go_at_call 21; (refine Ret.calls (qall_s (p := p) (q := q) (hS.bring (by repeat (first | exact t0 | apply tS)))) ?_); clear hS; rintro av w hS)
          | (show wpList _ _ _ (⟨some 39, .call _, _, _, _, _⟩ :: _) _ _; refine wpList_val rfl (op_len slHash rfl rfl (v := av) (xs := bys q.known) rfl ((hS.bring (by repeat (first | exact t0 | apply tS))).getOwn.rd)) ?_; rw [HKN.out]; go_frame)
          | (show wpList _ _ _ (⟨some 40, .binOp _ _ _ _ _, _, _, _, _⟩ :: _) _ _; refine wpList_val rfl (op_ileq rfl rfl rfl HK64.out) ?_; go_frame)
          )
        go_ret
        exact ⟨rfl, hS.chg⟩
end Go.Proofs.Ytffagjkjeojaaaa
