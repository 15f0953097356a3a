/- What other sources miss and hit changes neither a source's way nor its misses: the law returns true. Conditions: those that stand ahead of each theorem. -/
import Derived.Test.YtlplgobkidpgkaaDoorRlX
namespace Go.Proofs.YtlplgobkidpgkaaDoor
open Go Go.RowKit Go.Px Go.Sha
section
variable {R : Nat → Prop} {base w : World} {F : List Hp}
theorem sepB1 {A B : Hp} (h : SepL R base w (A :: B :: F)) : SepL R base w (B :: A :: F) := h.bring (tS t0)
end
theorem Alike.wayS {s : Int} {r q : Rt} (h : Alike s r q) (sa : List Byte) : wayS sa r s = wayS sa q s := by
  unfold Go.Proofs.YtlplgobkidpgkaaDoor.wayS
  have hk : kOf sa r s = kOf sa q s := by
    unfold kOf
    rw [h.epoch]
  rw [hk]
  exact h.way _
theorem miss_keep (r : Rt) (s : Int) : (missR 3 r s).epoch = r.epoch ∧ (missR 3 r s).fin = r.fin ∧ (missR 3 r s).stems = r.stems := by
  unfold missR
  split
  · split <;> exact ⟨rfl, rfl, rfl⟩
  · exact ⟨rfl, rfl, rfl⟩
theorem Alike.self {s : Int} {r q : Rt} (h : Alike s r q) (hr : ROk 3 r) (hq : ROk 3 q) : Alike s (missR 3 r s) (missR 3 q s) ∧ Alike s (hitR r s) (hitR q s) := by
  constructor
  · cases hs : isSrc s with
    | false =>
      unfold missR
      rw [hs]
      exact h
    | true =>
      by_cases hm : missN r s + 1 < 3
      · obtain ⟨_, a1, a2, a3, a4⟩ := miss_more hr hs hm
        obtain ⟨_, b1, b2, b3, b4⟩ := miss_more hq hs (by rw [← h.m]; exact hm)
        have e1 := miss_keep r s
        have e2 := miss_keep q s
        exact ⟨by rw [e1.1, e2.1, h.epoch], by rw [e1.2.1, e2.2.1, h.fin], by rw [e1.2.2, e2.2.2, h.stems], by rw [a3, b3, h.s0], by rw [a4, b4, h.s1], by rw [a1, b1, h.m], by rw [a2, b2, h.t]⟩
      · obtain ⟨_, a1, a2, a3, a4⟩ := miss_last hr hs hm
        obtain ⟨_, b1, b2, b3, b4⟩ := miss_last hq hs (by rw [← h.m]; exact hm)
        have e1 := miss_keep r s
        have e2 := miss_keep q s
        exact ⟨by rw [e1.1, e2.1, h.epoch], by rw [e1.2.1, e2.2.1, h.fin], by rw [e1.2.2, e2.2.2, h.stems], by rw [a3, b3, h.s0], by rw [a4, b4, h.s1], by rw [a1, b1], by rw [a2, b2, h.t]⟩
  · have e : ∀ x : Rt, (hitR x s).epoch = x.epoch ∧ (hitR x s).fin = x.fin ∧ (hitR x s).stems = x.stems ∧ (hitR x s).s0 = x.s0 ∧ (hitR x s).s1 = x.s1 := fun x => by
      unfold hitR
      split <;> exact ⟨rfl, rfl, rfl, rfl, rfl⟩
    obtain ⟨a1, a2, a3, a4, a5⟩ := e r
    obtain ⟨b1, b2, b3, b4, b5⟩ := e q
    exact ⟨by rw [a1, b1, h.epoch], by rw [a2, b2, h.fin], by rw [a3, b3, h.stems], by rw [a4, b4, h.s0], by rw [a5, b5, h.s1], by rw [missN_hit hr, missN_hit hq], by rw [turn_hit, turn_hit, h.t]⟩
theorem Alike.act {s : Int} {r q : Rt} (h : Alike s r q) (hr : ROk 3 r) (hq : ROk 3 q) {a : RA} (ha : (a.kind ≠ 3 ∧ a.kind ≠ 4) ∨ a.source = s) : Alike s (doR r a) (doR q a) := by
  unfold doR
  split
  · exact h.tick _ _ _ _ _
  · split
    · exact h.join _
    · split
      · exact h.left _ _ _
      · split
        · rename_i h3
          rw [ha.resolve_left (fun c => c.1 h3)]
          exact (h.self hr hq).1
        · split
          · rename_i h4
            rw [ha.resolve_left (fun c => c.2 h4)]
            exact (h.self hr hq).2
          · exact h
theorem Alike.none {s : Int} {r q : Rt} (h : Alike s r q) {a : RA} (hk : a.kind = 3 ∨ a.kind = 4) (hs : a.source ≠ s) : Alike s (doR r a) q := by
  unfold doR
  rw [if_neg (by omega), if_neg (by omega), if_neg (by omega)]
  split
  · exact (h.other hs).1
  · rw [if_pos (by omega)]
    exact (h.other (MM := 3) hs).2
set_option maxRecDepth 100000 in
set_option maxHeartbeats 8000000 in
theorem routeApart_w {W : World} (hK : CIn All W 1 (kTab.map W32)) (hF : CIn All W 0 (first.map W32)) {sa : List Byte} (hsa : sa.length = 32) {v : Value} {L : List (Value × RA)} (hv : AIn All W v L) (hao : ∀ x ∈ L, AOk x.2) (s : Int) :
    Calls Tryd.prog 8 #[HV sa, v, I64 s] W (Ret fun r w' => r = .bool true ∧ Chg No W w') := by
  have hS := SepL.start W
  have HSL : Hid ((sa.map B8).length = 32) := by simp [Hid, hsa]
  have HL : Hid ((L.map aC).length = L.length) := by simp [Hid]
  have HAA := hide hao
  unfold HV
  clear hao
  cases hg : greatR (L.map (·.2)) with
  | true =>
    have HGR := hide hg
    clear hg
    go_enter Tryd.func8, Tryd.ntmps8
    go_wp2_with (first
      | go_big_skip
      | (show wpList _ _ _ (⟨_, .box 23 _, _, _, _, _⟩ :: _) _ _; refine wpS_boxA (cs := sa.map B8) hS rfl rfl rfl ?_; clear hS; intro nh w hS; go_frame)
      | (go_at_call 10; refine Ret.calls (alive_s hS hK hF) ?_; clear hS; rintro r1 w ⟨rfl, hS⟩)
      | (go_at_call 11; refine Ret.calls (great_s hS hv HGR.out) ?_; clear hS; rintro r1 w ⟨rfl, hS⟩)
      )
    go_ret
    exact ⟨rfl, hS.chg⟩
  | false =>
    have HGR := hide hg
    have hfw := few_le hg
    rw [List.length_map] at hfw
    have hll := hfw.1
    have HFW := hide hfw.2
    obtain ⟨T, hT⟩ : ∃ T, L.map (·.2) = T := ⟨_, rfl⟩
    have HTL : Hid (T.length = L.length) := by unfold Hid; rw [← hT, List.length_map]
    have HT := hide hT
    clear hg hfw hT
    go_enter Tryd.func8, Tryd.ntmps8
    go_wp2_with (first
      | go_big_skip
      | (show wpList _ _ _ (⟨_, .box 23 _, _, _, _, _⟩ :: _) _ _; refine wpS_boxA (cs := sa.map B8) hS rfl rfl rfl ?_; clear hS; intro nh w hS; go_frame)
      | (go_at_call 10; refine Ret.calls (alive_s hS hK hF) ?_; clear hS; rintro r1 w ⟨rfl, hS⟩)
      | (go_at_call 11; refine Ret.calls (great_s hS hv HGR.out) ?_; clear hS; rintro r1 w ⟨rfl, hS⟩)
      )
    refine wp_region_ord (by kernel_rfl) [3] [[0, 2, 1, 3, 4, 5]] (by kernel_rfl) (by kernel_rfl) (fun w' => Blk w' nh 23 (sa.map B8)) Up.blk ((hS.bring (by repeat (first | exact t0 | apply tS))).getBlk) (by repeat (first | exact Clean.body | refine Clean.then ?_ | refine Clean.inBlock ?_ | refine SegQ.clean ?_ | refine FinC.clean ?_)) ?_
    replace hS := hS.drew
    refine ord_seg (by repeat (first | exact Clean.body | refine Clean.then ?_ | refine Clean.inBlock ?_ | refine SegQ.clean ?_ | refine FinC.clean ?_)) (n := 3) (rest := [[3, 4, 5]]) [0, 2, 1] [⟨_, _, _, _, _, _⟩, ⟨_, _, _, _, _, _⟩, ⟨_, _, _, _, _, _⟩] rfl (by kernel_rfl) (by simp) _ _ ?_
    go_wp2_with (first
      | (show wpList _ _ _ (⟨_, .load 23 _, _, _, _, _⟩ :: _) _ _; refine wpList_val rfl (op_load agg32b rfl rfl (SepL.getBlk (b := nh) (T := 23) ((hS.bring (by repeat (first | exact t0 | apply tS))))).cells HSL.out) ?_; go_frame)
      | (go_at_call 17; refine Ret.calls (rtNew_s hS hsa) ?_; clear hS; rintro r1 w ⟨p, rfl, hS⟩)
      )
    refine segQ_mk (((hS.bring (by repeat (first | exact t0 | apply tS))).getBlk) : Blk _ nh 23 (sa.map B8)) ?_
    refine ord_seg (by repeat (first | exact Clean.body | refine Clean.then ?_ | refine Clean.inBlock ?_ | refine SegQ.clean ?_ | refine FinC.clean ?_)) (n := 2) (rest := [[4, 5]]) [3] [⟨_, _, _, _, _, _⟩] rfl (by kernel_rfl) (by simp) _ _ ?_
    go_wp2_with (first
      | (go_at_call 17; refine Ret.calls (rtNew_s hS hsa) ?_; clear hS; rintro r1 w ⟨p2, rfl, hS⟩)
      )
    refine segQ_mk (((hS.bring (by repeat (first | exact t0 | apply tS))).getBlk) : Blk _ nh 23 (sa.map B8)) ?_
    refine ord_seg (by repeat (first | exact Clean.body | refine Clean.then ?_ | refine Clean.inBlock ?_ | refine SegQ.clean ?_ | refine FinC.clean ?_)) (n := 0) (rest := [[]]) [4, 5] [⟨_, _, _, _, _, _⟩, ⟨_, _, _, _, _, _⟩] rfl (by kernel_rfl) (by simp) _ _ ?_
    go_wp2_with fail
    refine segQ_mk (((hS.bring (by repeat (first | exact t0 | apply tS))).getBlk) : Blk _ nh 23 (sa.map B8)) ?_
    refine finC_mk (by kernel_rfl) (by
      intro t ht
      simp only [List.mem_cons, List.not_mem_nil, or_false] at ht
      rcases ht with rfl
      exact stab_blk (b := nh) (fun w h => h) _ none) ?_
    go_wp2_with (first
      | (show wpList _ _ _ (⟨some 20, .call _, _, _, _, _⟩ :: _) _ _; refine wpList_val rfl (op_len slAct rfl rfl (v := v) (xs := L.map aC) rfl (by exact hS.rd hv.rd)) ?_; rw [HL.out]; go_frame)
      )
    go_loopw [21] (fun iv wr => ∃ (k : Nat) (y : Rt), iv = .int .i64 k ∧ k ≤ L.length ∧ Hid (Alike s (runs (T.take k)) y ∧ ROk 3 y) ∧ SepL All W wr [.blk p 58 (rtC sa (runs (T.take k))), .blk p2 58 (rtC sa y)]) (fun iv _ => L.length - (intOf iv).toNat)
    case atStart => exact ⟨0, rt0, rfl, by omega, ⟨⟨rfl, rfl, rfl, rfl, rfl, rfl, rfl⟩, ROk.zero (by omega)⟩, hS.sel (by repeat (first | exact Sel.refl | refine Sel.take (by repeat (first | exact t0 | apply tS)) ?_ | apply Sel.drop))⟩
    case round =>
      clear hS
      obtain ⟨k, y, rfl, hk, HAY0, hS⟩ := hrel
      by_cases hlt : k < L.length
      · have hkt : k < T.length := by rw [HTL.out]; exact hlt
        have hlk : k < (L.map aC).length := by rw [HL.out]; exact hlt
        obtain ⟨⟨u, a⟩, hx⟩ : ∃ x, L[k] = x := ⟨_, rfl⟩
        have hxm : (u, a) ∈ L := by rw [← hx]; exact List.getElem_mem hlt
        have HX : Hid ((L.map aC)[k] = aC (u, a)) := by
          unfold Hid
          rw [List.getElem_map, hx]
        have HUR := hide (hv.at_ _ hxm)
        have HU1 := hide (hS.rd HUR.out).one1
        have HUF := hide (aC_flat (x := (u, a)) HU1.out)
        have hsk : T[k] = a := by simp only [← HT.out, List.getElem_map, hx]
        have HAO1 : Hid (AOk a ∧ a.peers.length ≤ 1000000) := by
          have h1 := HFW.out a (List.mem_map.2 ⟨(u, a), hxm, rfl⟩)
          exact ⟨HAA.out _ hxm, by omega⟩
        obtain ⟨hal0, hoy0⟩ := HAY0.out
        have hox0 := runs_ok (T.take k)
        have hsn := runs_next hkt
        rw [hsk] at hsn
        obtain ⟨x, hx0⟩ : ∃ q, runs (T.take k) = q := ⟨_, rfl⟩
        rw [hx0] at hS hox0 hsn hal0
        have hox := hox0.act a
        obtain ⟨x2, hx2⟩ : ∃ q, doR x a = q := ⟨_, rfl⟩
        rw [hx2] at hsn hox
        have HSN := hide hsn
        have HOX0 := hide hox0
        have HOX := hide hox
        have HX2 := hide hx2
        have HOY0 := hide hoy0
        clear hx hxm hsk hox hsn hx0 hkt HAY0
        have hyes : ∀ _ : (a.kind ≠ 3 ∧ a.kind ≠ 4) ∨ a.source = s, Alike s x2 (doR y a) ∧ ROk 3 (doR y a) := fun h => ⟨by rw [← hx2]; exact hal0.act hox0 hoy0 h, hoy0.act a⟩
        have hno : ∀ _ : a.kind = 3 ∨ a.kind = 4, a.source ≠ s → Alike s x2 y := fun h h2 => by
          rw [← hx2]
          exact hal0.none h h2
        clear hx2 hal0 hox0
        by_cases h3 : a.kind = 3
        · have HK3 := neF h3
          by_cases h5 : a.source = s
          · have HKS := eqT h5
            obtain ⟨hal, hoy2⟩ := hyes (.inr h5)
            obtain ⟨y2, hy2⟩ : ∃ q, doR y a = q := ⟨_, rfl⟩
            rw [hy2] at hal hoy2
            have HY2 := hide hy2
            have HAL := hide (And.intro hal hoy2)
            have HOY := hide hoy2
            have HWX : Hid (wayS sa x2 s = wayS sa y2 s) := hal.wayS sa
            obtain ⟨ww, hww⟩ : ∃ z, wayS sa y2 s = z := ⟨_, rfl⟩
            have HWY := hide hww
            rw [hww] at HWX
            obtain ⟨mm, hmm⟩ : ∃ z, missN y2 s = z := ⟨_, rfl⟩
            have HMX : Hid (missN x2 s = mm) := hal.m.trans hmm
            have HMY := hide hmm
            obtain ⟨a0, ha0⟩ : ∃ z, y2.s0 = z := ⟨_, rfl⟩
            have HAX : Hid (x2.s0 = a0) := hal.s0.trans ha0
            have HAY := hide ha0
            obtain ⟨b0, hb0⟩ : ∃ z, y2.s1 = z := ⟨_, rfl⟩
            have HBX : Hid (x2.s1 = b0) := hal.s1.trans hb0
            have HBY := hide hb0
            obtain ⟨ee, hee⟩ : ∃ z, y2.epoch = z := ⟨_, rfl⟩
            have HEX : Hid (x2.epoch = ee) := hal.epoch.trans hee
            have HEY := hide hee
            obtain ⟨ff, hff⟩ : ∃ z, y2.fin = z := ⟨_, rfl⟩
            have HFX : Hid (x2.fin = ff) := hal.fin.trans hff
            have HFY := hide hff
            obtain ⟨bb, hbb⟩ : ∃ z, y2.stems = z := ⟨_, rfl⟩
            have HBX2 : Hid (x2.stems = bb) := hal.stems.trans hbb
            have HBY2 := hide hbb
            have NW := neF (Eq.refl ww)
            have NM := neF (Eq.refl (mm : Int))
            have NS : Hid ((!(a0 == a0 && b0 == b0)) = false) := by simp [Hid]
            have NE : Hid ((ee != ee) = false) := by simp [Hid]
            have NF : Hid ((ff != ff) = false) := by simp [Hid]
            obtain ⟨M0, hM0⟩ : ∃ m : Nat, m = 0 := ⟨0, rfl⟩
            obtain ⟨M1, hM1⟩ : ∃ m : Nat, m = 0 := ⟨0, rfl⟩
            clear hM0 hM1 hal hoy2 hww hmm ha0 hb0 hee hff hbb
            clear hyes hno h3 h5 hy2 hoy0
            go_wp2_with (first
              | go_big_skip
              | (show wpList _ _ _ (⟨some 23, .indexAddr _ _ _, _, _, _, _⟩ :: _) _ _; refine wpList_val rfl (op_indexAddr slAct rfl (v := v) (xs := L.map aC) rfl (k := k) rfl (by exact hS.rd hv.rd) hlk) ?_; go_frame)
              | (show wpList _ _ _ (⟨some 24, .load _ _, _, _, _, _⟩ :: _) _ _; refine wpList_val rfl (op_loadE aggAct rfl (v := v) (xs := L.map aC) (k := k) rfl (by exact hS.rd hv.rd) hlk) ?_; rw [HX.out]; go_frame)
              | (show wpList _ _ _ (⟨some 10, .alloc _, _, _, _, _⟩ :: _) _ _; refine wpS_alloc hS rfl rfl Tryd.zeroValue38 (zs := [.int .i64 0, .int .i64 0, .int .i64 0, .int .u64 0, .slice none 0 0, .int .u16 0, .int .u16 0, .int .u16 0]) rfl ?_; clear hS; intro n10 w hS; go_frame)
              | (show wpList _ _ _ (⟨_, .store 38 _ _, _, _, _, _⟩ :: _) _ _; (refine wpS_storeAll (b := n10) aggAct (hS.bring (by repeat (first | exact t0 | apply tS))) rfl rfl rfl (vs := aC (u, a)) rfl rfl HUF.out rfl ?_); clear hS; intro w hS; go_frame)
              | (show wpList _ _ _ (⟨_, .load 38 _, _, _, _, _⟩ :: _) _ _; refine wpList_val rfl (op_load aggAct rfl rfl (SepL.getBlk (b := n10) (T := 38) ((hS.bring (by repeat (first | exact t0 | apply tS))))).cells rfl) ?_; go_frame)
              | (replace M0 := M0; (go_at_call 19; refine Ret.calls (do_s (p := p) (r := x) (u := u) (s := a) (F := [.blk p2 58 (rtC sa y), .blk n10 38 (aC (u, a))]) (by exact hS.sel (by repeat (first | exact Sel.refl | refine Sel.take (by repeat (first | exact t0 | apply tS)) ?_ | apply Sel.drop))) hsa HOX0.out HUR.out HAO1.out) ?_; clear hS; rintro r1 w ⟨rfl, hS⟩; rw [HX2.out] at hS; clear M0))
              | (go_at_call 19; refine Ret.calls (do_s (p := p2) (r := y) (u := u) (s := a) (F := [.blk p 58 (rtC sa x2), .blk n10 38 (aC (u, a))]) (by exact hS.sel (by repeat (first | exact Sel.refl | refine Sel.take (by repeat (first | exact t0 | apply tS)) ?_ | apply Sel.drop))) hsa HOY0.out HUR.out HAO1.out) ?_; clear hS; rintro r1 w ⟨rfl, hS⟩; rw [HY2.out] at hS)
              | (show wpList _ _ _ (⟨_, .load 3 _, _, _, _, _⟩ :: _) _ _; refine wpList_val rfl (op_load1S (b := n10) (T := 38) oneInt ((hS.bring (by repeat (first | exact t0 | apply tS)))) rfl rfl rfl) ?_; go_frame)
              | (show wpList _ _ _ (⟨some 30, .binOp _ _ _ _ _, _, _, _, _⟩ :: _) _ _; refine wpList_val rfl (op_ineI rfl rfl rfl HK3.out) ?_; go_frame)
              | (show wpList _ _ _ (⟨some 34, .binOp _ _ _ _ _, _, _, _, _⟩ :: _) _ _; refine wpList_val rfl (op_ineI rfl rfl rfl HK4.out) ?_; go_frame)
              | (show wpList _ _ _ (⟨some 40, .binOp _ _ _ _ _, _, _, _, _⟩ :: _) _ _; refine wpList_val rfl (op_eqI' rfl rfl rfl HKS.out) ?_; go_frame)
              | (replace M1 := M1; (go_at_call 14; refine Ret.calls (way_s (p := p) (r := x2) (s := s) (F := [.blk p2 58 (rtC sa y2), .blk n10 38 (aC (u, a))]) (by exact hS.sel (by repeat (first | exact Sel.refl | refine Sel.take (by repeat (first | exact t0 | apply tS)) ?_ | apply Sel.drop))) hK hF hsa HOX.out) ?_; clear hS; rintro r1 w ⟨rfl, hS⟩; rw [HWX.out]; clear M1))
              | (go_at_call 14; refine Ret.calls (way_s (p := p2) (r := y2) (s := s) (sepB1 hS) hK hF hsa HOY.out) ?_; clear hS; rintro r1 w ⟨rfl, hS⟩; rw [HWY.out])
              | (go_at_call 28; (first | (with_reducible refine Ret.calls (misses_s (MM := 3) (p := p) (r := x2) (s := s) (sepB1 hS) hsa HOX.out) ?_) | (with_reducible refine Ret.calls (misses_s (MM := 3) (p := p2) (r := y2) (s := s) (sepB1 hS) hsa HOY.out) ?_)); clear hS; rintro r1 w ⟨rfl, hS⟩; (first | rw [HMX.out] | rw [HMY.out]))
              | (go_at_call 13; (first | (with_reducible refine Ret.calls (succ_s (p := p) (r := x2) (sepB1 hS) hsa) ?_) | (with_reducible refine Ret.calls (succ_s (p := p2) (r := y2) (sepB1 hS) hsa) ?_)); clear hS; rintro r1 w ⟨rfl, hS⟩; (first | rw [HAX.out, HBX.out] | rw [HAY.out, HBY.out]))
              | (go_at_call 26; (first | (with_reducible refine Ret.calls (epoch_s (p := p) (r := x2) (sepB1 hS) hsa) ?_) | (with_reducible refine Ret.calls (epoch_s (p := p2) (r := y2) (sepB1 hS) hsa) ?_)); clear hS; rintro r1 w ⟨rfl, hS⟩; (first | rw [HEX.out] | rw [HEY.out]))
              | (go_at_call 27; (first | (with_reducible refine Ret.calls (end_s (p := p) (r := x2) (sepB1 hS) hsa) ?_) | (with_reducible refine Ret.calls (end_s (p := p2) (r := y2) (sepB1 hS) hsa) ?_)); clear hS; rintro r1 w ⟨rfl, hS⟩; (first | rw [HFX.out] | rw [HFY.out]))
              | (go_at_call 25; (first | (with_reducible refine Ret.calls (stems_s (p := p) (r := x2) (sepB1 hS) hsa) ?_) | (with_reducible refine Ret.calls (stems_s (p := p2) (r := y2) (sepB1 hS) hsa) ?_)); clear hS; rintro r1 w ⟨rfl, hS⟩; (first | rw [HBX2.out] | rw [HBY2.out]))
              | (show wpList _ _ _ (⟨some 51, .binOp _ _ _ _ _, _, _, _, _⟩ :: _) _ _; refine wpList_val rfl (op_ineI rfl rfl rfl NW.out) ?_; go_frame)
              | (show wpList _ _ _ (⟨some 59, .binOp _ _ _ _ _, _, _, _, _⟩ :: _) _ _; refine wpList_val rfl (op_ineI rfl rfl rfl NM.out) ?_; go_frame)
              | (show wpList _ _ _ (⟨some 66, .binOp _ _ _ _ _, _, _, _, _⟩ :: _) _ _; refine wpList_val rfl (op_neP rfl rfl rfl NS.out) ?_; go_frame)
              | (show wpList _ _ _ (⟨some 73, .binOp _ _ _ _ _, _, _, _, _⟩ :: _) _ _; refine wpList_val rfl (opU_neq rfl rfl rfl NE.out) ?_; go_frame)
              | (show wpList _ _ _ (⟨some 80, .binOp _ _ _ _ _, _, _, _, _⟩ :: _) _ _; refine wpList_val rfl (opU_neq rfl rfl rfl NF.out) ?_; go_frame)
              | (show wpList _ _ _ (⟨some 87, .binOp _ _ _ _ _, _, _, _, _⟩ :: _) _ _; refine wpList_val rfl (op_neBool rfl rfl rfl) ?_; go_frame)
              )
            go_roundw
            case rel => exact ⟨k + 1, y2, by go_num, by omega, by rw [HSN.out]; exact HAL, by rw [HSN.out]; exact hS.sel (by repeat (first | exact Sel.refl | refine Sel.take (by repeat (first | exact t0 | apply tS)) ?_ | apply Sel.drop))⟩
            case measure => simp [intOf]; omega
          · have HKS := eqF h5
            obtain ⟨y2, hy2⟩ : ∃ q, q = y := ⟨_, rfl⟩
            subst hy2
            have hal := hno (.inl h3) h5
            have hoy2 := hoy0
            have HAL := hide (And.intro hal hoy2)
            have HOY := hide hoy2
            have HWX : Hid (wayS sa x2 s = wayS sa y2 s) := hal.wayS sa
            obtain ⟨ww, hww⟩ : ∃ z, wayS sa y2 s = z := ⟨_, rfl⟩
            have HWY := hide hww
            rw [hww] at HWX
            obtain ⟨mm, hmm⟩ : ∃ z, missN y2 s = z := ⟨_, rfl⟩
            have HMX : Hid (missN x2 s = mm) := hal.m.trans hmm
            have HMY := hide hmm
            obtain ⟨a0, ha0⟩ : ∃ z, y2.s0 = z := ⟨_, rfl⟩
            have HAX : Hid (x2.s0 = a0) := hal.s0.trans ha0
            have HAY := hide ha0
            obtain ⟨b0, hb0⟩ : ∃ z, y2.s1 = z := ⟨_, rfl⟩
            have HBX : Hid (x2.s1 = b0) := hal.s1.trans hb0
            have HBY := hide hb0
            obtain ⟨ee, hee⟩ : ∃ z, y2.epoch = z := ⟨_, rfl⟩
            have HEX : Hid (x2.epoch = ee) := hal.epoch.trans hee
            have HEY := hide hee
            obtain ⟨ff, hff⟩ : ∃ z, y2.fin = z := ⟨_, rfl⟩
            have HFX : Hid (x2.fin = ff) := hal.fin.trans hff
            have HFY := hide hff
            obtain ⟨bb, hbb⟩ : ∃ z, y2.stems = z := ⟨_, rfl⟩
            have HBX2 : Hid (x2.stems = bb) := hal.stems.trans hbb
            have HBY2 := hide hbb
            have NW := neF (Eq.refl ww)
            have NM := neF (Eq.refl (mm : Int))
            have NS : Hid ((!(a0 == a0 && b0 == b0)) = false) := by simp [Hid]
            have NE : Hid ((ee != ee) = false) := by simp [Hid]
            have NF : Hid ((ff != ff) = false) := by simp [Hid]
            obtain ⟨M0, hM0⟩ : ∃ m : Nat, m = 0 := ⟨0, rfl⟩
            obtain ⟨M1, hM1⟩ : ∃ m : Nat, m = 0 := ⟨0, rfl⟩
            clear hM0 hM1 hal hoy2 hww hmm ha0 hb0 hee hff hbb
            clear hyes hno h3 h5 hoy0
            go_wp2_with (first
              | go_big_skip
              | (show wpList _ _ _ (⟨some 23, .indexAddr _ _ _, _, _, _, _⟩ :: _) _ _; refine wpList_val rfl (op_indexAddr slAct rfl (v := v) (xs := L.map aC) rfl (k := k) rfl (by exact hS.rd hv.rd) hlk) ?_; go_frame)
              | (show wpList _ _ _ (⟨some 24, .load _ _, _, _, _, _⟩ :: _) _ _; refine wpList_val rfl (op_loadE aggAct rfl (v := v) (xs := L.map aC) (k := k) rfl (by exact hS.rd hv.rd) hlk) ?_; rw [HX.out]; go_frame)
              | (show wpList _ _ _ (⟨some 10, .alloc _, _, _, _, _⟩ :: _) _ _; refine wpS_alloc hS rfl rfl Tryd.zeroValue38 (zs := [.int .i64 0, .int .i64 0, .int .i64 0, .int .u64 0, .slice none 0 0, .int .u16 0, .int .u16 0, .int .u16 0]) rfl ?_; clear hS; intro n10 w hS; go_frame)
              | (show wpList _ _ _ (⟨_, .store 38 _ _, _, _, _, _⟩ :: _) _ _; (refine wpS_storeAll (b := n10) aggAct (hS.bring (by repeat (first | exact t0 | apply tS))) rfl rfl rfl (vs := aC (u, a)) rfl rfl HUF.out rfl ?_); clear hS; intro w hS; go_frame)
              | (show wpList _ _ _ (⟨_, .load 38 _, _, _, _, _⟩ :: _) _ _; refine wpList_val rfl (op_load aggAct rfl rfl (SepL.getBlk (b := n10) (T := 38) ((hS.bring (by repeat (first | exact t0 | apply tS))))).cells rfl) ?_; go_frame)
              | (replace M0 := M0; (go_at_call 19; refine Ret.calls (do_s (p := p) (r := x) (u := u) (s := a) (F := [.blk p2 58 (rtC sa y2), .blk n10 38 (aC (u, a))]) (by exact hS.sel (by repeat (first | exact Sel.refl | refine Sel.take (by repeat (first | exact t0 | apply tS)) ?_ | apply Sel.drop))) hsa HOX0.out HUR.out HAO1.out) ?_; clear hS; rintro r1 w ⟨rfl, hS⟩; rw [HX2.out] at hS; clear M0))
              | (go_at_call 19; refine Ret.calls (do_s (p := p2) (r := y2) (u := u) (s := a) (F := [.blk p 58 (rtC sa x2), .blk n10 38 (aC (u, a))]) (by exact hS.sel (by repeat (first | exact Sel.refl | refine Sel.take (by repeat (first | exact t0 | apply tS)) ?_ | apply Sel.drop))) hsa HOY0.out HUR.out HAO1.out) ?_; clear hS; rintro r1 w ⟨rfl, hS⟩; rw [HY2.out] at hS)
              | (show wpList _ _ _ (⟨_, .load 3 _, _, _, _, _⟩ :: _) _ _; refine wpList_val rfl (op_load1S (b := n10) (T := 38) oneInt ((hS.bring (by repeat (first | exact t0 | apply tS)))) rfl rfl rfl) ?_; go_frame)
              | (show wpList _ _ _ (⟨some 30, .binOp _ _ _ _ _, _, _, _, _⟩ :: _) _ _; refine wpList_val rfl (op_ineI rfl rfl rfl HK3.out) ?_; go_frame)
              | (show wpList _ _ _ (⟨some 34, .binOp _ _ _ _ _, _, _, _, _⟩ :: _) _ _; refine wpList_val rfl (op_ineI rfl rfl rfl HK4.out) ?_; go_frame)
              | (show wpList _ _ _ (⟨some 40, .binOp _ _ _ _ _, _, _, _, _⟩ :: _) _ _; refine wpList_val rfl (op_eqI' rfl rfl rfl HKS.out) ?_; go_frame)
              | (replace M1 := M1; (go_at_call 14; refine Ret.calls (way_s (p := p) (r := x2) (s := s) (F := [.blk p2 58 (rtC sa y2), .blk n10 38 (aC (u, a))]) (by exact hS.sel (by repeat (first | exact Sel.refl | refine Sel.take (by repeat (first | exact t0 | apply tS)) ?_ | apply Sel.drop))) hK hF hsa HOX.out) ?_; clear hS; rintro r1 w ⟨rfl, hS⟩; rw [HWX.out]; clear M1))
              | (go_at_call 14; refine Ret.calls (way_s (p := p2) (r := y2) (s := s) (sepB1 hS) hK hF hsa HOY.out) ?_; clear hS; rintro r1 w ⟨rfl, hS⟩; rw [HWY.out])
              | (go_at_call 28; (first | (with_reducible refine Ret.calls (misses_s (MM := 3) (p := p) (r := x2) (s := s) (sepB1 hS) hsa HOX.out) ?_) | (with_reducible refine Ret.calls (misses_s (MM := 3) (p := p2) (r := y2) (s := s) (sepB1 hS) hsa HOY.out) ?_)); clear hS; rintro r1 w ⟨rfl, hS⟩; (first | rw [HMX.out] | rw [HMY.out]))
              | (go_at_call 13; (first | (with_reducible refine Ret.calls (succ_s (p := p) (r := x2) (sepB1 hS) hsa) ?_) | (with_reducible refine Ret.calls (succ_s (p := p2) (r := y2) (sepB1 hS) hsa) ?_)); clear hS; rintro r1 w ⟨rfl, hS⟩; (first | rw [HAX.out, HBX.out] | rw [HAY.out, HBY.out]))
              | (go_at_call 26; (first | (with_reducible refine Ret.calls (epoch_s (p := p) (r := x2) (sepB1 hS) hsa) ?_) | (with_reducible refine Ret.calls (epoch_s (p := p2) (r := y2) (sepB1 hS) hsa) ?_)); clear hS; rintro r1 w ⟨rfl, hS⟩; (first | rw [HEX.out] | rw [HEY.out]))
              | (go_at_call 27; (first | (with_reducible refine Ret.calls (end_s (p := p) (r := x2) (sepB1 hS) hsa) ?_) | (with_reducible refine Ret.calls (end_s (p := p2) (r := y2) (sepB1 hS) hsa) ?_)); clear hS; rintro r1 w ⟨rfl, hS⟩; (first | rw [HFX.out] | rw [HFY.out]))
              | (go_at_call 25; (first | (with_reducible refine Ret.calls (stems_s (p := p) (r := x2) (sepB1 hS) hsa) ?_) | (with_reducible refine Ret.calls (stems_s (p := p2) (r := y2) (sepB1 hS) hsa) ?_)); clear hS; rintro r1 w ⟨rfl, hS⟩; (first | rw [HBX2.out] | rw [HBY2.out]))
              | (show wpList _ _ _ (⟨some 51, .binOp _ _ _ _ _, _, _, _, _⟩ :: _) _ _; refine wpList_val rfl (op_ineI rfl rfl rfl NW.out) ?_; go_frame)
              | (show wpList _ _ _ (⟨some 59, .binOp _ _ _ _ _, _, _, _, _⟩ :: _) _ _; refine wpList_val rfl (op_ineI rfl rfl rfl NM.out) ?_; go_frame)
              | (show wpList _ _ _ (⟨some 66, .binOp _ _ _ _ _, _, _, _, _⟩ :: _) _ _; refine wpList_val rfl (op_neP rfl rfl rfl NS.out) ?_; go_frame)
              | (show wpList _ _ _ (⟨some 73, .binOp _ _ _ _ _, _, _, _, _⟩ :: _) _ _; refine wpList_val rfl (opU_neq rfl rfl rfl NE.out) ?_; go_frame)
              | (show wpList _ _ _ (⟨some 80, .binOp _ _ _ _ _, _, _, _, _⟩ :: _) _ _; refine wpList_val rfl (opU_neq rfl rfl rfl NF.out) ?_; go_frame)
              | (show wpList _ _ _ (⟨some 87, .binOp _ _ _ _ _, _, _, _, _⟩ :: _) _ _; refine wpList_val rfl (op_neBool rfl rfl rfl) ?_; go_frame)
              )
            go_roundw
            case rel => exact ⟨k + 1, y2, by go_num, by omega, by rw [HSN.out]; exact HAL, by rw [HSN.out]; exact hS.sel (by repeat (first | exact Sel.refl | refine Sel.take (by repeat (first | exact t0 | apply tS)) ?_ | apply Sel.drop))⟩
            case measure => simp [intOf]; omega
        · have HK3 := neT h3
          by_cases h4 : a.kind = 4
          · have HK4 := neF h4
            by_cases h5 : a.source = s
            · have HKS := eqT h5
              obtain ⟨hal, hoy2⟩ := hyes (.inr h5)
              obtain ⟨y2, hy2⟩ : ∃ q, doR y a = q := ⟨_, rfl⟩
              rw [hy2] at hal hoy2
              have HY2 := hide hy2
              have HAL := hide (And.intro hal hoy2)
              have HOY := hide hoy2
              have HWX : Hid (wayS sa x2 s = wayS sa y2 s) := hal.wayS sa
              obtain ⟨ww, hww⟩ : ∃ z, wayS sa y2 s = z := ⟨_, rfl⟩
              have HWY := hide hww
              rw [hww] at HWX
              obtain ⟨mm, hmm⟩ : ∃ z, missN y2 s = z := ⟨_, rfl⟩
              have HMX : Hid (missN x2 s = mm) := hal.m.trans hmm
              have HMY := hide hmm
              obtain ⟨a0, ha0⟩ : ∃ z, y2.s0 = z := ⟨_, rfl⟩
              have HAX : Hid (x2.s0 = a0) := hal.s0.trans ha0
              have HAY := hide ha0
              obtain ⟨b0, hb0⟩ : ∃ z, y2.s1 = z := ⟨_, rfl⟩
              have HBX : Hid (x2.s1 = b0) := hal.s1.trans hb0
              have HBY := hide hb0
              obtain ⟨ee, hee⟩ : ∃ z, y2.epoch = z := ⟨_, rfl⟩
              have HEX : Hid (x2.epoch = ee) := hal.epoch.trans hee
              have HEY := hide hee
              obtain ⟨ff, hff⟩ : ∃ z, y2.fin = z := ⟨_, rfl⟩
              have HFX : Hid (x2.fin = ff) := hal.fin.trans hff
              have HFY := hide hff
              obtain ⟨bb, hbb⟩ : ∃ z, y2.stems = z := ⟨_, rfl⟩
              have HBX2 : Hid (x2.stems = bb) := hal.stems.trans hbb
              have HBY2 := hide hbb
              have NW := neF (Eq.refl ww)
              have NM := neF (Eq.refl (mm : Int))
              have NS : Hid ((!(a0 == a0 && b0 == b0)) = false) := by simp [Hid]
              have NE : Hid ((ee != ee) = false) := by simp [Hid]
              have NF : Hid ((ff != ff) = false) := by simp [Hid]
              obtain ⟨M0, hM0⟩ : ∃ m : Nat, m = 0 := ⟨0, rfl⟩
              obtain ⟨M1, hM1⟩ : ∃ m : Nat, m = 0 := ⟨0, rfl⟩
              clear hM0 hM1 hal hoy2 hww hmm ha0 hb0 hee hff hbb
              clear hyes hno h3 h4 h5 hy2 hoy0
              go_wp2_with (first
                | go_big_skip
                | (show wpList _ _ _ (⟨some 23, .indexAddr _ _ _, _, _, _, _⟩ :: _) _ _; refine wpList_val rfl (op_indexAddr slAct rfl (v := v) (xs := L.map aC) rfl (k := k) rfl (by exact hS.rd hv.rd) hlk) ?_; go_frame)
                | (show wpList _ _ _ (⟨some 24, .load _ _, _, _, _, _⟩ :: _) _ _; refine wpList_val rfl (op_loadE aggAct rfl (v := v) (xs := L.map aC) (k := k) rfl (by exact hS.rd hv.rd) hlk) ?_; rw [HX.out]; go_frame)
                | (show wpList _ _ _ (⟨some 10, .alloc _, _, _, _, _⟩ :: _) _ _; refine wpS_alloc hS rfl rfl Tryd.zeroValue38 (zs := [.int .i64 0, .int .i64 0, .int .i64 0, .int .u64 0, .slice none 0 0, .int .u16 0, .int .u16 0, .int .u16 0]) rfl ?_; clear hS; intro n10 w hS; go_frame)
                | (show wpList _ _ _ (⟨_, .store 38 _ _, _, _, _, _⟩ :: _) _ _; (refine wpS_storeAll (b := n10) aggAct (hS.bring (by repeat (first | exact t0 | apply tS))) rfl rfl rfl (vs := aC (u, a)) rfl rfl HUF.out rfl ?_); clear hS; intro w hS; go_frame)
                | (show wpList _ _ _ (⟨_, .load 38 _, _, _, _, _⟩ :: _) _ _; refine wpList_val rfl (op_load aggAct rfl rfl (SepL.getBlk (b := n10) (T := 38) ((hS.bring (by repeat (first | exact t0 | apply tS))))).cells rfl) ?_; go_frame)
                | (replace M0 := M0; (go_at_call 19; refine Ret.calls (do_s (p := p) (r := x) (u := u) (s := a) (F := [.blk p2 58 (rtC sa y), .blk n10 38 (aC (u, a))]) (by exact hS.sel (by repeat (first | exact Sel.refl | refine Sel.take (by repeat (first | exact t0 | apply tS)) ?_ | apply Sel.drop))) hsa HOX0.out HUR.out HAO1.out) ?_; clear hS; rintro r1 w ⟨rfl, hS⟩; rw [HX2.out] at hS; clear M0))
                | (go_at_call 19; refine Ret.calls (do_s (p := p2) (r := y) (u := u) (s := a) (F := [.blk p 58 (rtC sa x2), .blk n10 38 (aC (u, a))]) (by exact hS.sel (by repeat (first | exact Sel.refl | refine Sel.take (by repeat (first | exact t0 | apply tS)) ?_ | apply Sel.drop))) hsa HOY0.out HUR.out HAO1.out) ?_; clear hS; rintro r1 w ⟨rfl, hS⟩; rw [HY2.out] at hS)
                | (show wpList _ _ _ (⟨_, .load 3 _, _, _, _, _⟩ :: _) _ _; refine wpList_val rfl (op_load1S (b := n10) (T := 38) oneInt ((hS.bring (by repeat (first | exact t0 | apply tS)))) rfl rfl rfl) ?_; go_frame)
                | (show wpList _ _ _ (⟨some 30, .binOp _ _ _ _ _, _, _, _, _⟩ :: _) _ _; refine wpList_val rfl (op_ineI rfl rfl rfl HK3.out) ?_; go_frame)
                | (show wpList _ _ _ (⟨some 34, .binOp _ _ _ _ _, _, _, _, _⟩ :: _) _ _; refine wpList_val rfl (op_ineI rfl rfl rfl HK4.out) ?_; go_frame)
                | (show wpList _ _ _ (⟨some 40, .binOp _ _ _ _ _, _, _, _, _⟩ :: _) _ _; refine wpList_val rfl (op_eqI' rfl rfl rfl HKS.out) ?_; go_frame)
                | (replace M1 := M1; (go_at_call 14; refine Ret.calls (way_s (p := p) (r := x2) (s := s) (F := [.blk p2 58 (rtC sa y2), .blk n10 38 (aC (u, a))]) (by exact hS.sel (by repeat (first | exact Sel.refl | refine Sel.take (by repeat (first | exact t0 | apply tS)) ?_ | apply Sel.drop))) hK hF hsa HOX.out) ?_; clear hS; rintro r1 w ⟨rfl, hS⟩; rw [HWX.out]; clear M1))
                | (go_at_call 14; refine Ret.calls (way_s (p := p2) (r := y2) (s := s) (sepB1 hS) hK hF hsa HOY.out) ?_; clear hS; rintro r1 w ⟨rfl, hS⟩; rw [HWY.out])
                | (go_at_call 28; (first | (with_reducible refine Ret.calls (misses_s (MM := 3) (p := p) (r := x2) (s := s) (sepB1 hS) hsa HOX.out) ?_) | (with_reducible refine Ret.calls (misses_s (MM := 3) (p := p2) (r := y2) (s := s) (sepB1 hS) hsa HOY.out) ?_)); clear hS; rintro r1 w ⟨rfl, hS⟩; (first | rw [HMX.out] | rw [HMY.out]))
                | (go_at_call 13; (first | (with_reducible refine Ret.calls (succ_s (p := p) (r := x2) (sepB1 hS) hsa) ?_) | (with_reducible refine Ret.calls (succ_s (p := p2) (r := y2) (sepB1 hS) hsa) ?_)); clear hS; rintro r1 w ⟨rfl, hS⟩; (first | rw [HAX.out, HBX.out] | rw [HAY.out, HBY.out]))
                | (go_at_call 26; (first | (with_reducible refine Ret.calls (epoch_s (p := p) (r := x2) (sepB1 hS) hsa) ?_) | (with_reducible refine Ret.calls (epoch_s (p := p2) (r := y2) (sepB1 hS) hsa) ?_)); clear hS; rintro r1 w ⟨rfl, hS⟩; (first | rw [HEX.out] | rw [HEY.out]))
                | (go_at_call 27; (first | (with_reducible refine Ret.calls (end_s (p := p) (r := x2) (sepB1 hS) hsa) ?_) | (with_reducible refine Ret.calls (end_s (p := p2) (r := y2) (sepB1 hS) hsa) ?_)); clear hS; rintro r1 w ⟨rfl, hS⟩; (first | rw [HFX.out] | rw [HFY.out]))
                | (go_at_call 25; (first | (with_reducible refine Ret.calls (stems_s (p := p) (r := x2) (sepB1 hS) hsa) ?_) | (with_reducible refine Ret.calls (stems_s (p := p2) (r := y2) (sepB1 hS) hsa) ?_)); clear hS; rintro r1 w ⟨rfl, hS⟩; (first | rw [HBX2.out] | rw [HBY2.out]))
                | (show wpList _ _ _ (⟨some 51, .binOp _ _ _ _ _, _, _, _, _⟩ :: _) _ _; refine wpList_val rfl (op_ineI rfl rfl rfl NW.out) ?_; go_frame)
                | (show wpList _ _ _ (⟨some 59, .binOp _ _ _ _ _, _, _, _, _⟩ :: _) _ _; refine wpList_val rfl (op_ineI rfl rfl rfl NM.out) ?_; go_frame)
                | (show wpList _ _ _ (⟨some 66, .binOp _ _ _ _ _, _, _, _, _⟩ :: _) _ _; refine wpList_val rfl (op_neP rfl rfl rfl NS.out) ?_; go_frame)
                | (show wpList _ _ _ (⟨some 73, .binOp _ _ _ _ _, _, _, _, _⟩ :: _) _ _; refine wpList_val rfl (opU_neq rfl rfl rfl NE.out) ?_; go_frame)
                | (show wpList _ _ _ (⟨some 80, .binOp _ _ _ _ _, _, _, _, _⟩ :: _) _ _; refine wpList_val rfl (opU_neq rfl rfl rfl NF.out) ?_; go_frame)
                | (show wpList _ _ _ (⟨some 87, .binOp _ _ _ _ _, _, _, _, _⟩ :: _) _ _; refine wpList_val rfl (op_neBool rfl rfl rfl) ?_; go_frame)
                )
              go_roundw
              case rel => exact ⟨k + 1, y2, by go_num, by omega, by rw [HSN.out]; exact HAL, by rw [HSN.out]; exact hS.sel (by repeat (first | exact Sel.refl | refine Sel.take (by repeat (first | exact t0 | apply tS)) ?_ | apply Sel.drop))⟩
              case measure => simp [intOf]; omega
            · have HKS := eqF h5
              obtain ⟨y2, hy2⟩ : ∃ q, q = y := ⟨_, rfl⟩
              subst hy2
              have hal := hno (.inr h4) h5
              have hoy2 := hoy0
              have HAL := hide (And.intro hal hoy2)
              have HOY := hide hoy2
              have HWX : Hid (wayS sa x2 s = wayS sa y2 s) := hal.wayS sa
              obtain ⟨ww, hww⟩ : ∃ z, wayS sa y2 s = z := ⟨_, rfl⟩
              have HWY := hide hww
              rw [hww] at HWX
              obtain ⟨mm, hmm⟩ : ∃ z, missN y2 s = z := ⟨_, rfl⟩
              have HMX : Hid (missN x2 s = mm) := hal.m.trans hmm
              have HMY := hide hmm
              obtain ⟨a0, ha0⟩ : ∃ z, y2.s0 = z := ⟨_, rfl⟩
              have HAX : Hid (x2.s0 = a0) := hal.s0.trans ha0
              have HAY := hide ha0
              obtain ⟨b0, hb0⟩ : ∃ z, y2.s1 = z := ⟨_, rfl⟩
              have HBX : Hid (x2.s1 = b0) := hal.s1.trans hb0
              have HBY := hide hb0
              obtain ⟨ee, hee⟩ : ∃ z, y2.epoch = z := ⟨_, rfl⟩
              have HEX : Hid (x2.epoch = ee) := hal.epoch.trans hee
              have HEY := hide hee
              obtain ⟨ff, hff⟩ : ∃ z, y2.fin = z := ⟨_, rfl⟩
              have HFX : Hid (x2.fin = ff) := hal.fin.trans hff
              have HFY := hide hff
              obtain ⟨bb, hbb⟩ : ∃ z, y2.stems = z := ⟨_, rfl⟩
              have HBX2 : Hid (x2.stems = bb) := hal.stems.trans hbb
              have HBY2 := hide hbb
              have NW := neF (Eq.refl ww)
              have NM := neF (Eq.refl (mm : Int))
              have NS : Hid ((!(a0 == a0 && b0 == b0)) = false) := by simp [Hid]
              have NE : Hid ((ee != ee) = false) := by simp [Hid]
              have NF : Hid ((ff != ff) = false) := by simp [Hid]
              obtain ⟨M0, hM0⟩ : ∃ m : Nat, m = 0 := ⟨0, rfl⟩
              obtain ⟨M1, hM1⟩ : ∃ m : Nat, m = 0 := ⟨0, rfl⟩
              clear hM0 hM1 hal hoy2 hww hmm ha0 hb0 hee hff hbb
              clear hyes hno h3 h4 h5 hoy0
              go_wp2_with (first
                | go_big_skip
                | (show wpList _ _ _ (⟨some 23, .indexAddr _ _ _, _, _, _, _⟩ :: _) _ _; refine wpList_val rfl (op_indexAddr slAct rfl (v := v) (xs := L.map aC) rfl (k := k) rfl (by exact hS.rd hv.rd) hlk) ?_; go_frame)
                | (show wpList _ _ _ (⟨some 24, .load _ _, _, _, _, _⟩ :: _) _ _; refine wpList_val rfl (op_loadE aggAct rfl (v := v) (xs := L.map aC) (k := k) rfl (by exact hS.rd hv.rd) hlk) ?_; rw [HX.out]; go_frame)
                | (show wpList _ _ _ (⟨some 10, .alloc _, _, _, _, _⟩ :: _) _ _; refine wpS_alloc hS rfl rfl Tryd.zeroValue38 (zs := [.int .i64 0, .int .i64 0, .int .i64 0, .int .u64 0, .slice none 0 0, .int .u16 0, .int .u16 0, .int .u16 0]) rfl ?_; clear hS; intro n10 w hS; go_frame)
                | (show wpList _ _ _ (⟨_, .store 38 _ _, _, _, _, _⟩ :: _) _ _; (refine wpS_storeAll (b := n10) aggAct (hS.bring (by repeat (first | exact t0 | apply tS))) rfl rfl rfl (vs := aC (u, a)) rfl rfl HUF.out rfl ?_); clear hS; intro w hS; go_frame)
                | (show wpList _ _ _ (⟨_, .load 38 _, _, _, _, _⟩ :: _) _ _; refine wpList_val rfl (op_load aggAct rfl rfl (SepL.getBlk (b := n10) (T := 38) ((hS.bring (by repeat (first | exact t0 | apply tS))))).cells rfl) ?_; go_frame)
                | (replace M0 := M0; (go_at_call 19; refine Ret.calls (do_s (p := p) (r := x) (u := u) (s := a) (F := [.blk p2 58 (rtC sa y2), .blk n10 38 (aC (u, a))]) (by exact hS.sel (by repeat (first | exact Sel.refl | refine Sel.take (by repeat (first | exact t0 | apply tS)) ?_ | apply Sel.drop))) hsa HOX0.out HUR.out HAO1.out) ?_; clear hS; rintro r1 w ⟨rfl, hS⟩; rw [HX2.out] at hS; clear M0))
                | (go_at_call 19; refine Ret.calls (do_s (p := p2) (r := y2) (u := u) (s := a) (F := [.blk p 58 (rtC sa x2), .blk n10 38 (aC (u, a))]) (by exact hS.sel (by repeat (first | exact Sel.refl | refine Sel.take (by repeat (first | exact t0 | apply tS)) ?_ | apply Sel.drop))) hsa HOY0.out HUR.out HAO1.out) ?_; clear hS; rintro r1 w ⟨rfl, hS⟩; rw [HY2.out] at hS)
                | (show wpList _ _ _ (⟨_, .load 3 _, _, _, _, _⟩ :: _) _ _; refine wpList_val rfl (op_load1S (b := n10) (T := 38) oneInt ((hS.bring (by repeat (first | exact t0 | apply tS)))) rfl rfl rfl) ?_; go_frame)
                | (show wpList _ _ _ (⟨some 30, .binOp _ _ _ _ _, _, _, _, _⟩ :: _) _ _; refine wpList_val rfl (op_ineI rfl rfl rfl HK3.out) ?_; go_frame)
                | (show wpList _ _ _ (⟨some 34, .binOp _ _ _ _ _, _, _, _, _⟩ :: _) _ _; refine wpList_val rfl (op_ineI rfl rfl rfl HK4.out) ?_; go_frame)
                | (show wpList _ _ _ (⟨some 40, .binOp _ _ _ _ _, _, _, _, _⟩ :: _) _ _; refine wpList_val rfl (op_eqI' rfl rfl rfl HKS.out) ?_; go_frame)
                | (replace M1 := M1; (go_at_call 14; refine Ret.calls (way_s (p := p) (r := x2) (s := s) (F := [.blk p2 58 (rtC sa y2), .blk n10 38 (aC (u, a))]) (by exact hS.sel (by repeat (first | exact Sel.refl | refine Sel.take (by repeat (first | exact t0 | apply tS)) ?_ | apply Sel.drop))) hK hF hsa HOX.out) ?_; clear hS; rintro r1 w ⟨rfl, hS⟩; rw [HWX.out]; clear M1))
                | (go_at_call 14; refine Ret.calls (way_s (p := p2) (r := y2) (s := s) (sepB1 hS) hK hF hsa HOY.out) ?_; clear hS; rintro r1 w ⟨rfl, hS⟩; rw [HWY.out])
                | (go_at_call 28; (first | (with_reducible refine Ret.calls (misses_s (MM := 3) (p := p) (r := x2) (s := s) (sepB1 hS) hsa HOX.out) ?_) | (with_reducible refine Ret.calls (misses_s (MM := 3) (p := p2) (r := y2) (s := s) (sepB1 hS) hsa HOY.out) ?_)); clear hS; rintro r1 w ⟨rfl, hS⟩; (first | rw [HMX.out] | rw [HMY.out]))
                | (go_at_call 13; (first | (with_reducible refine Ret.calls (succ_s (p := p) (r := x2) (sepB1 hS) hsa) ?_) | (with_reducible refine Ret.calls (succ_s (p := p2) (r := y2) (sepB1 hS) hsa) ?_)); clear hS; rintro r1 w ⟨rfl, hS⟩; (first | rw [HAX.out, HBX.out] | rw [HAY.out, HBY.out]))
                | (go_at_call 26; (first | (with_reducible refine Ret.calls (epoch_s (p := p) (r := x2) (sepB1 hS) hsa) ?_) | (with_reducible refine Ret.calls (epoch_s (p := p2) (r := y2) (sepB1 hS) hsa) ?_)); clear hS; rintro r1 w ⟨rfl, hS⟩; (first | rw [HEX.out] | rw [HEY.out]))
                | (go_at_call 27; (first | (with_reducible refine Ret.calls (end_s (p := p) (r := x2) (sepB1 hS) hsa) ?_) | (with_reducible refine Ret.calls (end_s (p := p2) (r := y2) (sepB1 hS) hsa) ?_)); clear hS; rintro r1 w ⟨rfl, hS⟩; (first | rw [HFX.out] | rw [HFY.out]))
                | (go_at_call 25; (first | (with_reducible refine Ret.calls (stems_s (p := p) (r := x2) (sepB1 hS) hsa) ?_) | (with_reducible refine Ret.calls (stems_s (p := p2) (r := y2) (sepB1 hS) hsa) ?_)); clear hS; rintro r1 w ⟨rfl, hS⟩; (first | rw [HBX2.out] | rw [HBY2.out]))
                | (show wpList _ _ _ (⟨some 51, .binOp _ _ _ _ _, _, _, _, _⟩ :: _) _ _; refine wpList_val rfl (op_ineI rfl rfl rfl NW.out) ?_; go_frame)
                | (show wpList _ _ _ (⟨some 59, .binOp _ _ _ _ _, _, _, _, _⟩ :: _) _ _; refine wpList_val rfl (op_ineI rfl rfl rfl NM.out) ?_; go_frame)
                | (show wpList _ _ _ (⟨some 66, .binOp _ _ _ _ _, _, _, _, _⟩ :: _) _ _; refine wpList_val rfl (op_neP rfl rfl rfl NS.out) ?_; go_frame)
                | (show wpList _ _ _ (⟨some 73, .binOp _ _ _ _ _, _, _, _, _⟩ :: _) _ _; refine wpList_val rfl (opU_neq rfl rfl rfl NE.out) ?_; go_frame)
                | (show wpList _ _ _ (⟨some 80, .binOp _ _ _ _ _, _, _, _, _⟩ :: _) _ _; refine wpList_val rfl (opU_neq rfl rfl rfl NF.out) ?_; go_frame)
                | (show wpList _ _ _ (⟨some 87, .binOp _ _ _ _ _, _, _, _, _⟩ :: _) _ _; refine wpList_val rfl (op_neBool rfl rfl rfl) ?_; go_frame)
                )
              go_roundw
              case rel => exact ⟨k + 1, y2, by go_num, by omega, by rw [HSN.out]; exact HAL, by rw [HSN.out]; exact hS.sel (by repeat (first | exact Sel.refl | refine Sel.take (by repeat (first | exact t0 | apply tS)) ?_ | apply Sel.drop))⟩
              case measure => simp [intOf]; omega
          · have HK4 := neT h4
            obtain ⟨hal, hoy2⟩ := hyes (.inl ⟨h3, h4⟩)
            obtain ⟨y2, hy2⟩ : ∃ q, doR y a = q := ⟨_, rfl⟩
            rw [hy2] at hal hoy2
            have HY2 := hide hy2
            have HAL := hide (And.intro hal hoy2)
            have HOY := hide hoy2
            have HWX : Hid (wayS sa x2 s = wayS sa y2 s) := hal.wayS sa
            obtain ⟨ww, hww⟩ : ∃ z, wayS sa y2 s = z := ⟨_, rfl⟩
            have HWY := hide hww
            rw [hww] at HWX
            obtain ⟨mm, hmm⟩ : ∃ z, missN y2 s = z := ⟨_, rfl⟩
            have HMX : Hid (missN x2 s = mm) := hal.m.trans hmm
            have HMY := hide hmm
            obtain ⟨a0, ha0⟩ : ∃ z, y2.s0 = z := ⟨_, rfl⟩
            have HAX : Hid (x2.s0 = a0) := hal.s0.trans ha0
            have HAY := hide ha0
            obtain ⟨b0, hb0⟩ : ∃ z, y2.s1 = z := ⟨_, rfl⟩
            have HBX : Hid (x2.s1 = b0) := hal.s1.trans hb0
            have HBY := hide hb0
            obtain ⟨ee, hee⟩ : ∃ z, y2.epoch = z := ⟨_, rfl⟩
            have HEX : Hid (x2.epoch = ee) := hal.epoch.trans hee
            have HEY := hide hee
            obtain ⟨ff, hff⟩ : ∃ z, y2.fin = z := ⟨_, rfl⟩
            have HFX : Hid (x2.fin = ff) := hal.fin.trans hff
            have HFY := hide hff
            obtain ⟨bb, hbb⟩ : ∃ z, y2.stems = z := ⟨_, rfl⟩
            have HBX2 : Hid (x2.stems = bb) := hal.stems.trans hbb
            have HBY2 := hide hbb
            have NW := neF (Eq.refl ww)
            have NM := neF (Eq.refl (mm : Int))
            have NS : Hid ((!(a0 == a0 && b0 == b0)) = false) := by simp [Hid]
            have NE : Hid ((ee != ee) = false) := by simp [Hid]
            have NF : Hid ((ff != ff) = false) := by simp [Hid]
            obtain ⟨M0, hM0⟩ : ∃ m : Nat, m = 0 := ⟨0, rfl⟩
            obtain ⟨M1, hM1⟩ : ∃ m : Nat, m = 0 := ⟨0, rfl⟩
            clear hM0 hM1 hal hoy2 hww hmm ha0 hb0 hee hff hbb
            clear hyes hno h3 h4 hy2 hoy0
            go_wp2_with (first
              | go_big_skip
              | (show wpList _ _ _ (⟨some 23, .indexAddr _ _ _, _, _, _, _⟩ :: _) _ _; refine wpList_val rfl (op_indexAddr slAct rfl (v := v) (xs := L.map aC) rfl (k := k) rfl (by exact hS.rd hv.rd) hlk) ?_; go_frame)
              | (show wpList _ _ _ (⟨some 24, .load _ _, _, _, _, _⟩ :: _) _ _; refine wpList_val rfl (op_loadE aggAct rfl (v := v) (xs := L.map aC) (k := k) rfl (by exact hS.rd hv.rd) hlk) ?_; rw [HX.out]; go_frame)
              | (show wpList _ _ _ (⟨some 10, .alloc _, _, _, _, _⟩ :: _) _ _; refine wpS_alloc hS rfl rfl Tryd.zeroValue38 (zs := [.int .i64 0, .int .i64 0, .int .i64 0, .int .u64 0, .slice none 0 0, .int .u16 0, .int .u16 0, .int .u16 0]) rfl ?_; clear hS; intro n10 w hS; go_frame)
              | (show wpList _ _ _ (⟨_, .store 38 _ _, _, _, _, _⟩ :: _) _ _; (refine wpS_storeAll (b := n10) aggAct (hS.bring (by repeat (first | exact t0 | apply tS))) rfl rfl rfl (vs := aC (u, a)) rfl rfl HUF.out rfl ?_); clear hS; intro w hS; go_frame)
              | (show wpList _ _ _ (⟨_, .load 38 _, _, _, _, _⟩ :: _) _ _; refine wpList_val rfl (op_load aggAct rfl rfl (SepL.getBlk (b := n10) (T := 38) ((hS.bring (by repeat (first | exact t0 | apply tS))))).cells rfl) ?_; go_frame)
              | (replace M0 := M0; (go_at_call 19; refine Ret.calls (do_s (p := p) (r := x) (u := u) (s := a) (F := [.blk p2 58 (rtC sa y), .blk n10 38 (aC (u, a))]) (by exact hS.sel (by repeat (first | exact Sel.refl | refine Sel.take (by repeat (first | exact t0 | apply tS)) ?_ | apply Sel.drop))) hsa HOX0.out HUR.out HAO1.out) ?_; clear hS; rintro r1 w ⟨rfl, hS⟩; rw [HX2.out] at hS; clear M0))
              | (go_at_call 19; refine Ret.calls (do_s (p := p2) (r := y) (u := u) (s := a) (F := [.blk p 58 (rtC sa x2), .blk n10 38 (aC (u, a))]) (by exact hS.sel (by repeat (first | exact Sel.refl | refine Sel.take (by repeat (first | exact t0 | apply tS)) ?_ | apply Sel.drop))) hsa HOY0.out HUR.out HAO1.out) ?_; clear hS; rintro r1 w ⟨rfl, hS⟩; rw [HY2.out] at hS)
              | (show wpList _ _ _ (⟨_, .load 3 _, _, _, _, _⟩ :: _) _ _; refine wpList_val rfl (op_load1S (b := n10) (T := 38) oneInt ((hS.bring (by repeat (first | exact t0 | apply tS)))) rfl rfl rfl) ?_; go_frame)
              | (show wpList _ _ _ (⟨some 30, .binOp _ _ _ _ _, _, _, _, _⟩ :: _) _ _; refine wpList_val rfl (op_ineI rfl rfl rfl HK3.out) ?_; go_frame)
              | (show wpList _ _ _ (⟨some 34, .binOp _ _ _ _ _, _, _, _, _⟩ :: _) _ _; refine wpList_val rfl (op_ineI rfl rfl rfl HK4.out) ?_; go_frame)
              | (show wpList _ _ _ (⟨some 40, .binOp _ _ _ _ _, _, _, _, _⟩ :: _) _ _; refine wpList_val rfl (op_eqI' rfl rfl rfl HKS.out) ?_; go_frame)
              | (replace M1 := M1; (go_at_call 14; refine Ret.calls (way_s (p := p) (r := x2) (s := s) (F := [.blk p2 58 (rtC sa y2), .blk n10 38 (aC (u, a))]) (by exact hS.sel (by repeat (first | exact Sel.refl | refine Sel.take (by repeat (first | exact t0 | apply tS)) ?_ | apply Sel.drop))) hK hF hsa HOX.out) ?_; clear hS; rintro r1 w ⟨rfl, hS⟩; rw [HWX.out]; clear M1))
              | (go_at_call 14; refine Ret.calls (way_s (p := p2) (r := y2) (s := s) (sepB1 hS) hK hF hsa HOY.out) ?_; clear hS; rintro r1 w ⟨rfl, hS⟩; rw [HWY.out])
              | (go_at_call 28; (first | (with_reducible refine Ret.calls (misses_s (MM := 3) (p := p) (r := x2) (s := s) (sepB1 hS) hsa HOX.out) ?_) | (with_reducible refine Ret.calls (misses_s (MM := 3) (p := p2) (r := y2) (s := s) (sepB1 hS) hsa HOY.out) ?_)); clear hS; rintro r1 w ⟨rfl, hS⟩; (first | rw [HMX.out] | rw [HMY.out]))
              | (go_at_call 13; (first | (with_reducible refine Ret.calls (succ_s (p := p) (r := x2) (sepB1 hS) hsa) ?_) | (with_reducible refine Ret.calls (succ_s (p := p2) (r := y2) (sepB1 hS) hsa) ?_)); clear hS; rintro r1 w ⟨rfl, hS⟩; (first | rw [HAX.out, HBX.out] | rw [HAY.out, HBY.out]))
              | (go_at_call 26; (first | (with_reducible refine Ret.calls (epoch_s (p := p) (r := x2) (sepB1 hS) hsa) ?_) | (with_reducible refine Ret.calls (epoch_s (p := p2) (r := y2) (sepB1 hS) hsa) ?_)); clear hS; rintro r1 w ⟨rfl, hS⟩; (first | rw [HEX.out] | rw [HEY.out]))
              | (go_at_call 27; (first | (with_reducible refine Ret.calls (end_s (p := p) (r := x2) (sepB1 hS) hsa) ?_) | (with_reducible refine Ret.calls (end_s (p := p2) (r := y2) (sepB1 hS) hsa) ?_)); clear hS; rintro r1 w ⟨rfl, hS⟩; (first | rw [HFX.out] | rw [HFY.out]))
              | (go_at_call 25; (first | (with_reducible refine Ret.calls (stems_s (p := p) (r := x2) (sepB1 hS) hsa) ?_) | (with_reducible refine Ret.calls (stems_s (p := p2) (r := y2) (sepB1 hS) hsa) ?_)); clear hS; rintro r1 w ⟨rfl, hS⟩; (first | rw [HBX2.out] | rw [HBY2.out]))
              | (show wpList _ _ _ (⟨some 51, .binOp _ _ _ _ _, _, _, _, _⟩ :: _) _ _; refine wpList_val rfl (op_ineI rfl rfl rfl NW.out) ?_; go_frame)
              | (show wpList _ _ _ (⟨some 59, .binOp _ _ _ _ _, _, _, _, _⟩ :: _) _ _; refine wpList_val rfl (op_ineI rfl rfl rfl NM.out) ?_; go_frame)
              | (show wpList _ _ _ (⟨some 66, .binOp _ _ _ _ _, _, _, _, _⟩ :: _) _ _; refine wpList_val rfl (op_neP rfl rfl rfl NS.out) ?_; go_frame)
              | (show wpList _ _ _ (⟨some 73, .binOp _ _ _ _ _, _, _, _, _⟩ :: _) _ _; refine wpList_val rfl (opU_neq rfl rfl rfl NE.out) ?_; go_frame)
              | (show wpList _ _ _ (⟨some 80, .binOp _ _ _ _ _, _, _, _, _⟩ :: _) _ _; refine wpList_val rfl (opU_neq rfl rfl rfl NF.out) ?_; go_frame)
              | (show wpList _ _ _ (⟨some 87, .binOp _ _ _ _ _, _, _, _, _⟩ :: _) _ _; refine wpList_val rfl (op_neBool rfl rfl rfl) ?_; go_frame)
              )
            go_roundw
            case rel => exact ⟨k + 1, y2, by go_num, by omega, by rw [HSN.out]; exact HAL, by rw [HSN.out]; exact hS.sel (by repeat (first | exact Sel.refl | refine Sel.take (by repeat (first | exact t0 | apply tS)) ?_ | apply Sel.drop))⟩
            case measure => simp [intOf]; omega
      · go_wp2_with fail
        go_ret
        exact ⟨rfl, hS.chg⟩
end Go.Proofs.YtlplgobkidpgkaaDoor
