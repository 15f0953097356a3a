/- What a watch is shown, what it hands out; sights held against sights. Conditions: those that stand ahead of each theorem. -/
import Derived.Test.YtnjeoaplohlgkaaDoorGTa
import Derived.Test.YtnjeoaplohlgkaaDoorGShaC
namespace Go.Proofs.YtnjeoaplohlgkaaDoor
open Go.RowKit Go.Px Go.Sha
theorem star_blk {b : Nat} {T : TypeId} {cs : List Value} {L : List Hp} {w : World} {F : Nat → Prop} (h : star (.blk b T cs :: L) w F) : Blk w b T cs ∧ F b := by
  obtain ⟨G, H, h1, _, _, h4⟩ := h
  unfold Hp.blk at h1
  exact ⟨h1.1, (h4 b).2 (.inl ((h1.2 b).2 rfl))⟩
theorem bring_star {L M : List Hp} {x : Hp} (t : Take1 L x M) {w : World} {F : Nat → Prop} (h : star L w F) : star (x :: M) w F := star_perm t.perm h
theorem sC_set (u c : Value) (s : PS) : (sC (u, s)).set 3 c = sC (c, s) := rfl
theorem wC_set (m : Nat) (sv v : Value) (S : List PS) : (wCells m sv S).set 1 v = wCells m v S := rfl
theorem wC_len (m : Nat) (sv : Value) (S : List PS) : (wCells m sv S).length = 34 := by
  unfold wCells
  rw [List.length_cons, List.length_cons, List.length_map, sumT_len]
theorem wC_drop (m : Nat) (sv : Value) (S : List PS) : (wCells m sv S).drop 2 = (sumT S).map B8 := rfl
theorem wC_sum (m : Nat) (sv : Value) (S : List PS) (s : PS) : (wCells m sv S).take 2 ++ (stepS (sumT S) s).map B8 ++ (wCells m sv S).drop (2 + 32) = wCells m sv (S ++ [s]) := by
  have h1 : (wCells m sv S).drop (2 + 32) = [] := List.drop_eq_nil_of_le (Nat.le_of_eq (wC_len m sv S))
  rw [h1, List.append_nil]
  unfold wCells
  rw [sumT_snoc]
  rfl
section
variable {R : Nat → Prop} {base w : World} {F : List Hp}
/-- the sum, twice, of the sum so far, three numbers and bytes -/
theorem twice5 {T p m : Nat} {v e1 e2 e3 c sv : Value} {S : List PS} {s : PS} (hK : CIn R base 1 (kTab.map W32)) (hF : CIn R base 0 (first.map W32)) (hb : s.bytes.length ≤ 100000)
    (hS : SepL R base w (.own T 1 v [[.slice (some ⟨p, 2, none⟩) 32 32], [e1], [e2], [e3], [c]] :: .own 5 1 e1 (bytes (num s.src)) :: .own 5 1 e2 (bytes (num s.to)) :: .own 5 1 e3 (bytes (num s.lane)) :: .own 5 1 c (bytes s.bytes) :: .blk p 69 (wCells m sv S) :: F)) :
    Calls Tryd.prog 26 #[v] w (Ret fun r w' => r = HV (stepS (sumT S) s) ∧ SepL R base w' (.own 5 1 c (bytes s.bytes) :: .blk p 69 (wCells m sv S) :: F)) := by
  have h0 := SepL.pack (R := R) (L := F) (l := fun _ : Unit => [.own T 1 v [[.slice (some ⟨p, 2, none⟩) 32 32], [e1], [e2], [e3], [c]], .own 5 1 e1 (bytes (num s.src)), .own 5 1 e2 (bytes (num s.to)), .own 5 1 e3 (bytes (num s.lane)), .own 5 1 c (bytes s.bytes), .blk p 69 (wCells m sv S)]) () hS
  obtain ⟨R', G, g1, g2, g3, g4, g5⟩ := h0.freeze
  unfold hEx at g1
  obtain ⟨_, g1⟩ := g1
  have p0 := star_own g1
  have p1 := star_own (bring_star (tS t0) g1)
  have p2 := star_own (bring_star (tS (tS t0)) g1)
  have p3 := star_own (bring_star (tS (tS (tS t0))) g1)
  have p4 := star_own (bring_star (tS (tS (tS (tS t0)))) g1)
  have p5 := star_blk (bring_star (tS (tS (tS (tS (tS t0))))) g1)
  have rr : ∀ {T n : Nat} {v : Value} {xs : List (List Value)}, Own T n w v xs ∧ (∀ k, sblk v k → G k) → RdIn R' w n v xs := fun h => ⟨h.1.rd, fun _ k hk => (g3 k (h.2 k hk)).2⟩
  have hsl : ((sumT S).map B8).length = 32 := by rw [List.length_map, sumT_len]
  have rh : RdIn R' w 1 (.slice (some ⟨p, 2, none⟩) 32 32) (bytes (sumT S)) := by
    have hl : (bytes (sumT S)).length = 32 := by rw [bytes_length, sumT_len]
    refine ⟨⟨some ⟨p, 2, none⟩, 32, by rw [hl], by rw [hl]; exact Nat.le_refl _, by simp [maxLen], fun x hx => ?_, fun _ => ⟨p, 2, rfl, ?_⟩⟩, fun _ k hk => ?_⟩
    · unfold bytes at hx
      obtain ⟨u, _, rfl⟩ := List.mem_map.1 hx
      rfl
    · have h := p5.1.cells.subN 2 32 (ds := (sumT S).map B8) (by rw [wC_drop, List.take_of_length_le (Nat.le_of_eq hsl)])
      unfold bytes
      rw [flat1]
      exact h
    · obtain rfl : k = p := hk
      exact (g3 _ p5.2).2
  have hp : Pieces R' w v [.slice (some ⟨p, 2, none⟩) 32 32, e1, e2, e3, c] [sumT S, num s.src, num s.to, num s.lane, s.bytes] := by
    refine ⟨rr p0, rfl, fun i h h' => ?_⟩
    match i, h with
    | 0, _ => exact rh
    | 1, _ => exact rr p1
    | 2, _ => exact rr p2
    | 3, _ => exact rr p3
    | 4, _ => exact rr p4
  have hfl : [sumT S, num s.src, num s.to, num s.lane, s.bytes].flatten = sumT S ++ (num s.src ++ (num s.to ++ (num s.lane ++ s.bytes))) := by simp
  have hc := twice_s g2 (kTab_mv hK g4) (first_mv hF g4) hp (by
    rw [hfl]
    simp only [List.length_append, sumT_len, num_len]
    omega)
  rw [hfl] at hc
  refine Ret.calls hc ?_
  rintro r w' ⟨h5, h6⟩
  refine ⟨h5, ?_⟩
  obtain ⟨_, h7⟩ := (g5 w' _ h6).unpack
  exact SepL.sel (show SepL R base w' (.own T 1 v [[.slice (some ⟨p, 2, none⟩) 32 32], [e1], [e2], [e3], [c]] :: .own 5 1 e1 (bytes (num s.src)) :: .own 5 1 e2 (bytes (num s.to)) :: .own 5 1 e3 (bytes (num s.lane)) :: .own 5 1 c (bytes s.bytes) :: .blk p 69 (wCells m sv S) :: F) from h7) (by repeat (first | exact Sel.refl | refine Sel.take (by repeat (first | exact t0 | apply tS)) ?_ | apply Sel.drop))
theorem flat_sC {c : Value} {s : PS} (h : c.oneCell' = true) : Flat [sC (c, s)] := by
  intro x hx
  rw [List.mem_singleton.1 hx]
  exact sC_flat h
theorem sl32 (p : Nat) : Value.slice (some ⟨p, if 32 = 0 then 2 else 2 + 0, none⟩) (32 - 0) (32 - 0) = .slice (some ⟨p, 2, none⟩) 32 32 := rfl
theorem sz5 {a e1 e2 e3 c : Value} (h1 : e1.cells = #[e1]) (h2 : e2.cells = #[e2]) (h3 : e3.cells = #[e3]) (hc : c.cells = #[c]) {A : Option Addr} (ha : a = .slice A 32 32 := by rfl) : ∀ v ∈ [a, e1, e2, e3, c], v.cells.size = 1 := by
  intro v hv
  simp only [List.mem_cons, List.not_mem_nil, or_false] at hv
  rcases hv with rfl | rfl | rfl | rfl | rfl
  · rw [ha]; rfl
  · rw [h1]; rfl
  · rw [h2]; rfl
  · rw [h3]; rfl
  · rw [hc]; rfl
theorem cells5 {p : Nat} {e1 e2 e3 c : Value} (h1 : e1.cells = #[e1]) (h2 : e2.cells = #[e2]) (h3 : e3.cells = #[e3]) (hc : c.cells = #[c]) : ([.slice (some ⟨p, 2, none⟩) 32 32, e1, e2, e3, c] : List Value).map (fun v => v.cells.toList) = [[.slice (some ⟨p, 2, none⟩) 32 32], [e1], [e2], [e3], [c]] := by
  simp only [List.map_cons, List.map_nil, h1, h2, h3, hc]
  rfl
set_option maxRecDepth 100000 in
set_option maxHeartbeats 4000000 in
theorem see_s {p : Nat} {E : List Int} {S0 : List PS} (hS : SepL R base w (hW p E S0 :: F)) (hK : CIn R base 1 (kTab.map W32)) (hF : CIn R base 0 (first.map W32)) {v : Value} {L : List (Value × PS)} (hv : SIn R base v L) (hL : LOk (L.map (·.2))) (h0 : S0.length + L.length ≤ 10000) :
    Calls Tryd.prog 12 #[.pointer (some ⟨p, 0, none⟩), v] w (Ret fun _ w' => SepL R base w' (hW p E (S0 ++ seesP E (L.map (·.2))) :: F)) := by
  have HL : Hid ((L.map sC).length = L.length) := by simp [Hid]
  have HLO := hide hL
  obtain ⟨T, hT⟩ : ∃ T, L.map (·.2) = T := ⟨_, rfl⟩
  have hTl : T.length = L.length := by rw [← hT, List.length_map]
  clear hL
  go_enter Tryd.func12, Tryd.ntmps12
  go_wp2_with (first
    | go_big_skip
    | (show wpList _ _ _ (⟨_, .call ⟨.builtin .len, _, _⟩, _, _, _, _⟩ :: _) _ _; refine wpList_val rfl (op_len slSight rfl rfl (v := v) (xs := L.map sC) rfl (by exact hS.rd hv.rd)) ?_; rw [HL.out]; go_frame)
    )
  go_loopw [10] (fun iv wr => ∃ (k : Nat) (S : List PS), iv = .int .i64 k ∧ k ≤ L.length ∧ Hid (S = S0 ++ seesP E (T.take k)) ∧ SepL R base wr (hW p E S :: F)) (fun iv _ => L.length - (intOf iv).toNat)
  case atStart => exact ⟨0, S0, rfl, by omega, by simp [Hid, seesP], hS⟩
  case round =>
    clear hS
    obtain ⟨k, S, rfl, hk, HS, hS0⟩ := hrel
    obtain ⟨m, sv, M, l, hm, hl, hS⟩ := hW_open hS0
    clear hS0
    by_cases hlt : k < L.length
    · have hlk : k < (L.map sC).length := by rw [HL.out]; exact hlt
      obtain ⟨⟨u, s⟩, hx⟩ : ∃ x, L[k] = x := ⟨_, rfl⟩
      have hxm : (u, s) ∈ L := by rw [← hx]; exact List.getElem_mem hlt
      have HX : Hid ((L.map sC)[k] = sC (u, s)) := by
        unfold Hid
        rw [List.getElem_map, hx]
      have hsk : T[k]'(by omega) = s := by
        simp only [← hT, List.getElem_map, hx]
      have hsok := HLO.out.all s (List.mem_map.2 ⟨(u, s), hxm, rfl⟩)
      have HTO := hide hsok.to
      have HB5 := hide hsok.few
      have HUR := hide (hv.at_ _ hxm)
      have HUF := hide (sC_flat (x := (u, s)) (hS.rd HUR.out).one1)
      have hb5 := hsok.few
      have HBL : Hid ((bytes s.bytes).length ≤ 1000000) := by unfold Hid; rw [bytes_length]; omega
      have hsl : S.length ≤ 10000 := by
        have h1 := sees_len E (T.take k)
        rw [HS.out, List.length_append]
        rw [List.length_take] at h1
        omega
      have hll : l.length ≤ 10000 := by rw [← hl, List.length_map] at hsl; exact hsl
      have HA1 : Hid (∀ c : Value, ((l.map sC).length + [sC (c, s)].length) * 48 ≤ 140737488355328) := by
        intro c
        rw [List.length_map, List.length_singleton]
        omega
      have HA2 : Hid (∀ c : Value, (l.map sC).length + [sC (c, s)].length ≤ maxLen) := by
        intro c
        unfold maxLen
        rw [List.length_map, List.length_singleton]
        omega
      have HSL : Hid (((stepS (sumT S) s).map B8).length = 32) := by unfold Hid; rw [List.length_map, stepS_len]
      have hget := hm.get HTO.out
      have hnx := sees_next (E := E) (L := T) (k := k) (by omega)
      rw [hsk] at hnx
      obtain ⟨M1, hM1⟩ : ∃ m : Nat, m = 0 := ⟨0, rfl⟩
      obtain ⟨M2, hM2⟩ : ∃ m : Nat, m = 0 := ⟨0, rfl⟩
      clear hM1 hM2
      by_cases hmem : s.to ∈ E
      · rw [if_pos hmem] at hget hnx
        have HGET := hide hget
        have HSN : Hid (S ++ [s] = S0 ++ seesP E (T.take (k + 1))) := by
          unfold Hid
          rw [hnx, HS.out, List.append_assoc]
        have HM := hide hm
        have HLS := hide hl
        clear hx hxm hsk hsok hb5 hsl hget hnx hmem hm hl
        replace hS := hG_to (hS.sel (by repeat (first | exact Sel.refl | refine Sel.take (by repeat (first | exact t0 | apply tS)) ?_ | apply Sel.drop)) : SepL R base _ (hG sv l :: .blk p 69 (wCells m sv S) :: .map Tryd.prog 3 m M :: F))
        go_wp2_with (first
          | go_big_skip
          | (show wpList _ _ _ (⟨some 12, .indexAddr _ _ _, _, _, _, _⟩ :: _) _ _; refine wpList_val rfl (op_indexAddr slSight rfl (v := v) (xs := L.map sC) rfl (k := k) rfl (by exact hS.rd hv.rd) hlk) ?_; go_frame)
          | (show wpList _ _ _ (⟨some 13, .load _ _, _, _, _, _⟩ :: _) _ _; refine wpList_val rfl (op_loadE aggSight rfl (v := v) (xs := L.map sC) (k := k) rfl (by exact hS.rd hv.rd) hlk) ?_; rw [HX.out]; go_frame)
          | (show wpList _ _ _ (⟨_, .alloc 39, _, _, _, _⟩ :: _) _ _; refine wpS_alloc hS rfl rfl Tryd.zeroValue39 (zs := [.int .i64 0, .int .i64 0, .int .i64 0, .slice none 0 0]) rfl ?_; clear hS; intro nb w hS; go_frame)
          | (show wpList _ _ _ (⟨_, .store 39 _ _, _, _, _, _⟩ :: _) _ _; (refine wpS_storeAll (b := nb) aggSight (hS.bring (by repeat (first | exact t0 | apply tS))) rfl rfl rfl (vs := sC (u, s)) rfl rfl HUF.out rfl ?_); clear hS; intro w hS; go_frame)
          )
        refine wp_region_text (by kernel_rfl) (by kernel_rfl) (by repeat (first | exact Clean.body | refine Clean.then ?_ | refine Clean.inBlock ?_)) ?_
        replace hS := hS.drew
        go_wp2_with (first
          | go_big_skip
          | (show wpList _ _ _ (⟨some 17, .load _ _, _, _, _, _⟩ :: _) _ _; refine wpList_val rfl (op_load1S (b := p) (T := 69) oneMapI ((hS.bring (by repeat (first | exact t0 | apply tS)))) rfl rfl rfl) ?_; go_frame)
          | (show wpList _ _ _ (⟨some 19, .load _ _, _, _, _, _⟩ :: _) _ _; refine wpList_val rfl (op_load1S (b := nb) (T := 39) oneInt ((hS.bring (by repeat (first | exact t0 | apply tS)))) rfl rfl rfl) ?_; go_frame)
          | (show wpList _ _ _ (⟨some 20, .lookup _ _ _ _, _, _, _, _⟩ :: _) _ _; refine wpList_val rfl (op_lookup mapI rfl rfl (b := m) (x := I64 s.to) rfl (SepL.getMap ((hS.bring (by repeat (first | exact t0 | apply tS))))) (isKeyI HTO.out)) ?_; rw [HGET.out]; go_frame)
          | (refine fin_mk (by kernel_rfl) ?_)
          | (show wpList _ _ _ (⟨some 23, .load _ _, _, _, _, _⟩ :: _) _ _; refine wpList_val rfl (op_load1S (b := nb) (T := 39) oneBytes ((hS.bring (by repeat (first | exact t0 | apply tS)))) rfl rfl rfl) ?_; go_frame)
          | (go_at_call 25; refine Ret.calls (clone_bytes u (bytes s.bytes) _ (by exact hS.rd HUR.out) (flat_bytes _) HBL.out) ?_; rintro c w2 hC; replace hS := hS.frameNew hC; clear hC; rw [List.singleton_append] at hS; have HC1 := hide hS.getOwn.rd.cells1; have HC2 := hide hS.getOwn.rd.one1)
          | (show wpList _ _ _ (⟨_, .store 37 _ _, _, _, _, _⟩ :: _) _ _; (refine wpS_store1 (b := nb) (T := 39) (by kernel_rfl) (hS.bring (by repeat (first | exact t0 | apply tS))) rfl rfl rfl rfl HC1.out HC2.out (by rw [sC_len]; omega) ?_); clear hS; intro w hS; rw [sC_set] at hS; go_frame)
          )
        refine wp_region_text (by kernel_rfl) (by kernel_rfl) (by repeat (first | exact Clean.body | refine Clean.then ?_ | refine Clean.inBlock ?_)) ?_
        replace hS := hS.drew
        go_wp2_with (first
          | go_big_skip
          | (show wpList _ _ _ (⟨some 30, .load _ _, _, _, _, _⟩ :: _) _ _; refine wpList_val rfl (op_load1S (b := p) (T := 69) oneSights ((hS.bring (by repeat (first | exact t0 | apply tS)))) rfl rfl rfl) ?_; go_frame)
          | (show wpList _ _ _ (⟨some 31, .load _ _, _, _, _, _⟩ :: _) _ _; refine wpList_val rfl (op_load aggSight rfl rfl (SepL.getBlk (b := nb) (T := 39) ((hS.bring (by repeat (first | exact t0 | apply tS))))).cells rfl) ?_; go_frame)
          | (show wpList _ _ _ (⟨_, .buildSlice 23 1 _, _, _, _, _⟩ :: _) _ _; refine wpS_build1A slSight (by omega) hS rfl rfl (cs := sC (c, s)) rfl rfl ?_; clear hS; intro v2 w hS; go_frame)
          | (show wpList _ _ _ (⟨_, .call ⟨.builtin .append, _, _⟩, _, _, _, _⟩ :: _) _ _; (refine wpS_append slSight (hS.bring (by repeat (first | exact t0 | apply tS))) rfl rfl (sv := sv) (xs := l.map sC) (xv := v2) rfl rfl (ys := [sC (c, s)]) ((hS.bring (by repeat (first | exact t0 | apply tS))).getOwn.rd) (flat_sC HC2.out) (HA1.out c) (HA2.out c) ?_); clear hS; intro v3 w hS; have HD1 := hide hS.getOwn.rd.cells1; have HD2 := hide hS.getOwn.rd.one1; go_frame)
          | (show wpList _ _ _ (⟨_, .store 23 _ _, _, _, _, _⟩ :: _) _ _; (refine wpS_store1 (b := p) (T := 69) (by kernel_rfl) (hS.bring (by repeat (first | exact t0 | apply tS))) rfl rfl rfl rfl HD1.out HD2.out (by rw [wC_len]; omega) ?_); clear hS; intro w hS; rw [wC_set] at hS; go_frame)
          | (refine fin_mk (by kernel_rfl) ?_)
          )
        go_wp2_with fail
        refine wp_region_ord (by kernel_rfl) [41, 44, 47, 50] [[0, 1, 2, 3, 4, 5, 6, 8, 9, 11, 12, 14, 15, 7, 10, 13, 16, 17, 18, 19, 20]] (by kernel_rfl) (by kernel_rfl) (fun w' => Blk w' nb 39 (sC (c, s))) Up.blk ((hS.bring (by repeat (first | exact t0 | apply tS))).getBlk) (by repeat (first | exact Clean.body | refine Clean.then ?_ | refine Clean.inBlock ?_ | refine SegQ.clean ?_ | refine FinC.clean ?_)) ?_
        replace hS := hS.drew
        refine ord_seg (by repeat (first | exact Clean.body | refine Clean.then ?_ | refine Clean.inBlock ?_ | refine SegQ.clean ?_ | refine FinC.clean ?_)) (n := 12) (rest := [[11, 12, 14, 15, 7, 10, 13, 16, 17, 18, 19, 20]]) [0, 1, 2, 3, 4, 5, 6, 8, 9] [⟨_, _, _, _, _, _⟩, ⟨_, _, _, _, _, _⟩, ⟨_, _, _, _, _, _⟩, ⟨_, _, _, _, _, _⟩, ⟨_, _, _, _, _, _⟩, ⟨_, _, _, _, _, _⟩, ⟨_, _, _, _, _, _⟩, ⟨_, _, _, _, _, _⟩, ⟨_, _, _, _, _, _⟩] rfl (by kernel_rfl) (by simp) _ _ ?_
        go_wp2_with (first
          | (show wpList _ _ _ (⟨some 40, .slice _ _ none none _, _, _, _, _⟩ :: _) _ _; refine wpList_val rfl (op_sliceArr arr32b rfl rfl (l := 0) (h := 32) (Or.inl ⟨rfl, rfl⟩) (Or.inl ⟨rfl, rfl⟩) (by omega) (by omega)) ?_; rw [sl32]; go_frame)
          | (show wpList _ _ _ (⟨_, .load 3 _, _, _, _, _⟩ :: _) _ _; refine wpList_val rfl (op_load1S (b := nb) (T := 39) oneInt ((hS.bring (by repeat (first | exact t0 | apply tS)))) rfl rfl rfl) ?_; go_frame)
          | (show wpList _ _ _ (⟨some 51, .load _ _, _, _, _, _⟩ :: _) _ _; refine wpList_val rfl (op_load1S (b := nb) (T := 39) oneBytes ((hS.bring (by repeat (first | exact t0 | apply tS)))) rfl rfl rfl) ?_; go_frame)
          | (have m1 := M1; clear m1; go_at_call 27; refine Ret.calls (eight_s hS s.src) ?_; clear hS M1; rintro e1 w hS)
          | (have m1 := M2; clear m1; go_at_call 27; refine Ret.calls (eight_s hS s.to) ?_; clear hS M2; rintro e2 w hS)
          | (go_at_call 27; refine Ret.calls (eight_s hS s.lane) ?_; clear hS; rintro e3 w hS; have HE1 := hide (SepL.getOwn (v := e1) ((hS.bring (by repeat (first | exact t0 | apply tS))))).rd.cells1; have HE2 := hide (SepL.getOwn (v := e2) ((hS.bring (by repeat (first | exact t0 | apply tS))))).rd.cells1; have HE3 := hide hS.getOwn.rd.cells1)
          | (show wpList _ _ _ (⟨_, .buildSlice 79 _ _, _, _, _, _⟩ :: _) _ _; refine wpS_buildL slPieces hS rfl rfl [.slice (some ⟨p, 2, none⟩) 32 32, e1, e2, e3, c] rfl rfl (by omega) (by omega) (sz5 HE1.out HE2.out HE3.out HC1.out) ?_; clear hS; intro v5 w hS; rw [cells5 HE1.out HE2.out HE3.out HC1.out] at hS; go_frame)
          | (go_at_call 26; refine Ret.calls (twice5 (e1 := e1) (e2 := e2) (e3 := e3) (c := c) (m := m) (sv := v3) (S := S) (s := s) hK hF HB5.out (hS.sel (by repeat (first | exact Sel.refl | refine Sel.take (by repeat (first | exact t0 | apply tS)) ?_ | apply Sel.drop)))) ?_; clear hS; rintro r w ⟨rfl, hS⟩)
          | (show wpList _ _ _ (⟨_, .store 33 _ _, _, _, _, _⟩ :: _) _ _; (refine wpS_storeN (b := p) (off := 2) (T := 69) agg32b (hS.bring (by repeat (first | exact t0 | apply tS))) rfl rfl rfl (vs := (stepS (sumT S) s).map B8) rfl HSL.out (B8_one _) (by rw [wC_len]; omega) ?_); clear hS; intro w hS; rw [wC_sum] at hS; go_frame)
          )
        refine segQ_mk (((hS.bring (by repeat (first | exact t0 | apply tS))).getBlk) : Blk _ nb 39 (sC (c, s))) ?_
        refine ord_seg (by repeat (first | exact Clean.body | refine Clean.then ?_ | refine Clean.inBlock ?_ | refine SegQ.clean ?_ | refine FinC.clean ?_)) (n := 7) (rest := [[10, 13, 16, 17, 18, 19, 20]]) [11, 12, 14, 15, 7] [⟨_, _, _, _, _, _⟩, ⟨_, _, _, _, _, _⟩, ⟨_, _, _, _, _, _⟩, ⟨_, _, _, _, _, _⟩, ⟨_, _, _, _, _, _⟩] rfl (by kernel_rfl) (by simp) _ _ ?_
        go_wp2_with (first
          | (show wpList _ _ _ (⟨some 40, .slice _ _ none none _, _, _, _, _⟩ :: _) _ _; refine wpList_val rfl (op_sliceArr arr32b rfl rfl (l := 0) (h := 32) (Or.inl ⟨rfl, rfl⟩) (Or.inl ⟨rfl, rfl⟩) (by omega) (by omega)) ?_; rw [sl32]; go_frame)
          | (show wpList _ _ _ (⟨_, .load 3 _, _, _, _, _⟩ :: _) _ _; refine wpList_val rfl (op_load1S (b := nb) (T := 39) oneInt ((hS.bring (by repeat (first | exact t0 | apply tS)))) rfl rfl rfl) ?_; go_frame)
          | (show wpList _ _ _ (⟨some 51, .load _ _, _, _, _, _⟩ :: _) _ _; refine wpList_val rfl (op_load1S (b := nb) (T := 39) oneBytes ((hS.bring (by repeat (first | exact t0 | apply tS)))) rfl rfl rfl) ?_; go_frame)
          | (have m1 := M1; clear m1; go_at_call 27; refine Ret.calls (eight_s hS s.src) ?_; clear hS M1; rintro e1 w hS)
          | (have m1 := M2; clear m1; go_at_call 27; refine Ret.calls (eight_s hS s.to) ?_; clear hS M2; rintro e2 w hS)
          | (go_at_call 27; refine Ret.calls (eight_s hS s.lane) ?_; clear hS; rintro e3 w hS; have HE1 := hide (SepL.getOwn (v := e1) ((hS.bring (by repeat (first | exact t0 | apply tS))))).rd.cells1; have HE2 := hide (SepL.getOwn (v := e2) ((hS.bring (by repeat (first | exact t0 | apply tS))))).rd.cells1; have HE3 := hide hS.getOwn.rd.cells1)
          | (show wpList _ _ _ (⟨_, .buildSlice 79 _ _, _, _, _, _⟩ :: _) _ _; refine wpS_buildL slPieces hS rfl rfl [.slice (some ⟨p, 2, none⟩) 32 32, e1, e2, e3, c] rfl rfl (by omega) (by omega) (sz5 HE1.out HE2.out HE3.out HC1.out) ?_; clear hS; intro v5 w hS; rw [cells5 HE1.out HE2.out HE3.out HC1.out] at hS; go_frame)
          | (go_at_call 26; refine Ret.calls (twice5 (e1 := e1) (e2 := e2) (e3 := e3) (c := c) (m := m) (sv := v3) (S := S) (s := s) hK hF HB5.out (hS.sel (by repeat (first | exact Sel.refl | refine Sel.take (by repeat (first | exact t0 | apply tS)) ?_ | apply Sel.drop)))) ?_; clear hS; rintro r w ⟨rfl, hS⟩)
          | (show wpList _ _ _ (⟨_, .store 33 _ _, _, _, _, _⟩ :: _) _ _; (refine wpS_storeN (b := p) (off := 2) (T := 69) agg32b (hS.bring (by repeat (first | exact t0 | apply tS))) rfl rfl rfl (vs := (stepS (sumT S) s).map B8) rfl HSL.out (B8_one _) (by rw [wC_len]; omega) ?_); clear hS; intro w hS; rw [wC_sum] at hS; go_frame)
          )
        refine segQ_mk (((hS.bring (by repeat (first | exact t0 | apply tS))).getBlk) : Blk _ nb 39 (sC (c, s))) ?_
        refine ord_seg (by repeat (first | exact Clean.body | refine Clean.then ?_ | refine Clean.inBlock ?_ | refine SegQ.clean ?_ | refine FinC.clean ?_)) (n := 6) (rest := [[13, 16, 17, 18, 19, 20]]) [10] [⟨_, _, _, _, _, _⟩] rfl (by kernel_rfl) (by simp) _ _ ?_
        go_wp2_with (first
          | (show wpList _ _ _ (⟨some 40, .slice _ _ none none _, _, _, _, _⟩ :: _) _ _; refine wpList_val rfl (op_sliceArr arr32b rfl rfl (l := 0) (h := 32) (Or.inl ⟨rfl, rfl⟩) (Or.inl ⟨rfl, rfl⟩) (by omega) (by omega)) ?_; rw [sl32]; go_frame)
          | (show wpList _ _ _ (⟨_, .load 3 _, _, _, _, _⟩ :: _) _ _; refine wpList_val rfl (op_load1S (b := nb) (T := 39) oneInt ((hS.bring (by repeat (first | exact t0 | apply tS)))) rfl rfl rfl) ?_; go_frame)
          | (show wpList _ _ _ (⟨some 51, .load _ _, _, _, _, _⟩ :: _) _ _; refine wpList_val rfl (op_load1S (b := nb) (T := 39) oneBytes ((hS.bring (by repeat (first | exact t0 | apply tS)))) rfl rfl rfl) ?_; go_frame)
          | (have m1 := M1; clear m1; go_at_call 27; refine Ret.calls (eight_s hS s.src) ?_; clear hS M1; rintro e1 w hS)
          | (have m1 := M2; clear m1; go_at_call 27; refine Ret.calls (eight_s hS s.to) ?_; clear hS M2; rintro e2 w hS)
          | (go_at_call 27; refine Ret.calls (eight_s hS s.lane) ?_; clear hS; rintro e3 w hS; have HE1 := hide (SepL.getOwn (v := e1) ((hS.bring (by repeat (first | exact t0 | apply tS))))).rd.cells1; have HE2 := hide (SepL.getOwn (v := e2) ((hS.bring (by repeat (first | exact t0 | apply tS))))).rd.cells1; have HE3 := hide hS.getOwn.rd.cells1)
          | (show wpList _ _ _ (⟨_, .buildSlice 79 _ _, _, _, _, _⟩ :: _) _ _; refine wpS_buildL slPieces hS rfl rfl [.slice (some ⟨p, 2, none⟩) 32 32, e1, e2, e3, c] rfl rfl (by omega) (by omega) (sz5 HE1.out HE2.out HE3.out HC1.out) ?_; clear hS; intro v5 w hS; rw [cells5 HE1.out HE2.out HE3.out HC1.out] at hS; go_frame)
          | (go_at_call 26; refine Ret.calls (twice5 (e1 := e1) (e2 := e2) (e3 := e3) (c := c) (m := m) (sv := v3) (S := S) (s := s) hK hF HB5.out (hS.sel (by repeat (first | exact Sel.refl | refine Sel.take (by repeat (first | exact t0 | apply tS)) ?_ | apply Sel.drop)))) ?_; clear hS; rintro r w ⟨rfl, hS⟩)
          | (show wpList _ _ _ (⟨_, .store 33 _ _, _, _, _, _⟩ :: _) _ _; (refine wpS_storeN (b := p) (off := 2) (T := 69) agg32b (hS.bring (by repeat (first | exact t0 | apply tS))) rfl rfl rfl (vs := (stepS (sumT S) s).map B8) rfl HSL.out (B8_one _) (by rw [wC_len]; omega) ?_); clear hS; intro w hS; rw [wC_sum] at hS; go_frame)
          )
        refine segQ_mk (((hS.bring (by repeat (first | exact t0 | apply tS))).getBlk) : Blk _ nb 39 (sC (c, s))) ?_
        refine ord_seg (by repeat (first | exact Clean.body | refine Clean.then ?_ | refine Clean.inBlock ?_ | refine SegQ.clean ?_ | refine FinC.clean ?_)) (n := 5) (rest := [[16, 17, 18, 19, 20]]) [13] [⟨_, _, _, _, _, _⟩] rfl (by kernel_rfl) (by simp) _ _ ?_
        go_wp2_with (first
          | (show wpList _ _ _ (⟨some 40, .slice _ _ none none _, _, _, _, _⟩ :: _) _ _; refine wpList_val rfl (op_sliceArr arr32b rfl rfl (l := 0) (h := 32) (Or.inl ⟨rfl, rfl⟩) (Or.inl ⟨rfl, rfl⟩) (by omega) (by omega)) ?_; rw [sl32]; go_frame)
          | (show wpList _ _ _ (⟨_, .load 3 _, _, _, _, _⟩ :: _) _ _; refine wpList_val rfl (op_load1S (b := nb) (T := 39) oneInt ((hS.bring (by repeat (first | exact t0 | apply tS)))) rfl rfl rfl) ?_; go_frame)
          | (show wpList _ _ _ (⟨some 51, .load _ _, _, _, _, _⟩ :: _) _ _; refine wpList_val rfl (op_load1S (b := nb) (T := 39) oneBytes ((hS.bring (by repeat (first | exact t0 | apply tS)))) rfl rfl rfl) ?_; go_frame)
          | (have m1 := M1; clear m1; go_at_call 27; refine Ret.calls (eight_s hS s.src) ?_; clear hS M1; rintro e1 w hS)
          | (have m1 := M2; clear m1; go_at_call 27; refine Ret.calls (eight_s hS s.to) ?_; clear hS M2; rintro e2 w hS)
          | (go_at_call 27; refine Ret.calls (eight_s hS s.lane) ?_; clear hS; rintro e3 w hS; have HE1 := hide (SepL.getOwn (v := e1) ((hS.bring (by repeat (first | exact t0 | apply tS))))).rd.cells1; have HE2 := hide (SepL.getOwn (v := e2) ((hS.bring (by repeat (first | exact t0 | apply tS))))).rd.cells1; have HE3 := hide hS.getOwn.rd.cells1)
          | (show wpList _ _ _ (⟨_, .buildSlice 79 _ _, _, _, _, _⟩ :: _) _ _; refine wpS_buildL slPieces hS rfl rfl [.slice (some ⟨p, 2, none⟩) 32 32, e1, e2, e3, c] rfl rfl (by omega) (by omega) (sz5 HE1.out HE2.out HE3.out HC1.out) ?_; clear hS; intro v5 w hS; rw [cells5 HE1.out HE2.out HE3.out HC1.out] at hS; go_frame)
          | (go_at_call 26; refine Ret.calls (twice5 (e1 := e1) (e2 := e2) (e3 := e3) (c := c) (m := m) (sv := v3) (S := S) (s := s) hK hF HB5.out (hS.sel (by repeat (first | exact Sel.refl | refine Sel.take (by repeat (first | exact t0 | apply tS)) ?_ | apply Sel.drop)))) ?_; clear hS; rintro r w ⟨rfl, hS⟩)
          | (show wpList _ _ _ (⟨_, .store 33 _ _, _, _, _, _⟩ :: _) _ _; (refine wpS_storeN (b := p) (off := 2) (T := 69) agg32b (hS.bring (by repeat (first | exact t0 | apply tS))) rfl rfl rfl (vs := (stepS (sumT S) s).map B8) rfl HSL.out (B8_one _) (by rw [wC_len]; omega) ?_); clear hS; intro w hS; rw [wC_sum] at hS; go_frame)
          )
        refine segQ_mk (((hS.bring (by repeat (first | exact t0 | apply tS))).getBlk) : Blk _ nb 39 (sC (c, s))) ?_
        refine ord_seg (by repeat (first | exact Clean.body | refine Clean.then ?_ | refine Clean.inBlock ?_ | refine SegQ.clean ?_ | refine FinC.clean ?_)) (n := 3) (rest := [[18, 19, 20]]) [16, 17] [⟨_, _, _, _, _, _⟩, ⟨_, _, _, _, _, _⟩] rfl (by kernel_rfl) (by simp) _ _ ?_
        go_wp2_with (first
          | (show wpList _ _ _ (⟨some 40, .slice _ _ none none _, _, _, _, _⟩ :: _) _ _; refine wpList_val rfl (op_sliceArr arr32b rfl rfl (l := 0) (h := 32) (Or.inl ⟨rfl, rfl⟩) (Or.inl ⟨rfl, rfl⟩) (by omega) (by omega)) ?_; rw [sl32]; go_frame)
          | (show wpList _ _ _ (⟨_, .load 3 _, _, _, _, _⟩ :: _) _ _; refine wpList_val rfl (op_load1S (b := nb) (T := 39) oneInt ((hS.bring (by repeat (first | exact t0 | apply tS)))) rfl rfl rfl) ?_; go_frame)
          | (show wpList _ _ _ (⟨some 51, .load _ _, _, _, _, _⟩ :: _) _ _; refine wpList_val rfl (op_load1S (b := nb) (T := 39) oneBytes ((hS.bring (by repeat (first | exact t0 | apply tS)))) rfl rfl rfl) ?_; go_frame)
          | (have m1 := M1; clear m1; go_at_call 27; refine Ret.calls (eight_s hS s.src) ?_; clear hS M1; rintro e1 w hS)
          | (have m1 := M2; clear m1; go_at_call 27; refine Ret.calls (eight_s hS s.to) ?_; clear hS M2; rintro e2 w hS)
          | (go_at_call 27; refine Ret.calls (eight_s hS s.lane) ?_; clear hS; rintro e3 w hS; have HE1 := hide (SepL.getOwn (v := e1) ((hS.bring (by repeat (first | exact t0 | apply tS))))).rd.cells1; have HE2 := hide (SepL.getOwn (v := e2) ((hS.bring (by repeat (first | exact t0 | apply tS))))).rd.cells1; have HE3 := hide hS.getOwn.rd.cells1)
          | (show wpList _ _ _ (⟨_, .buildSlice 79 _ _, _, _, _, _⟩ :: _) _ _; refine wpS_buildL slPieces hS rfl rfl [.slice (some ⟨p, 2, none⟩) 32 32, e1, e2, e3, c] rfl rfl (by omega) (by omega) (sz5 HE1.out HE2.out HE3.out HC1.out) ?_; clear hS; intro v5 w hS; rw [cells5 HE1.out HE2.out HE3.out HC1.out] at hS; go_frame)
          | (go_at_call 26; refine Ret.calls (twice5 (e1 := e1) (e2 := e2) (e3 := e3) (c := c) (m := m) (sv := v3) (S := S) (s := s) hK hF HB5.out (hS.sel (by repeat (first | exact Sel.refl | refine Sel.take (by repeat (first | exact t0 | apply tS)) ?_ | apply Sel.drop)))) ?_; clear hS; rintro r w ⟨rfl, hS⟩)
          | (show wpList _ _ _ (⟨_, .store 33 _ _, _, _, _, _⟩ :: _) _ _; (refine wpS_storeN (b := p) (off := 2) (T := 69) agg32b (hS.bring (by repeat (first | exact t0 | apply tS))) rfl rfl rfl (vs := (stepS (sumT S) s).map B8) rfl HSL.out (B8_one _) (by rw [wC_len]; omega) ?_); clear hS; intro w hS; rw [wC_sum] at hS; go_frame)
          )
        refine segQ_mk (((hS.bring (by repeat (first | exact t0 | apply tS))).getBlk) : Blk _ nb 39 (sC (c, s))) ?_
        refine ord_seg (by repeat (first | exact Clean.body | refine Clean.then ?_ | refine Clean.inBlock ?_ | refine SegQ.clean ?_ | refine FinC.clean ?_)) (n := 0) (rest := [[]]) [18, 19, 20] [⟨_, _, _, _, _, _⟩, ⟨_, _, _, _, _, _⟩, ⟨_, _, _, _, _, _⟩] rfl (by kernel_rfl) (by simp) _ _ ?_
        go_wp2_with (first
          | (show wpList _ _ _ (⟨some 40, .slice _ _ none none _, _, _, _, _⟩ :: _) _ _; refine wpList_val rfl (op_sliceArr arr32b rfl rfl (l := 0) (h := 32) (Or.inl ⟨rfl, rfl⟩) (Or.inl ⟨rfl, rfl⟩) (by omega) (by omega)) ?_; rw [sl32]; go_frame)
          | (show wpList _ _ _ (⟨_, .load 3 _, _, _, _, _⟩ :: _) _ _; refine wpList_val rfl (op_load1S (b := nb) (T := 39) oneInt ((hS.bring (by repeat (first | exact t0 | apply tS)))) rfl rfl rfl) ?_; go_frame)
          | (show wpList _ _ _ (⟨some 51, .load _ _, _, _, _, _⟩ :: _) _ _; refine wpList_val rfl (op_load1S (b := nb) (T := 39) oneBytes ((hS.bring (by repeat (first | exact t0 | apply tS)))) rfl rfl rfl) ?_; go_frame)
          | (have m1 := M1; clear m1; go_at_call 27; refine Ret.calls (eight_s hS s.src) ?_; clear hS M1; rintro e1 w hS)
          | (have m1 := M2; clear m1; go_at_call 27; refine Ret.calls (eight_s hS s.to) ?_; clear hS M2; rintro e2 w hS)
          | (go_at_call 27; refine Ret.calls (eight_s hS s.lane) ?_; clear hS; rintro e3 w hS; have HE1 := hide (SepL.getOwn (v := e1) ((hS.bring (by repeat (first | exact t0 | apply tS))))).rd.cells1; have HE2 := hide (SepL.getOwn (v := e2) ((hS.bring (by repeat (first | exact t0 | apply tS))))).rd.cells1; have HE3 := hide hS.getOwn.rd.cells1)
          | (show wpList _ _ _ (⟨_, .buildSlice 79 _ _, _, _, _, _⟩ :: _) _ _; refine wpS_buildL slPieces hS rfl rfl [.slice (some ⟨p, 2, none⟩) 32 32, e1, e2, e3, c] rfl rfl (by omega) (by omega) (sz5 HE1.out HE2.out HE3.out HC1.out) ?_; clear hS; intro v5 w hS; rw [cells5 HE1.out HE2.out HE3.out HC1.out] at hS; go_frame)
          | (go_at_call 26; refine Ret.calls (twice5 (e1 := e1) (e2 := e2) (e3 := e3) (c := c) (m := m) (sv := v3) (S := S) (s := s) hK hF HB5.out (hS.sel (by repeat (first | exact Sel.refl | refine Sel.take (by repeat (first | exact t0 | apply tS)) ?_ | apply Sel.drop)))) ?_; clear hS; rintro r w ⟨rfl, hS⟩)
          | (show wpList _ _ _ (⟨_, .store 33 _ _, _, _, _, _⟩ :: _) _ _; (refine wpS_storeN (b := p) (off := 2) (T := 69) agg32b (hS.bring (by repeat (first | exact t0 | apply tS))) rfl rfl rfl (vs := (stepS (sumT S) s).map B8) rfl HSL.out (B8_one _) (by rw [wC_len]; omega) ?_); clear hS; intro w hS; rw [wC_sum] at hS; go_frame)
          )
        refine segQ_mk (((hS.bring (by repeat (first | exact t0 | apply tS))).getBlk) : Blk _ nb 39 (sC (c, s))) ?_
        refine finC_mk (by kernel_rfl) (by
          intro t ht
          simp only [List.mem_cons, List.not_mem_nil, or_false] at ht
          rcases ht with rfl | rfl | rfl | rfl <;> exact stab_blk (b := nb) (fun w h => h) _ none) ?_
        go_wp2_with fail
        go_roundw
        case rel =>
          have h1 : SepL R base w (hSg l :: .own 5 1 c (bytes s.bytes) :: .own 39 4 v3 (l.map sC ++ [sC (c, s)]) :: .blk p 69 (wCells m v3 (S ++ [s])) :: .map Tryd.prog 3 m M :: F) := hS.sel (by repeat (first | exact Sel.refl | refine Sel.take (by repeat (first | exact t0 | apply tS)) ?_ | apply Sel.drop))
          have h2 := hSg_snoc h1
          have h3 : SepL R base w (.own 39 4 v3 ((l ++ [(c, s)]).map sC) :: hSg (l ++ [(c, s)]) :: .blk p 69 (wCells m v3 (S ++ [s])) :: .map Tryd.prog 3 m M :: F) := by
            rw [List.map_append, List.map_singleton]
            exact h2.sel (by repeat (first | exact Sel.refl | refine Sel.take (by repeat (first | exact t0 | apply tS)) ?_ | apply Sel.drop))
          have h4 := hG_of h3
          exact ⟨k + 1, S ++ [s], by go_num, by omega, HSN, hW_close (h4.sel (by repeat (first | exact Sel.refl | refine Sel.take (by repeat (first | exact t0 | apply tS)) ?_ | apply Sel.drop))) HM.out (by rw [List.map_append, HLS.out]; rfl)⟩
        case measure => simp [intOf]; omega
      · rw [if_neg hmem] at hget hnx
        have HGET := hide hget
        have HSN : Hid (S = S0 ++ seesP E (T.take (k + 1))) := by
          unfold Hid
          rw [hnx, List.append_nil]
          exact HS.out
        have HM := hide hm
        have HLS := hide hl
        clear hx hxm hsk hsok hb5 hsl hget hnx hmem hm hl
        go_wp2_with (first
          | go_big_skip
          | (show wpList _ _ _ (⟨some 12, .indexAddr _ _ _, _, _, _, _⟩ :: _) _ _; refine wpList_val rfl (op_indexAddr slSight rfl (v := v) (xs := L.map sC) rfl (k := k) rfl (by exact hS.rd hv.rd) hlk) ?_; go_frame)
          | (show wpList _ _ _ (⟨some 13, .load _ _, _, _, _, _⟩ :: _) _ _; refine wpList_val rfl (op_loadE aggSight rfl (v := v) (xs := L.map sC) (k := k) rfl (by exact hS.rd hv.rd) hlk) ?_; rw [HX.out]; go_frame)
          | (show wpList _ _ _ (⟨_, .alloc 39, _, _, _, _⟩ :: _) _ _; refine wpS_alloc hS rfl rfl Tryd.zeroValue39 (zs := [.int .i64 0, .int .i64 0, .int .i64 0, .slice none 0 0]) rfl ?_; clear hS; intro nb w hS; go_frame)
          | (show wpList _ _ _ (⟨_, .store 39 _ _, _, _, _, _⟩ :: _) _ _; (refine wpS_storeAll (b := nb) aggSight (hS.bring (by repeat (first | exact t0 | apply tS))) rfl rfl rfl (vs := sC (u, s)) rfl rfl HUF.out rfl ?_); clear hS; intro w hS; go_frame)
          )
        refine wp_region_text (by kernel_rfl) (by kernel_rfl) (by repeat (first | exact Clean.body | refine Clean.then ?_ | refine Clean.inBlock ?_)) ?_
        replace hS := hS.drew
        go_wp2_with (first
          | go_big_skip
          | (show wpList _ _ _ (⟨some 17, .load _ _, _, _, _, _⟩ :: _) _ _; refine wpList_val rfl (op_load1S (b := p) (T := 69) oneMapI ((hS.bring (by repeat (first | exact t0 | apply tS)))) rfl rfl rfl) ?_; go_frame)
          | (show wpList _ _ _ (⟨some 19, .load _ _, _, _, _, _⟩ :: _) _ _; refine wpList_val rfl (op_load1S (b := nb) (T := 39) oneInt ((hS.bring (by repeat (first | exact t0 | apply tS)))) rfl rfl rfl) ?_; go_frame)
          | (show wpList _ _ _ (⟨some 20, .lookup _ _ _ _, _, _, _, _⟩ :: _) _ _; refine wpList_val rfl (op_lookup mapI rfl rfl (b := m) (x := I64 s.to) rfl (SepL.getMap ((hS.bring (by repeat (first | exact t0 | apply tS))))) (isKeyI HTO.out)) ?_; rw [HGET.out]; go_frame)
          | (refine fin_mk (by kernel_rfl) ?_)
          )
        go_wp2_with fail
        go_roundw
        case rel => exact ⟨k + 1, S, by go_num, by omega, HSN, hW_close (hS.sel (by repeat (first | exact Sel.refl | refine Sel.take (by repeat (first | exact t0 | apply tS)) ?_ | apply Sel.drop))) HM.out HLS.out⟩
        case measure => simp [intOf]; omega
    · have hk2 : k = L.length := by omega
      subst hk2
      have hs := HS.out
      rw [List.take_of_length_le (by omega)] at hs
      subst hs
      have hS2 := hW_close hS hm hl
      go_wp2_with fail
      refine bodyPost_end (results_none rfl _ _ _) rfl ?_
      rw [← hT] at hS2
      exact hS2
end
end Go.Proofs.YtnjeoaplohlgkaaDoor
namespace Go.Proofs.YtnjeoaplohlgkaaDoor
open Go.RowKit Go.Px Go.Sha
theorem sC_at {q l : List (Value × PS)} {k : Nat} (hq : q.length = k) (hk : k < l.length) (h : k < ((q ++ l.drop k).map sC).length) : ((q ++ l.drop k).map sC)[k] = sC l[k] := by
  subst hq
  rw [List.getElem_map]
  congr 1
  rw [List.getElem_append_right (Nat.le_refl _)]
  simp
theorem sC_next {q l : List (Value × PS)} {k : Nat} (hq : q.length = k) (hk : k < l.length) (c : Value) (s : PS) : ((q ++ l.drop k).map sC).set k (sC (c, s)) = ((q ++ [(c, s)]) ++ l.drop (k + 1)).map sC := by
  subst hq
  rw [List.drop_eq_getElem_cons hk, List.map_append, List.set_append_right _ _ (by rw [List.length_map]; exact Nat.le_refl _), List.length_map, Nat.sub_self, List.map_cons, List.set_cons_zero, List.append_assoc, List.map_append]
  rfl
section
variable {R : Nat → Prop} {base w : World} {F : List Hp}
set_option maxRecDepth 100000 in
set_option maxHeartbeats 4000000 in
theorem all_s {p : Nat} {E : List Int} {S : List PS} (hS : SepL R base w (hW p E S :: F)) (hL : LOk S) :
    Calls Tryd.prog 15 #[.pointer (some ⟨p, 0, none⟩)] w (Ret fun r w' => ∃ q, q.map (·.2) = S ∧ SepL R base w' (hG r q :: hW p E S :: F)) := by
  obtain ⟨m, sv, M, l, hm, hl, h⟩ := hW_open hS
  clear hS
  have hS := h
  clear h
  have HM := hide hm
  have HLS := hide hl
  have hll : l.length = S.length := by rw [← hl, List.length_map]
  have hl1 := hL.len
  have HL : Hid ((l.map sC).length = l.length) := by simp [Hid]
  have HLL : Hid ((l.map sC).length ≤ 1000000) := by unfold Hid; rw [HL.out]; omega
  have HLO := hide hL
  have hlb : l.length ≤ 10000 := by omega
  clear hm hl hL hll hl1
  go_enter Tryd.func15, Tryd.ntmps15
  go_wp2_with (first
    | (show wpList _ _ _ (⟨_, .load 23 _, _, _, _, _⟩ :: _) _ _; refine wpList_val rfl (op_load1S (b := p) (T := 69) oneSights ((hS.bring (by repeat (first | exact t0 | apply tS)))) rfl rfl rfl) ?_; go_frame)
    | (go_at_call 30; refine Ret.calls (clone_sights sv (l.map sC) _ (hG_srd ((hS.bring (by repeat (first | exact t0 | apply tS))))).rd (hG_srd ((hS.bring (by repeat (first | exact t0 | apply tS))))).flat HLL.out) ?_; rintro cv w hC; replace hS := hS.frameNew hC; clear hC; rw [List.singleton_append] at hS)
    | (show wpList _ _ _ (⟨_, .call ⟨.builtin .len, _, _⟩, _, _, _, _⟩ :: _) _ _; refine wpList_val rfl (op_len slSight rfl rfl (v := cv) (xs := l.map sC) rfl ((hS.bring (by repeat (first | exact t0 | apply tS))).getOwn.rd)) ?_; rw [HL.out]; go_frame)
    )
  replace hS := hSg_nil hS
  go_loopw [14] (fun iv wr => ∃ (k : Nat) (q : List (Value × PS)), iv = .int .i64 k ∧ k ≤ l.length ∧ Hid (q.map (·.2) = (l.take k).map (·.2)) ∧ SepL R base wr (.own 39 4 cv ((q ++ l.drop k).map sC) :: hSg q :: .blk p 69 (wCells m sv S) :: .map Tryd.prog 3 m M :: hG sv l :: F)) (fun iv _ => l.length - (intOf iv).toNat)
  case atStart => exact ⟨0, [], rfl, by omega, rfl, hS.sel (by repeat (first | exact Sel.refl | refine Sel.take (by repeat (first | exact t0 | apply tS)) ?_ | apply Sel.drop))⟩
  case round =>
    clear hS
    obtain ⟨k, q, rfl, hk, HQ, hS⟩ := hrel
    have hql : q.length = k := by
      have := congrArg List.length HQ.out
      simp only [List.length_map, List.length_take] at this
      omega
    by_cases hlt : k < l.length
    · have HKL : Hid (k < ((q ++ l.drop k).map sC).length) := by
        unfold Hid
        rw [List.length_map, List.length_append, List.length_drop]
        omega
      obtain ⟨⟨u, s⟩, hx⟩ : ∃ x, l[k] = x := ⟨_, rfl⟩
      have hxm : (u, s) ∈ l := by rw [← hx]; exact List.getElem_mem hlt
      have hrow := sC_at hql hlt HKL.out
      rw [hx] at hrow
      have HU : Hid ((((q ++ l.drop k).map sC)[k]'HKL.out)[3]? = some u) := by
        unfold Hid
        rw [hrow]
        rfl
      have HST : Hid (∀ c : Value, ((q ++ l.drop k).map sC).set k ((((q ++ l.drop k).map sC)[k]'HKL.out).set 3 c) = ((q ++ [(c, s)]) ++ l.drop (k + 1)).map sC) := by
        intro c
        rw [hrow, sC_set, sC_next hql hlt]
      have HAT := hide (fun (w : World) (F : List Hp) (h : SepL R base w (hG sv l :: F)) => (hG_srd h).at_ (u, s) hxm)
      have hsok := HLO.out.all s (by rw [← HLS.out]; exact List.mem_map.2 ⟨(u, s), hxm, rfl⟩)
      have hb5 := hsok.few
      have HBL : Hid ((bytes s.bytes).length ≤ 1000000) := by unfold Hid; rw [bytes_length]; omega
      have HQN : Hid (∀ c : Value, (q ++ [(c, s)]).map (·.2) = (l.take (k + 1)).map (·.2)) := by
        intro c
        rw [List.take_succ_eq_append_getElem hlt, List.map_append, List.map_append, HQ.out, hx]
        rfl
      clear hx hxm hrow hsok hb5
      go_wp2_with (first
        | (show wpList _ _ _ (⟨_, .indexAddr _ _ _, _, _, _, _⟩ :: _) _ _; refine wpList_val rfl (op_indexAddr slSight rfl (v := cv) (xs := (q ++ l.drop k).map sC) rfl (k := k) rfl ((hS.bring (by repeat (first | exact t0 | apply tS))).getOwn.rd) HKL.out) ?_; go_frame)
        | (show wpList _ _ _ (⟨_, .fieldAddr 39 _ 3, _, _, _, _⟩ :: _) _ _; refine wpList_val rfl (op_fieldAddrE (j := 3) (by kernel_rfl) rfl (n := 4) (v := cv) (k := k) (xs := (q ++ l.drop k).map sC) rfl ((hS.bring (by repeat (first | exact t0 | apply tS))).getOwn.rd) HKL.out) ?_; go_frame)
        | (show wpList _ _ _ (⟨_, .load 37 _, _, _, _, _⟩ :: _) _ _; refine wpList_val rfl (op_loadF1 oneBytes rfl (n := 4) (v := cv) (k := k) (j := 3) (xs := (q ++ l.drop k).map sC) rfl ((hS.bring (by repeat (first | exact t0 | apply tS))).getOwn.rd) HKL.out (u := u) HU.out) ?_; go_frame)
        | (go_at_call 25; refine Ret.calls (clone_bytes u (bytes s.bytes) _ (HAT.out _ _ ((hS.bring (by repeat (first | exact t0 | apply tS))))) (flat_bytes _) HBL.out) ?_; rintro nb w hC; replace hS := hS.frameNew hC; clear hC; rw [List.singleton_append] at hS; have HV2 := hide hS.getOwn.rd.cells1; have HV3 := hide hS.getOwn.rd.one1)
        | (show wpList _ _ _ (⟨_, .store 37 _ _, _, _, _, _⟩ :: _) _ _; (refine wpS_storeF1 (by kernel_rfl) (hS.bring (by repeat (first | exact t0 | apply tS))) rfl rfl (k := k) (j := 3) rfl rfl HV2.out HV3.out HKL.out (by omega) ?_); clear hS; intro w hS; rw [HST.out nb] at hS; go_frame)
        )
      go_roundw
      case rel => exact ⟨k + 1, q ++ [(nb, s)], by go_num, by omega, HQN.out nb, (hSg_snoc (s := s) (u := nb) (m := q) (F := .own 39 4 cv (((q ++ [(nb, s)]) ++ l.drop (k + 1)).map sC) :: .blk p 69 (wCells m sv S) :: .map Tryd.prog 3 m M :: hG sv l :: F) (hS.sel (by repeat (first | exact Sel.refl | refine Sel.take (by repeat (first | exact t0 | apply tS)) ?_ | apply Sel.drop)))).sel (by repeat (first | exact Sel.refl | refine Sel.take (by repeat (first | exact t0 | apply tS)) ?_ | apply Sel.drop))⟩
      case measure => simp [intOf]; omega
    · have hk2 : k = l.length := by omega
      have hd : l.drop k = [] := List.drop_eq_nil_of_le (by omega)
      rw [hd, List.append_nil] at hS
      have HQE : Hid (q.map (·.2) = S) := by
        unfold Hid
        rw [HQ.out, hk2, List.take_length, HLS.out]
      subst hk2
      replace hS := hG_of hS
      go_wp2_with fail
      go_ret
      exact ⟨q, HQE.out, SepL.sel (hW_close (F := hG cv q :: F) (hS.sel (by repeat (first | exact Sel.refl | refine Sel.take (by repeat (first | exact t0 | apply tS)) ?_ | apply Sel.drop))) HM.out HLS.out) (by repeat (first | exact Sel.refl | refine Sel.take (by repeat (first | exact t0 | apply tS)) ?_ | apply Sel.drop))⟩
end
end Go.Proofs.YtnjeoaplohlgkaaDoor
namespace Go.Proofs.YtnjeoaplohlgkaaDoor
open Go.RowKit Go.Px Go.Sha
theorem ps_ext {s t : PS} (h1 : s.src = t.src) (h2 : s.to = t.to) (h3 : s.lane = t.lane) (h4 : s.bytes = t.bytes) : s = t := by
  cases s
  cases t
  simp_all
theorem snd_take {l m : List (Value × PS)} {k : Nat} (hl : k < l.length) (hm : k < m.length) (h : (l.take k).map (·.2) = (m.take k).map (·.2)) (he : l[k].2 = m[k].2) : (l.take (k + 1)).map (·.2) = (m.take (k + 1)).map (·.2) := by
  rw [List.take_succ_eq_append_getElem hl, List.take_succ_eq_append_getElem hm, List.map_append, List.map_append, h, List.map_singleton, List.map_singleton, he]
theorem snd_ne {l m : List (Value × PS)} {k : Nat} (hl : k < l.length) (hm : k < m.length) (he : l[k].2 ≠ m[k].2) : l.map (·.2) ≠ m.map (·.2) := by
  intro h
  apply he
  have h2 : (l.map (·.2))[k]? = (m.map (·.2))[k]? := by rw [h]
  rw [List.getElem?_map, List.getElem?_map, List.getElem?_eq_getElem hl, List.getElem?_eq_getElem hm] at h2
  exact Option.some.inj h2
set_option maxRecDepth 100000 in
set_option maxHeartbeats 4000000 in
theorem sameSeen_s {W : World} {v u : Value} {l m : List (Value × PS)} (hv0 : SRd W v l) (hu0 : SRd W u m) (hl : l.length ≤ 100000) (hlo : ∀ x ∈ l, x.2.bytes.length ≤ 100000) {b : Bool} (hb : b = true ↔ l.map (·.2) = m.map (·.2)) :
    Calls Tryd.prog 14 #[v, u] W (Ret fun r w' => r = .bool b ∧ Chg No W w') := by
  have hS := SepL.start W
  have hv := SIn.of hv0
  have hu := SIn.of hu0
  have HL : Hid ((l.map sC).length = l.length) := by simp [Hid]
  have HM : Hid ((m.map sC).length = m.length) := by simp [Hid]
  have HLO := hide hlo
  clear hv0 hu0 hlo
  by_cases hlm : l.length = m.length
  · have HNE : Hid (((l.length : Int) != (m.length : Int)) = false) := neF (by omega)
    have HB := hide hb
    have HLM := hide hlm
    clear hb hlm
    go_enter Tryd.func14, Tryd.ntmps14
    go_wp2_with (first
      | (show wpList _ _ _ (⟨some 7, .call _, _, _, _, _⟩ :: _) _ _; refine wpList_val rfl (op_len slSight rfl rfl (v := v) (xs := l.map sC) rfl (by exact hS.rd hv.rd)) ?_; rw [HL.out]; go_frame)
      | (show wpList _ _ _ (⟨some 9, .call _, _, _, _, _⟩ :: _) _ _; refine wpList_val rfl (op_len slSight rfl rfl (v := u) (xs := m.map sC) rfl (by exact hS.rd hu.rd)) ?_; rw [HM.out]; go_frame)
      | (show wpList _ _ _ (⟨some 12, .call _, _, _, _, _⟩ :: _) _ _; refine wpList_val rfl (op_len slSight rfl rfl (v := v) (xs := l.map sC) rfl (by exact hS.rd hv.rd)) ?_; rw [HL.out]; go_frame)
      | (show wpList _ _ _ (⟨some 10, .binOp _ _ _ _ _, _, _, _, _⟩ :: _) _ _; refine wpList_val rfl (op_ineI rfl rfl rfl HNE.out) ?_; go_frame)
      )
    go_loopw [13] (fun iv wr => ∃ (k : Nat), iv = .int .i64 k ∧ k ≤ l.length ∧ Hid ((l.take k).map (·.2) = (m.take k).map (·.2)) ∧ SepL All W wr []) (fun iv _ => l.length - (intOf iv).toNat)
    case atStart => exact ⟨0, rfl, by omega, rfl, hS⟩
    case round =>
      clear hS
      obtain ⟨k, rfl, hk, HQ, hS⟩ := hrel
      by_cases hlt : k < l.length
      · have hmk : k < m.length := by have := HLM.out; omega
        have HLK : Hid (k < (l.map sC).length) := by unfold Hid; rw [HL.out]; exact hlt
        have HMK : Hid (k < (m.map sC).length) := by unfold Hid; rw [HM.out]; exact hmk
        obtain ⟨⟨p1, s⟩, hx⟩ : ∃ x, l[k] = x := ⟨_, rfl⟩
        obtain ⟨⟨p2, t⟩, hy⟩ : ∃ x, m[k] = x := ⟨_, rfl⟩
        have hxm : (p1, s) ∈ l := by rw [← hx]; exact List.getElem_mem hlt
        have hym : (p2, t) ∈ m := by rw [← hy]; exact List.getElem_mem hmk
        have HV : ∀ j : Nat, ((l.map sC)[k]'HLK.out)[j]? = (sC (p1, s))[j]? := fun j => by rw [List.getElem_map, hx]
        have HU : ∀ j : Nat, ((m.map sC)[k]'HMK.out)[j]? = (sC (p2, t))[j]? := fun j => by rw [List.getElem_map, hy]
        have HV0 : Hid (((l.map sC)[k]'HLK.out)[0]? = some (I64 s.src)) := HV 0
        have HV1 : Hid (((l.map sC)[k]'HLK.out)[1]? = some (I64 s.to)) := HV 1
        have HV2 : Hid (((l.map sC)[k]'HLK.out)[2]? = some (I64 s.lane)) := HV 2
        have HV3 : Hid (((l.map sC)[k]'HLK.out)[3]? = some p1) := HV 3
        have HU0 : Hid (((m.map sC)[k]'HMK.out)[0]? = some (I64 t.src)) := HU 0
        have HU1 : Hid (((m.map sC)[k]'HMK.out)[1]? = some (I64 t.to)) := HU 1
        have HU2 : Hid (((m.map sC)[k]'HMK.out)[2]? = some (I64 t.lane)) := HU 2
        have HU3 : Hid (((m.map sC)[k]'HMK.out)[3]? = some p2) := HU 3
        have HP1 := hide (hv.at_ _ hxm)
        have HP2 := hide (hu.at_ _ hym)
        have HSM : Hid (s.bytes.length ≤ 9223372036854775807) := by
          have := HLO.out _ hxm
          unfold Hid
          simp only at this
          omega
        have hex : l[k].2 = s := by rw [hx]
        have hey : m[k].2 = t := by rw [hy]
        by_cases h1 : s.src = t.src
        · have H1 := neF h1
          by_cases h2 : s.to = t.to
          · have H2 := neF h2
            by_cases h3 : s.lane = t.lane
            · have H3 := neF h3
              by_cases h4 : s.bytes = t.bytes
              · have H4 : Hid (decide (s.bytes = t.bytes) = true) := decT h4
                have HQN : Hid ((l.take (k + 1)).map (·.2) = (m.take (k + 1)).map (·.2)) := snd_take hlt hmk HQ.out (by rw [hex, hey]; exact ps_ext h1 h2 h3 h4)
                clear hx hy hxm hym HV HU hex hey h1 h2 h3 h4 hmk
                go_wp2_with fail
                refine wp_region_text (by kernel_rfl) (by kernel_rfl) (by repeat (first | exact Clean.body | refine Clean.then ?_ | refine Clean.inBlock ?_)) ?_
                replace hS := hS.drew
                go_wp2_with (first
                  | go_big_skip
                  | (show wpList _ _ _ (⟨_, .indexAddr _ _ _, _, _, _, _⟩ :: _) _ _; refine wpList_val rfl (op_indexAddr slSight rfl (v := v) (xs := l.map sC) rfl (k := k) rfl (by exact hS.rd hv.rd) HLK.out) ?_; go_frame)
                  | (show wpList _ _ _ (⟨_, .indexAddr _ _ _, _, _, _, _⟩ :: _) _ _; refine wpList_val rfl (op_indexAddr slSight rfl (v := u) (xs := m.map sC) rfl (k := k) rfl (by exact hS.rd hu.rd) HMK.out) ?_; go_frame)
                  | (show wpList _ _ _ (⟨_, .fieldAddr _ _ 0, _, _, _, _⟩ :: _) _ _; refine wpList_val rfl (op_fieldAddrE (j := 0) (by kernel_rfl) rfl (n := 4) (v := v) (k := k) (xs := l.map sC) rfl (by exact hS.rd hv.rd) HLK.out) ?_; go_frame)
                  | (show wpList _ _ _ (⟨_, .fieldAddr _ _ 0, _, _, _, _⟩ :: _) _ _; refine wpList_val rfl (op_fieldAddrE (j := 0) (by kernel_rfl) rfl (n := 4) (v := u) (k := k) (xs := m.map sC) rfl (by exact hS.rd hu.rd) HMK.out) ?_; go_frame)
                  | (show wpList _ _ _ (⟨_, .fieldAddr _ _ 1, _, _, _, _⟩ :: _) _ _; refine wpList_val rfl (op_fieldAddrE (j := 1) (by kernel_rfl) rfl (n := 4) (v := v) (k := k) (xs := l.map sC) rfl (by exact hS.rd hv.rd) HLK.out) ?_; go_frame)
                  | (show wpList _ _ _ (⟨_, .fieldAddr _ _ 1, _, _, _, _⟩ :: _) _ _; refine wpList_val rfl (op_fieldAddrE (j := 1) (by kernel_rfl) rfl (n := 4) (v := u) (k := k) (xs := m.map sC) rfl (by exact hS.rd hu.rd) HMK.out) ?_; go_frame)
                  | (show wpList _ _ _ (⟨_, .fieldAddr _ _ 2, _, _, _, _⟩ :: _) _ _; refine wpList_val rfl (op_fieldAddrE (j := 2) (by kernel_rfl) rfl (n := 4) (v := v) (k := k) (xs := l.map sC) rfl (by exact hS.rd hv.rd) HLK.out) ?_; go_frame)
                  | (show wpList _ _ _ (⟨_, .fieldAddr _ _ 2, _, _, _, _⟩ :: _) _ _; refine wpList_val rfl (op_fieldAddrE (j := 2) (by kernel_rfl) rfl (n := 4) (v := u) (k := k) (xs := m.map sC) rfl (by exact hS.rd hu.rd) HMK.out) ?_; go_frame)
                  | (show wpList _ _ _ (⟨_, .fieldAddr _ _ 3, _, _, _, _⟩ :: _) _ _; refine wpList_val rfl (op_fieldAddrE (j := 3) (by kernel_rfl) rfl (n := 4) (v := v) (k := k) (xs := l.map sC) rfl (by exact hS.rd hv.rd) HLK.out) ?_; go_frame)
                  | (show wpList _ _ _ (⟨_, .fieldAddr _ _ 3, _, _, _, _⟩ :: _) _ _; refine wpList_val rfl (op_fieldAddrE (j := 3) (by kernel_rfl) rfl (n := 4) (v := u) (k := k) (xs := m.map sC) rfl (by exact hS.rd hu.rd) HMK.out) ?_; go_frame)
                  | (show wpList _ _ _ (⟨some 20, .load _ _, _, _, _, _⟩ :: _) _ _; refine wpList_val rfl (op_loadF1 oneInt rfl (n := 4) (v := v) (k := k) (j := 0) (xs := l.map sC) rfl (by exact hS.rd hv.rd) HLK.out (u := I64 s.src) HV0.out) ?_; go_frame)
                  | (show wpList _ _ _ (⟨some 25, .load _ _, _, _, _, _⟩ :: _) _ _; refine wpList_val rfl (op_loadF1 oneInt rfl (n := 4) (v := u) (k := k) (j := 0) (xs := m.map sC) rfl (by exact hS.rd hu.rd) HMK.out (u := I64 t.src) HU0.out) ?_; go_frame)
                  | (show wpList _ _ _ (⟨some 26, .binOp _ _ _ _ _, _, _, _, _⟩ :: _) _ _; refine wpList_val rfl (op_ineI rfl rfl rfl H1.out) ?_; go_frame)
                  | (show wpList _ _ _ (⟨some 32, .load _ _, _, _, _, _⟩ :: _) _ _; refine wpList_val rfl (op_loadF1 oneInt rfl (n := 4) (v := v) (k := k) (j := 1) (xs := l.map sC) rfl (by exact hS.rd hv.rd) HLK.out (u := I64 s.to) HV1.out) ?_; go_frame)
                  | (show wpList _ _ _ (⟨some 37, .load _ _, _, _, _, _⟩ :: _) _ _; refine wpList_val rfl (op_loadF1 oneInt rfl (n := 4) (v := u) (k := k) (j := 1) (xs := m.map sC) rfl (by exact hS.rd hu.rd) HMK.out (u := I64 t.to) HU1.out) ?_; go_frame)
                  | (show wpList _ _ _ (⟨some 38, .binOp _ _ _ _ _, _, _, _, _⟩ :: _) _ _; refine wpList_val rfl (op_ineI rfl rfl rfl H2.out) ?_; go_frame)
                  | (show wpList _ _ _ (⟨some 45, .load _ _, _, _, _, _⟩ :: _) _ _; refine wpList_val rfl (op_loadF1 oneInt rfl (n := 4) (v := v) (k := k) (j := 2) (xs := l.map sC) rfl (by exact hS.rd hv.rd) HLK.out (u := I64 s.lane) HV2.out) ?_; go_frame)
                  | (show wpList _ _ _ (⟨some 50, .load _ _, _, _, _, _⟩ :: _) _ _; refine wpList_val rfl (op_loadF1 oneInt rfl (n := 4) (v := u) (k := k) (j := 2) (xs := m.map sC) rfl (by exact hS.rd hu.rd) HMK.out (u := I64 t.lane) HU2.out) ?_; go_frame)
                  | (show wpList _ _ _ (⟨some 51, .binOp _ _ _ _ _, _, _, _, _⟩ :: _) _ _; refine wpList_val rfl (op_ineI rfl rfl rfl H3.out) ?_; go_frame)
                  | (show wpList _ _ _ (⟨some 58, .load _ _, _, _, _, _⟩ :: _) _ _; refine wpList_val rfl (op_loadF1 oneBytes rfl (n := 4) (v := v) (k := k) (j := 3) (xs := l.map sC) rfl (by exact hS.rd hv.rd) HLK.out (u := p1) HV3.out) ?_; go_frame)
                  | (show wpList _ _ _ (⟨some 63, .load _ _, _, _, _, _⟩ :: _) _ _; refine wpList_val rfl (op_loadF1 oneBytes rfl (n := 4) (v := u) (k := k) (j := 3) (xs := m.map sC) rfl (by exact hS.rd hu.rd) HMK.out (u := p2) HU3.out) ?_; go_frame)
                  | (go_at_call 29; refine Ret.calls (rsame_s hS HP1.out HP2.out HSM.out H4.out) ?_; clear hS; rintro r w ⟨rfl, hS⟩)
                  | (refine fin_mk (by kernel_rfl) ?_)
                  )
                go_wp2_with fail
                go_roundw
                case rel => exact ⟨k + 1, by go_num, by omega, HQN, hS⟩
                case measure => simp [intOf]; omega
              · have H4 : Hid (decide (s.bytes = t.bytes) = false) := decF h4
                have HBF : Hid (b = false) := by
                  unfold Hid
                  rw [← Bool.not_eq_true, HB.out]
                  exact snd_ne hlt hmk (by rw [hex, hey]; rintro rfl; exact h4 rfl)
                clear hx hy hxm hym HV HU hex hey h1 h2 h3 h4 hmk
                go_wp2_with fail
                refine wp_region_text (by kernel_rfl) (by kernel_rfl) (by repeat (first | exact Clean.body | refine Clean.then ?_ | refine Clean.inBlock ?_)) ?_
                replace hS := hS.drew
                go_wp2_with (first
                  | go_big_skip
                  | (show wpList _ _ _ (⟨_, .indexAddr _ _ _, _, _, _, _⟩ :: _) _ _; refine wpList_val rfl (op_indexAddr slSight rfl (v := v) (xs := l.map sC) rfl (k := k) rfl (by exact hS.rd hv.rd) HLK.out) ?_; go_frame)
                  | (show wpList _ _ _ (⟨_, .indexAddr _ _ _, _, _, _, _⟩ :: _) _ _; refine wpList_val rfl (op_indexAddr slSight rfl (v := u) (xs := m.map sC) rfl (k := k) rfl (by exact hS.rd hu.rd) HMK.out) ?_; go_frame)
                  | (show wpList _ _ _ (⟨_, .fieldAddr _ _ 0, _, _, _, _⟩ :: _) _ _; refine wpList_val rfl (op_fieldAddrE (j := 0) (by kernel_rfl) rfl (n := 4) (v := v) (k := k) (xs := l.map sC) rfl (by exact hS.rd hv.rd) HLK.out) ?_; go_frame)
                  | (show wpList _ _ _ (⟨_, .fieldAddr _ _ 0, _, _, _, _⟩ :: _) _ _; refine wpList_val rfl (op_fieldAddrE (j := 0) (by kernel_rfl) rfl (n := 4) (v := u) (k := k) (xs := m.map sC) rfl (by exact hS.rd hu.rd) HMK.out) ?_; go_frame)
                  | (show wpList _ _ _ (⟨_, .fieldAddr _ _ 1, _, _, _, _⟩ :: _) _ _; refine wpList_val rfl (op_fieldAddrE (j := 1) (by kernel_rfl) rfl (n := 4) (v := v) (k := k) (xs := l.map sC) rfl (by exact hS.rd hv.rd) HLK.out) ?_; go_frame)
                  | (show wpList _ _ _ (⟨_, .fieldAddr _ _ 1, _, _, _, _⟩ :: _) _ _; refine wpList_val rfl (op_fieldAddrE (j := 1) (by kernel_rfl) rfl (n := 4) (v := u) (k := k) (xs := m.map sC) rfl (by exact hS.rd hu.rd) HMK.out) ?_; go_frame)
                  | (show wpList _ _ _ (⟨_, .fieldAddr _ _ 2, _, _, _, _⟩ :: _) _ _; refine wpList_val rfl (op_fieldAddrE (j := 2) (by kernel_rfl) rfl (n := 4) (v := v) (k := k) (xs := l.map sC) rfl (by exact hS.rd hv.rd) HLK.out) ?_; go_frame)
                  | (show wpList _ _ _ (⟨_, .fieldAddr _ _ 2, _, _, _, _⟩ :: _) _ _; refine wpList_val rfl (op_fieldAddrE (j := 2) (by kernel_rfl) rfl (n := 4) (v := u) (k := k) (xs := m.map sC) rfl (by exact hS.rd hu.rd) HMK.out) ?_; go_frame)
                  | (show wpList _ _ _ (⟨_, .fieldAddr _ _ 3, _, _, _, _⟩ :: _) _ _; refine wpList_val rfl (op_fieldAddrE (j := 3) (by kernel_rfl) rfl (n := 4) (v := v) (k := k) (xs := l.map sC) rfl (by exact hS.rd hv.rd) HLK.out) ?_; go_frame)
                  | (show wpList _ _ _ (⟨_, .fieldAddr _ _ 3, _, _, _, _⟩ :: _) _ _; refine wpList_val rfl (op_fieldAddrE (j := 3) (by kernel_rfl) rfl (n := 4) (v := u) (k := k) (xs := m.map sC) rfl (by exact hS.rd hu.rd) HMK.out) ?_; go_frame)
                  | (show wpList _ _ _ (⟨some 20, .load _ _, _, _, _, _⟩ :: _) _ _; refine wpList_val rfl (op_loadF1 oneInt rfl (n := 4) (v := v) (k := k) (j := 0) (xs := l.map sC) rfl (by exact hS.rd hv.rd) HLK.out (u := I64 s.src) HV0.out) ?_; go_frame)
                  | (show wpList _ _ _ (⟨some 25, .load _ _, _, _, _, _⟩ :: _) _ _; refine wpList_val rfl (op_loadF1 oneInt rfl (n := 4) (v := u) (k := k) (j := 0) (xs := m.map sC) rfl (by exact hS.rd hu.rd) HMK.out (u := I64 t.src) HU0.out) ?_; go_frame)
                  | (show wpList _ _ _ (⟨some 26, .binOp _ _ _ _ _, _, _, _, _⟩ :: _) _ _; refine wpList_val rfl (op_ineI rfl rfl rfl H1.out) ?_; go_frame)
                  | (show wpList _ _ _ (⟨some 32, .load _ _, _, _, _, _⟩ :: _) _ _; refine wpList_val rfl (op_loadF1 oneInt rfl (n := 4) (v := v) (k := k) (j := 1) (xs := l.map sC) rfl (by exact hS.rd hv.rd) HLK.out (u := I64 s.to) HV1.out) ?_; go_frame)
                  | (show wpList _ _ _ (⟨some 37, .load _ _, _, _, _, _⟩ :: _) _ _; refine wpList_val rfl (op_loadF1 oneInt rfl (n := 4) (v := u) (k := k) (j := 1) (xs := m.map sC) rfl (by exact hS.rd hu.rd) HMK.out (u := I64 t.to) HU1.out) ?_; go_frame)
                  | (show wpList _ _ _ (⟨some 38, .binOp _ _ _ _ _, _, _, _, _⟩ :: _) _ _; refine wpList_val rfl (op_ineI rfl rfl rfl H2.out) ?_; go_frame)
                  | (show wpList _ _ _ (⟨some 45, .load _ _, _, _, _, _⟩ :: _) _ _; refine wpList_val rfl (op_loadF1 oneInt rfl (n := 4) (v := v) (k := k) (j := 2) (xs := l.map sC) rfl (by exact hS.rd hv.rd) HLK.out (u := I64 s.lane) HV2.out) ?_; go_frame)
                  | (show wpList _ _ _ (⟨some 50, .load _ _, _, _, _, _⟩ :: _) _ _; refine wpList_val rfl (op_loadF1 oneInt rfl (n := 4) (v := u) (k := k) (j := 2) (xs := m.map sC) rfl (by exact hS.rd hu.rd) HMK.out (u := I64 t.lane) HU2.out) ?_; go_frame)
                  | (show wpList _ _ _ (⟨some 51, .binOp _ _ _ _ _, _, _, _, _⟩ :: _) _ _; refine wpList_val rfl (op_ineI rfl rfl rfl H3.out) ?_; go_frame)
                  | (show wpList _ _ _ (⟨some 58, .load _ _, _, _, _, _⟩ :: _) _ _; refine wpList_val rfl (op_loadF1 oneBytes rfl (n := 4) (v := v) (k := k) (j := 3) (xs := l.map sC) rfl (by exact hS.rd hv.rd) HLK.out (u := p1) HV3.out) ?_; go_frame)
                  | (show wpList _ _ _ (⟨some 63, .load _ _, _, _, _, _⟩ :: _) _ _; refine wpList_val rfl (op_loadF1 oneBytes rfl (n := 4) (v := u) (k := k) (j := 3) (xs := m.map sC) rfl (by exact hS.rd hu.rd) HMK.out (u := p2) HU3.out) ?_; go_frame)
                  | (go_at_call 29; refine Ret.calls (rsame_s hS HP1.out HP2.out HSM.out H4.out) ?_; clear hS; rintro r w ⟨rfl, hS⟩)
                  | (refine fin_mk (by kernel_rfl) ?_)
                  )
                go_ret
                exact ⟨by rw [HBF.out]; rfl, hS.chg⟩
            · have H3 := neT h3
              have HBF : Hid (b = false) := by
                unfold Hid
                rw [← Bool.not_eq_true, HB.out]
                exact snd_ne hlt hmk (by rw [hex, hey]; rintro rfl; exact h3 rfl)
              clear hx hy hxm hym HV HU hex hey h1 h2 h3 hmk
              go_wp2_with fail
              refine wp_region_text (by kernel_rfl) (by kernel_rfl) (by repeat (first | exact Clean.body | refine Clean.then ?_ | refine Clean.inBlock ?_)) ?_
              replace hS := hS.drew
              go_wp2_with (first
                | go_big_skip
                | (show wpList _ _ _ (⟨_, .indexAddr _ _ _, _, _, _, _⟩ :: _) _ _; refine wpList_val rfl (op_indexAddr slSight rfl (v := v) (xs := l.map sC) rfl (k := k) rfl (by exact hS.rd hv.rd) HLK.out) ?_; go_frame)
                | (show wpList _ _ _ (⟨_, .indexAddr _ _ _, _, _, _, _⟩ :: _) _ _; refine wpList_val rfl (op_indexAddr slSight rfl (v := u) (xs := m.map sC) rfl (k := k) rfl (by exact hS.rd hu.rd) HMK.out) ?_; go_frame)
                | (show wpList _ _ _ (⟨_, .fieldAddr _ _ 0, _, _, _, _⟩ :: _) _ _; refine wpList_val rfl (op_fieldAddrE (j := 0) (by kernel_rfl) rfl (n := 4) (v := v) (k := k) (xs := l.map sC) rfl (by exact hS.rd hv.rd) HLK.out) ?_; go_frame)
                | (show wpList _ _ _ (⟨_, .fieldAddr _ _ 0, _, _, _, _⟩ :: _) _ _; refine wpList_val rfl (op_fieldAddrE (j := 0) (by kernel_rfl) rfl (n := 4) (v := u) (k := k) (xs := m.map sC) rfl (by exact hS.rd hu.rd) HMK.out) ?_; go_frame)
                | (show wpList _ _ _ (⟨_, .fieldAddr _ _ 1, _, _, _, _⟩ :: _) _ _; refine wpList_val rfl (op_fieldAddrE (j := 1) (by kernel_rfl) rfl (n := 4) (v := v) (k := k) (xs := l.map sC) rfl (by exact hS.rd hv.rd) HLK.out) ?_; go_frame)
                | (show wpList _ _ _ (⟨_, .fieldAddr _ _ 1, _, _, _, _⟩ :: _) _ _; refine wpList_val rfl (op_fieldAddrE (j := 1) (by kernel_rfl) rfl (n := 4) (v := u) (k := k) (xs := m.map sC) rfl (by exact hS.rd hu.rd) HMK.out) ?_; go_frame)
                | (show wpList _ _ _ (⟨_, .fieldAddr _ _ 2, _, _, _, _⟩ :: _) _ _; refine wpList_val rfl (op_fieldAddrE (j := 2) (by kernel_rfl) rfl (n := 4) (v := v) (k := k) (xs := l.map sC) rfl (by exact hS.rd hv.rd) HLK.out) ?_; go_frame)
                | (show wpList _ _ _ (⟨_, .fieldAddr _ _ 2, _, _, _, _⟩ :: _) _ _; refine wpList_val rfl (op_fieldAddrE (j := 2) (by kernel_rfl) rfl (n := 4) (v := u) (k := k) (xs := m.map sC) rfl (by exact hS.rd hu.rd) HMK.out) ?_; go_frame)
                | (show wpList _ _ _ (⟨_, .fieldAddr _ _ 3, _, _, _, _⟩ :: _) _ _; refine wpList_val rfl (op_fieldAddrE (j := 3) (by kernel_rfl) rfl (n := 4) (v := v) (k := k) (xs := l.map sC) rfl (by exact hS.rd hv.rd) HLK.out) ?_; go_frame)
                | (show wpList _ _ _ (⟨_, .fieldAddr _ _ 3, _, _, _, _⟩ :: _) _ _; refine wpList_val rfl (op_fieldAddrE (j := 3) (by kernel_rfl) rfl (n := 4) (v := u) (k := k) (xs := m.map sC) rfl (by exact hS.rd hu.rd) HMK.out) ?_; go_frame)
                | (show wpList _ _ _ (⟨some 20, .load _ _, _, _, _, _⟩ :: _) _ _; refine wpList_val rfl (op_loadF1 oneInt rfl (n := 4) (v := v) (k := k) (j := 0) (xs := l.map sC) rfl (by exact hS.rd hv.rd) HLK.out (u := I64 s.src) HV0.out) ?_; go_frame)
                | (show wpList _ _ _ (⟨some 25, .load _ _, _, _, _, _⟩ :: _) _ _; refine wpList_val rfl (op_loadF1 oneInt rfl (n := 4) (v := u) (k := k) (j := 0) (xs := m.map sC) rfl (by exact hS.rd hu.rd) HMK.out (u := I64 t.src) HU0.out) ?_; go_frame)
                | (show wpList _ _ _ (⟨some 26, .binOp _ _ _ _ _, _, _, _, _⟩ :: _) _ _; refine wpList_val rfl (op_ineI rfl rfl rfl H1.out) ?_; go_frame)
                | (show wpList _ _ _ (⟨some 32, .load _ _, _, _, _, _⟩ :: _) _ _; refine wpList_val rfl (op_loadF1 oneInt rfl (n := 4) (v := v) (k := k) (j := 1) (xs := l.map sC) rfl (by exact hS.rd hv.rd) HLK.out (u := I64 s.to) HV1.out) ?_; go_frame)
                | (show wpList _ _ _ (⟨some 37, .load _ _, _, _, _, _⟩ :: _) _ _; refine wpList_val rfl (op_loadF1 oneInt rfl (n := 4) (v := u) (k := k) (j := 1) (xs := m.map sC) rfl (by exact hS.rd hu.rd) HMK.out (u := I64 t.to) HU1.out) ?_; go_frame)
                | (show wpList _ _ _ (⟨some 38, .binOp _ _ _ _ _, _, _, _, _⟩ :: _) _ _; refine wpList_val rfl (op_ineI rfl rfl rfl H2.out) ?_; go_frame)
                | (show wpList _ _ _ (⟨some 45, .load _ _, _, _, _, _⟩ :: _) _ _; refine wpList_val rfl (op_loadF1 oneInt rfl (n := 4) (v := v) (k := k) (j := 2) (xs := l.map sC) rfl (by exact hS.rd hv.rd) HLK.out (u := I64 s.lane) HV2.out) ?_; go_frame)
                | (show wpList _ _ _ (⟨some 50, .load _ _, _, _, _, _⟩ :: _) _ _; refine wpList_val rfl (op_loadF1 oneInt rfl (n := 4) (v := u) (k := k) (j := 2) (xs := m.map sC) rfl (by exact hS.rd hu.rd) HMK.out (u := I64 t.lane) HU2.out) ?_; go_frame)
                | (show wpList _ _ _ (⟨some 51, .binOp _ _ _ _ _, _, _, _, _⟩ :: _) _ _; refine wpList_val rfl (op_ineI rfl rfl rfl H3.out) ?_; go_frame)
                | (show wpList _ _ _ (⟨some 58, .load _ _, _, _, _, _⟩ :: _) _ _; refine wpList_val rfl (op_loadF1 oneBytes rfl (n := 4) (v := v) (k := k) (j := 3) (xs := l.map sC) rfl (by exact hS.rd hv.rd) HLK.out (u := p1) HV3.out) ?_; go_frame)
                | (show wpList _ _ _ (⟨some 63, .load _ _, _, _, _, _⟩ :: _) _ _; refine wpList_val rfl (op_loadF1 oneBytes rfl (n := 4) (v := u) (k := k) (j := 3) (xs := m.map sC) rfl (by exact hS.rd hu.rd) HMK.out (u := p2) HU3.out) ?_; go_frame)
                | (go_at_call 29; refine Ret.calls (rsame_s hS HP1.out HP2.out HSM.out H4.out) ?_; clear hS; rintro r w ⟨rfl, hS⟩)
                | (refine fin_mk (by kernel_rfl) ?_)
                )
              go_ret
              exact ⟨by rw [HBF.out]; rfl, hS.chg⟩
          · have H2 := neT h2
            have HBF : Hid (b = false) := by
              unfold Hid
              rw [← Bool.not_eq_true, HB.out]
              exact snd_ne hlt hmk (by rw [hex, hey]; rintro rfl; exact h2 rfl)
            clear hx hy hxm hym HV HU hex hey h1 h2 hmk
            go_wp2_with fail
            refine wp_region_text (by kernel_rfl) (by kernel_rfl) (by repeat (first | exact Clean.body | refine Clean.then ?_ | refine Clean.inBlock ?_)) ?_
            replace hS := hS.drew
            go_wp2_with (first
              | go_big_skip
              | (show wpList _ _ _ (⟨_, .indexAddr _ _ _, _, _, _, _⟩ :: _) _ _; refine wpList_val rfl (op_indexAddr slSight rfl (v := v) (xs := l.map sC) rfl (k := k) rfl (by exact hS.rd hv.rd) HLK.out) ?_; go_frame)
              | (show wpList _ _ _ (⟨_, .indexAddr _ _ _, _, _, _, _⟩ :: _) _ _; refine wpList_val rfl (op_indexAddr slSight rfl (v := u) (xs := m.map sC) rfl (k := k) rfl (by exact hS.rd hu.rd) HMK.out) ?_; go_frame)
              | (show wpList _ _ _ (⟨_, .fieldAddr _ _ 0, _, _, _, _⟩ :: _) _ _; refine wpList_val rfl (op_fieldAddrE (j := 0) (by kernel_rfl) rfl (n := 4) (v := v) (k := k) (xs := l.map sC) rfl (by exact hS.rd hv.rd) HLK.out) ?_; go_frame)
              | (show wpList _ _ _ (⟨_, .fieldAddr _ _ 0, _, _, _, _⟩ :: _) _ _; refine wpList_val rfl (op_fieldAddrE (j := 0) (by kernel_rfl) rfl (n := 4) (v := u) (k := k) (xs := m.map sC) rfl (by exact hS.rd hu.rd) HMK.out) ?_; go_frame)
              | (show wpList _ _ _ (⟨_, .fieldAddr _ _ 1, _, _, _, _⟩ :: _) _ _; refine wpList_val rfl (op_fieldAddrE (j := 1) (by kernel_rfl) rfl (n := 4) (v := v) (k := k) (xs := l.map sC) rfl (by exact hS.rd hv.rd) HLK.out) ?_; go_frame)
              | (show wpList _ _ _ (⟨_, .fieldAddr _ _ 1, _, _, _, _⟩ :: _) _ _; refine wpList_val rfl (op_fieldAddrE (j := 1) (by kernel_rfl) rfl (n := 4) (v := u) (k := k) (xs := m.map sC) rfl (by exact hS.rd hu.rd) HMK.out) ?_; go_frame)
              | (show wpList _ _ _ (⟨_, .fieldAddr _ _ 2, _, _, _, _⟩ :: _) _ _; refine wpList_val rfl (op_fieldAddrE (j := 2) (by kernel_rfl) rfl (n := 4) (v := v) (k := k) (xs := l.map sC) rfl (by exact hS.rd hv.rd) HLK.out) ?_; go_frame)
              | (show wpList _ _ _ (⟨_, .fieldAddr _ _ 2, _, _, _, _⟩ :: _) _ _; refine wpList_val rfl (op_fieldAddrE (j := 2) (by kernel_rfl) rfl (n := 4) (v := u) (k := k) (xs := m.map sC) rfl (by exact hS.rd hu.rd) HMK.out) ?_; go_frame)
              | (show wpList _ _ _ (⟨_, .fieldAddr _ _ 3, _, _, _, _⟩ :: _) _ _; refine wpList_val rfl (op_fieldAddrE (j := 3) (by kernel_rfl) rfl (n := 4) (v := v) (k := k) (xs := l.map sC) rfl (by exact hS.rd hv.rd) HLK.out) ?_; go_frame)
              | (show wpList _ _ _ (⟨_, .fieldAddr _ _ 3, _, _, _, _⟩ :: _) _ _; refine wpList_val rfl (op_fieldAddrE (j := 3) (by kernel_rfl) rfl (n := 4) (v := u) (k := k) (xs := m.map sC) rfl (by exact hS.rd hu.rd) HMK.out) ?_; go_frame)
              | (show wpList _ _ _ (⟨some 20, .load _ _, _, _, _, _⟩ :: _) _ _; refine wpList_val rfl (op_loadF1 oneInt rfl (n := 4) (v := v) (k := k) (j := 0) (xs := l.map sC) rfl (by exact hS.rd hv.rd) HLK.out (u := I64 s.src) HV0.out) ?_; go_frame)
              | (show wpList _ _ _ (⟨some 25, .load _ _, _, _, _, _⟩ :: _) _ _; refine wpList_val rfl (op_loadF1 oneInt rfl (n := 4) (v := u) (k := k) (j := 0) (xs := m.map sC) rfl (by exact hS.rd hu.rd) HMK.out (u := I64 t.src) HU0.out) ?_; go_frame)
              | (show wpList _ _ _ (⟨some 26, .binOp _ _ _ _ _, _, _, _, _⟩ :: _) _ _; refine wpList_val rfl (op_ineI rfl rfl rfl H1.out) ?_; go_frame)
              | (show wpList _ _ _ (⟨some 32, .load _ _, _, _, _, _⟩ :: _) _ _; refine wpList_val rfl (op_loadF1 oneInt rfl (n := 4) (v := v) (k := k) (j := 1) (xs := l.map sC) rfl (by exact hS.rd hv.rd) HLK.out (u := I64 s.to) HV1.out) ?_; go_frame)
              | (show wpList _ _ _ (⟨some 37, .load _ _, _, _, _, _⟩ :: _) _ _; refine wpList_val rfl (op_loadF1 oneInt rfl (n := 4) (v := u) (k := k) (j := 1) (xs := m.map sC) rfl (by exact hS.rd hu.rd) HMK.out (u := I64 t.to) HU1.out) ?_; go_frame)
              | (show wpList _ _ _ (⟨some 38, .binOp _ _ _ _ _, _, _, _, _⟩ :: _) _ _; refine wpList_val rfl (op_ineI rfl rfl rfl H2.out) ?_; go_frame)
              | (show wpList _ _ _ (⟨some 45, .load _ _, _, _, _, _⟩ :: _) _ _; refine wpList_val rfl (op_loadF1 oneInt rfl (n := 4) (v := v) (k := k) (j := 2) (xs := l.map sC) rfl (by exact hS.rd hv.rd) HLK.out (u := I64 s.lane) HV2.out) ?_; go_frame)
              | (show wpList _ _ _ (⟨some 50, .load _ _, _, _, _, _⟩ :: _) _ _; refine wpList_val rfl (op_loadF1 oneInt rfl (n := 4) (v := u) (k := k) (j := 2) (xs := m.map sC) rfl (by exact hS.rd hu.rd) HMK.out (u := I64 t.lane) HU2.out) ?_; go_frame)
              | (show wpList _ _ _ (⟨some 51, .binOp _ _ _ _ _, _, _, _, _⟩ :: _) _ _; refine wpList_val rfl (op_ineI rfl rfl rfl H3.out) ?_; go_frame)
              | (show wpList _ _ _ (⟨some 58, .load _ _, _, _, _, _⟩ :: _) _ _; refine wpList_val rfl (op_loadF1 oneBytes rfl (n := 4) (v := v) (k := k) (j := 3) (xs := l.map sC) rfl (by exact hS.rd hv.rd) HLK.out (u := p1) HV3.out) ?_; go_frame)
              | (show wpList _ _ _ (⟨some 63, .load _ _, _, _, _, _⟩ :: _) _ _; refine wpList_val rfl (op_loadF1 oneBytes rfl (n := 4) (v := u) (k := k) (j := 3) (xs := m.map sC) rfl (by exact hS.rd hu.rd) HMK.out (u := p2) HU3.out) ?_; go_frame)
              | (go_at_call 29; refine Ret.calls (rsame_s hS HP1.out HP2.out HSM.out H4.out) ?_; clear hS; rintro r w ⟨rfl, hS⟩)
              | (refine fin_mk (by kernel_rfl) ?_)
              )
            go_ret
            exact ⟨by rw [HBF.out]; rfl, hS.chg⟩
        · have H1 := neT h1
          have HBF : Hid (b = false) := by
            unfold Hid
            rw [← Bool.not_eq_true, HB.out]
            exact snd_ne hlt hmk (by rw [hex, hey]; rintro rfl; exact h1 rfl)
          clear hx hy hxm hym HV HU hex hey h1 hmk
          go_wp2_with fail
          refine wp_region_text (by kernel_rfl) (by kernel_rfl) (by repeat (first | exact Clean.body | refine Clean.then ?_ | refine Clean.inBlock ?_)) ?_
          replace hS := hS.drew
          go_wp2_with (first
            | go_big_skip
            | (show wpList _ _ _ (⟨_, .indexAddr _ _ _, _, _, _, _⟩ :: _) _ _; refine wpList_val rfl (op_indexAddr slSight rfl (v := v) (xs := l.map sC) rfl (k := k) rfl (by exact hS.rd hv.rd) HLK.out) ?_; go_frame)
            | (show wpList _ _ _ (⟨_, .indexAddr _ _ _, _, _, _, _⟩ :: _) _ _; refine wpList_val rfl (op_indexAddr slSight rfl (v := u) (xs := m.map sC) rfl (k := k) rfl (by exact hS.rd hu.rd) HMK.out) ?_; go_frame)
            | (show wpList _ _ _ (⟨_, .fieldAddr _ _ 0, _, _, _, _⟩ :: _) _ _; refine wpList_val rfl (op_fieldAddrE (j := 0) (by kernel_rfl) rfl (n := 4) (v := v) (k := k) (xs := l.map sC) rfl (by exact hS.rd hv.rd) HLK.out) ?_; go_frame)
            | (show wpList _ _ _ (⟨_, .fieldAddr _ _ 0, _, _, _, _⟩ :: _) _ _; refine wpList_val rfl (op_fieldAddrE (j := 0) (by kernel_rfl) rfl (n := 4) (v := u) (k := k) (xs := m.map sC) rfl (by exact hS.rd hu.rd) HMK.out) ?_; go_frame)
            | (show wpList _ _ _ (⟨_, .fieldAddr _ _ 1, _, _, _, _⟩ :: _) _ _; refine wpList_val rfl (op_fieldAddrE (j := 1) (by kernel_rfl) rfl (n := 4) (v := v) (k := k) (xs := l.map sC) rfl (by exact hS.rd hv.rd) HLK.out) ?_; go_frame)
            | (show wpList _ _ _ (⟨_, .fieldAddr _ _ 1, _, _, _, _⟩ :: _) _ _; refine wpList_val rfl (op_fieldAddrE (j := 1) (by kernel_rfl) rfl (n := 4) (v := u) (k := k) (xs := m.map sC) rfl (by exact hS.rd hu.rd) HMK.out) ?_; go_frame)
            | (show wpList _ _ _ (⟨_, .fieldAddr _ _ 2, _, _, _, _⟩ :: _) _ _; refine wpList_val rfl (op_fieldAddrE (j := 2) (by kernel_rfl) rfl (n := 4) (v := v) (k := k) (xs := l.map sC) rfl (by exact hS.rd hv.rd) HLK.out) ?_; go_frame)
            | (show wpList _ _ _ (⟨_, .fieldAddr _ _ 2, _, _, _, _⟩ :: _) _ _; refine wpList_val rfl (op_fieldAddrE (j := 2) (by kernel_rfl) rfl (n := 4) (v := u) (k := k) (xs := m.map sC) rfl (by exact hS.rd hu.rd) HMK.out) ?_; go_frame)
            | (show wpList _ _ _ (⟨_, .fieldAddr _ _ 3, _, _, _, _⟩ :: _) _ _; refine wpList_val rfl (op_fieldAddrE (j := 3) (by kernel_rfl) rfl (n := 4) (v := v) (k := k) (xs := l.map sC) rfl (by exact hS.rd hv.rd) HLK.out) ?_; go_frame)
            | (show wpList _ _ _ (⟨_, .fieldAddr _ _ 3, _, _, _, _⟩ :: _) _ _; refine wpList_val rfl (op_fieldAddrE (j := 3) (by kernel_rfl) rfl (n := 4) (v := u) (k := k) (xs := m.map sC) rfl (by exact hS.rd hu.rd) HMK.out) ?_; go_frame)
            | (show wpList _ _ _ (⟨some 20, .load _ _, _, _, _, _⟩ :: _) _ _; refine wpList_val rfl (op_loadF1 oneInt rfl (n := 4) (v := v) (k := k) (j := 0) (xs := l.map sC) rfl (by exact hS.rd hv.rd) HLK.out (u := I64 s.src) HV0.out) ?_; go_frame)
            | (show wpList _ _ _ (⟨some 25, .load _ _, _, _, _, _⟩ :: _) _ _; refine wpList_val rfl (op_loadF1 oneInt rfl (n := 4) (v := u) (k := k) (j := 0) (xs := m.map sC) rfl (by exact hS.rd hu.rd) HMK.out (u := I64 t.src) HU0.out) ?_; go_frame)
            | (show wpList _ _ _ (⟨some 26, .binOp _ _ _ _ _, _, _, _, _⟩ :: _) _ _; refine wpList_val rfl (op_ineI rfl rfl rfl H1.out) ?_; go_frame)
            | (show wpList _ _ _ (⟨some 32, .load _ _, _, _, _, _⟩ :: _) _ _; refine wpList_val rfl (op_loadF1 oneInt rfl (n := 4) (v := v) (k := k) (j := 1) (xs := l.map sC) rfl (by exact hS.rd hv.rd) HLK.out (u := I64 s.to) HV1.out) ?_; go_frame)
            | (show wpList _ _ _ (⟨some 37, .load _ _, _, _, _, _⟩ :: _) _ _; refine wpList_val rfl (op_loadF1 oneInt rfl (n := 4) (v := u) (k := k) (j := 1) (xs := m.map sC) rfl (by exact hS.rd hu.rd) HMK.out (u := I64 t.to) HU1.out) ?_; go_frame)
            | (show wpList _ _ _ (⟨some 38, .binOp _ _ _ _ _, _, _, _, _⟩ :: _) _ _; refine wpList_val rfl (op_ineI rfl rfl rfl H2.out) ?_; go_frame)
            | (show wpList _ _ _ (⟨some 45, .load _ _, _, _, _, _⟩ :: _) _ _; refine wpList_val rfl (op_loadF1 oneInt rfl (n := 4) (v := v) (k := k) (j := 2) (xs := l.map sC) rfl (by exact hS.rd hv.rd) HLK.out (u := I64 s.lane) HV2.out) ?_; go_frame)
            | (show wpList _ _ _ (⟨some 50, .load _ _, _, _, _, _⟩ :: _) _ _; refine wpList_val rfl (op_loadF1 oneInt rfl (n := 4) (v := u) (k := k) (j := 2) (xs := m.map sC) rfl (by exact hS.rd hu.rd) HMK.out (u := I64 t.lane) HU2.out) ?_; go_frame)
            | (show wpList _ _ _ (⟨some 51, .binOp _ _ _ _ _, _, _, _, _⟩ :: _) _ _; refine wpList_val rfl (op_ineI rfl rfl rfl H3.out) ?_; go_frame)
            | (show wpList _ _ _ (⟨some 58, .load _ _, _, _, _, _⟩ :: _) _ _; refine wpList_val rfl (op_loadF1 oneBytes rfl (n := 4) (v := v) (k := k) (j := 3) (xs := l.map sC) rfl (by exact hS.rd hv.rd) HLK.out (u := p1) HV3.out) ?_; go_frame)
            | (show wpList _ _ _ (⟨some 63, .load _ _, _, _, _, _⟩ :: _) _ _; refine wpList_val rfl (op_loadF1 oneBytes rfl (n := 4) (v := u) (k := k) (j := 3) (xs := m.map sC) rfl (by exact hS.rd hu.rd) HMK.out (u := p2) HU3.out) ?_; go_frame)
            | (go_at_call 29; refine Ret.calls (rsame_s hS HP1.out HP2.out HSM.out H4.out) ?_; clear hS; rintro r w ⟨rfl, hS⟩)
            | (refine fin_mk (by kernel_rfl) ?_)
            )
          go_ret
          exact ⟨by rw [HBF.out]; rfl, hS.chg⟩
      · have hk2 : k = l.length := by omega
        subst hk2
        have hq := HQ.out
        rw [List.take_length, List.take_of_length_le (by have := HLM.out; omega)] at hq
        have HBT : Hid (b = true) := HB.out.2 hq
        go_wp2_with fail
        go_ret
        exact ⟨by rw [HBT.out]; rfl, hS.chg⟩
  · have HNE : Hid (((l.length : Int) != (m.length : Int)) = true) := neT (by omega)
    have HBF : Hid (b = false) := by
      unfold Hid
      rw [← Bool.not_eq_true, hb]
      intro h
      apply hlm
      have := congrArg List.length h
      simpa using this
    clear hb hlm
    go_enter Tryd.func14, Tryd.ntmps14
    go_wp2_with (first
      | (show wpList _ _ _ (⟨some 7, .call _, _, _, _, _⟩ :: _) _ _; refine wpList_val rfl (op_len slSight rfl rfl (v := v) (xs := l.map sC) rfl (by exact hS.rd hv.rd)) ?_; rw [HL.out]; go_frame)
      | (show wpList _ _ _ (⟨some 9, .call _, _, _, _, _⟩ :: _) _ _; refine wpList_val rfl (op_len slSight rfl rfl (v := u) (xs := m.map sC) rfl (by exact hS.rd hu.rd)) ?_; rw [HM.out]; go_frame)
      | (show wpList _ _ _ (⟨some 12, .call _, _, _, _, _⟩ :: _) _ _; refine wpList_val rfl (op_len slSight rfl rfl (v := v) (xs := l.map sC) rfl (by exact hS.rd hv.rd)) ?_; rw [HL.out]; go_frame)
      | (show wpList _ _ _ (⟨some 10, .binOp _ _ _ _ _, _, _, _, _⟩ :: _) _ _; refine wpList_val rfl (op_ineI rfl rfl rfl HNE.out) ?_; go_frame)
      )
    go_ret
    exact ⟨by rw [HBF.out]; rfl, hS.chg⟩
end Go.Proofs.YtnjeoaplohlgkaaDoor
