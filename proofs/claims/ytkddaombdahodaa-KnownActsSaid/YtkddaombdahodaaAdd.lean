/- Adding ids to a set of known ids leaves the list that the plain law says and returns the ids that were forgotten. Conditions: those that stand ahead of each theorem. -/
import Derived.Test.YtkddaombdahodaaSet
namespace Go.Proofs.Ytkddaombdahodaa
open Go.RowKit Go.Px

theorem own_cells {T n : Nat} {w : World} {v : Value} {xs : List (List Value)} (h : Own T n w v xs) : v.cells = #[v] ∧ v.oneCell' = true := by
  rcases h.2 with ⟨rfl, _⟩ | ⟨b, off, cap, C, rfl, _⟩ <;> exact ⟨rfl, rfl⟩
/-- what holds at a round's head -/
structure AddAt (w wr : World) (p most : Nat) (L : List (List Value)) (S : Nat → Prop) (l : List (List Value)) (k : Nat) (gv : Value) (S' : Nat → Prop) : Prop where
  kle : k ≤ l.length
  set : KSet wr p most (adds most L (l.take k)) S'
  gone : Own 24 32 wr gv (gones most L (l.take k))
  chg : Chg S w wr
  new : ∀ j, S' j → S j ∨ w.heap.size ≤ j
  apart : ∀ j, sblk gv j → w.heap.size ≤ j ∧ ¬ S' j
theorem AddAt.next {w wr w' : World} {p most : Nat} {L : List (List Value)} {S : Nat → Prop} {l : List (List Value)} {k : Nat} {gv gv' : Value} {S' S'' : Nat → Prop} (_ : AddAt w wr p most L S l k gv S') (hk : k < l.length)
    (hs : KSet w' p most (add1 most (adds most L (l.take k)) l[k]) S'') (hg : Own 24 32 w' gv' (gones most L (l.take k) ++ gone1 most (adds most L (l.take k)) l[k]))
    (hc : Chg S w w') (hn : ∀ j, S'' j → S j ∨ w.heap.size ≤ j) (ha : ∀ j, sblk gv' j → w.heap.size ≤ j ∧ ¬ S'' j) : AddAt w w' p most L S l (k + 1) gv' S'' := by
  have e : l.take (k + 1) = l.take k ++ [l[k]] := List.take_succ_eq_append_getElem hk
  refine ⟨by omega, ?_, ?_, hc, hn, ha⟩
  · rw [e, adds_append]; exact hs
  · rw [e, gones_append]; simpa [gones] using hg

set_option maxRecDepth 100000 in
set_option maxHeartbeats 2000000 in
theorem add_any' (p most : Nat) (L : List (List Value)) (S : Nat → Prop) (v : Value) (l : List (List Value)) (w : World) (hS : KSet w p most L S) (hl : Rd 32 w v l) (kl : IsHs l)
    (hd : l ≠ [] → ∀ j, sblk v j → ¬ S j) (hlen : l.length ≤ 1000000) :
    Calls Try.prog 13 #[.pointer (some ⟨p, 0, none⟩), v] w (Ret fun r w' => ∃ S', KSet w' p most (adds most L l) S' ∧ Own 24 32 w' r (gones most L l) ∧ Chg S w w' ∧ (∀ j, S' j → S j ∨ w.heap.size ≤ j) ∧ (∀ j, sblk r j → w.heap.size ≤ j ∧ ¬ S' j)) := by
  obtain ⟨A, c, rfl, h1, h2⟩ := hl.form
  go_enter Try.func13, Try.ntmps13
  go_wp2
  go_loopw [5, 13] (fun gv i wr => ∃ (k : Nat) (S' : Nat → Prop), i = .int .i64 k ∧ AddAt w wr p most L S l k gv S') (fun _ i _ => l.length - (intOf i).toNat)
  case atStart => exact ⟨0, S, rfl, ⟨by omega, hS, Own.nil, Chg.refl _ _, fun _ h => .inl h, fun _ h => h.elim⟩⟩
  case round =>
    obtain ⟨k, S', rfl, hA⟩ := hrel
    by_cases hlt : k < l.length
    · -- the id
      obtain ⟨b, off, rfl, cx⟩ := (hl.chg hA.chg (fun j _ hj => hd (by rintro rfl; simp at hlt) j hj)).at (List.getElem?_eq_getElem hlt)
      have kx : IsH l[k] := kl _ (List.getElem_mem hlt)
      obtain ⟨⟨lx, fx⟩, jx⟩ := kx
      have LX := Lib.hid lx
      have hnext := fun {w' gv' S''} => hA.next (w' := w') (gv' := gv') (S'' := S'') hlt
      have hgl := gones_len most (l.take k) L
      have hgl2 : (gones most L (l.take k)).length ≤ 1000000 := by
        rw [List.length_take] at hgl; omega
      clear lx hgl
      generalize hxx : l[k] = x at *
      clear hxx
      have hgone := hA.gone
      obtain ⟨m, rv, ring, first, hst, hinv, hfoot⟩ := hA.set
      obtain ⟨Ar, cr, rfl, hr1, hr2⟩ := hst.own.rd.form
      generalize hLk : adds most L (l.take k) = Lk at *
      generalize hGk : gones most L (l.take k) = Gk at *
      clear hLk hGk
      have hfl := hinv.lt
      have hm2 := hinv.m2
      have hrl := hinv.len
      go_wp2_with (first
        | (refine wpList_val rfl (op_load agg24 rfl rfl cx LX.out) ?_)
        | (refine wpList_alloc rfl rfl zero24 ?_; intro nb w1 hnb1 hnb2 hB hc1)
        | (refine wpList_storeAll agg24 rfl rfl rfl rfl LX.out fx hB (by simp [Value.cells]) ?_; intro w2 hB2 hc2))
      have hst2 : KSt w2 p m (.slice Ar ring.length cr) ring first most (ents1 Lk) := (hst.no hc1).chg hc2 (fun j hj hf e => by
        have h1 := hst.lt j hf
        omega)
      have hch2 : Chg S w w2 := (hA.chg.trans hc1 (fun _ _ h => h) (fun _ _ h => h.elim)).trans hc2 (fun _ _ h => h) (fun j hj e => by
        have h1 := hA.chg.size
        omega)
      have hgn2 : Own 24 32 w2 u5 Gk := (hgone.chg hc1 (fun _ _ _ h => h)).chg hc2 (fun j hj hv e => by
        have h1 := hgone.lt j hv
        omega)
      have hnbk : ∀ j, kfoot p m (.slice Ar ring.length cr) j → j ≠ nb := fun j hf e => by
        have h1 := hst.lt j hf
        omega
      have hwnb : w.heap.size ≤ nb := Nat.le_trans hA.chg.size hnb2
      have c0 : w2.cell? ⟨p, 0, none⟩ = some (.slice Ar ring.length cr) := hst2.blk.cell 0
      have c1 : w2.cell? ⟨p, 1, none⟩ = some (.int .i64 first) := hst2.blk.cell 1
      have c2 : w2.cell? ⟨p, 2, none⟩ = some (.map (some m)) := hst2.blk.cell 2
      have c3 : w2.cell? ⟨p, 3, none⟩ = some (.int .i64 most) := hst2.blk.cell 3
      clear hB hc1 hc2
      have hg : Hid ((mget (ents1 Lk) (H x)).getD (.int .i64 0) = if mem x Lk then .int .i64 1 else .int .i64 0) := mget_ents1 hinv.nodup x
      rcases hmem : mem x Lk with _ | _
      · have hg0 : Hid ((mget (ents1 Lk) (H x)).getD (.int .i64 0) = .int .i64 0) := by rw [hmem] at hg; exact hg
        have hm := Lib.hid hmem
        clear hmem
        -- is it there?
        refine wp_region_text (by kernel_rfl) (by kernel_rfl) (by repeat (first | exact Clean.body | refine Clean.then ?_ | refine Clean.inBlock ?_)) ?_
        go_wp2_with (first
          | (refine wpList_val rfl (op_load agg24 rfl rfl hB2.cells LX.out) ?_)
          | (refine wpList_val rfl (op_lookup mapTy49 rfl rfl (x := .agg x.toArray) rfl (hst2.map.keep rfl) jx) ?_; rw [show (mget (ents1 Lk) (.agg x.toArray)).getD (.int .i64 0) = .int .i64 0 from hg0.out])
          | (refine fin_mk (by kernel_rfl) ?_))
        -- it is, from now on
        refine wp_region_text (by kernel_rfl) (by kernel_rfl) (by repeat (first | exact Clean.body | refine Clean.then ?_ | refine Clean.inBlock ?_)) ?_
        go_wp2_with (first
          | (refine wpList_val rfl (op_load agg24 rfl rfl hB2.cells LX.out) ?_)
          | (refine wpList_mput mapTy49 rfl rfl rfl (.agg x.toArray) one rfl rfl (hst2.map.keep rfl) jx ?_; intro w3 hM3 hc3)
          | (refine fin_mk (by kernel_rfl) ?_))
        rw [show mput (ents1 Lk) (.agg x.toArray) one = ents1 (Lk ++ [x]) from mput_ents1 hm.out] at hM3
        have hc3' : Chg (fun j => j = m) w2 w3 := (((Chg.refl _ w2).drew).drew).trans' hc3
        have hst3 : KSt w3 p m (.slice Ar ring.length cr) ring first most (ents1 (Lk ++ [x])) :=
          ⟨hst2.blk.chg hc3' hst2.pm, hst2.own.chg hc3' (fun j _ hv e => hst2.mr (e ▸ hv)), hM3⟩
        have hB3 : Blk w3 nb 24 x := hB2.chg hc3' (fun e => hnbk m (.inr (.inl rfl)) e.symm)
        have hmS : S m ∨ w.heap.size ≤ m := hA.new m ((hfoot m).2 (.inr (.inl rfl)))
        have hch3 : Chg S w w3 := hch2.trans hc3' (fun _ _ h => h) (fun j hj e => by
          subst e
          rcases hmS with h | h
          · exact h
          · omega)
        have hgn3 : Own 24 32 w3 u5 Gk := hgn2.chg hc3' (fun j _ hv e => (hA.apart j hv).2 ((hfoot j).2 (.inr (.inl e))))
        have d0 : w3.cell? ⟨p, 0, none⟩ = some (.slice Ar ring.length cr) := hst3.blk.cell 0
        have d1 : w3.cell? ⟨p, 1, none⟩ = some (.int .i64 first) := hst3.blk.cell 1
        have d2 : w3.cell? ⟨p, 2, none⟩ = some (.map (some m)) := hst3.blk.cell 2
        have d3 : w3.cell? ⟨p, 3, none⟩ = some (.int .i64 most) := hst3.blk.cell 3
        clear c0 c1 c2 c3 hc3 hM3
        by_cases hroom : ring.length < most
        · -- there is room
          obtain ⟨hLl, hinv'⟩ := hinv.room hm.out ⟨⟨LX.out, fx⟩, jx⟩ hroom
          refine wp_region_text (by kernel_rfl) (by kernel_rfl) (by repeat (first | exact Clean.body | refine Clean.then ?_ | refine Clean.inBlock ?_)) ?_
          go_wp2_with (first | (refine fin_mk (by kernel_rfl) ?_))
          refine wp_region_text (by kernel_rfl) (by kernel_rfl) (by repeat (first | exact Clean.body | refine Clean.then ?_ | refine Clean.inBlock ?_)) ?_
          go_wp2_with (first
            | (refine wpList_val rfl (op_load agg24 rfl rfl hB3.cells LX.out) ?_)
            | (refine wpList_build1 slTy33 (by omega) rfl rfl (v := .agg x.toArray) rfl (by simpa [Value.cells] using LX.out) ?_; intro nb4 w4 hnb4 hle4 hB4 hc4; replace hc4 := undrew (undrew hc4); replace hle4 : w3.heap.size ≤ nb4 := hle4)
            | (refine wpList_append slTy33 rfl rfl (sv := .slice Ar ring.length cr) (xv := .slice (some ⟨nb4, 0, none⟩) 1 1) rfl rfl (hst3.own.chg hc4 (fun _ _ _ h => h)) (Blk.own1 hB4 LX.out).rd (by intro q hq; simp at hq; subst hq; exact fx) (by simp; omega) (by simp [maxLen]; omega) ?_; intro rv5 w5 hO5 hc5 hs5)
            | (refine wpList_store1 info33 rfl rfl rfl (v := rv5) rfl (own_cells hO5).1 (own_cells hO5).2 (((hst3.no hc4).blk.chg hc5 hst3.pr)) (by simp) ?_; intro w6 hB6 hc6)
            | (refine fin_mk (by kernel_rfl) ?_))
          have hst4 := hst3.no hc4
          have hp5 : ∀ j, sblk rv5 j → j ≠ p := fun j hj e => by
            subst e
            rcases hs5 j hj with h | h
            · exact hst4.pr h
            · have := hst4.blk.lt; omega
          have hst6 : KSt w6 p m rv5 (ring ++ [x]) first most (ents1 (Lk ++ [x])) :=
            ⟨hB6, hO5.chg hc6 (fun j _ hj e => hp5 j hj e), (hst4.map.chg hc5 hst4.mr).chg hc6 (fun e => hst4.pm e.symm)⟩
          have hfS : ∀ j, kfoot p m (.slice Ar ring.length cr) j → S j ∨ w.heap.size ≤ j := fun j hj => hA.new j ((hfoot j).2 hj)
          have hch5 : Chg S w w5 := (hch3.trans hc4 (fun _ _ h => h) (fun _ _ h => h.elim)).trans hc5 (fun _ _ h => h) (fun j hj hv => by
            rcases hfS j (.inr (.inr hv)) with h | h
            · exact h
            · omega)
          have hch6 : Chg S w w6 := hch5.trans hc6 (fun _ _ h => h) (fun j hj e => by
            subst e
            rcases hfS j (.inl rfl) with h | h
            · exact h
            · omega)
          have hgf : ∀ j, sblk u5 j → ¬ kfoot p m (.slice Ar ring.length cr) j := fun j hj hf => (hA.apart j hj).2 ((hfoot j).2 hf)
          have hgn4 : Own 24 32 w4 u5 Gk := hgn3.chg hc4 (fun _ _ _ h => h)
          have hgn6 : Own 24 32 w6 u5 Gk := (hgn4.chg hc5 (fun j _ hv h => hgf j hv (.inr (.inr h)))).chg hc6 (fun j _ hv e => hgf j hv (.inl e))
          go_roundw
          case rel =>
            refine ⟨k + 1, kfoot p m rv5, by go_num, hnext ?_ ?_ hch6 ?_ ?_⟩
            · simp only [add1, hm.out, hLl, if_true]
              exact ⟨m, rv5, ring ++ [x], first, hst6, hinv', fun j => Iff.rfl⟩
            · rw [show gone1 most Lk x = [] by simp [gone1, hm.out, hLl], List.append_nil]
              exact hgn6
            · rintro j (h | h | h)
              · exact hfS j (.inl h)
              · exact hfS j (.inr (.inl h))
              · rcases hs5 j h with h | h
                · exact hfS j (.inr (.inr h))
                · right
                  have := (hch3.trans' ((hc4.mono (fun _ _ h => h.elim)) : Chg S w3 w4)).size
                  omega
            · intro j hj
              refine ⟨(hA.apart j hj).1, ?_⟩
              rintro (h | h | h)
              · exact hgf j hj (.inl h)
              · exact hgf j hj (.inr (.inl h))
              · rcases hs5 j h with h | h
                · exact hgf j hj (.inr (.inr h))
                · have := hgn4.lt j hj
                  omega
          case measure => simp [intOf]; omega
        · -- there is none: the first one goes
          obtain ⟨hrm, hLm, ⟨old, hget, hLo, hon, ⟨⟨lo, fo⟩, jo⟩⟩, hinv'⟩ := hinv.full hm.out ⟨⟨LX.out, fx⟩, jx⟩ hroom
          obtain ⟨br, offr, rfl, cold⟩ := hst3.own.rd.at hget
          have hfr : first < ring.length := by omega
          have LO := Lib.hid lo
          have HLM := Lib.hid hLm
          have HLO := Lib.hid hLo
          have HRM := Lib.hid hrm
          clear lo hLm hLo hget hrm
          refine wp_region_text (by kernel_rfl) (by kernel_rfl) (by repeat (first | exact Clean.body | refine Clean.then ?_ | refine Clean.inBlock ?_)) ?_
          go_wp2_with (first | (refine fin_mk (by kernel_rfl) ?_))
          -- the first one
          refine wp_region_text (by kernel_rfl) (by kernel_rfl) (by repeat (first | exact Clean.body | refine Clean.then ?_ | refine Clean.inBlock ?_)) ?_
          go_wp2_with (first
            | (refine wpList_val rfl (op_load agg24 rfl rfl (show Cells w3.drew.drew _ _ _ from cold) LO.out) ?_)
            | (refine wpList_alloc rfl rfl zero24 ?_; intro nb4 w4 hnb4 hle4 hB4 hc4; replace hc4 := undrew (undrew hc4); replace hle4 : w3.heap.size ≤ nb4 := hle4)
            | (refine wpList_storeAll agg24 rfl rfl rfl rfl LO.out fo hB4 (by simp [Value.cells]) ?_; intro w5 hB5 hc5)
            | (refine fin_mk (by kernel_rfl) ?_))
          have hst4 := hst3.no hc4
          have hnk : ∀ j, kfoot p m (.slice (some ⟨br, offr, none⟩) ring.length cr) j → j ≠ nb4 := fun j hf e => by
            have h1 := hst3.lt j hf
            omega
          have hst5 : KSt w5 p m (.slice (some ⟨br, offr, none⟩) ring.length cr) ring first most (ents1 (Lk ++ [x])) := hst4.chg hc5 (fun j _ hf e => hnk j hf e)
          have hB5x : Blk w5 nb 24 x := (hB3.chg hc4 (fun h => h)).chg hc5 (fun e => by
            have := hB3.lt
            omega)
          have hgn4 : Own 24 32 w4 u5 Gk := hgn3.chg hc4 (fun _ _ _ h => h)
          have hgn5 : Own 24 32 w5 u5 Gk := hgn4.chg hc5 (fun j _ hv e => by
            have := hgn3.lt j hv
            omega)
          have hch5 : Chg S w w5 := (hch3.trans hc4 (fun _ _ h => h) (fun _ _ h => h.elim)).trans hc5 (fun _ _ h => h) (fun j hj e => by
            have := hch3.size
            omega)
          have hfS : ∀ j, kfoot p m (.slice (some ⟨br, offr, none⟩) ring.length cr) j → S j ∨ w.heap.size ≤ j := fun j hj => hA.new j ((hfoot j).2 hj)
          have hgf : ∀ j, sblk u5 j → ¬ kfoot p m (.slice (some ⟨br, offr, none⟩) ring.length cr) j := fun j hj hf => (hA.apart j hj).2 ((hfoot j).2 hf)
          have e2 : w5.cell? ⟨p, 2, none⟩ = some (.map (some m)) := hst5.blk.cell 2
          have hmd : Hid (mdel (ents1 (Lk ++ [x])) (H old) = ents1 (Lk.drop 1 ++ [x])) := by
            have hne : old ∉ Lk.drop 1 ++ [x] := by
              intro h
              rcases List.mem_append.1 h with h | h
              · exact hon h
              · simp at h
                subst h
                exact mem_false.1 hm.out (by rw [HLO.out]; simp)
            have e : Lk ++ [x] = old :: (Lk.drop 1 ++ [x]) := by
              conv => lhs; rw [HLO.out]
              rfl
            unfold Hid
            rw [e]
            exact mdel_ents1 hne
          clear d0 d1 d2 d3
          -- it is known no more; it is told
          refine wp_region_text (by kernel_rfl) (by kernel_rfl) (by repeat (first | exact Clean.body | refine Clean.then ?_ | refine Clean.inBlock ?_)) ?_
          go_wp2_with (first
            | (refine wpList_val rfl (op_load agg24 rfl rfl hB5.cells LO.out) ?_)
            | (refine wpList_mdel mapTy49 rfl rfl rfl rfl (.agg old.toArray) rfl (hst5.map.keep rfl) jo ?_; intro w6 hM6 hc6; replace hc6 := undrew hc6)
            | (refine wpList_val rfl (op_load agg24 rfl rfl (hB5.chg hc6 (fun e => hnk m (.inr (.inl rfl)) e.symm)).cells LO.out) ?_)
            | (refine wpList_build1 slTy33 (by omega) rfl rfl (v := .agg old.toArray) rfl (by simpa [Value.cells] using LO.out) ?_; intro nb7 w7 hnb7 hle7 hB7 hc7)
            | (refine wpList_append slTy33 rfl rfl (sv := u5) (xv := .slice (some ⟨nb7, 0, none⟩) 1 1) rfl rfl ((hgn5.chg hc6 (fun j _ hv e => hgf j hv (.inr (.inl e)))).chg hc7 (fun _ _ _ h => h)) (Blk.own1 hB7 LO.out).rd (by intro q hq; simp at hq; subst hq; exact fo) (by simp; omega) (by simp [maxLen]; omega) ?_; intro gv8 w8 hO8 hc8 hs8)
            | (refine fin_mk (by kernel_rfl) ?_))
          rw [show mdel (ents1 (Lk ++ [x])) (.agg old.toArray) = ents1 (Lk.drop 1 ++ [x]) from hmd.out] at hM6
          have hgn7 := (hgn5.chg hc6 (fun j _ hv e => hgf j hv (.inr (.inl e)))).chg hc7 (fun _ _ _ h => h)
          have hst6 : KSt w6 p m (.slice (some ⟨br, offr, none⟩) ring.length cr) ring first most (ents1 (Lk.drop 1 ++ [x])) :=
            ⟨hst5.blk.chg hc6 hst5.pm, hst5.own.chg hc6 (fun j _ hv e => hst5.mr (e ▸ hv)), hM6⟩
          have hst8 : KSt w8 p m (.slice (some ⟨br, offr, none⟩) ring.length cr) ring first most (ents1 (Lk.drop 1 ++ [x])) := (hst6.no hc7).chg hc8 (fun j _ hf hv => hgf j hv hf)
          have hB8x : Blk w8 nb 24 x := ((hB5x.chg hc6 (fun e => hnbk m (.inr (.inl rfl)) e.symm)).chg hc7 (fun h => h)).chg hc8 (fun hv => by
            have h1 := hgone.lt nb hv
            omega)
          have hch6 : Chg S w w6 := hch5.trans hc6 (fun _ _ h => h) (fun j hj e => by
            subst e
            rcases hfS j (.inr (.inl rfl)) with h | h
            · exact h
            · omega)
          have hch8 : Chg S w w8 := (hch6.trans hc7 (fun _ _ h => h) (fun _ _ h => h.elim)).trans hc8 (fun _ _ h => h) (fun j hj hv => by
            have := (hA.apart j hv).1
            omega)
          have g0 : w8.cell? ⟨p, 0, none⟩ = some (.slice (some ⟨br, offr, none⟩) ring.length cr) := hst8.blk.cell 0
          have g1 : w8.cell? ⟨p, 1, none⟩ = some (.int .i64 first) := hst8.blk.cell 1
          have g3 : w8.cell? ⟨p, 3, none⟩ = some (.int .i64 most) := hst8.blk.cell 3
          -- the new one in its place
          refine wp_region_text (by kernel_rfl) (by kernel_rfl) (by repeat (first | exact Clean.body | refine Clean.then ?_ | refine Clean.inBlock ?_)) ?_
          go_wp2_with (first
            | (refine wpList_val rfl (op_load agg24 rfl rfl hB8x.cells LX.out) ?_)
            | (refine wpList_storeAt agg24 rfl rfl (e := 24) (k := first) (b := br) (off := offr) rfl rfl LX.out fx (hst8.own.keep fun _ _ _ => rfl) hfr ?_; intro w9 hO9 hc9; replace hc9 := undrew hc9)
            | (refine fin_mk (by kernel_rfl) ?_))
          have hst9 : KSt w9 p m (.slice (some ⟨br, offr, none⟩) ring.length cr) (ring.set first x) first most (ents1 (Lk.drop 1 ++ [x])) :=
            ⟨hst8.blk.chg hc9 (fun e => hst8.pr e), hO9, hst8.map.chg hc9 (fun e => hst8.mr e)⟩
          have i1 : w9.cell? ⟨p, 1, none⟩ = some (.int .i64 first) := hst9.blk.cell 1
          have i3 : w9.cell? ⟨p, 3, none⟩ = some (.int .i64 most) := hst9.blk.cell 3
          clear g0 g1 g3
          refine wp_region_text (by kernel_rfl) (by kernel_rfl) (by repeat (first | exact Clean.body | refine Clean.then ?_ | refine Clean.inBlock ?_)) ?_
          go_wp2_with (first
            | (refine wpList_store1 info3s rfl rfl rfl (v := .int .i64 (((first : Int) + 1) % (most : Int))) rfl rfl rfl (show Blk w9.drew p 51 _ from hst9.blk) (by simp) ?_; intro w10 hB10 hc10; replace hc10 := undrew hc10)
            | (refine fin_mk (by kernel_rfl) ?_))
          have hmod : (((first : Int) + 1) % (most : Int)) = (((first + 1) % most : Nat) : Int) := by simp
          rw [hmod] at hB10
          have hst10 : KSt w10 p m (.slice (some ⟨br, offr, none⟩) ring.length cr) (ring.set first x) ((first + 1) % most) most (ents1 (Lk.drop 1 ++ [x])) :=
            ⟨hB10, hst9.own.chg hc10 (fun j _ hv e => hst9.pr (e ▸ hv)), hst9.map.chg hc10 (fun e => hst9.pm e.symm)⟩
          have hch9 : Chg S w w9 := hch8.trans hc9 (fun _ _ h => h) (fun j hj e => by
            rcases hfS j (.inr (.inr e)) with h | h
            · exact h
            · omega)
          have hch10 : Chg S w w10 := hch9.trans hc10 (fun _ _ h => h) (fun j hj e => by
            rcases hfS j (.inl e) with h | h
            · exact h
            · omega)
          have hgo : ∀ j, sblk gv8 j → w.heap.size ≤ j ∧ ¬ kfoot p m (.slice (some ⟨br, offr, none⟩) ring.length cr) j := by
            intro j hj
            rcases hs8 j hj with h | h
            · exact ⟨(hA.apart j h).1, hgf j h⟩
            · have h1 := hst6.lt j
              have h2 := (hch6.trans' (hc7.mono (fun _ _ h => h.elim))).size
              have h3 := hc7.size
              exact ⟨by omega, fun hf => by have := h1 hf; omega⟩
          have hgn10 : Own 24 32 w10 gv8 (Gk ++ [old]) := (hO8.chg hc9 (fun j _ hv e => (hgo j hv).2 (.inr (.inr e)))).chg hc10 (fun j _ hv e => (hgo j hv).2 (.inl e))
          go_roundw
          case rel =>
            refine ⟨k + 1, kfoot p m (.slice (some ⟨br, offr, none⟩) ring.length cr), by go_num, hnext ?_ ?_ hch10 hfS hgo⟩
            · rw [show add1 most Lk x = Lk.drop 1 ++ [x] by simp [add1, hm.out, HLM.out]]
              refine ⟨m, _, ring.set first x, (first + 1) % most, ?_, hinv', fun j => Iff.rfl⟩
              exact hst10
            · rw [show gone1 most Lk x = [old] by
                have e := HLO.out
                simp only [gone1, hm.out, HLM.out]
                rw [e]
                simp]
              exact hgn10
          case measure => simp [intOf]; omega
      · have hg0 : Hid ((mget (ents1 Lk) (H x)).getD (.int .i64 0) = .int .i64 1) := by rw [hmem] at hg; exact hg
        have hm := Lib.hid hmem
        clear hmem
        go_wp2_with (first
          | (refine wp_region_text (by kernel_rfl) (by kernel_rfl) (by repeat (first | exact Clean.body | refine Clean.then ?_ | refine Clean.inBlock ?_)) ?_)
          | (refine wpList_val rfl (op_load agg24 rfl rfl hB2.cells LX.out) ?_)
          | (refine wpList_val rfl (op_lookup mapTy49 rfl rfl (x := .agg x.toArray) rfl (hst2.map.keep rfl) jx) ?_; rw [show (mget (ents1 Lk) (.agg x.toArray)).getD (.int .i64 0) = .int .i64 1 from hg0.out])
          | (refine fin_mk (by kernel_rfl) ?_))
        go_roundw
        case rel =>
          refine ⟨k + 1, S', by go_num, hnext ?_ ?_ hch2.drew hA.new hA.apart⟩
          · simp only [add1, hm.out, if_true]
            exact ⟨m, _, ring, first, hst2.no ((Chg.refl _ _).drew), hinv, hfoot⟩
          · simp only [gone1, hm.out, if_true, List.append_nil]
            exact hgn2.keep fun _ _ _ => rfl
        case measure => simp [intOf]; omega
    · have hk : k = l.length := by have := hA.kle; omega
      subst hk
      have hset := hA.set
      have hgone := hA.gone
      rw [List.take_length] at hset hgone
      go_wp2
      go_ret
      exact ⟨S', hset, hgone, hA.chg, hA.new, hA.apart⟩
theorem add_any (p most : Nat) (L : List (List Value)) (S : Nat → Prop) (v : Value) (l : List (List Value)) (w : World) (hS : KSet w p most L S) (hl : Rd 32 w v l) (kl : IsHs l)
    (hd : ∀ j, sblk v j → ¬ S j) (hlen : l.length ≤ 1000000) :
    Calls Try.prog 13 #[.pointer (some ⟨p, 0, none⟩), v] w (Ret fun r w' => ∃ S', KSet w' p most (adds most L l) S' ∧ Own 24 32 w' r (gones most L l) ∧ Chg S w w' ∧ (∀ j, S' j → S j ∨ w.heap.size ≤ j) ∧ (∀ j, sblk r j → w.heap.size ≤ j ∧ ¬ S' j)) :=
  add_any' p most L S v l w hS hl kl (fun _ => hd) hlen
end Go.Proofs.Ytkddaombdahodaa
