/- The walk of KnownPieces: it returns true and changes nothing. Conditions: those that stand ahead of each theorem. -/
import Derived.Test.YtkddaombdahodaaMade
namespace Go.Proofs.Ytkddaombdahodaa
open Go.RowKit Go.Px
set_option maxHeartbeats 400000 in
theorem wPieces (m : Nat) (hm : m < 256) (v : Value) (l : List (List Value)) (w : World) (hl : Rd 32 w v l) (kl : IsHs l) (hb : ∀ j, sblk v j → j < w.heap.size) :
    Calls Try.prog 6 #[.int .u8 m, v] w (Ret fun r w' => r = .bool true ∧ Chg No w w') := by
  obtain ⟨A, c, rfl, hl1, hl2⟩ := hl.form

  go_enter Try.func6, Try.ntmps6
  go_wp2_with fail
  refine Ret.calls (alive_any w) ?_
  rintro r w1 ⟨hv, hc1⟩
  rw [hv]
  clear hv
  by_cases hlen : l.length ≤ 300
  · go_wp2_with fail
    refine Ret.calls (made_any m hm _ [] w1 Rd.nil (by intro x hx; cases hx) (fun j hj => hj.elim) (by simp)) ?_
    rintro r w2 ⟨p, S, hv, hS2, hc2, hf2⟩
    rw [hv]
    clear hv
    go_wp2_with fail
    refine Ret.calls (made_any m hm _ [] w2 Rd.nil (by intro x hx; cases hx) (fun j hj => hj.elim) (by simp)) ?_
    rintro r w3 ⟨q, T, hv, hT3, hc3, hf3⟩
    rw [hv]
    clear hv
    have hS3 := hS2.chg hc3 (fun _ _ h => h)
    have hw3 := (hc1.trans' hc2).trans' hc3
    go_wp2_with fail
    refine Ret.calls (add_any p (1 + m % 64) [] S _ l w3 hS3 (hl.chgNo hw3) kl (fun j hj hSj => by
      have h1 := hf2 j hSj
      have h2 := hb j hj
      have h3 := hc1.size
      omega) (by omega)) ?_
    rintro gv w4 ⟨S4, hS4, hO4, hc4, hn4, ha4⟩
    have hT4 := hT3.chg hc4 (fun j hj hSj => by
      have h1 := hf3 j hj
      have h2 := hS2.lt j hSj
      omega)
    have hw4 : Chg No w w4 := hw3.trans hc4 (fun _ _ h => h) (fun j hj hSj => by
      have h1 := hf2 j hSj
      have h3 := hc1.size
      omega)
    go_wp2_with fail
    go_loopw [8, 31] (fun gv i wr => ∃ (k : Nat) (T' : Nat → Prop), i = .int .i64 k ∧ AddAt w4 wr q (1 + m % 64) [] T l k gv T') (fun _ i _ => l.length - (intOf i).toNat)
    case atStart => exact ⟨0, T, rfl, ⟨by omega, hT4, Own.nil, Chg.refl _ _, fun _ h => .inl h, fun _ h => h.elim⟩⟩
    case round =>
      obtain ⟨k, T', rfl, hA⟩ := hrel
      by_cases hlt : k < l.length
      · have hnT : ∀ j, sblk (.slice A l.length c) j → ¬ T j := fun j hj hT => by
          have h1 := hf3 j hT
          have h2 := hb j hj
          have h3 := hc1.size
          have h4 := hc2.size
          omega
        obtain ⟨b, off, rfl, cx⟩ := ((hl.chgNo hw4).chg hA.chg (fun j _ hj => hnT j hj)).at (List.getElem?_eq_getElem hlt)
        have kx : IsH l[k] := kl _ (List.getElem_mem hlt)
        have LX := Lib.hid kx.1.1
        have hnext := fun {w' gv' S''} => hA.next (w' := w') (gv' := gv') (S'' := S'') hlt
        go_wp2_with (first
          | (refine wpList_val rfl (op_load agg24 rfl rfl cx LX.out) ?_
             go_frame)
          | (refine wpList_alloc rfl rfl zero24 ?_
             intro nb w5 hnb1 hnb2 hB5 hc5
             go_frame)
          | (refine wpList_storeAll agg24 rfl rfl (b := nb) rfl (vs := l[k]) rfl LX.out kx.1.2 hB5 (by simp [Value.cells]) ?_
             intro w6 hB6 hc6
             go_frame)
          | (refine wpList_val rfl (op_load agg24 rfl rfl hB6.cells LX.out) ?_
             go_frame
             refine wpList_build1 slTy33 (by omega) rfl rfl (v := H l[k]) rfl (cellsH kx) ?_
             intro n7 w7 hn7 hl7 hB7 hc7
             go_frame))
        have hB7' : Blk w7 n7 24 l[k] := hB7
        have hA5 : Chg No wr w5 := hc5
        have zz5 := hc5.size
        have zz4 := hA.chg.size
        have hT7 := ((hA.set.chg hc5 (fun _ _ h => h)).chg hc6 (fun j hj e => by
          have := hA.set.lt j hj
          omega)).chg hc7 (fun _ _ h => h)
        have hO7 : Own 24 32 w7 u8 (gones (1 + m % 64) [] (l.take k)) := ((hA.gone.chg hc5 (fun _ _ _ h => h)).chg hc6 (fun j _ hj e => by
          have := hA.gone.lt j hj
          omega)).chg hc7 (fun _ _ _ h => h)
        have hC7 : Chg T w4 w7 := ((hA.chg.trans hc5 (fun _ _ h => h) (fun _ _ h => h.elim)).trans hc6 (fun _ _ h => h) (fun j hj e => by omega)).trans hc7 (fun _ _ h => h) (fun _ _ h => h.elim)
        refine Ret.calls (add_any q (1 + m % 64) _ T' _ [l[k]] w7 hT7 (Blk.own1 hB7' LX.out).rd (isHs1 kx) (fun j hj hSj => by
          have h1 := hA.set.lt j hSj
          have h2 : j = n7 := hj
          have h3 := hc6.size
          omega) (by simp)) ?_
        rintro gv8 w8 ⟨S8, hS8, hO8, hc8, hn8, ha8⟩
        have kgo : IsHs (gones (1 + m % 64) (adds (1 + m % 64) [] (l.take k)) [l[k]]) := isHs_gones hA.set.isHs (isHs1 kx)
        have hg1 := gones_len (1 + m % 64) (l.take k) []
        have hg2 := gones_len (1 + m % 64) [l[k]] (adds (1 + m % 64) [] (l.take k))
        rw [List.length_take] at hg1
        have hO8u : Own 24 32 w8 u8 (gones (1 + m % 64) [] (l.take k)) := hO7.chg hc8 (fun j _ hj hT => (hA.apart j hj).2 hT)
        go_wp2_with
          (refine wpList_append slTy33 rfl rfl (sv := u8) (xv := gv8) rfl rfl hO8u hO8.rd kgo.flat (by simp at hg2; omega) (by simp [maxLen] at hg2 ⊢; omega) ?_
           intro v9 w9 hO9 hc9 hs9
           go_frame)
        have y1 := hc5.size
        have y2 := hc6.size
        have y3 := hc7.size
        have y4 := hc8.size
        have hw9 : Chg T w4 w9 := (hC7.trans hc8 (fun _ _ h => h) (fun j hj hT => by
          rcases hA.new j hT with h | h
          · exact h
          · omega)).trans hc9 (fun _ _ h => h) (fun j hj hv => by
          have := (hA.apart j hv).1
          omega)
        have hap : ∀ j, sblk u8 j → ¬ S8 j := fun j hj h8 => by
          have h1 := hA.gone.lt j hj
          rcases hn8 j h8 with h | h
          · exact (hA.apart j hj).2 h
          · omega
        go_roundw
        case rel =>
          refine ⟨k + 1, S8, by go_num, hnext (hS8.chg hc9 (fun j h8 hv => hap j hv h8)) ?_ hw9 ?_ ?_⟩
          · simpa [gones] using hO9
          · intro j hj
            rcases hn8 j hj with h | h
            · exact hA.new j h
            · exact .inr (by omega)
          · intro j hj
            rcases hs9 j hj with h | h
            · exact ⟨(hA.apart j h).1, hap j h⟩
            · refine ⟨by omega, fun h8 => ?_⟩
              have := hS8.lt j h8
              omega
        case measure => simp [intOf]; omega
      · have hk : k = l.length := by have := hA.kle; omega
        subst hk
        have hset := hA.set
        have hgone := hA.gone
        rw [List.take_length] at hset hgone
        have hSr : KSet wr p (1 + m % 64) (adds (1 + m % 64) [] l) S4 := hS4.chg hA.chg (fun j h4 hT => by
          have h1 := hf3 j hT
          have h2 := hT3.lt j hT
          have h3 := hc3.size
          rcases hn4 j h4 with h | h
          · have := hS2.lt j h
            omega
          · omega)
        have hOr : Own 24 32 wr gv (gones (1 + m % 64) [] l) := hO4.chg hA.chg (fun j _ hv hT => by
          have h1 := (ha4 j hv).1
          have h2 := hT3.lt j hT
          omega)
        have kgs : IsHs (gones (1 + m % 64) [] l) := isHs_gones isHs_nil kl
        have hwr : Chg No w wr := hw4.trans hA.chg (fun _ _ h => h) (fun j hj hT => by
          have h1 := hf3 j hT
          have h3 := hc1.size
          have h4 := hc2.size
          omega)
        go_wp2_with fail
        refine Ret.calls (sameIds gv u8 _ _ _ hOr.rd hgone.rd kgs kgs) ?_
        rintro v9 w9 ⟨hv9, hc9⟩
        rw [eqL_self] at hv9
        rw [hv9]
        clear hv9
        go_wp2_with fail
        have hS9 := hSr.chg hc9 (fun _ _ h => h)
        have hT9 := hset.chg hc9 (fun _ _ h => h)
        refine Ret.calls (all_any p _ _ _ _ hS9) ?_
        rintro v10 w10 ⟨hO10, hc10, hf10⟩
        go_wp2_with fail
        refine Ret.calls (all_any q _ _ _ _ (hT9.chg hc10 (fun _ _ h => h))) ?_
        rintro v11 w11 ⟨hO11, hc11, hf11⟩
        go_wp2_with fail
        refine Ret.calls (sameIds v10 v11 _ _ _ (hO10.rd.chgNo hc11) hO11.rd hS9.isHs hS9.isHs) ?_
        rintro v12 w12 ⟨hv12, hc12⟩
        rw [eqL_self] at hv12
        rw [hv12]
        clear hv12
        go_wp2_with fail
        go_ret
        exact ⟨rfl, (((hwr.trans' hc9).trans' hc10).trans' hc11).trans' hc12⟩
  · go_wp2_with fail
    go_ret
    exact ⟨rfl, hc1⟩
end Go.Proofs.Ytkddaombdahodaa
