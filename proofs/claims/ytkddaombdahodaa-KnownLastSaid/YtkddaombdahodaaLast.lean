/- The walk of KnownLast: it returns true and changes nothing. Conditions: those that stand ahead of each theorem. -/
import Derived.Test.YtkddaombdahodaaPlain
namespace Go.Proofs.Ytkddaombdahodaa
open Go.RowKit Go.Px
/-- the ids that came so far, each once -/
structure OnceAt (w wr : World) (l : List (List Value)) (k : Nat) (ov : Value) (o : List (List Value)) : Prop where
  kle : k ≤ l.length
  nodup : o.Nodup
  keys : IsHs o
  len : o.length ≤ k
  own : Own 24 32 wr ov o
  chg : Chg No w wr
  apart : ∀ j, sblk ov j → w.heap.size ≤ j
set_option maxHeartbeats 400000 in
theorem wLast (m : Nat) (hm : m < 256) (v : Value) (l : List (List Value)) (w : World) (hl : Rd 32 w v l) (kl : IsHs l) (hb : ∀ j, sblk v j → j < w.heap.size) :
    Calls Try.prog 4 #[.int .u8 m, v] w (Ret fun r w' => r = .bool true ∧ Chg No w w') := by
  obtain ⟨A, c, rfl, hl1, hl2⟩ := hl.form
  go_enter Try.func4, Try.ntmps4
  go_wp2_with fail
  refine Ret.calls (alive_any w) ?_
  rintro r w1 ⟨hv, hc1⟩
  rw [hv]
  clear hv
  by_cases hlen : l.length ≤ 300
  · go_wp2_with fail
    go_loopw [5, 18] (fun ov i wr => ∃ (k : Nat) (o : List (List Value)), i = .int .i64 k ∧ OnceAt w1 wr l k ov o) (fun _ i _ => l.length - (intOf i).toNat)
    case atStart => exact ⟨0, [], rfl, ⟨by omega, by simp, isHs_nil, by simp, Own.nil, Chg.refl _ _, fun _ h => h.elim⟩⟩
    case round =>
      obtain ⟨k, o, rfl, hA⟩ := hrel
      by_cases hlt : k < l.length
      · obtain ⟨b, off, rfl, cx⟩ := ((hl.chgNo hc1).chgNo hA.chg).at (List.getElem?_eq_getElem hlt)
        have kx : IsH l[k] := kl _ (List.getElem_mem hlt)
        have LX := Lib.hid kx.1.1
        have hkk := hA.len
        go_wp2_with (first
          | (refine wpList_val rfl (op_load agg24 rfl rfl cx LX.out) ?_
             go_frame)
          | (refine wpList_alloc rfl rfl zero24 ?_
             intro nb w5 hnb1 hnb2 hB5 hc5
             go_frame)
          | (refine wpList_storeAll agg24 rfl rfl (b := nb) rfl (vs := l[k]) rfl LX.out kx.1.2 hB5 (by simp [Value.cells]) ?_
             intro w6 hB6 hc6
             go_frame)
          | (refine wpList_val rfl (op_load agg24 rfl rfl hB6.cells LX.out) ?_
             go_frame))
        have hO6 : Own 24 32 w6 u5 o := (hA.own.chg hc5 (fun _ _ _ h => h)).chg hc6 (fun j _ hj e => by
          have := hA.own.lt j hj
          omega)
        have hw6 : Chg No w1 w6 := (hA.chg.trans' hc5).trans hc6 (fun _ _ h => h) (fun j hj e => by
          have := hA.chg.size
          omega)
        refine Ret.calls (has11_any u5 o l[k] w6 hO6.rd hA.keys kx) ?_
        rintro v7 w7 ⟨hv7, hc7⟩
        rcases hmem : mem l[k] o with _ | _
        · rw [hmem] at hv7
          rw [hv7]
          clear hv7
          have hB7 := hB6.chg hc7 id
          have hO7 := hO6.chg hc7 (fun _ _ _ h => h)
          go_wp2_with
            (refine wpList_val rfl (op_load agg24 rfl rfl hB7.cells LX.out) ?_
             go_frame
             refine wpList_build1 slTy33 (by omega) rfl rfl (v := H l[k]) rfl (cellsH kx) ?_
             intro n8 w8 hn8 hl8 hB8 hc8
             go_frame
             refine wpList_append slTy33 rfl rfl (sv := u5) (xv := .slice (some ⟨n8, 0, none⟩) 1 1) rfl rfl (hO7.chg hc8 (fun _ _ _ h => h)) (Blk.own1 (show Blk _ n8 24 l[k] from hB8) LX.out).rd (isHs1 kx).flat (by simp; omega) (by simp [maxLen]; omega) ?_
             intro v9 w9 hO9 hc9 hs9
             go_frame)
          go_roundw
          case rel =>
            have y2 := hw6.size
            have y3 := hc7.size
            have y4 := hc8.size
            refine ⟨k + 1, o ++ [l[k]], by go_num, ⟨by omega, ?_, isHs_append hA.keys (isHs1 kx), by simp; omega, hO9, ((hw6.trans' hc7).trans' hc8).trans hc9 (fun _ _ h => h) (fun j hj hv => by
              have := hA.apart j hv
              omega), fun j hj => ?_⟩⟩
            · exact List.nodup_append.2 ⟨hA.nodup, by simp, fun a ha b hb e => mem_false.1 hmem (by simp at hb; rw [← hb, ← e]; exact ha)⟩
            · rcases hs9 j hj with h | h
              · exact hA.apart j h
              · omega
          case measure => simp [intOf]; omega
        · rw [hmem] at hv7
          rw [hv7]
          clear hv7
          go_wp2_with fail
          go_roundw
          case rel => exact ⟨k + 1, o, by go_num, ⟨by omega, hA.nodup, hA.keys, by omega, hO6.chg hc7 (fun _ _ _ h => h), hw6.trans' hc7, hA.apart⟩⟩
          case measure => simp [intOf]; omega
      · have hk : k = l.length := by have := hA.kle; omega
        subst hk
        go_wp2_with fail
        refine Ret.calls (made_any m hm _ [] wr Rd.nil isHs_nil (fun j hj => hj.elim) (by simp)) ?_
        rintro r w2 ⟨p, S, hv, hS2, hc2, hf2⟩
        rw [hv]
        clear hv
        have hO2 := hA.own.chg hc2 (fun _ _ _ h => h)
        obtain ⟨Ao, co, rfl, ho1, ho2⟩ := hO2.rd.form
        have hol := hA.len
        go_wp2_with fail
        refine Ret.calls (add_any p (1 + m % 64) [] S _ o w2 hS2 hO2.rd hA.keys (fun j hj hSj => by
          have h1 := hA.own.lt j hj
          have h2 := hf2 j hSj
          omega) (by omega)) ?_
        rintro gv w3 ⟨S3, hS3, hO3, hc3, hn3, ha3⟩
        obtain ⟨e1, e2⟩ := adds_nodup (most := 1 + m % 64) (by omega) o.length rfl hA.nodup
        rw [e1] at hS3
        rw [e2] at hO3
        have hO4 : Own 24 32 w3 (.slice Ao o.length co) o := hO2.chg hc3 (fun j _ hj hS => by
          have h1 := hA.own.lt j hj
          have h2 := hf2 j hS
          omega)
        have hw3 : Chg No w w3 := ((hc1.trans' hA.chg).trans' hc2).trans hc3 (fun _ _ h => h) (fun j hj hS => by
          have h1 := hf2 j hS
          have h2 := hc1.size
          have h3 := hA.chg.size
          omega)
        clear e1 e2
        by_cases hM : 1 + m % 64 < o.length
        · go_wp2_with fail
          have hkc : ((o.length : Int) - (1 + (m : Int) % 64)) = ((o.length - (1 + m % 64) : Nat) : Int) := by omega
          obtain ⟨kk, hkk⟩ : ∃ kk, kk = o.length - (1 + m % 64) := ⟨_, rfl⟩
          have hkl : kk ≤ o.length := by omega
          rw [hkc, ← hkk]
          rw [← hkk] at hO3 hS3
          have HKK := Lib.hid hkk
          clear hkc hkk
          refine wp_region_text (by kernel_rfl) (by kernel_rfl) (by repeat (first | exact Clean.body | refine Clean.then ?_ | refine Clean.inBlock ?_)) ?_
          go_wp2_with (first
            | (refine wpList_val rfl (op_slice slTy33 rfl _ rfl (l := 0) (h := kk) (Or.inl ⟨rfl, rfl⟩) (Or.inr rfl) (by omega) (by omega)) ?_
               go_frame)
            | (refine fin_mk (by kernel_rfl) ?_))
          have kO : ∀ i, IsHs ((o.drop i).take (o.length - i)) := fun i => (hA.keys.drop i).take _
          have hcut : Rd 32 w3 (.slice (cutAddr Ao co 0 32) kk co) (o.take kk) := by simpa using hO4.rd.cut (Nat.zero_le _) hkl
          refine Ret.calls (sameIds gv _ (o.take kk) (o.take kk) w3.drew (hO3.rd.keep fun _ _ _ => rfl) (hcut.keep fun _ _ _ => rfl) (hA.keys.take _) (hA.keys.take _)) ?_
          rintro v5 w5 ⟨hv5, hc5⟩
          replace hc5 : Chg No w3 w5 := undrew hc5
          rw [eqL_self] at hv5
          rw [hv5]
          clear hv5
          have hS5 := hS3.chg hc5 (fun _ _ h => h)
          have hO5 := hO4.chg hc5 (fun _ _ _ h => h)
          go_wp2_with fail
          refine Ret.calls (all_any p _ _ _ _ hS5) ?_
          rintro va w6 ⟨hO6, hc6, hf6⟩
          go_wp2_with
            (refine wpList_val rfl (op_slice slTy33 rfl _ rfl (l := kk) (h := o.length) (Or.inr rfl) (Or.inl ⟨rfl, rfl⟩) hkl (by omega)) ?_
             go_frame)
          refine Ret.calls (sameIds va _ (o.drop kk) ((o.drop kk).take (o.length - kk)) _ hO6.rd ((hO5.chg hc6 (fun _ _ _ h => h)).rd.cut hkl (Nat.le_refl _)) (hA.keys.drop _) (kO kk)) ?_
          rintro v7 w7 ⟨hv7, hc7⟩
          rw [show (o.drop kk).take (o.length - kk) = o.drop kk by rw [List.take_of_length_le]; simp, eqL_self] at hv7
          rw [hv7]
          clear hv7
          go_wp2_with fail
          refine Ret.calls (len_any p _ _ _ _ ((hS5.chg hc6 (fun _ _ h => h)).chg hc7 (fun _ _ h => h))) ?_
          rintro v8 w8 ⟨hv8, hw8⟩
          rw [hv8, hw8]
          clear hv8 hw8
          go_wp2_with (first | (refine fin_mk (by kernel_rfl) ?_))
          go_ret
          refine ⟨?_, ((hw3.trans' hc5).trans' hc6).trans' hc7⟩
          simp
          omega
        · go_wp2_with fail
          obtain ⟨kk, hkk⟩ : ∃ kk, kk = o.length - (1 + m % 64) := ⟨_, rfl⟩
          have hkl : kk ≤ o.length := by omega
          have hk0 : ((kk : Nat) : Int) = 0 := by omega
          rw [← hk0]
          rw [← hkk] at hO3 hS3
          have HKK := Lib.hid hkk
          clear hk0 hkk
          refine wp_region_text (by kernel_rfl) (by kernel_rfl) (by repeat (first | exact Clean.body | refine Clean.then ?_ | refine Clean.inBlock ?_)) ?_
          go_wp2_with (first
            | (refine wpList_val rfl (op_slice slTy33 rfl _ rfl (l := 0) (h := kk) (Or.inl ⟨rfl, rfl⟩) (Or.inr rfl) (by omega) (by omega)) ?_
               go_frame)
            | (refine fin_mk (by kernel_rfl) ?_))
          have kO : ∀ i, IsHs ((o.drop i).take (o.length - i)) := fun i => (hA.keys.drop i).take _
          have hcut : Rd 32 w3 (.slice (cutAddr Ao co 0 32) kk co) (o.take kk) := by simpa using hO4.rd.cut (Nat.zero_le _) hkl
          refine Ret.calls (sameIds gv _ (o.take kk) (o.take kk) w3.drew (hO3.rd.keep fun _ _ _ => rfl) (hcut.keep fun _ _ _ => rfl) (hA.keys.take _) (hA.keys.take _)) ?_
          rintro v5 w5 ⟨hv5, hc5⟩
          replace hc5 : Chg No w3 w5 := undrew hc5
          rw [eqL_self] at hv5
          rw [hv5]
          clear hv5
          have hS5 := hS3.chg hc5 (fun _ _ h => h)
          have hO5 := hO4.chg hc5 (fun _ _ _ h => h)
          go_wp2_with fail
          refine Ret.calls (all_any p _ _ _ _ hS5) ?_
          rintro va w6 ⟨hO6, hc6, hf6⟩
          go_wp2_with
            (refine wpList_val rfl (op_slice slTy33 rfl _ rfl (l := kk) (h := o.length) (Or.inr rfl) (Or.inl ⟨rfl, rfl⟩) hkl (by omega)) ?_
             go_frame)
          refine Ret.calls (sameIds va _ (o.drop kk) ((o.drop kk).take (o.length - kk)) _ hO6.rd ((hO5.chg hc6 (fun _ _ _ h => h)).rd.cut hkl (Nat.le_refl _)) (hA.keys.drop _) (kO kk)) ?_
          rintro v7 w7 ⟨hv7, hc7⟩
          rw [show (o.drop kk).take (o.length - kk) = o.drop kk by rw [List.take_of_length_le]; simp, eqL_self] at hv7
          rw [hv7]
          clear hv7
          go_wp2_with fail
          refine Ret.calls (len_any p _ _ _ _ ((hS5.chg hc6 (fun _ _ h => h)).chg hc7 (fun _ _ h => h))) ?_
          rintro v8 w8 ⟨hv8, hw8⟩
          rw [hv8, hw8]
          clear hv8 hw8
          go_wp2_with (first | (refine fin_mk (by kernel_rfl) ?_))
          go_ret
          refine ⟨?_, ((hw3.trans' hc5).trans' hc6).trans' hc7⟩
          simp
          omega
  · go_wp2_with fail
    go_ret
    exact ⟨rfl, hc1⟩
end Go.Proofs.Ytkddaombdahodaa
