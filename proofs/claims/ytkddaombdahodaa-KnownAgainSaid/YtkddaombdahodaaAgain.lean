/- The walk of KnownAgain: it returns true and changes nothing. Conditions: those that stand ahead of each theorem. -/
import Derived.Test.YtkddaombdahodaaPlain
namespace Go.Proofs.Ytkddaombdahodaa
open Go.RowKit Go.Px
set_option maxHeartbeats 400000 in
theorem wAgain (m : Nat) (hm : m < 256) (v : Value) (l : List (List Value)) (w : World) (hl : Rd 32 w v l) (kl : IsHs l) (hb : ∀ j, sblk v j → j < w.heap.size) (u : Value) (ws : List (List Value)) (hu : Rd 1 w u ws) (ku : ∀ q ∈ ws, ∃ n : Nat, n < 256 ∧ q = [.int .u8 n]) (hub : ∀ j, sblk u j → j < w.heap.size) :
    Calls Try.prog 7 #[.int .u8 m, v, u] w (Ret fun r w' => r = .bool true ∧ Chg No w w') := by
  obtain ⟨A, c, rfl, hl1, hl2⟩ := hl.form
  obtain ⟨Au, cu, rfl, hu1, hu2⟩ := hu.form
  go_enter Try.func7, Try.ntmps7
  go_wp2_with fail
  refine Ret.calls (alive_any w) ?_
  rintro r w1 ⟨hv, hc1⟩
  rw [hv]
  clear hv
  by_cases hlen : l.length ≤ 300
  case neg =>
    go_wp2_with fail
    go_ret
    exact ⟨rfl, hc1⟩
  by_cases hlen2 : ws.length ≤ 300
  · go_wp2_with fail
    refine Ret.calls (made_any m hm _ l w1 (hl.chgNo hc1) kl (fun j hj => by
      have h1 := hb j hj
      have h2 := hc1.size
      omega) (by omega)) ?_
    rintro r w2 ⟨p, S, hv, hS2, hc2, hf2⟩
    rw [hv]
    clear hv
    go_wp2_with fail
    refine Ret.calls (all_any p _ _ _ _ hS2) ?_
    rintro va w3 ⟨hO3, hc3, hf3⟩
    have hS3 := hS2.chg hc3 (fun _ _ h => h)
    have hw3 := (hc1.trans' hc2).trans' hc3
    have hne : l ≠ [] → adds (1 + m % 64) [] l ≠ [] := adds_ne
    have hLm : (adds (1 + m % 64) [] l).length ≤ 64 := Nat.le_trans hS3.few.1 hS3.few.2.1
    generalize adds (1 + m % 64) [] l = L at *
    obtain ⟨Aa, ca, rfl, ha1, ha2⟩ := hO3.rd.form
    by_cases hL0 : L = []
    · subst hL0
      have hl0 : l = [] := Classical.byContradiction fun h => hne h rfl
      subst hl0
      go_wp2_with fail
      go_ret
      exact ⟨rfl, hw3⟩
    · have hLp : 0 < L.length := List.length_pos_iff.2 hL0
      go_wp2_with fail
      have hz : ((L.length : Int) == 0) = false := by
        rw [beq_eq_false_iff_ne]
        omega
      rw [hz]
      go_loopw [36] (fun i wr => ∃ (k : Nat) (S' : Nat → Prop), i = .int .i64 k ∧ k ≤ ws.length ∧ KSet wr p (1 + m % 64) L S' ∧ Chg S w3 wr ∧ ∀ j, S' j → S j ∨ w3.heap.size ≤ j) (fun i _ => ws.length - (intOf i).toNat)
      case atStart => exact ⟨0, S, rfl, by omega, hS3, Chg.refl _ _, fun _ h => .inl h⟩
      case round =>
        obtain ⟨k, S', rfl, hk, hSr, hcr, hnr⟩ := hrel
        have hnS : ∀ j, j < w.heap.size → ¬ S j := fun j hj hS => by
          have h1 := hf2 j hS
          have h2 := hc1.size
          omega
        by_cases hlt : k < ws.length
        · obtain ⟨n, hn, hq⟩ := ku _ (List.getElem_mem hlt)
          obtain ⟨bu, ou, rfl, cu1⟩ := ((hu.chgNo hw3).chg hcr (fun j _ hj => hnS j (hub j hj))).at (List.getElem?_eq_getElem hlt)
          rw [hq, Nat.mul_one] at cu1
          have cu2 : wr.cell? ⟨bu, ou + k, none⟩ = some (.int .u8 n) := by simpa using cu1.at (j := 0) rfl
          have hi : n % L.length < L.length := Nat.mod_lt _ hLp
          have hOr := hO3.rd.chg hcr (fun j _ hj hT => by
            have h1 := hf3 j hj
            have h2 := hS2.lt j hT
            omega)
          obtain ⟨ba, oa, rfl, cx⟩ := hOr.at (List.getElem?_eq_getElem hi)
          have kx : IsH L[n % L.length] := hS3.isHs _ (List.getElem_mem hi)
          have LX := Lib.hid kx.1.1
          have en : ((n : Int) % (L.length : Int)) = ((n % L.length : Nat) : Int) := by omega
          have HEN := Lib.hid en
          clear en hq hLm
          go_wp2_with (first
            | (refine wpList_val rfl (op_load agg24 rfl rfl cx LX.out) ?_
               go_frame
               refine wpList_build1 slTy33 (by omega) rfl rfl (v := H L[n % L.length]) rfl (cellsH kx) ?_
               intro n7 w7 hn7 hl7 hB7 hc7
               go_frame))
          have hB7' : Blk w7 n7 24 L[n % L.length] := hB7
          have hS7 := hSr.chg hc7 (fun _ _ h => h)
          refine Ret.calls (add_any p (1 + m % 64) L S' _ [L[n % L.length]] w7 hS7 (Blk.own1 hB7' LX.out).rd (isHs1 kx) (fun j hj hSj => by
            have h1 := hSr.lt j hSj
            have h2 : j = n7 := hj
            omega) (by simp)) ?_
          rintro gv w8 ⟨S8, hS8, hO8, hc8, hn8, ha8⟩
          have hin : L[n % L.length] ∈ L := List.getElem_mem hi
          rw [show adds (1 + m % 64) L [L[n % L.length]] = L from add1_in hin] at hS8
          rw [show gones (1 + m % 64) L [L[n % L.length]] = [] from by simp [gones, gone1_in hin]] at hO8
          obtain ⟨Ag, cg, rfl, hg1, hg2⟩ := hO8.rd.form
          go_wp2_with fail
          go_roundw
          case rel =>
            have h7 := hc7.size
            have hr7 := hcr.size
            refine ⟨k + 1, S8, by go_num, by omega, hS8, (hcr.trans hc7 (fun _ _ h => h) (fun _ _ h => h.elim)).trans hc8 (fun _ _ h => h) (fun j hj hT => ?_), fun j hj => ?_⟩
            · rcases hnr j hT with h | h
              · exact h
              · omega
            · rcases hn8 j hj with h | h
              · exact hnr j h
              · exact .inr (by omega)
          case measure => simp [intOf]; omega
        · have hk : k = ws.length := by omega
          subst hk
          go_wp2_with fail
          have hOr := hO3.rd.chg hcr (fun j _ hj hT => by
            have h1 := hf3 j hj
            have h2 := hS2.lt j hT
            omega)
          refine Ret.calls (all_any p _ _ _ _ hSr) ?_
          rintro vb w4 ⟨hO4, hc4, hf4⟩
          go_wp2_with fail
          refine Ret.calls (sameIds vb _ _ _ _ hO4.rd (hOr.chgNo hc4) hS3.isHs hS3.isHs) ?_
          rintro vc w5 ⟨hv5, hc5⟩
          rw [eqL_self] at hv5
          rw [hv5]
          clear hv5
          go_wp2_with fail
          go_ret
          exact ⟨rfl, (((hw3.trans hcr (fun _ _ h => h) (fun j hj hT => hnS j hj hT)).trans' hc4).trans' hc5)⟩
  · go_wp2_with fail
    go_ret
    exact ⟨rfl, hc1⟩
end Go.Proofs.Ytkddaombdahodaa
