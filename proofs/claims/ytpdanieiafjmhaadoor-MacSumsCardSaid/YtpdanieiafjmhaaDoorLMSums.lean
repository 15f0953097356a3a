/- Under any key the sum of any pieces is the document's: the law returns true. Conditions: those that stand ahead of each theorem. -/
import Derived.Test.YtpdanieiafjmhaaDoorMRef
namespace Go.Proofs.YtpdanieiafjmhaaDoor
open Go.RowKit Go.Px Go.Sha
set_option maxRecDepth 100000 in
set_option maxHeartbeats 4000000 in
theorem macSums_w {W : World} (hK : CIn All W 0 (kTab.map W32)) (hF : CIn All W 1 (first.map W32)) {vk : Value} {key : List Byte} (hk : RdIn All W 1 vk (bytes key)) {v : Value} {us : List Value} {ps : List (List Byte)} (hv : Pieces All W v us ps) :
    Calls Tryd.prog 10 #[vk, v] W (Ret fun r w' => r = .bool true ∧ Chg No W w') := by
  have hS := SepL.start W
  obtain ⟨n, hn⟩ : ∃ n, key.length = n := ⟨_, rfl⟩
  have HN := hide hn
  rcases hb : heavyB 100 2000 ps with _ | _
  · have hfl := heavyB_false hb
    have HB := hide hb
    obtain ⟨d, hd⟩ : ∃ d, decide ((2000 : Int) < (n : Int)) = d := ⟨_, rfl⟩
    have HD := hide hd
    cases d
    · rw [decide_eq_false_iff_not] at hd
      have hkn : key.length ≤ 1099511627776 := by omega
      have HSM : ∀ {w : World} {F : List Hp}, SepL All W w F → Calls Tryd.prog 35 #[vk, v] w (Ret fun r w' => r = HV (hmac key ps.flatten) ∧ SepL All W w' F) := fun h => msum_s h hK hF hk hkn hv (by omega)
      have HJN : ∀ {w : World} {F : List Hp}, SepL All W w F → Calls Tryd.prog 27 #[v] w (Ret fun r w' => SepL All W w' (.own 5 1 r (bytes ps.flatten) :: F)) := fun h => join_s h hv (by omega)
      generalize ps.flatten = fl at *
      have HF1 : Hid (fl.length ≤ 1099511627000) := by
        unfold Hid
        omega
      have HKN := hide hkn
      have HL1 := hide (hmac_len key fl)
      clear hb hfl hd hn hkn
      go_enter Tryd.func10, Tryd.ntmps10
      go_wp2_with (first
        | (go_at_call 33; refine Ret.calls (malive_s hS hK hF) ?_; clear hS; rintro r w ⟨rfl, hS⟩)
        | (go_at_call 34; refine Ret.calls (mheavy_s hS hv HB.out) ?_; clear hS; rintro r w ⟨rfl, hS⟩)
        | (show wpList _ _ _ (⟨_, .call ⟨.builtin .len, _, _⟩, _, _, _, _⟩ :: _) _ _; refine wpList_val rfl (op_lenB slBytes rfl rfl rfl (hS.rd hk) HN.out) ?_; go_frame)
        | (show wpList _ _ _ (⟨some 12, .binOp _ _ _ _ _, _, _, _, _⟩ :: _) _ _; refine wpList_val rfl (op_igtr rfl rfl rfl HD.out) ?_; go_frame)
        | (go_at_call 35; refine Ret.calls (HSM hS) ?_; clear hS; rintro r w ⟨rfl, hS⟩)
        | (go_at_call 27; refine Ret.calls (HJN hS) ?_; clear hS; rintro v3 w hS)
        | (go_at_call 36; refine Ret.calls (rmsum_own hS hk HKN.out HF1.out) ?_; clear hS; rintro r w ⟨rfl, hS⟩)
        | (show wpList _ _ _ (⟨_, .binOp .eql 34 _ _ _, _, _, _, _⟩ :: _) _ _; refine wpList_val rfl (op_eqHash rfl rfl rfl HL1.out rfl) ?_; go_frame)
        )
      go_ret
      exact ⟨rfl, hS.chg⟩
    · clear hb hfl hd hn
      go_enter Tryd.func10, Tryd.ntmps10
      go_wp2_with (first
        | (go_at_call 33; refine Ret.calls (malive_s hS hK hF) ?_; clear hS; rintro r w ⟨rfl, hS⟩)
        | (go_at_call 34; refine Ret.calls (mheavy_s hS hv HB.out) ?_; clear hS; rintro r w ⟨rfl, hS⟩)
        | (show wpList _ _ _ (⟨_, .call ⟨.builtin .len, _, _⟩, _, _, _, _⟩ :: _) _ _; refine wpList_val rfl (op_lenB slBytes rfl rfl rfl (hS.rd hk) HN.out) ?_; go_frame)
        | (show wpList _ _ _ (⟨some 12, .binOp _ _ _ _ _, _, _, _, _⟩ :: _) _ _; refine wpList_val rfl (op_igtr rfl rfl rfl HD.out) ?_; go_frame)
        )
      go_ret
      exact ⟨rfl, hS.chg⟩
  · have HB := hide hb
    clear hb hn
    go_enter Tryd.func10, Tryd.ntmps10
    go_wp2_with (first
      | (go_at_call 33; refine Ret.calls (malive_s hS hK hF) ?_; clear hS; rintro r w ⟨rfl, hS⟩)
      | (go_at_call 34; refine Ret.calls (mheavy_s hS hv HB.out) ?_; clear hS; rintro r w ⟨rfl, hS⟩)
      )
    go_ret
    exact ⟨rfl, hS.chg⟩
end Go.Proofs.YtpdanieiafjmhaaDoor
