/- What is paid and what the outputs have are what the inputs had; each key opens its lock: whatever the input, FeeBalances returns true and its input reads as it did, the tables being as the program's text lays them. Conditions: none. -/
import Derived.Test.YtieobcaegegboaaDoorTie
import Derived.Test.YtieobcaegegboaaDoorCards
import Derived.Test.YtieobcaegegboaaDoorGWfC
import Derived.Test.YtieobcaegegboaaDoorLBalances
import Derived.SevenTiedAt
namespace Go.Proofs.YtieobcaegegboaaDoor
open Go.ChangeShapes Go.WideShapes Go.ChangeAt Go.RowKit Go.Px Go.Sha
set_option maxRecDepth 100000 in
theorem feeBalances_lifted (os : Os) (started : os.Started) (H : Type) (enc : TypeId × Value → H) :
    ReturnsInHanded {} Tryd.checked os 5 .any (fun w args => (Rows.feeBalancesSpec.pre enc Tryd.prog Tryd.f5 [] false w args ∧ laidMetH Tryd.prog laidBoth w) ∧ sizedMet enc Tryd.prog Tryd.f5 (OpenSpec.ofChange Rows.feeBalancesSpec) false w args)
      (Rows.feeBalancesSpec.post enc Tryd.prog Tryd.f5 false true false false) := by
  refine returnsInHanded_of_change_and (C := Tryd.checked) (X := fun w _ => laidMetH Tryd.prog laidBoth w) (fun _ _ _ hh h => h.of_heap hh) own_knob started (by kernel_rfl) Tryd.func5
    (ChangeSpec.witness_shaped (enc := enc) (C := Tryd.checked) (os := os) (X := fun w _ => laidMetH Tryd.prog laidBoth w) false (World.doorLaid Tryd.prog 400 os) #[.agg #[Value.int .u32 0, .slice none 0 0, .slice none 0 0], .slice none 0 0] 8 rfl (World.shaped_of_RefB (by kernel_rfl) (by kernel_rfl)) (by kernel_rfl) (by kernel_rfl) (by kernel_rfl) (door_met os _)) ?_
  intro W base args ds gs before hval0 hW _ _ hL _
  have hval : ∀ (j : Nat) t v, Tryd.f5.params[j]? = some t → args[j]? = some v → Value.okWide Tryd.prog W .any base t v := hval0
  have hW' := hW
  obtain ⟨p, q, hA0, hV, rfl, hfz, hnd⟩ := hW
  have hA : DataW.TrodAll enc Tryd.prog W 0 (fun _ => true) true Tryd.f5.params.toList args.toList ds p := hA0
  rw [Tryd.params5] at hA hval
  obtain ⟨v0, v1, d0, d1, p0, p1, rfl, rfl, rfl, h0, h1⟩ := trodAll_two hA
  obtain ⟨rfl, rfl⟩ := trodVars_none hV
  obtain ⟨hK, hF⟩ := of_laid hL
  obtain ⟨m0, hm0, _, rfl⟩ := open_tx (hval 0 26 v0 rfl rfl) h0
  obtain ⟨o1, ho1⟩ := open_outs (hval 1 24 v1 rfl rfl) h1
  simp only [List.append_nil, List.nil_append] at hW'
  refine (feeBalances_w hK hF hm0 ho1).mono fun e W' he => ?_
  cases e with
  | returned r =>
    obtain ⟨rfl, hc⟩ := he
    have hB : Below W.heap.size W W' := hc.below (Nat.le_refl _) (fun _ _ h => h)
    refine ⟨_, rfl, post_below (pa := p0 ++ p1) (pv := []) hW' (fun _ _ _ => trodAll_mk1 (shut_bool undBool true)) (fun sp hs => ?_) (fun _ _ => rfl) (by simp) hB (ok_one (by kernel_rfl) rfl (okWide_bool_mk undBool true))⟩
    rw [Tryd.params5]
    have hX := below_all (P := Tryd.prog) (ts := [26, 24]) Tryd.laidOut hB sp (by
      intro t ht
      simp at ht
      first
        | (rcases ht with rfl | rfl | rfl <;> exact ⟨by kernel_rfl, of_decide_eq_true (by kernel_rfl)⟩)
        | (rcases ht with rfl | rfl <;> exact ⟨by kernel_rfl, of_decide_eq_true (by kernel_rfl)⟩)
        | (subst ht; exact ⟨by kernel_rfl, of_decide_eq_true (by kernel_rfl)⟩)) (fun x hx => hW'.lt x (by simpa using hx)) (fun x hx => hs x (by simpa using hx)) (trodAll_mk2 h0 h1)
    first | exact hX | (simp only [List.nil_append, List.append_nil] at hX; exact hX)
  | panicked c => exact he.elim
  | outgrown => exact he.elim
theorem feeBalances_row : Rows.FeeBalancesSaid :=
  OpenClaim.holds_of_wide 5 Tryd.f5 rfl rfl rfl rfl rfl rfl rfl ⟨rfl, rfl, rfl, rfl, rfl⟩ rfl rfl rfl rfl rfl (by kernel_rfl) Tryd.func5 (by kernel_rfl)
    (of_decide_eq_true (by kernel_rfl)) (by unfold Func.isWrapper; first | (rw [if_pos (by decide +kernel)]; kernel_rfl) | (rw [if_neg (by decide +kernel)]; exact ⟨rfl, rfl⟩))
    (fun os started H enc _ => feeBalances_lifted os started H enc)
theorem feeBalances_holds : Rows.FeeBalancesCardSaid :=
  Claim7.holds_tied_plain_at .later [] [.data, .data] true (true, "7e570f78af52335cea6e567e14ab65285de09396c661549f0dd8cceb3411fe1e") false
    feeBalances_row (fun _ h => by cases h) (by kernel_rfl) (fun _ h => by cases h) feeBalances_row_tie rfl ⟨rfl, rfl⟩ (by kernel_rfl) rfl
    (fun f fn hf hfn => by
      obtain rfl : f = 5 := Option.some.inj ((show Tryd.prog.funcNamed "pappus/pappuslaw10.FeeBalances" = some 5 by kernel_rfl).symm.trans hf) |>.symm
      obtain rfl : fn = Tryd.f5 := (Option.some.inj (Tryd.func5.symm.trans hfn)).symm
      exact ⟨by kernel_rfl, fun j t ht => by
        rw [Tryd.params5] at ht
        have h3 : t = 26 ∨ t = 24 := by
          rcases j with _ | j
          · exact (Or.inl (by simpa using ht.symm))
          · rcases j with _ | j
            · exact (Or.inr (by simpa using ht.symm))
            · simp at ht
        rcases h3 with rfl | rfl
        · exact (show Tryd.prog.wantsStandIn 26 = false by kernel_rfl)
        · exact (show Tryd.prog.wantsStandIn 24 = false by kernel_rfl)⟩)
    (by kernel_rfl)
#print axioms feeBalances_holds
end Go.Proofs.YtieobcaegegboaaDoor
