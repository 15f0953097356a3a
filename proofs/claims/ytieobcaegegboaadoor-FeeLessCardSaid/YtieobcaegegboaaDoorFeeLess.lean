/- Who is less than whom goes through three; with more bytes and no more fee one is no better: whatever the input, FeeLess returns true and its input reads as it did, the tables being as the program's text lays them. Conditions: none. -/
import Derived.Test.YtieobcaegegboaaDoorTie
import Derived.Test.YtieobcaegegboaaDoorCards
import Derived.Test.YtieobcaegegboaaDoorGWfC
import Derived.Test.YtieobcaegegboaaDoorLLess
import Derived.SevenTiedAt
namespace Go.Proofs.YtieobcaegegboaaDoor
open Go.ChangeShapes Go.WideShapes Go.ChangeAt Go.RowKit Go.Px Go.Sha
set_option maxRecDepth 100000 in
theorem feeLess_lifted (os : Os) (started : os.Started) (H : Type) (enc : TypeId × Value → H) :
    ReturnsInHanded {} Tryd.checked os 9 .any (fun w args => (Rows.feeLessSpec.pre enc Tryd.prog Tryd.f9 [] false w args ∧ laidMetH Tryd.prog laidBoth w) ∧ sizedMet enc Tryd.prog Tryd.f9 (OpenSpec.ofChange Rows.feeLessSpec) false w args)
      (Rows.feeLessSpec.post enc Tryd.prog Tryd.f9 false true false false) := by
  refine returnsInHanded_of_change_and (C := Tryd.checked) (X := fun w _ => laidMetH Tryd.prog laidBoth w) (fun _ _ _ hh h => h.of_heap hh) own_knob started (by kernel_rfl) Tryd.func9
    (ChangeSpec.witness_shaped (enc := enc) (C := Tryd.checked) (os := os) (X := fun w _ => laidMetH Tryd.prog laidBoth w) false (World.doorLaid Tryd.prog 400 os) #[.agg #[Value.int .u64 0, .int .i64 0], .agg #[Value.int .u64 0, .int .i64 0], .agg #[Value.int .u64 0, .int .i64 0]] 8 rfl (World.shaped_of_RefB (by kernel_rfl) (by kernel_rfl)) (by kernel_rfl) (by kernel_rfl) (by kernel_rfl) (door_met os _)) ?_
  intro W base args ds gs before hval0 hW _ _ hL _
  have hval : ∀ (j : Nat) t v, Tryd.f9.params[j]? = some t → args[j]? = some v → Value.okWide Tryd.prog W .any base t v := hval0
  have hW' := hW
  obtain ⟨p, q, hA0, hV, rfl, hfz, hnd⟩ := hW
  have hA : DataW.TrodAll enc Tryd.prog W 0 (fun _ => true) true Tryd.f9.params.toList args.toList ds p := hA0
  rw [Tryd.params9] at hA hval
  obtain ⟨v0, v1, v2, d0, d1, d2, p0, p1, p2, rfl, rfl, rfl, h0, h1, h2⟩ := trodAll_three hA
  obtain ⟨rfl, rfl⟩ := trodVars_none hV
  obtain ⟨hK, hF⟩ := of_laid hL
  obtain ⟨a0, ha0, rfl⟩ := open_weight (hval 0 55 v0 rfl rfl) h0
  obtain ⟨a1, ha1, rfl⟩ := open_weight (hval 1 55 v1 rfl rfl) h1
  obtain ⟨a2, ha2, rfl⟩ := open_weight (hval 2 55 v2 rfl rfl) h2
  simp only [List.append_nil, List.nil_append] at hW'
  refine (feeLess_w hK hF ha0 ha1 ha2).mono fun e W' he => ?_
  cases e with
  | returned r =>
    obtain ⟨rfl, hc⟩ := he
    have hB : Below W.heap.size W W' := hc.below (Nat.le_refl _) (fun _ _ h => h)
    refine ⟨_, rfl, post_below (pa := p0 ++ (p1 ++ p2)) (pv := []) hW' (fun _ _ _ => trodAll_mk1 (shut_bool undBool true)) (fun sp hs => ?_) (fun _ _ => rfl) (by simp) hB (ok_one (by kernel_rfl) rfl (okWide_bool_mk undBool true))⟩
    rw [Tryd.params9]
    have hX := below_all (P := Tryd.prog) (ts := [55, 55, 55]) Tryd.laidOut hB sp (by
      intro t ht
      simp at ht
      first
        | (rcases ht with rfl | rfl | rfl <;> exact ⟨by kernel_rfl, of_decide_eq_true (by kernel_rfl)⟩)
        | (rcases ht with rfl | rfl <;> exact ⟨by kernel_rfl, of_decide_eq_true (by kernel_rfl)⟩)
        | (subst ht; exact ⟨by kernel_rfl, of_decide_eq_true (by kernel_rfl)⟩)) (fun x hx => hW'.lt x (by simpa using hx)) (fun x hx => hs x (by simpa using hx)) (trodAll_mk3 h0 h1 h2)
    first | exact hX | (simp only [List.nil_append, List.append_nil] at hX; exact hX)
  | panicked c => exact he.elim
  | outgrown => exact he.elim
theorem feeLess_row : Rows.FeeLessSaid :=
  OpenClaim.holds_of_wide 9 Tryd.f9 rfl rfl rfl rfl rfl rfl rfl ⟨rfl, rfl, rfl, rfl, rfl⟩ rfl rfl rfl rfl rfl (by kernel_rfl) Tryd.func9 (by kernel_rfl)
    (of_decide_eq_true (by kernel_rfl)) (by unfold Func.isWrapper; first | (rw [if_pos (by decide +kernel)]; kernel_rfl) | (rw [if_neg (by decide +kernel)]; exact ⟨rfl, rfl⟩))
    (fun os started H enc _ => feeLess_lifted os started H enc)
theorem feeLess_holds : Rows.FeeLessCardSaid :=
  Claim7.holds_tied_plain_at .later [] [.data, .data] true (true, "7e570f78af52335cea6e567e14ab65285de09396c661549f0dd8cceb3411fe1e") false
    feeLess_row (fun _ h => by cases h) (by kernel_rfl) (fun _ h => by cases h) feeLess_row_tie rfl ⟨rfl, rfl⟩ (by kernel_rfl) rfl
    (fun f fn hf hfn => by
      obtain rfl : f = 9 := Option.some.inj ((show Tryd.prog.funcNamed "pappus/pappuslaw10.FeeLess" = some 9 by kernel_rfl).symm.trans hf) |>.symm
      obtain rfl : fn = Tryd.f9 := (Option.some.inj (Tryd.func9.symm.trans hfn)).symm
      exact ⟨by kernel_rfl, fun j t ht => by
        rw [Tryd.params9] at ht
        have h3 : t = 55 := by
          rcases j with _ | j
          · simpa using ht.symm
          · rcases j with _ | j
            · simpa using ht.symm
            · rcases j with _ | j
              · simpa using ht.symm
              · simp at ht
        subst h3
        exact (show Tryd.prog.wantsStandIn 55 = false by kernel_rfl)⟩)
    (by kernel_rfl)
#print axioms feeLess_holds
end Go.Proofs.YtieobcaegegboaaDoor
