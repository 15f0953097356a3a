/- What is put and is there is all told in a few turns, in order, but what was known: whatever the input, TrickleAll returns true and its input reads as it did. Conditions: none. -/
import Derived.Test.YtffagjkjeojaaaaRows
import Derived.Test.YtffagjkjeojaaaaArgs
import Derived.Test.YtffagjkjeojaaaaLAll
namespace Go.Proofs.Ytffagjkjeojaaaa
open Go.ChangeShapes Go.WideShapes Go.ChangeAt Go.RowKit Go.Px
set_option maxRecDepth 100000 in
theorem trickleAll_lifted (os : Os) (started : os.Started) (H' : Type) (enc : TypeId × Value → H') :
    ReturnsInHanded {} Try.checked os 7 .any (Rows.trickleAllSpec.pre6 enc Try.prog Try.f7 Rows.trickleAllRow.domain false) (Rows.trickleAllSpec.post enc Try.prog Try.f7 false true false false) := by
  refine returnsInHanded_of_change (C := Try.checked) own_knob started (by kernel_rfl) Try.func7
    (ChangeSpec.witness6 (enc := enc) (C := Try.checked) false ⟨#[], #[.slice none 0 0, .slice none 0 0], []⟩ 8 (by kernel_rfl) (by kernel_rfl) (by kernel_rfl) (by kernel_rfl)) ?_
  intro W base args ds gs before hval0 hW hcnd _
  have hval : ∀ (j : Nat) t v, Try.f7.params[j]? = some t → args[j]? = some v → Value.okWide Try.prog W .any base t v := hval0
  have hW' := hW
  obtain ⟨p, q, hA0, hV, rfl, hfz, hnd⟩ := hW
  have hA : DataW.TrodAll enc Try.prog W 0 (fun _ => true) true Try.f7.params.toList args.toList ds p := hA0
  rw [Try.params7] at hA hval
  obtain ⟨v0, v1, d0, d1, p0, p1, rfl, rfl, rfl, h0, h1⟩ := trodAll_two hA
  obtain ⟨rfl, rfl⟩ := trodVars_none hV
  obtain ⟨L0, hr0, hL0⟩ := open_hashes (hval 0 31 v0 rfl rfl) h0
  obtain ⟨L1, hr1, hL1⟩ := open_hashes (hval 1 31 v1 rfl rfl) h1
  simp only [List.append_nil] at hW'
  refine (trickleAll_w hr0 hL0 hr1 hL1).mono fun e W' he => ?_
  cases e with
  | returned r =>
    obtain ⟨rfl, hc⟩ := he
    have hB : Below W.heap.size W W' := hc.below (Nat.le_refl _) (fun _ _ h => h)
    refine ⟨_, rfl, post_below (pa := p0 ++ p1) (pv := []) hW' (fun _ _ _ => trodAll_mk1 (shut_bool undBool true)) (fun sp hs => ?_) (fun _ _ => rfl) (by simp) hB (ok_one (by kernel_rfl) rfl (okWide_bool_mk undBool true))⟩
    rw [Try.params7]
    have hX := below_all (P := Try.prog) (ts := [31, 31]) Try.laidOut hB sp (by
      intro t ht
      simp at ht
      first
        | (rcases ht with rfl | rfl | rfl <;> exact ⟨by kernel_rfl, of_decide_eq_true (by kernel_rfl)⟩)
        | (rcases ht with rfl | rfl <;> exact ⟨by kernel_rfl, of_decide_eq_true (by kernel_rfl)⟩)
        | (subst ht; exact ⟨by kernel_rfl, of_decide_eq_true (by kernel_rfl)⟩)) (fun x hx => hW'.lt x (by simpa using hx)) (fun x hx => hs x (by simpa using hx)) (trodAll_mk2 h0 h1)
    first | exact hX | (simp only [List.nil_append, List.append_nil] at hX; exact hX)
  | panicked c => exact he.elim
  | outgrown => exact he.elim
theorem trickleAll_holds : Rows.TrickleAllSaid :=
  OpenClaim.holds_of_wide 7 Try.f7 rfl rfl rfl rfl rfl rfl rfl ⟨rfl, rfl, rfl, rfl, rfl⟩ rfl rfl rfl rfl rfl (by kernel_rfl) Try.func7 (by kernel_rfl)
    (of_decide_eq_true (by kernel_rfl)) (by unfold Func.isWrapper; first | (rw [if_pos (by decide +kernel)]; kernel_rfl) | (rw [if_neg (by decide +kernel)]; exact ⟨rfl, rfl⟩))
    (fun os started H' enc _ => trickleAll_lifted os started H' enc)
#print axioms trickleAll_holds
end Go.Proofs.Ytffagjkjeojaaaa
