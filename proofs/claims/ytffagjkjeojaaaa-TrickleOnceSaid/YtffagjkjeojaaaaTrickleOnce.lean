/- Of so few ids that all can be remembered none is told twice, nor to who told it: whatever the input, TrickleOnce returns true and its input reads as it did. Conditions: none. -/
import Derived.Test.YtffagjkjeojaaaaRows
import Derived.Test.YtffagjkjeojaaaaArgs
import Derived.Test.YtffagjkjeojaaaaLOnce
namespace Go.Proofs.Ytffagjkjeojaaaa
open Go.ChangeShapes Go.WideShapes Go.ChangeAt Go.RowKit Go.Px
set_option maxRecDepth 100000 in
theorem trickleOnce_lifted (os : Os) (started : os.Started) (H' : Type) (enc : TypeId × Value → H') :
    ReturnsInHanded {} Try.checked os 6 .any (Rows.trickleOnceSpec.pre6 enc Try.prog Try.f6 Rows.trickleOnceRow.domain false) (Rows.trickleOnceSpec.post enc Try.prog Try.f6 false true false false) := by
  refine returnsInHanded_of_change (C := Try.checked) own_knob started (by kernel_rfl) Try.func6
    (ChangeSpec.witness6 (enc := enc) (C := Try.checked) false ⟨#[], #[.slice none 0 0], []⟩ 8 (by kernel_rfl) (by kernel_rfl) (by kernel_rfl) (by kernel_rfl)) ?_
  intro W base args ds gs before hval0 hW hcnd _
  have hval : ∀ (j : Nat) t v, Try.f6.params[j]? = some t → args[j]? = some v → Value.okWide Try.prog W .any base t v := hval0
  have hW' := hW
  obtain ⟨p, q, hA0, hV, rfl, hfz, hnd⟩ := hW
  have hA : DataW.TrodAll enc Try.prog W 0 (fun _ => true) true Try.f6.params.toList args.toList ds p := hA0
  rw [Try.params6] at hA hval
  obtain ⟨v0, d0, rfl, rfl, h0⟩ := trodAll_one hA
  obtain ⟨rfl, rfl⟩ := trodVars_none hV
  obtain ⟨L0, hv0, hL0⟩ := open_acts (hval 0 22 v0 rfl rfl) h0
  simp only [List.append_nil] at hW'
  refine (trickleOnce_w hv0 hL0).mono fun e W' he => ?_
  cases e with
  | returned r =>
    obtain ⟨rfl, hc⟩ := he
    have hB : Below W.heap.size W W' := hc.below (Nat.le_refl _) (fun _ _ h => h)
    refine ⟨_, rfl, post_below (pa := p) (pv := []) hW' (fun _ _ _ => trodAll_mk1 (shut_bool undBool true)) (fun sp hs => ?_) (fun _ _ => rfl) (by simp) hB (ok_one (by kernel_rfl) rfl (okWide_bool_mk undBool true))⟩
    rw [Try.params6]
    have hX := below_all (P := Try.prog) (ts := [22]) Try.laidOut hB sp (by
      intro t ht
      simp at ht
      first
        | (rcases ht with rfl | rfl | rfl <;> exact ⟨by kernel_rfl, of_decide_eq_true (by kernel_rfl)⟩)
        | (rcases ht with rfl | rfl <;> exact ⟨by kernel_rfl, of_decide_eq_true (by kernel_rfl)⟩)
        | (subst ht; exact ⟨by kernel_rfl, of_decide_eq_true (by kernel_rfl)⟩)) (fun x hx => hW'.lt x (by simpa using hx)) (fun x hx => hs x (by simpa using hx)) (trodAll_mk1 h0)
    first | exact hX | (simp only [List.nil_append, List.append_nil] at hX; exact hX)
  | panicked c => exact he.elim
  | outgrown => exact he.elim
theorem trickleOnce_holds : Rows.TrickleOnceSaid :=
  OpenClaim.holds_of_wide 6 Try.f6 rfl rfl rfl rfl rfl rfl rfl ⟨rfl, rfl, rfl, rfl, rfl⟩ rfl rfl rfl rfl rfl (by kernel_rfl) Try.func6 (by kernel_rfl)
    (of_decide_eq_true (by kernel_rfl)) (by unfold Func.isWrapper; first | (rw [if_pos (by decide +kernel)]; kernel_rfl) | (rw [if_neg (by decide +kernel)]; exact ⟨rfl, rfl⟩))
    (fun os started H' enc _ => trickleOnce_lifted os started H' enc)
#print axioms trickleOnce_holds
end Go.Proofs.Ytffagjkjeojaaaa
