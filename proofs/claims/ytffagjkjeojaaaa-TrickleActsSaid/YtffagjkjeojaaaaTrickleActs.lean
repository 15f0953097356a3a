/- Whatever is put, learned and told, each answer, what waits and what is known are the document's: whatever the input, TrickleActs returns true and its input reads as it did. Conditions: none. -/
import Derived.Test.YtffagjkjeojaaaaRows
import Derived.Test.YtffagjkjeojaaaaArgs
import Derived.Test.YtffagjkjeojaaaaLActs
namespace Go.Proofs.Ytffagjkjeojaaaa
open Go.ChangeShapes Go.WideShapes Go.ChangeAt Go.RowKit Go.Px
set_option maxRecDepth 100000 in
theorem trickleActs_lifted (os : Os) (started : os.Started) (H' : Type) (enc : TypeId × Value → H') :
    ReturnsInHanded {} Try.checked os 3 .any (Rows.trickleActsSpec.pre6 enc Try.prog Try.f3 Rows.trickleActsRow.domain false) (Rows.trickleActsSpec.post enc Try.prog Try.f3 false true false false) := by
  refine returnsInHanded_of_change (C := Try.checked) own_knob started (by kernel_rfl) Try.func3
    (ChangeSpec.witness6 (enc := enc) (C := Try.checked) false ⟨#[], #[.slice none 0 0, .agg (List.replicate 32 (.int .u8 0)).toArray], []⟩ 8 (by kernel_rfl) (by kernel_rfl) (by kernel_rfl) (by kernel_rfl)) ?_
  intro W base args ds gs before hval0 hW hcnd _
  have hval : ∀ (j : Nat) t v, Try.f3.params[j]? = some t → args[j]? = some v → Value.okWide Try.prog W .any base t v := hval0
  have hW' := hW
  obtain ⟨p, q, hA0, hV, rfl, hfz, hnd⟩ := hW
  have hA : DataW.TrodAll enc Try.prog W 0 (fun _ => true) true Try.f3.params.toList args.toList ds p := hA0
  rw [Try.params3] at hA hval
  obtain ⟨v0, v1, d0, d1, p0, p1, rfl, rfl, rfl, h0, h1⟩ := trodAll_two hA
  obtain ⟨rfl, rfl⟩ := trodVars_none hV
  obtain ⟨L0, hv0, hL0⟩ := open_acts (hval 0 22 v0 rfl rfl) h0
  obtain ⟨h1, hh1, rfl⟩ := open_hash (hval 1 24 v1 rfl rfl) h1
  simp only [List.append_nil] at hW'
  refine (trickleActs_w hv0 hL0 hh1).mono fun e W' he => ?_
  cases e with
  | returned r =>
    obtain ⟨rfl, hc⟩ := he
    have hB : Below W.heap.size W W' := hc.below (Nat.le_refl _) (fun _ _ h => h)
    refine ⟨_, rfl, post_below (pa := p0 ++ p1) (pv := []) hW' (fun _ _ _ => trodAll_mk1 (shut_bool undBool true)) (fun sp hs => ?_) (fun _ _ => rfl) (by simp) hB (ok_one (by kernel_rfl) rfl (okWide_bool_mk undBool true))⟩
    rw [Try.params3]
    have hX := below_all (P := Try.prog) (ts := [22, 24]) Try.laidOut hB sp (by
      intro t ht
      simp at ht
      first
        | (rcases ht with rfl | rfl | rfl <;> exact ⟨by kernel_rfl, of_decide_eq_true (by kernel_rfl)⟩)
        | (rcases ht with rfl | rfl <;> exact ⟨by kernel_rfl, of_decide_eq_true (by kernel_rfl)⟩)
        | (subst ht; exact ⟨by kernel_rfl, of_decide_eq_true (by kernel_rfl)⟩)) (fun x hx => hW'.lt x (by simpa using hx)) (fun x hx => hs x (by simpa using hx)) (trodAll_mk2 h0 h1)
    first | exact hX | (simp only [List.nil_append, List.append_nil] at hX; exact hX)
  | panicked c => exact he.elim
  | outgrown => exact he.elim
theorem trickleActs_holds : Rows.TrickleActsSaid :=
  OpenClaim.holds_of_wide 3 Try.f3 rfl rfl rfl rfl rfl rfl rfl ⟨rfl, rfl, rfl, rfl, rfl⟩ rfl rfl rfl rfl rfl (by kernel_rfl) Try.func3 (by kernel_rfl)
    (of_decide_eq_true (by kernel_rfl)) (by unfold Func.isWrapper; first | (rw [if_pos (by decide +kernel)]; kernel_rfl) | (rw [if_neg (by decide +kernel)]; exact ⟨rfl, rfl⟩))
    (fun os started H' enc _ => trickleActs_lifted os started H' enc)
#print axioms trickleActs_holds
end Go.Proofs.Ytffagjkjeojaaaa
