/- Whatever the input, KnownActs returns true and its input reads as it did. Conditions: none. -/
import Derived.Test.YtkddaombdahodaaOut
import Derived.Test.YtkddaombdahodaaActs
import Derived.Test.YtkddaombdahodaaOpenL
namespace Go.Proofs.Ytkddaombdahodaa
open Go.ChangeShapes Go.WideShapes Go.ChangeAt Go.RowKit Go.Px
set_option maxRecDepth 100000 in
theorem knownActs_lifted (os : Os) (started : os.Started) (H' : Type) (enc : TypeId × Value → H') :
    ReturnsInHanded {} Try.checked os 3 .any (Rows.knownActsSpec.pre6 enc Try.prog Try.f3 Rows.knownActsRow.domain false) (Rows.knownActsSpec.post enc Try.prog Try.f3 false true false false) := by
  refine returnsInHanded_of_change (C := Try.checked) Try.own started (by kernel_rfl) Try.func3
    (ChangeSpec.witness6 (enc := enc) (C := Try.checked) false ⟨#[], #[.int .i64 0, .slice none 0 0, H (List.replicate 32 (.int .u8 0))], []⟩ 8 (by kernel_rfl) (by kernel_rfl) (by kernel_rfl) (by kernel_rfl)) ?_
  intro W base args ds gs before hval0 hW hcnd _
  have hval : ∀ (j : Nat) t v, Try.f3.params[j]? = some t → args[j]? = some v → Value.okWide Try.prog W .any base t v := hval0
  have hW' := hW
  obtain ⟨p, q, hA0, hV, rfl, hfz, hnd⟩ := hW
  have hA : DataW.TrodAll enc Try.prog W 0 (fun _ => true) true Try.f3.params.toList args.toList ds p := hA0
  rw [Try.params3] at hA hval
  obtain ⟨v0, v1, v2, d0, d1, d2, p0, p1, p2, rfl, rfl, rfl, h0, h1, h2⟩ := trodAll_three hA
  obtain ⟨rfl, rfl⟩ := trodVars_none hV
  obtain ⟨a, rfl, rfl, rfl, wa⟩ := open_int Try.underlying3 (hval 0 3 v0 rfl rfl) h0
  obtain ⟨us, ls, hl, hlen, hin, kls⟩ := open_idss (hval 1 22 v1 rfl rfl) h1
  obtain ⟨y, rfl, ky, rfl⟩ := open_id (hval 2 24 v2 rfl rfl) h2
  simp only [List.append_nil, List.nil_append] at hW'
  refine (wActs a v1 us ls y W (RdIn.of hl) hlen hin kls ky).mono fun e W' he => ?_
  cases e with
  | returned r =>
    obtain ⟨rfl, hc⟩ := he
    have hB : Below W.heap.size W W' := hc.below (Nat.le_refl _) (fun _ _ h => h)
    refine ⟨_, rfl, post_below (pa := p1) (pv := []) hW' (fun _ _ _ => trodAll_mk1 (shut_bool Try.underlying4 true)) (fun sp hs => ?_) (fun _ _ => rfl) (by simp) hB (ok_one (by kernel_rfl) rfl (okWide_bool_mk Try.underlying4 true))⟩
    rw [Try.params3]
    have hX := below_all (P := Try.prog) (ts := [3, 22, 24]) Try.laidOut hB sp (by
      intro t ht
      simp at ht
      rcases ht with rfl | rfl | rfl
      · exact ⟨by kernel_rfl, of_decide_eq_true (by kernel_rfl)⟩
      · exact ⟨by kernel_rfl, of_decide_eq_true (by kernel_rfl)⟩
      · exact ⟨by kernel_rfl, of_decide_eq_true (by kernel_rfl)⟩) (fun x hx => hW'.lt x (by simpa using hx)) (fun x hx => hs x (by simpa using hx)) (trodAll_mk3 h0 h1 h2)
    simp only [List.nil_append, List.append_nil] at hX
    exact hX
  | panicked c => exact he.elim
  | outgrown => exact he.elim
theorem knownActs_holds : Rows.KnownActsSaid :=
  OpenClaim.holds_of_wide 3 Try.f3 rfl rfl rfl rfl rfl rfl rfl ⟨rfl, rfl, rfl, rfl, rfl⟩ rfl rfl rfl rfl rfl (by kernel_rfl) Try.func3 (by kernel_rfl)
    (of_decide_eq_true (by kernel_rfl)) (by unfold Func.isWrapper; first | (rw [if_pos (by decide +kernel)]; kernel_rfl) | (rw [if_neg (by decide +kernel)]; exact ⟨rfl, rfl⟩))
    (fun os started H' enc _ => knownActs_lifted os started H' enc)
end Go.Proofs.Ytkddaombdahodaa
