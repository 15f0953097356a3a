/- More ends see no less; what is secret from more is secret from fewer, and what is aside likewise: whatever the input, TraceMore returns true and its input reads as it did, the tables being as the program's text lays them. Conditions: none. -/
import Derived.Test.YtnjeoaplohlgkaaDoorTie
import Derived.Test.YtnjeoaplohlgkaaDoorCards
import Derived.Test.YtnjeoaplohlgkaaDoorGTd
import Derived.Test.YtnjeoaplohlgkaaDoorTHArgs
import Derived.Test.YtnjeoaplohlgkaaDoorLMore
import Derived.SevenTiedAt
namespace Go.Proofs.YtnjeoaplohlgkaaDoor
open Go.ChangeShapes Go.WideShapes Go.ChangeAt Go.RowKit Go.Px Go.Sha
set_option maxRecDepth 100000 in
theorem traceMore_lifted (os : Os) (started : os.Started) (H : Type) (enc : TypeId × Value → H) :
    ReturnsInHanded {} Tryd.checked os 7 .any (fun w args => (Rows.traceMoreSpec.pre enc Tryd.prog Tryd.f7 [] false w args ∧ laidMetH Tryd.prog laidBoth w) ∧ sizedMet enc Tryd.prog Tryd.f7 (OpenSpec.ofChange Rows.traceMoreSpec) false w args)
      (Rows.traceMoreSpec.post enc Tryd.prog Tryd.f7 false true false false) := by
  refine returnsInHanded_of_change_and (C := Tryd.checked) (X := fun w _ => laidMetH Tryd.prog laidBoth w) (fun _ _ _ hh h => h.of_heap hh) own_knob started (by kernel_rfl) Tryd.func7
    (ChangeSpec.witness_shaped (enc := enc) (C := Tryd.checked) (os := os) (X := fun w _ => laidMetH Tryd.prog laidBoth w) false (World.doorLaid Tryd.prog 400 os) #[.agg ([Value.slice none 0 0, .slice none 0 0, .slice none 0 0] ++ ([Value.int .i64 0, .int .i64 0, .int .i64 0, .int .i64 0, .int .i64 0, .slice none 0 0, .int .u64 0, .int .u32 0, .slice none 0 0, .slice none 0 0, .int .u64 0, .slice none 0 0, .slice none 0 0] ++ List.replicate 32 (Value.int .u8 0) ++ [Value.slice none 0 0])).toArray] 8 rfl (World.shaped_of_RefB (by kernel_rfl) (by kernel_rfl)) (by kernel_rfl) (by kernel_rfl) (by kernel_rfl) (door_met os _)) ?_
  intro W base args ds gs before hval0 hW _ hsz hL _
  have hval : ∀ (j : Nat) t v, Tryd.f7.params[j]? = some t → args[j]? = some v → Value.okWide Tryd.prog W .any base t v := hval0
  have hW' := hW
  obtain ⟨p, q, hA0, hV, rfl, hfz, hnd⟩ := hW
  have hA : DataW.TrodAll enc Tryd.prog W 0 (fun _ => true) true Tryd.f7.params.toList args.toList ds p := hA0
  rw [Tryd.params7] at hA hval
  obtain ⟨v0, d0, rfl, rfl, h0⟩ := trodAll_one hA
  obtain ⟨rfl, rfl⟩ := trodVars_none hV
  obtain ⟨hK, hF⟩ := of_laid hL
  rw [Tryd.params7] at hsz
  have hs0 : (DataW.weights Tryd.prog 54 d0).all (fun x => decide (x ≤ reachBytes)) = true := by simpa [DataW.weightsEach, show Tryd.checked.prog = Tryd.prog from rfl] using hsz
  obtain ⟨u0, u1, u2, E0, M0, L0, k0, a0, b0, l0, c0, hr0, ho0, hc0, rfl⟩ := open_more (hval 0 54 v0 rfl rfl) h0 hs0
  simp only [List.append_nil, List.nil_append] at hW'
  refine (traceMore_w hK hF hr0 ho0 hc0).mono fun e W' he => ?_
  cases e with
  | returned r =>
    obtain ⟨rfl, hc⟩ := he
    have hB : Below W.heap.size W W' := hc.below (Nat.le_refl _) (fun _ _ h => h)
    refine ⟨_, rfl, post_below (pa := p) (pv := []) hW' (fun _ _ _ => trodAll_mk1 (shut_bool undBool true)) (fun sp hs => ?_) (fun _ _ => rfl) (by simp) hB (ok_one (by kernel_rfl) rfl (okWide_bool_mk undBool true))⟩
    rw [Tryd.params7]
    have hX := below_all (P := Tryd.prog) (ts := [54]) Tryd.laidOut hB sp (by
      intro t ht
      simp at ht
      first
        | (rcases ht with rfl | rfl | rfl <;> exact ⟨by kernel_rfl, of_decide_eq_true (by kernel_rfl)⟩)
        | (rcases ht with rfl | rfl <;> exact ⟨by kernel_rfl, of_decide_eq_true (by kernel_rfl)⟩)
        | (subst ht; exact ⟨by kernel_rfl, of_decide_eq_true (by kernel_rfl)⟩)) (fun x hx => hW'.lt x (by simpa using hx)) (fun x hx => hs x (by simpa using hx)) (trodAll_mk1 h0)
    first | exact hX | (simp only [List.nil_append, List.append_nil] at hX; exact hX)
  | panicked c => exact he.elim
  | outgrown => exact he.elim
theorem traceMore_row : Rows.TraceMoreSaid :=
  OpenClaim.holds_of_wide 7 Tryd.f7 rfl rfl rfl rfl rfl rfl rfl ⟨rfl, rfl, rfl, rfl, rfl⟩ rfl rfl rfl rfl rfl (by kernel_rfl) Tryd.func7 (by kernel_rfl)
    (of_decide_eq_true (by kernel_rfl)) (by unfold Func.isWrapper; first | (rw [if_pos (by decide +kernel)]; kernel_rfl) | (rw [if_neg (by decide +kernel)]; exact ⟨rfl, rfl⟩))
    (fun os started H enc _ => traceMore_lifted os started H enc)
theorem traceMore_holds : Rows.TraceMoreCardSaid :=
  Claim7.holds_tied_plain_at .later [] [.data, .data] true (true, "8d5247bfe72b95bcadd60c24bb3bf9c630cf3f43e3901479044db447f92f1cb1") false
    traceMore_row (fun _ h => by cases h) (by kernel_rfl) (fun _ h => by cases h) traceMore_row_tie rfl ⟨rfl, rfl⟩ (by kernel_rfl) rfl
    (fun f fn hf hfn => by
      obtain rfl : f = 7 := Option.some.inj ((show Tryd.prog.funcNamed "pappus/pappuslaw26.TraceMore" = some 7 by kernel_rfl).symm.trans hf) |>.symm
      obtain rfl : fn = Tryd.f7 := (Option.some.inj (Tryd.func7.symm.trans hfn)).symm
      exact ⟨by kernel_rfl, fun j t ht => by
        rw [Tryd.params7] at ht
        have h3 : t = 54 := by
          rcases j with _ | j
          · simpa using ht.symm
          · simp at ht
        subst h3
        exact (show Tryd.prog.wantsStandIn 54 = false by kernel_rfl)⟩)
    (by kernel_rfl)
#print axioms traceMore_holds
end Go.Proofs.YtnjeoaplohlgkaaDoor
