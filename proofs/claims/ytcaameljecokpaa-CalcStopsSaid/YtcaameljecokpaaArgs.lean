/- The arguments that a caller hands in read as numbers. Conditions: those that stand ahead of each theorem. -/
import Derived.Test.YtcaameljecokpaaOut
import Derived.Test.YtcaameljecokpaaU
import Derived.Test.YtcaameljecokpaaChecked
import Derived.Lib.SmallJoins
namespace Go.Proofs.Ytcaameljecokpaa
open Go.ChangeShapes Go.WideShapes Go.ChangeAt Go.RowKit Go.Px Go.Joins
theorem Try.laidOut : laidOutB Try.prog = true := by kernel_rfl
theorem own_knob : ownKnob Try.prog.godebug = none := by kernel_rfl
theorem undBool : Try.prog.underlying 4 = some .bool := by kernel_rfl
theorem undU64 : Try.prog.underlying 22 = some (.int .u64) := by kernel_rfl
theorem undU64s : Try.prog.underlying 23 = some (.slice 22) := by kernel_rfl
theorem cellsU64 : Try.prog.cellsOf 22 = 1 := by kernel_rfl
theorem u64_nat {z : Int} (hw : (Lit.int .u64 z).wf = true) : ∃ n : Nat, n < 18446744073709551616 ∧ Value.int .u64 z = U n := by
  have hr : IntKind.u64.min ≤ z ∧ z ≤ IntKind.u64.max := by simpa [Lit.wf] using hw
  rw [show IntKind.u64.min = 0 from rfl, show IntKind.u64.max = 18446744073709551615 from rfl] at hr
  refine ⟨z.toNat, by omega, ?_⟩
  unfold U
  congr 1
  omega
section
variable {H : Type} {enc : TypeId × Value → H} {W : World} {base b0 : Nat} {sp : Nat → Bool} {held : Bool} {r : Reach} {v : Value} {d : DataW H} {ps : List MemPlace}
theorem open_u64 (hval : Value.okWide Try.prog W r b0 22 v) (h : DataW.Trod enc Try.prog W base sp held 22 v d ps) : ∃ n : Nat, n < 18446744073709551616 ∧ v = U n := by
  obtain ⟨z, rfl, _, _, wz⟩ := open_int undU64 hval h
  exact u64_nat wz
theorem nats_of : ∀ {l : List (List Value)}, (∀ c ∈ l, ∃ n : Nat, n < 18446744073709551616 ∧ c = [U n]) → ∃ ns : List Nat, l = ns.map (fun n => [U n]) ∧ ∀ n ∈ ns, n < 18446744073709551616
  | [], _ => ⟨[], rfl, by simp⟩
  | c :: l, h => by
    obtain ⟨n, hn, rfl⟩ := h c (by simp)
    obtain ⟨ns, rfl, hns⟩ := nats_of (l := l) fun d hd => h d (by simp [hd])
    refine ⟨n :: ns, rfl, ?_⟩
    intro m hm
    rcases List.mem_cons.1 hm with h | h
    · rw [h]; exact hn
    · exact hns m h
theorem open_u64s (hval : Value.okWide Try.prog W r b0 23 v) (h : DataW.Trod enc Try.prog W base sp held 23 v d ps) : ∃ ns : List Nat, RdIn All W 1 v (ns.map fun n => [U n]) ∧ ∀ n ∈ ns, n < 18446744073709551616 := by
  obtain ⟨l, h1, h2, _⟩ := open_rd (Q := fun c => ∃ n : Nat, n < 18446744073709551616 ∧ c = [U n]) undU64s cellsU64 hval h fun fuel cs x hh => by
    obtain ⟨z, rfl, _, hw⟩ := DataW.trod_int undU64 hh
    obtain ⟨n, hn, e⟩ := u64_nat hw
    exact ⟨n, hn, by rw [e]⟩
  obtain ⟨ns, rfl, hns⟩ := nats_of h2
  exact ⟨ns, RdIn.of h1, hns⟩
theorem open_four (hval : Value.okWide Try.prog W r b0 33 v) (h : DataW.Trod enc Try.prog W base sp held 33 v d ps) :
    ∃ a b c e : Nat, a < 18446744073709551616 ∧ b < 18446744073709551616 ∧ c < 18446744073709551616 ∧ e < 18446744073709551616 ∧ v = .agg #[U a, U b, U c, U e] := by
  obtain ⟨v0, v1, v2, v3, y0, y1, y2, y3, n, rfl, _, _, h0, h1, h2, h3⟩ := open_agg4 Try.underlying33 (by kernel_rfl) (by kernel_rfl) hval h
  obtain ⟨z0, e0, _, w0⟩ := DataW.trod_int undU64 h0
  obtain ⟨z1, e1, _, w1⟩ := DataW.trod_int undU64 h1
  obtain ⟨z2, e2, _, w2⟩ := DataW.trod_int undU64 h2
  obtain ⟨z3, e3, _, w3⟩ := DataW.trod_int undU64 h3
  injection e0 with e0
  injection e1 with e1
  injection e2 with e2
  injection e3 with e3
  subst e0 e1 e2 e3
  obtain ⟨a, ha, ea⟩ := u64_nat w0
  obtain ⟨b, hb, eb⟩ := u64_nat w1
  obtain ⟨c, hc, ec⟩ := u64_nat w2
  obtain ⟨e, he, ee⟩ := u64_nat w3
  exact ⟨a, b, c, e, ha, hb, hc, he, by rw [ea, eb, ec, ee]⟩
end
end Go.Proofs.Ytcaameljecokpaa
