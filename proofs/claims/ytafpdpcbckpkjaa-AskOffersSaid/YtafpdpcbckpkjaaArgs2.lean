/- The arguments that a caller hands in: acts, and lists of acts. Conditions: those that stand ahead of each theorem. -/
import Derived.Test.YtafpdpcbckpkjaaArgs
import Derived.Test.YtafpdpcbckpkjaaGActs
namespace Go.Proofs.Ytafpdpcbckpkjaa
open Go.ChangeShapes Go.WideShapes Go.ChangeAt Go.RowKit Go.Px Go.Joins Go.WideMaps
theorem undActs : Try.prog.underlying 34 = some (.slice 40) := by kernel_rfl
theorem cellsAct : Try.prog.cellsOf 40 = 35 := by kernel_rfl
theorem cellsInt : Try.prog.cellsOf 3 = 1 := by kernel_rfl
theorem cellsU64 : Try.prog.cellsOf 23 = 1 := by kernel_rfl
theorem cut35 {cs : List Value} (h : cs.length = 35) {a b d : Value} {us : List Value} (h0 : (cs.drop 0).take 1 = [a]) (h1 : (cs.drop 1).take 1 = [b]) (h2 : (cs.drop 2).take 32 = us) (h3 : (cs.drop 34).take 1 = [d]) : cs = a :: b :: (us ++ [d]) := by
  have e0 : cs = (cs.drop 0).take 1 ++ ((cs.drop 1).take 1 ++ ((cs.drop 2).take 32 ++ (cs.drop 34).take 1)) := by
    have t3 : (cs.drop 34).take 1 = cs.drop 34 := List.take_of_length_le (by simp; omega)
    have t2 : (cs.drop 2).take 32 ++ cs.drop 34 = cs.drop 2 := by
      have := List.take_append_drop 32 (cs.drop 2)
      rwa [List.drop_drop] at this
    have t1 : (cs.drop 1).take 1 ++ cs.drop 2 = cs.drop 1 := by
      have := List.take_append_drop 1 (cs.drop 1)
      rwa [List.drop_drop] at this
    rw [t3, t2, t1, List.drop_zero, List.take_append_drop]
  rw [h0, h1, h2, h3] at e0
  exact e0
section
variable {H : Type} {enc : TypeId × Value → H} {W : World} {base b0 : Nat} {sp : Nat → Bool} {held : Bool} {r : Reach} {v : Value} {d : DataW H} {ps : List MemPlace}
theorem act_cells {w : World} {fuel : Nat} {cs : List Value} {x : DataW H × List MemPlace} (h : DataW.trod enc Try.prog w base sp held fuel 40 cs = some x) : ∃ a, AOk a ∧ cs = actC a := by
  obtain ⟨y0, y1, y2, y3, n, _, hl, h0, h1, h2, h3⟩ := trod_struct4 Try.underlying40 h
  rw [cellsAct] at hl
  obtain ⟨z0, e0, _, w0⟩ := DataW.trod_int undInt h0
  obtain ⟨z1, e1, _, w1⟩ := DataW.trod_int undInt h1
  obtain ⟨us, hus, e2⟩ := arr_bytes h2
  obtain ⟨z3, e3, _, w3⟩ := DataW.trod_int undU64 h3
  obtain ⟨m, hm, e4⟩ := u64_nat w3
  rw [e4] at e3
  refine ⟨⟨z0, z1, us, m⟩, ⟨int_wf w0, int_wf w1, hus, hm⟩, ?_⟩
  rw [cut35 hl (by simpa [cellsInt] using e0) (by simpa [cellsInt] using e1) (by simpa [cellsHash] using e2) (by simpa [cellsU64] using e3)]
  unfold actC
  rfl
theorem acts_of : ∀ {l : List (List Value)}, (∀ c ∈ l, ∃ a, AOk a ∧ c = actC a) → ∃ L : List PAct, l = L.map actC ∧ ∀ a ∈ L, AOk a
  | [], _ => ⟨[], rfl, by simp⟩
  | c :: l, h => by
    obtain ⟨u, hu, rfl⟩ := h c (by simp)
    obtain ⟨L, rfl, hL⟩ := acts_of (l := l) fun x hx => h x (by simp [hx])
    refine ⟨u :: L, rfl, ?_⟩
    intro a ha
    rcases List.mem_cons.1 ha with h | h
    · rw [h]; exact hu
    · exact hL a h
theorem open_acts (hval : Value.okWide Try.prog W r b0 34 v) (h : DataW.Trod enc Try.prog W base sp held 34 v d ps) : ∃ L : List PAct, Rd 35 W v (L.map actC) ∧ ∀ a ∈ L, AOk a := by
  obtain ⟨l, h1, h2, _⟩ := open_rd (Q := fun c => ∃ a, AOk a ∧ c = actC a) undActs cellsAct hval h fun _ _ _ hh => act_cells hh
  obtain ⟨L, rfl, hL⟩ := acts_of h2
  exact ⟨L, h1, hL⟩
theorem open_act (hval : Value.okWide Try.prog W r b0 40 v) (h : DataW.Trod enc Try.prog W base sp held 40 v d ps) : ∃ a, AOk a ∧ v = .agg (actC a).toArray := by
  have hu := Try.underlying40
  simp only [Value.okWide, hu] at hval
  obtain ⟨cs, rfl, hn, _⟩ := hval
  obtain ⟨fuel, hf⟩ := h
  obtain ⟨a, ha, he⟩ := act_cells hf
  refine ⟨a, ha, ?_⟩
  rw [← he]
  rfl
end
end Go.Proofs.Ytafpdpcbckpkjaa
