/- Third part of the proof that a region whose order is drawn may be walked in the order of its text: any order can be turned into the text's. Conditions: those that stand ahead of each theorem. -/
/-
  The theorem: a region that draws its order, walked in the text's order. Over any program. No condition is added to any statement here.
-/
import Derived.Test.YtieobcaegegboaaDoorAny2
namespace Go.Px
open Go Go.RowKit
section
variable {P : Program} {ops : Array Oper} {Q : Exit → Act → World → Prop} {md : Region.Mode}

/-- nothing is said of an end by a panic or for want of room -/
structure Clean (Q : Exit → Act → World → Prop) : Prop where
  panic : ∀ c a w, ¬ Q (.panic c) a w
  out : ∀ a w, ¬ Q .outgrown a w
theorem Clean.lets (h : Clean Q) : ¬ LetsOut Q := fun ⟨a, w, hq⟩ => h.out a w hq

/-- an operation's end, where it ends without a panic -/
theorem wp_reach (hQ : Clean Q) {o : Oper} {a : Act} {w : World} {K : Act → World → Prop} (h : o.wp P a w K Q) : ∃ a' w', K a' w' ∧ ∀ t, o.dst ≠ some t → a'.tmps.getD t undef = a.tmps.getD t undef := by
  have hput : ∀ (b : Act) (v : Value) (t : Tmp), o.dst ≠ some t → (b.put o.dst v).tmps.getD t undef = b.tmps.getD t undef := by
    intro b v t ht
    cases hd : o.dst with
    | none => rfl
    | some d =>
      have hne : d ≠ t := fun e => ht (by rw [hd, e])
      simp [Act.put, Array.getElem?_setIfInBounds_ne hne]
  unfold Oper.wp at h
  generalize (execOp a.eval o).run P w = r at h
  cases r with
  | ok n w' =>
    cases n <;> simp only [Oper.upon] at h
    case value v => exact ⟨_, _, h, hput _ _⟩
    case skip => exact ⟨_, _, h, hput _ _⟩
    case defer d => exact ⟨_, _, h, hput _ _⟩
    case enter f args =>
      obtain ⟨e, w'', fr, hr, _⟩ := h []
      cases e with
      | returned v => exact ⟨_, _, hr, hput _ _⟩
      | panicked c => exact absurd hr (hQ.panic _ _ _)
      | outgrown => exact absurd hr hQ.lets
    case row row args =>
      obtain ⟨v, w'', hr, _⟩ := h (Frame.ofRow P row args .normal) []
      exact ⟨_, _, hr, hput _ _⟩
  | halt x w' => cases x <;> simp only [Oper.upon] at h; exact absurd h (hQ.panic _ _ _)
theorem wpOp_reach (hQ : Clean Q) {i : Nat} {oi : Oper} (hi : ops[i]? = some oi) {a : Act} {w : World} {K : Act → World → Prop} (h : wpOp P ops Q i K a w) : ∃ a' w', K a' w' ∧ ∀ t, oi.dst ≠ some t → a'.tmps.getD t undef = a.tmps.getD t undef := by
  unfold wpOp at h
  rw [hi] at h
  dsimp only at h
  split at h
  · rcases h with h | h
    · exact wp_reach hQ h
    · exact absurd h.2 hQ.lets
  · refine ⟨_, _, h, fun t ht => ?_⟩
    cases hd : oi.dst with
    | none => rfl
    | some d =>
      have hne : d ≠ t := fun e => ht (by rw [hd, e])
      simp [Act.put, Array.getElem?_setIfInBounds_ne hne]
theorem wpList_reach (hQ : Clean Q) : ∀ (l : List Oper) (a : Act) (w : World), wpList P ops Q l a w → ∃ a' w', Q .normal a' w' ∧ ∀ t, (∀ o ∈ l, o.dst ≠ some t) → a'.tmps.getD t undef = a.tmps.getD t undef
  | [], a, w, h => ⟨a, w, h, fun _ _ => rfl⟩
  | o :: l, a, w, h => by
    have : ∃ a' w', wpList P ops Q l a' w' ∧ ∀ t, o.dst ≠ some t → a'.tmps.getD t undef = a.tmps.getD t undef := by
      unfold wpList at h
      split at h
      · rcases h with h | h
        · exact wp_reach hQ h
        · exact absurd h.2 hQ.lets
      · refine ⟨_, _, h, fun t ht => ?_⟩
        cases hd : o.dst with
        | none => rfl
        | some d =>
          have hne : d ≠ t := fun e => ht (by rw [hd, e])
          simp [Act.put, Array.getElem?_setIfInBounds_ne hne]
    obtain ⟨a1, w1, h1, h2⟩ := this
    obtain ⟨a2, w2, h3, h4⟩ := wpList_reach hQ l a1 w1 h1
    exact ⟨a2, w2, h3, fun t ht => (h4 t fun o ho => ht o (by simp [ho])).trans (h2 t (ht o (by simp)))⟩
theorem wpAny_reach (hQ : Clean Q) : ∀ (fuel : Nat) (listed : Array Bool) (a : Act) (w : World), wpAny P md ops Q fuel listed a w →
    ∃ a' w', Q .normal a' w' ∧ ∀ t, (∀ k o, ops[k]? = some o → listed.getD k true = false → o.dst ≠ some t) → a'.tmps.getD t undef = a.tmps.getD t undef
  | 0, listed, a, w, h => ⟨a, w, h.2, fun _ _ => rfl⟩
  | fuel + 1, listed, a, w, h => by
    rcases hr : Region.ready md ops listed with _ | ⟨i, r⟩
    · exact ⟨a, w, h.1 hr, fun _ _ => rfl⟩
    · have hi : i ∈ Region.ready md ops listed := by rw [hr]; simp
      obtain ⟨hun, oi, hoi, _⟩ := mem_ready.1 hi
      obtain ⟨a1, w1, h1, h2⟩ := wpOp_reach hQ hoi (h.2 i hi)
      obtain ⟨a2, w2, h3, h4⟩ := wpAny_reach hQ fuel _ a1 w1 h1
      refine ⟨a2, w2, h3, fun t ht => (h4 t fun k o ho hk => ?_).trans (h2 t (ht i oi hoi hun))⟩
      refine ht k o ho ?_
      by_cases hik : i = k
      · subst hik; exact hun
      · rwa [getD_set_ne true hik] at hk

/-! ### what an operation yields, in each world of a class -/
def YieldsC (P : Program) (ops : Array Oper) (C : World → Prop) (o : Oper) (v : Value) (a : Act) : Prop :=
  (Region.wanted o (yielded ops a.tmps) = true ∧ ∀ w, C w → (execOp a.eval o).run P w = .ok (.value v) w) ∨ (Region.wanted o (yielded ops a.tmps) = false ∧ v = undef)
theorem YieldsC.wpOp {C : World → Prop} {i : Nat} {o : Oper} {v : Value} {a : Act} (hi : ops[i]? = some o) (hy : YieldsC P ops C o v a) {K : Act → World → Prop} {w : World} (hC : C w) (h : K (a.put o.dst v) w) : wpOp P ops Q i K a w := by
  unfold Go.wpOp
  simp only [hi]
  rcases hy with ⟨hw, hv⟩ | ⟨hw, rfl⟩
  · simp only [hw, if_true, Oper.wp, hv w hC, Oper.upon]; exact .inl h
  · simp only [hw, Bool.false_eq_true, if_false]; exact h
theorem YieldsC.of_same {C : World → Prop} {o : Oper} {v : Value} {a a' : Act} (hy : YieldsC P ops C o v a) (he : execOp a'.eval o = execOp a.eval o)
    (hw : Region.wanted o (yielded ops a'.tmps) = Region.wanted o (yielded ops a.tmps)) : YieldsC P ops C o v a' := by
  unfold YieldsC at *
  rw [he, hw]
  exact hy
/-- what an operation does keeps the class -/
def KeepsC (P : Program) (C : World → Prop) (o : Oper) (a : Act) : Prop := (∀ w, C w) ∨ ∀ w n w', C w → (execOp a.eval o).run P w = .ok n w' → ∃ v, n = .value v ∧ C w'

theorem wpOp_putC (hQ : Clean Q) {C : World → Prop} {j : Nat} {oi oj : Oper} {v : Value} (hj : ops[j]? = some oj) (hap : oi.apart ops oj = true)
    (hsi : ∀ cs b, oi.op ≠ .select cs b) (hsj : ∀ cs b, oj.op ≠ .select cs b) {K : Act → World → Prop} {a : Act} {w : World} (hk : KeepsC P C oj a) (hC : C w)
    (hy : YieldsC P ops C oi v a) (h : wpOp P ops Q j K (a.put oi.dst v) w) :
    wpOp P ops Q j (fun a' w' => C w' ∧ YieldsC P ops C oi v a' ∧ K (a'.put oi.dst v) w') a w := by
  obtain ⟨h1, h2, h3⟩ := Oper.apart_spec hap
  have keep : ∀ (a : Act), YieldsC P ops C oi v a → ∀ u, YieldsC P ops C oi v (a.put oj.dst u) := fun a hy u =>
    hy.of_same (execOp_put oi hsi a oj.dst u h3) (wanted_put oi a oj.dst u h3)
  have keepD : ∀ d, YieldsC P ops C oi v { a with defers := d :: a.defers } := fun d => hy.of_same rfl rfl
  unfold wpOp at *
  simp only [hj] at *
  rw [wanted_put oj a oi.dst v h1] at h
  split
  · rename_i hw
    simp only [hw, if_true] at h
    rcases h with h | ⟨_, hlets⟩
    case inr => exact absurd hlets hQ.lets
    refine .inl ?_
    unfold Oper.wp at *
    rw [execOp_put oj hsj a oi.dst v h1] at h
    have hk' : (∀ w, C w) ∨ ∀ n w', (execOp a.eval oj).run P w = .ok n w' → ∃ v, n = .value v ∧ C w' := hk.imp id fun hh n w' hr => hh w n w' hC hr
    generalize (execOp a.eval oj).run P w = r at *
    cases r with
    | ok n w' =>
      rcases hk' with hall | hk'
      · cases n <;> simp only [Oper.upon] at h ⊢
        case value u => exact ⟨hall _, keep a hy u, by rw [← Act.put_comm a v u h2]; exact h⟩
        case skip => exact ⟨hall _, keep a hy _, by rw [← Act.put_comm a v undef h2]; exact h⟩
        case defer d =>
          refine ⟨hall _, keep _ (keepD d) _, ?_⟩
          rw [← Act.put_comm _ v undef h2, ← Act.put_defers]
          exact h
        case enter f args =>
          refine Calls.mono h fun e w'' he => ?_
          cases e with
          | returned u => exact ⟨hall _, keep a hy u, by rw [← Act.put_comm a v u h2]; exact he⟩
          | panicked c => exact absurd he (hQ.panic _ _ _)
          | outgrown => exact absurd he hQ.lets
        case row row args => exact Rows.mono h fun u w'' he => ⟨hall _, keep a hy u, by rw [← Act.put_comm a v u h2]; exact he⟩
      · obtain ⟨u, rfl, hC'⟩ := hk' n w' rfl
        simp only [Oper.upon] at h ⊢
        exact ⟨hC', keep a hy u, by rw [← Act.put_comm a v u h2]; exact h⟩
    | halt x w' =>
      cases x <;> simp only [Oper.upon] at h ⊢
      case panic u => exact absurd h (hQ.panic _ _ _)
  · rename_i hw
    simp only [hw] at h
    exact ⟨hC, keep a hy _, by rw [← Act.put_comm a v undef h2]; exact h⟩

/-! ### who waits for whom -/
def waitsOk (ops : Array Oper) (B : Array Nat) : Bool :=
  (List.range ops.size).all fun j => (List.range j).all fun i => !(B.getD j 0).testBit i ||
    match ops[j]? with
    | some oj => oj.after.any fun e => Region.binds .any e && decide (e.on < j) && (e.on == i || (decide (i < e.on) && (B.getD e.on 0).testBit i))
    | none => true
def Closed (ops : Array Oper) (listed : Array Bool) : Prop := ∀ k o, ops[k]? = some o → listed.getD k false = true → ∀ e ∈ o.after, Region.binds .any e = true → listed.getD e.on false = true
theorem waits_listed {B : Array Nat} (hB : waitsOk ops B = true) {listed : Array Bool} (hc : Closed ops listed) : ∀ (j : Nat) (oj : Oper), ops[j]? = some oj → (∀ e ∈ oj.after, Region.binds .any e = true → listed.getD e.on false = true) →
    ∀ i, i < j → (B.getD j 0).testBit i = true → listed.getD i false = true := by
  intro j
  induction j using Nat.strongRecOn with
  | _ j ih =>
    intro oj hj hdeps i hij hbit
    have hlt := (Array.getElem?_eq_some_iff.1 hj).1
    have h1 := List.all_eq_true.1 hB j (List.mem_range.2 hlt)
    have h2 := List.all_eq_true.1 h1 i (List.mem_range.2 hij)
    rw [hj] at h2
    simp only [hbit, Bool.not_true, Bool.false_or] at h2
    obtain ⟨e, he, hb⟩ := Array.any_eq_true'.1 h2
    simp only [Bool.and_eq_true, Bool.or_eq_true, decide_eq_true_eq, beq_iff_eq] at hb
    obtain ⟨⟨hb1, hb2⟩, hb3⟩ := hb
    have hl := hdeps e he hb1
    rcases hb3 with rfl | ⟨hb3, hb4⟩
    · exact hl
    · have hlt2 : e.on < ops.size := by omega
      have ho : ops[e.on]? = some ops[e.on] := Array.getElem?_eq_getElem hlt2
      exact ih e.on hb2 _ ho (hc e.on _ ho hl) i hb3 hb4
theorem Closed.step {listed : Array Bool} (hc : Closed ops listed) {i : Nat} (hi : i ∈ Region.ready .any ops listed) : Closed ops (listed.setIfInBounds i true) := by
  intro k o ho hk e he hb
  by_cases hik : i = k
  · subst hik
    obtain ⟨_, oi, hoi, hall⟩ := mem_ready.1 hi
    rw [hoi] at ho
    injection ho with ho
    subst ho
    exact getD_set_true (hall e he hb)
  · rw [getD_set_ne false hik] at hk
    exact getD_set_true (hc k o ho hk e he hb)

/-- operation i may be taken first, if it yields the same in each world of a class that those who may come up before it keep -/
theorem wpAny_firstC (hQ : Clean Q) {C : World → Prop} {B : Array Nat} (hB : waitsOk ops B = true) {i : Nat} {oi : Oper} {v : Value} (hi : ops[i]? = some oi) (hsel : ∀ (j : Nat) (o : Oper) cs b, ops[j]? = some o → o.op ≠ .select cs b)
    (hord : ∀ j oj, ops[j]? = some oj → j ≠ i → (i < j ∧ (B.getD j 0).testBit i = true) ∨ (oi.apart ops oj = true ∧ ((∀ w, C w) ∨ (∀ a, LoadAt P oj a ∧ ∀ w n w', C w → (execOp a.eval oj).run P w = .ok n w' → C w') ∨
      (∀ a, NewsAt P oj a ∧ ∀ w n w', C w → (execOp a.eval oj).run P w = .ok n w' → C w') ∨ (∃ L, pcls P oj = some L ∧ ∀ p ∈ L, ∀ a' w', Q .normal a' w' → okV p.2 (a'.tmps.getD p.1 undef) = true) ∧
        ∀ L, pcls P oj = some L → ∀ p ∈ L, ∀ k ok, ops[k]? = some ok → ok.dst = some p.1 → k < j ∧ (B.getD j 0).testBit k = true)) ∨ (j < i)) :
    ∀ (fuel : Nat) (listed : Array Bool) (a : Act) (w : World), Closed ops listed → (∀ j, j < i → listed.getD j false = true) → i ∈ Region.ready .any ops listed → C w → YieldsC P ops C oi v a →
      wpAny P .any ops Q fuel (listed.setIfInBounds i true) (a.put oi.dst v) w → wpAny P .any ops Q (fuel + 1) listed a w := by
  intro fuel
  induction fuel with
  | zero =>
    intro listed a w hcl hlow hr hC hy H
    refine ⟨fun h => (by rw [h] at hr; cases hr), fun j hj => ?_⟩
    by_cases hji : j = i
    · subst hji; exact hy.wpOp hi hC H
    · have := ready_mono hj hji
      rw [H.1] at this
      cases this
  | succ fuel ih =>
    intro listed a w hcl hlow hr hC hy H
    refine ⟨fun h => (by rw [h] at hr; cases hr), fun j hj => ?_⟩
    by_cases hji : j = i
    · subst hji; exact hy.wpOp hi hC H
    · have h1 := H.2 j (ready_mono hj hji)
      obtain ⟨hjun, oj, hoj, hall⟩ := mem_ready.1 hj
      have hiun := (mem_ready.1 hr).1
      have hfalse : ∀ {b : Bool} {k : Nat}, listed.getD k false = true → listed.getD k true = false → False := by
        intro b k e1 e2
        rcases Nat.lt_or_ge k listed.size with h' | h'
        · simp [h'] at e1 e2; rw [e1] at e2; cases e2
        · simp [Array.getElem?_eq_none h'] at e1
      rcases hord j oj hoj hji with ⟨hlt, hw⟩ | ⟨hap, hcls⟩ | hlt
      · exact (hfalse (b := true) (waits_listed hB hcl j oj hoj hall i hlt hw) hiun).elim
      · have hk : KeepsC P C oj a := by
          rcases hcls with hall' | hL | hN | ⟨⟨L, hp1, hp2⟩, hp3⟩
          · exact .inl hall'
          · exact .inr fun w n w' hCw hrun => by
              obtain ⟨v, e1, e2, _⟩ := (hL a).1 w n w' hrun
              exact ⟨v, e1, (hL a).2 w n w' hCw hrun⟩
          · exact .inr fun w n w' hCw hrun => by
              obtain ⟨v, e1, e2⟩ := (hN a).1 w n w' hrun
              exact ⟨v, e1, (hN a).2 w n w' hCw hrun⟩
          · -- its operands are what they are at the end
            obtain ⟨a', w', hq, hsame⟩ := wpAny_reach hQ _ _ _ _ H
            obtain ⟨k1, k2, k3⟩ := Oper.apart_spec hap
            have hpl : ∀ p ∈ L, okV p.2 ((a.put oi.dst v).eval (.tmp p.1)) = true := by
              intro p hp
              have := hp2 p hp a' w' hq
              rw [hsame p.1 ?_] at this
              · exact this
              · intro k ok hk hkun hd
                obtain ⟨g1, g2⟩ := hp3 L hp1 p hp k ok hk hd
                have g3 := waits_listed hB hcl j oj hoj hall k g1 g2
                by_cases hik : i = k
                · subst hik
                  exact hfalse (b := true) g3 hiun
                · rw [getD_set_ne true hik] at hkun
                  exact hfalse (b := true) g3 hkun
            have hpa := pureAt_of hp1 hpl
            refine .inr fun w n w' hCw hrun => ?_
            have e : execOp (a.put oi.dst v).eval oj = execOp a.eval oj := execOp_put oj (fun cs b => hsel j oj cs b hoj) a oi.dst v k1
            unfold PureAt at hpa
            rw [e] at hpa
            obtain ⟨u, e1, e2⟩ := hpa w n w' hrun
            have e3 := e2 w
            rw [hrun] at e3
            injection e3 with e4 e5
            exact ⟨u, e1, by rw [e5]; exact hCw⟩
        have h2 := wpOp_putC hQ hoj hap (fun cs b => hsel i oi cs b hi) (fun cs b => hsel j oj cs b hoj) hk hC hy h1
        refine wpOp_mono (fun a' w' h3 => ih (listed.setIfInBounds j true) a' w' (hcl.step hj) (fun k hk => getD_set_true (hlow k hk)) (ready_mono hr (Ne.symm hji)) h3.1 h3.2.1 ?_) h2
        rw [Array.setIfInBounds_comm _ _ hji]
        exact h3.2.2
      · exact (hfalse (b := true) (hlow j hlt) hjun).elim
end
end Go.Px
