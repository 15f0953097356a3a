/- First part of the proof that a region with loads or new memory beside calls may be walked in a few orders: which operations commute within a class of worlds. Conditions: those that stand ahead of each theorem. -/
/-
  A region that draws its order, where some loads stand beside calls: a class of worlds that every operation keeps, in which these loads yield one value. Over any program. No condition is added to any statement here.
-/
import Derived.Test.YtieobcaegegboaaDoorAny4
namespace Go.Px
open Go Go.RowKit
section
variable {P : Program} {ops : Array Oper} {Q : Exit → Act → World → Prop} {C : World → Prop}

def ecls (P : Program) (o : Oper) : Bool := (pcls P o).isNone && !lcls o && !ncls o
def eAt (P : Program) (ops : Array Oper) (i : Nat) : Bool := match ops[i]? with | some o => ecls P o | none => false
def wpAnyC (P : Program) (ops : Array Oper) (C : World → Prop) (Q : Exit → Act → World → Prop) : Nat → Array Bool → Act → World → Prop
  | 0, listed, a, w => Region.ready .any ops listed = [] ∧ Q .normal a w
  | fuel + 1, listed, a, w => (Region.ready .any ops listed = [] → Q .normal a w) ∧
    ∀ i ∈ Region.ready .any ops listed, wpOp P ops Q i (fun a' w' => (eAt P ops i = true → C w') ∧ wpAnyC P ops C Q fuel (listed.setIfInBounds i true) a' w') a w
theorem wpAnyC_any : ∀ (fuel : Nat) (listed : Array Bool) (a : Act) (w : World), wpAnyC P ops C Q fuel listed a w → wpAny P .any ops Q fuel listed a w
  | 0, _, _, _, h => h
  | fuel + 1, _, _, _, h => ⟨h.1, fun i hi => wpOp_mono (fun a' w' hh => wpAnyC_any fuel _ a' w' hh.2) (h.2 i hi)⟩
def wpListC (P : Program) (ops : Array Oper) (C : World → Prop) (Q : Exit → Act → World → Prop) : List Oper → Act → World → Prop
  | [], a, w => Q .normal a w
  | o :: rest, a, w => if Region.wanted o (yielded ops a.tmps) then o.wp P a w (fun a' w' => (ecls P o = true → C w') ∧ wpListC P ops C Q rest a' w') Q ∨ (o.asks P a w ∧ LetsOut Q) else wpListC P ops C Q rest (a.put o.dst undef) w
theorem wpListC_list : ∀ (l : List Oper) (a : Act) (w : World), wpListC P ops C Q l a w → wpList P ops Q l a w
  | [], _, _, h => h
  | o :: l, a, w, h => by
    unfold wpListC at h
    unfold wpList
    split
    · rename_i hw
      rw [if_pos hw] at h
      exact h.imp (Oper.wp_mono fun a' w' hh => wpListC_list l a' w' hh.2) id
    · rename_i hw
      rw [if_neg hw] at h
      exact wpListC_list l _ _ h

/-- a load from such an address yields one value in all worlds of the class -/
def Stab (P : Program) (C : World → Prop) (x : Value) : Prop := ∀ t w1 w2 v, C w1 → C w2 → (Instr.loadAt t x).run P w1 = .ok v w1 → (Instr.loadAt t x).run P w2 = .ok v w2
def lstar (ls : List Tmp) (o : Oper) : Bool := match o.op with | .load _ (.tmp t) => ls.contains t | _ => false
def StarCond (P : Program) (Q : Exit → Act → World → Prop) (ops : Array Oper) (C : World → Prop) (B : Array Nat) (j : Nat) (oj : Oper) : Prop :=
  ∃ ty t, oj.op = .load ty (.tmp t) ∧ (∀ a' w', Q .normal a' w' → Stab P C (a'.tmps.getD t undef)) ∧ ∀ k ok, ops[k]? = some ok → ok.dst = some t → k < j ∧ (B.getD j 0).testBit k = true

theorem YieldsC.mono {D E : World → Prop} {o : Oper} {v : Value} {a : Act} (h : YieldsC P ops D o v a) (hd : ∀ w, E w → D w) : YieldsC P ops E o v a := h.imp (fun ⟨h1, h2⟩ => ⟨h1, fun w hw => h2 w (hd w hw)⟩) id
theorem YieldsC.of_wpOpC (hQ : Clean Q) {D : World → Prop} {j : Nat} {oj : Oper} (hj : ops[j]? = some oj) {v : Value} {a : Act} {w : World} (hy : YieldsC P ops D oj v a) (hD : D w) {K : Act → World → Prop} (h : Go.wpOp P ops Q j K a w) : K (a.put oj.dst v) w := by
  unfold Go.wpOp at h
  simp only [hj] at h
  rcases hy with ⟨hw, hv⟩ | ⟨hw, rfl⟩
  · simp only [hw, if_true] at h
    rcases h with h | h
    · simpa only [Oper.wp, hv w hD, Oper.upon] using h
    · exact absurd h.2 hQ.lets
  · simpa only [hw, Bool.false_eq_true, if_false] using h
/-- what a load has yielded -/
theorem yields_of_load (hQ : Clean Q) {j : Nat} {oj : Oper} (hj : ops[j]? = some oj) {a : Act} {w : World} {K : Act → World → Prop} {ty : TypeId} {t : Tmp} (ho : oj.op = .load ty (.tmp t)) (hs : Stab P C (a.tmps.getD t undef)) (hC : C w) (h : wpOp P ops Q j K a w) :
    ∃ v, YieldsC P ops C oj v a := by
  unfold wpOp at h
  simp only [hj] at h
  by_cases hw : Region.wanted oj (yielded ops a.tmps) = true
  · simp only [hw, if_true] at h
    rcases h with h | h
    · unfold Oper.wp at h
      cases hr : (execOp a.eval oj).run P w with
      | ok n w' =>
        have hl : lcls oj = true := by unfold lcls; rw [ho]
        obtain ⟨v, rfl, rfl, _⟩ := loadAt_of hl a w n w' hr
        have e : ∀ w2, (execOp a.eval oj).run P w2 = ((Instr.loadAt ty (a.tmps.getD t undef)).run P w2).andThen fun v w3 => .ok (.value v) w3 := by
          intro w2
          unfold execOp
          simp only [ho, Act.eval, Sem.run_bind]
          rfl
        rw [e] at hr
        cases hq : (Instr.loadAt ty (a.tmps.getD t undef)).run P w' with
        | ok u w3 =>
          rw [hq] at hr
          simp only [Result.andThen_ok] at hr
          injection hr with h1 h2
          injection h1 with h1
          subst h1; subst h2
          exact ⟨u, .inl ⟨hw, fun w2 hC2 => by rw [e, hs ty _ w2 u hC hC2 hq]; rfl⟩⟩
        | halt x w3 => rw [hq] at hr; cases hr
      | halt x w' =>
        rw [hr] at h
        cases x <;> simp only [Oper.upon] at h
        exact absurd h (hQ.panic _ _ _)
    · exact absurd h.2 hQ.lets
  · exact ⟨undef, .inr ⟨by simpa using hw, rfl⟩⟩

theorem wpOp_putD (hQ : Clean Q) {D : World → Prop} {j : Nat} {oi oj : Oper} {v : Value} (hj : ops[j]? = some oj) (hap : oi.apart ops oj = true)
    (hsi : ∀ cs b, oi.op ≠ .select cs b) (hsj : ∀ cs b, oj.op ≠ .select cs b) {K : Act → World → Prop} {a : Act} {w : World}
    (hk : (∀ a' w', K a' w' → D w') ∨ ∀ n w', (execOp a.eval oj).run P w = .ok n w' → ∃ v, n = .value v ∧ D w') (hD : D w)
    (hy : YieldsC P ops D oi v a) (h : wpOp P ops Q j K (a.put oi.dst v) w) :
    wpOp P ops Q j (fun a' w' => D w' ∧ YieldsC P ops D oi v a' ∧ K (a'.put oi.dst v) w') a w := by
  obtain ⟨h1, h2, h3⟩ := Oper.apart_spec hap
  have keep : ∀ (a : Act), YieldsC P ops D oi v a → ∀ u, YieldsC P ops D oi v (a.put oj.dst u) := fun a hy u =>
    hy.of_same (execOp_put oi hsi a oj.dst u h3) (wanted_put oi a oj.dst u h3)
  have keepD : ∀ d, YieldsC P ops D oi v { a with defers := d :: a.defers } := fun d => hy.of_same rfl rfl
  unfold wpOp at *
  simp only [hj] at *
  rw [wanted_put oj a oi.dst v h1] at h
  split
  · rename_i hw
    simp only [hw, if_true] at h
    rcases h with h | ⟨_, hlets⟩
    case inr => exact absurd hlets hQ.lets
    refine .inl ?_
    unfold Oper.wp at *
    rw [execOp_put oj hsj a oi.dst v h1] at h
    generalize (execOp a.eval oj).run P w = r at *
    cases r with
    | ok n w' =>
      rcases hk with hall | hk'
      · cases n <;> simp only [Oper.upon] at h ⊢
        case value u => exact ⟨hall _ _ h, keep a hy u, by rw [← Act.put_comm a v u h2]; exact h⟩
        case skip => exact ⟨hall _ _ h, keep a hy _, by rw [← Act.put_comm a v undef h2]; exact h⟩
        case defer d =>
          refine ⟨hall _ _ h, keep _ (keepD d) _, ?_⟩
          rw [← Act.put_comm _ v undef h2, ← Act.put_defers]
          exact h
        case enter f args =>
          refine Calls.mono h fun e w'' he => ?_
          cases e with
          | returned u => exact ⟨hall _ _ he, keep a hy u, by rw [← Act.put_comm a v u h2]; exact he⟩
          | panicked c => exact absurd he (hQ.panic _ _ _)
          | outgrown => exact absurd he hQ.lets
        case row row args => exact Rows.mono h fun u w'' he => ⟨hall _ _ he, keep a hy u, by rw [← Act.put_comm a v u h2]; exact he⟩
      · obtain ⟨u, rfl, hC'⟩ := hk' n w' rfl
        simp only [Oper.upon] at h ⊢
        exact ⟨hC', keep a hy u, by rw [← Act.put_comm a v u h2]; exact h⟩
    | halt x w' =>
      cases x <;> simp only [Oper.upon] at h ⊢
      case panic u => exact absurd h (hQ.panic _ _ _)
  · rename_i hw
    simp only [hw] at h
    exact ⟨hD, keep a hy _, by rw [← Act.put_comm a v undef h2]; exact h⟩

theorem pure_at_ready (hQ : Clean Q) {B : Array Nat} (hB : waitsOk ops B = true) {fuel : Nat} {listed listed' : Array Bool} (hcl : Closed ops listed) {i j : Nat} {oj : Oper} (hoj : ops[j]? = some oj) (hall : ∀ e ∈ oj.after, Region.binds .any e = true → listed.getD e.on false = true)
    (hl : ∀ k, k ≠ i → listed'.getD k true = listed.getD k true) (hiun : listed.getD i true = false) {a : Act} {w : World} (H : wpAny P .any ops Q fuel listed' a w) {t : Tmp}
    (hssa : ∀ k ok, ops[k]? = some ok → ok.dst = some t → k < j ∧ (B.getD j 0).testBit k = true) : ∃ a' w', Q .normal a' w' ∧ a'.tmps.getD t undef = a.tmps.getD t undef := by
  obtain ⟨a', w', hq, hsame⟩ := wpAny_reach hQ _ _ _ _ H
  refine ⟨a', w', hq, hsame t fun k ok hk hkun hd => ?_⟩
  obtain ⟨g1, g2⟩ := hssa k ok hk hd
  have g3 := waits_listed hB hcl j oj hoj hall k g1 g2
  by_cases hik : k = i
  · subst hik
    exact listed_false g3 hiun
  · rw [hl k hik] at hkun
    exact listed_false g3 hkun

theorem wpAnyC_firstD (hQ : Clean Q) {D : World → Prop} {B : Array Nat} (hB : waitsOk ops B = true) {i : Nat} {oi : Oper} {v : Value} (hi : ops[i]? = some oi) (hei : eAt P ops i = false) (hsel : ∀ (j : Nat) (o : Oper) cs b, ops[j]? = some o → o.op ≠ .select cs b)
    (hord : ∀ j oj, ops[j]? = some oj → i < j → (B.getD j 0).testBit i = true ∨ (oi.apart ops oj = true ∧ ((∀ w, D w) ∨ (∀ (a : Act) w n w', D w → (execOp a.eval oj).run P w = .ok n w' → ∃ v, n = .value v ∧ D w') ∨ PureCond P Q ops B j oj ∨ (eAt P ops j = true ∧ ∀ w, C w → D w)))) :
    ∀ (fuel : Nat) (listed : Array Bool) (a : Act) (w : World), Closed ops listed → (∀ j, j < i → listed.getD j false = true) → i ∈ Region.ready .any ops listed → D w → YieldsC P ops D oi v a →
      wpAnyC P ops C Q fuel (listed.setIfInBounds i true) (a.put oi.dst v) w → wpAnyC P ops C Q (fuel + 1) listed a w := by
  intro fuel
  induction fuel with
  | zero =>
    intro listed a w hcl hlow hr hD hy H
    refine ⟨fun h => (by rw [h] at hr; cases hr), fun j hj => ?_⟩
    by_cases hji : j = i
    · subst hji; exact hy.wpOp hi hD ⟨fun h => (by rw [hei] at h; cases h), H⟩
    · have := ready_mono hj hji
      rw [H.1] at this
      cases this
  | succ fuel ih =>
    intro listed a w hcl hlow hr hD hy H
    refine ⟨fun h => (by rw [h] at hr; cases hr), fun j hj => ?_⟩
    by_cases hji : j = i
    · subst hji; exact hy.wpOp hi hD ⟨fun h => (by rw [hei] at h; cases h), H⟩
    · have h1 := H.2 j (ready_mono hj hji)
      obtain ⟨hjun, oj, hoj, hall⟩ := mem_ready.1 hj
      have hiun := (mem_ready.1 hr).1
      have hij : i < j := by
        rcases Nat.lt_or_ge j i with h' | h'
        · exact (listed_false (hlow j h') hjun).elim
        · omega
      rcases hord j oj hoj hij with hw | ⟨hap, hcls⟩
      · exact (listed_false (waits_listed hB hcl j oj hoj hall i hij hw) hiun).elim
      · have hk : (∀ a' w', ((eAt P ops j = true → C w') ∧ wpAnyC P ops C Q fuel ((listed.setIfInBounds i true).setIfInBounds j true) a' w') → D w') ∨ ∀ n w', (execOp a.eval oj).run P w = .ok n w' → ∃ v, n = .value v ∧ D w' := by
          rcases hcls with hall' | hL | ⟨L, hp1, hp2, hp3⟩ | ⟨he, hCD⟩
          · exact .inl fun _ w' _ => hall' w'
          · exact .inr fun n w' hrun => hL a w n w' hD hrun
          · obtain ⟨k1, k2, k3⟩ := Oper.apart_spec hap
            have hpl : ∀ p ∈ L, okV p.2 ((a.put oi.dst v).eval (.tmp p.1)) = true := by
              intro p hp
              obtain ⟨a', w', hq, hs⟩ := pure_at_ready hQ hB hcl (i := i) hoj hall (listed' := listed.setIfInBounds i true) (fun k hk => getD_set_ne true (Ne.symm hk)) hiun (wpAnyC_any _ _ _ _ H) (hp3 p hp)
              have := hp2 p hp a' w' hq
              rw [hs] at this
              exact this
            have hpa := pureAt_of hp1 hpl
            refine .inr fun n w' hrun => ?_
            have e : execOp (a.put oi.dst v).eval oj = execOp a.eval oj := execOp_put oj (fun cs b => hsel j oj cs b hoj) a oi.dst v k1
            unfold PureAt at hpa
            rw [e] at hpa
            obtain ⟨u, e1, e2⟩ := hpa w n w' hrun
            have e3 := e2 w
            rw [hrun] at e3
            injection e3 with e4 e5
            exact ⟨u, e1, by rw [e5]; exact hD⟩
          · exact .inl fun _ w' hh => hCD w' (hh.1 he)
        have h2 := wpOp_putD hQ hoj hap (fun cs b => hsel i oi cs b hi) (fun cs b => hsel j oj cs b hoj) hk hD hy h1
        refine wpOp_mono (fun a' w' h3 => ⟨h3.2.2.1, ih (listed.setIfInBounds j true) a' w' (hcl.step hj) (fun k hk => getD_set_true (hlow k hk)) (ready_mono hr (Ne.symm hji)) h3.1 h3.2.1 ?_⟩) h2
        rw [Array.setIfInBounds_comm _ _ hji]
        exact h3.2.2.2

theorem wpOp_putS (hQ : Clean Q) {i : Nat} {oi oj : Oper} {v : Value} (hi : ops[i]? = some oi) (hap : oi.apart ops oj = true)
    (hsi : ∀ cs b, oi.op ≠ .select cs b) (hsj : ∀ cs b, oj.op ≠ .select cs b) {K : Act → World → Prop} {a : Act} {w : World}
    (hy : YieldsC P ops C oj v a) (h : wpOp P ops Q i K a w) :
    wpOp P ops Q i (fun a' w' => ∃ a2, a' = a2.put oj.dst v ∧ YieldsC P ops C oj v a2 ∧ K a2 w') (a.put oj.dst v) w := by
  obtain ⟨h1, h2, h3⟩ := Oper.apart_spec hap
  have keep : ∀ (a : Act), YieldsC P ops C oj v a → ∀ u, YieldsC P ops C oj v (a.put oi.dst u) := fun a hy u =>
    hy.of_same (execOp_put oj hsj a oi.dst u h1) (wanted_put oj a oi.dst u h1)
  have keepD : ∀ d, YieldsC P ops C oj v { a with defers := d :: a.defers } := fun d => hy.of_same rfl rfl
  have comm : ∀ (b : Act) u, (b.put oj.dst v).put oi.dst u = (b.put oi.dst u).put oj.dst v := fun b u => (Act.put_comm b u v h2).symm
  unfold wpOp at *
  simp only [hi] at *
  rw [wanted_put oi a oj.dst v h3]
  split
  · rename_i hw
    simp only [hw, if_true] at h
    rcases h with h | ⟨_, hlets⟩
    case inr => exact absurd hlets hQ.lets
    refine .inl ?_
    unfold Oper.wp at *
    rw [execOp_put oi hsi a oj.dst v h3]
    generalize (execOp a.eval oi).run P w = r at *
    cases r with
    | ok n w' =>
      cases n <;> simp only [Oper.upon] at h ⊢
      case value u => exact ⟨_, comm a u, keep a hy u, h⟩
      case skip => exact ⟨_, comm a undef, keep a hy _, h⟩
      case defer d =>
        refine ⟨({ a with defers := d :: a.defers } : Act).put oi.dst undef, ?_, keep _ (keepD d) _, h⟩
        rw [Act.put_defers, comm]
      case enter f args =>
        refine Calls.mono h fun e w'' he => ?_
        cases e with
        | returned u => exact ⟨_, comm a u, keep a hy u, he⟩
        | panicked c => exact absurd he (hQ.panic _ _ _)
        | outgrown => exact absurd he hQ.lets
      case row row args => exact Rows.mono h fun u w'' he => ⟨_, comm a u, keep a hy u, he⟩
    | halt x w' =>
      cases x <;> simp only [Oper.upon] at h ⊢
      case panic u => exact absurd h (hQ.panic _ _ _)
  · rename_i hw
    simp only [hw] at h
    exact ⟨_, comm a undef, keep a hy _, h⟩

theorem wpAnyC_firstE (hQ : Clean Q) {B : Array Nat} (hB : waitsOk ops B = true) {i : Nat} {oi : Oper} (hi : ops[i]? = some oi) (hsel : ∀ (j : Nat) (o : Oper) cs b, ops[j]? = some o → o.op ≠ .select cs b)
    (hord : ∀ j oj, ops[j]? = some oj → i < j → (B.getD j 0).testBit i = true ∨ (oi.apart ops oj = true ∧ (PureCond P Q ops B j oj ∨ StarCond P Q ops C B j oj))) :
    ∀ (fuel : Nat) (listed : Array Bool) (a : Act) (w : World), Closed ops listed → (∀ j, j < i → listed.getD j false = true) → i ∈ Region.ready .any ops listed → C w →
      wpOp P ops Q i (fun a' w' => C w' ∧ wpAnyC P ops C Q fuel (listed.setIfInBounds i true) a' w') a w → wpAnyC P ops C Q (fuel + 1) listed a w := by
  intro fuel
  induction fuel with
  | zero =>
    intro listed a w hcl hlow hr hC H
    refine ⟨fun h => (by rw [h] at hr; cases hr), fun j hj => ?_⟩
    by_cases hji : j = i
    · subst hji; exact wpOp_mono (fun a' w' h => ⟨fun _ => h.1, h.2⟩) H
    · have := ready_mono hj hji
      obtain ⟨a1, w1, h1, _⟩ := wpOp_reach hQ hi H
      rw [h1.2.1] at this
      cases this
  | succ fuel ih =>
    intro listed a w hcl hlow hr hC H
    refine ⟨fun h => (by rw [h] at hr; cases hr), fun j hj => ?_⟩
    by_cases hji : j = i
    · subst hji; exact wpOp_mono (fun a' w' h => ⟨fun _ => h.1, h.2⟩) H
    · obtain ⟨hjun, oj, hoj, hall⟩ := mem_ready.1 hj
      have hiun := (mem_ready.1 hr).1
      have hij : i < j := by
        rcases Nat.lt_or_ge j i with h' | h'
        · exact (listed_false (hlow j h') hjun).elim
        · omega
      rcases hord j oj hoj hij with hw | ⟨hap, hcond⟩
      · exact (listed_false (waits_listed hB hcl j oj hoj hall i hij hw) hiun).elim
      · obtain ⟨k1, k2, k3⟩ := Oper.apart_spec hap
        obtain ⟨a1, w1, ⟨hC1, h1⟩, hs1⟩ := wpOp_reach hQ hi H
        have hlook : ∀ t ∈ oj.looksAt ops, a1.tmps.getD t undef = a.tmps.getD t undef := fun t ht => hs1 t fun hd => k1 t hd ht
        obtain ⟨he, hwt⟩ := same_op (ops := ops) (fun cs b => hsel j oj cs b hoj) hlook
        have hend : ∀ t, (∀ k ok, ops[k]? = some ok → ok.dst = some t → k < j ∧ (B.getD j 0).testBit k = true) → ∃ a' w', Q .normal a' w' ∧ a'.tmps.getD t undef = a1.tmps.getD t undef := fun t ht =>
          pure_at_ready hQ hB hcl (i := i) hoj hall (listed' := listed.setIfInBounds i true) (fun k hk => getD_set_ne true (Ne.symm hk)) hiun (wpAnyC_any _ _ _ _ h1) ht
        have hyield : ∃ v, YieldsC P ops C oj v a1 := by
          rcases hcond with ⟨L, hp1, hp2, hp3⟩ | ⟨ty, t, hop, hst, hss⟩
          · have hpl : ∀ p ∈ L, okV p.2 (a1.eval (.tmp p.1)) = true := by
              intro p hp
              obtain ⟨a', w', hq, hs⟩ := hend p.1 (hp3 p hp)
              have := hp2 p hp a' w' hq
              rw [hs] at this
              exact this
            obtain ⟨v, hy⟩ := yields_of_pure hQ hoj (pureAt_of hp1 hpl) (h1.2 j (ready_mono hj hji))
            exact ⟨v, hy.mono fun _ _ => trivial⟩
          · obtain ⟨a', w', hq, hs⟩ := hend t hss
            have := hst a' w' hq
            rw [hs] at this
            exact yields_of_load hQ hoj hop this hC1 (h1.2 j (ready_mono hj hji))
        obtain ⟨v, hy1⟩ := hyield
        have hy : YieldsC P ops C oj v a := hy1.of_same he.symm hwt.symm
        refine hy.wpOp hoj hC ⟨fun _ => hC, ?_⟩
        refine ih (listed.setIfInBounds j true) _ _ (hcl.step hj) (fun k hk => getD_set_true (hlow k hk)) (ready_mono hr (Ne.symm hji)) hC ?_
        refine wpOp_mono (fun a2 w2 h2 => ?_) (wpOp_putS hQ hi hap (fun cs b => hsel i oi cs b hi) (fun cs b => hsel j oj cs b hoj) hy H)
        obtain ⟨a3, rfl, hy3, hC3, hK3⟩ := h2
        have := YieldsC.of_wpOpC hQ hoj hy3 hC3 (hK3.2 j (ready_mono hj hji))
        rw [Array.setIfInBounds_comm _ _ hji]
        exact ⟨hC3, this.2⟩

/-! ### the check -/
def pairOkC (P : Program) (ls : List Tmp) (oi oj : Oper) : Bool := (pcls P oi).isSome || (pcls P oj).isSome || lstar ls oi || lstar ls oj || (lcls oi && (lcls oj || ncls oj))
def starSsa (ops : Array Oper) (B : Array Nat) (ls : List Tmp) (i : Nat) (oi : Oper) : Bool :=
  match oi.op with
  | .load _ (.tmp t) => !ls.contains t || (List.range ops.size).all fun k => match ops[k]? with | some ok => ok.dst != some t || (decide (k < i) && (B.getD i 0).testBit k) | none => true
  | _ => true
def ordOkC (P : Program) (ops : Array Oper) (B : Array Nat) (ls : List Tmp) : Bool :=
  Region.noSelect ops && waitsOk ops B && (List.range ops.size).all fun i => match ops[i]? with
    | none => false
    | some oi => (oi.after.all fun e => !Region.binds .any e || decide (e.on < i)) && ssaOk P ops B i oi && starSsa ops B ls i oi &&
        (List.range ops.size).all fun j => decide (j ≤ i) || (B.getD j 0).testBit i || match ops[j]? with
          | none => true
          | some oj => oi.apart ops oj && pairOkC P ls oi oj
/-- the class is kept where all that was there stays -/
def Up (C : World → Prop) : Prop := ∀ w w', C w → Ext w w' → C w'
end
end Go.Px
