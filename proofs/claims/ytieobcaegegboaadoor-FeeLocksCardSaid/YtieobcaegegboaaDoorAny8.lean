/- Fourth part of the proof that a region with loads or new memory beside calls may be walked in a few orders: segments. Conditions: those that stand ahead of each theorem. -/
/-
  A region that draws its order, walked in a few orders: those that differ in where new memory comes up among calls. Over any program. No condition is added to any statement here.
-/
import Derived.Test.YtieobcaegegboaaDoorAny6
namespace Go.Px
open Go Go.RowKit
section
variable {P : Program} {ops : Array Oper} {Q : Exit → Act → World → Prop} {C : World → Prop}

/-- whoever has not come up yet either waits for i or is apart from it, and goes with it -/
def TakeC (P : Program) (ops : Array Oper) (Q : Exit → Act → World → Prop) (C D : World → Prop) (B : Array Nat) (i : Nat) (oi : Oper) (listed : Array Bool) : Prop :=
  ∀ j oj, ops[j]? = some oj → j ≠ i → listed.getD j true = false → (i < j ∧ (B.getD j 0).testBit i = true) ∨ (oi.apart ops oj = true ∧ ((∀ w, D w) ∨ (∀ (a : Act) w n w', D w → (execOp a.eval oj).run P w = .ok n w' → ∃ v, n = .value v ∧ D w') ∨ PureCond P Q ops B j oj ∨ (eAt P ops j = true ∧ ∀ w, C w → D w)))
theorem wpAnyC_firstD2 (hQ : Clean Q) {D : World → Prop} {B : Array Nat} (hB : waitsOk ops B = true) {i : Nat} {oi : Oper} {v : Value} (hi : ops[i]? = some oi) (hei : eAt P ops i = false) (hsel : ∀ (j : Nat) (o : Oper) cs b, ops[j]? = some o → o.op ≠ .select cs b) :
    ∀ (fuel : Nat) (listed : Array Bool) (a : Act) (w : World), TakeC P ops Q C D B i oi listed → Closed ops listed → i ∈ Region.ready .any ops listed → D w → YieldsC P ops D oi v a →
      wpAnyC P ops C Q fuel (listed.setIfInBounds i true) (a.put oi.dst v) w → wpAnyC P ops C Q (fuel + 1) listed a w := by
  intro fuel
  induction fuel with
  | zero =>
    intro listed a w hord hcl hr hD hy H
    refine ⟨fun h => (by rw [h] at hr; cases hr), fun j hj => ?_⟩
    by_cases hji : j = i
    · subst hji; exact hy.wpOp hi hD ⟨fun h => (by rw [hei] at h; cases h), H⟩
    · have := ready_mono hj hji
      rw [H.1] at this
      cases this
  | succ fuel ih =>
    intro listed a w hord hcl hr hD hy H
    refine ⟨fun h => (by rw [h] at hr; cases hr), fun j hj => ?_⟩
    by_cases hji : j = i
    · subst hji; exact hy.wpOp hi hD ⟨fun h => (by rw [hei] at h; cases h), H⟩
    · have h1 := H.2 j (ready_mono hj hji)
      obtain ⟨hjun, oj, hoj, hall⟩ := mem_ready.1 hj
      have hiun := (mem_ready.1 hr).1
      rcases hord j oj hoj hji hjun with ⟨hij, hw⟩ | ⟨hap, hcls⟩
      · exact (listed_false (waits_listed hB hcl j oj hoj hall i hij hw) hiun).elim
      · have hk : (∀ a' w', ((eAt P ops j = true → C w') ∧ wpAnyC P ops C Q fuel ((listed.setIfInBounds i true).setIfInBounds j true) a' w') → D w') ∨ ∀ n w', (execOp a.eval oj).run P w = .ok n w' → ∃ v, n = .value v ∧ D w' := by
          rcases hcls with hall' | hL | ⟨L, hp1, hp2, hp3⟩ | ⟨he, hCD⟩
          · exact .inl fun _ w' _ => hall' w'
          · exact .inr fun n w' hrun => hL a w n w' hD hrun
          · obtain ⟨k1, k2, k3⟩ := Oper.apart_spec hap
            have hpl : ∀ p ∈ L, okV p.2 ((a.put oi.dst v).eval (.tmp p.1)) = true := by
              intro p hp
              obtain ⟨a', w', hq, hs⟩ := pure_at_ready hQ hB hcl (i := i) hoj hall (listed' := listed.setIfInBounds i true) (fun k hk => getD_set_ne true (Ne.symm hk)) hiun (wpAnyC_any _ _ _ _ H) (hp3 p hp)
              have := hp2 p hp a' w' hq
              rw [hs] at this
              exact this
            have hpa := pureAt_of hp1 hpl
            refine .inr fun n w' hrun => ?_
            have e : execOp (a.put oi.dst v).eval oj = execOp a.eval oj := execOp_put oj (fun cs b => hsel j oj cs b hoj) a oi.dst v k1
            unfold PureAt at hpa
            rw [e] at hpa
            obtain ⟨u, e1, e2⟩ := hpa w n w' hrun
            have e3 := e2 w
            rw [hrun] at e3
            injection e3 with e4 e5
            exact ⟨u, e1, by rw [e5]; exact hD⟩
          · exact .inl fun _ w' hh => hCD w' (hh.1 he)
        have h2 := wpOp_putD hQ hoj hap (fun cs b => hsel i oi cs b hi) (fun cs b => hsel j oj cs b hoj) hk hD hy h1
        have hord' : TakeC P ops Q C D B i oi (listed.setIfInBounds j true) := fun k ok hk hki hun => hord k ok hk hki (by
          by_cases hjk : j = k
          · subst hjk; exact hjun
          · rwa [getD_set_ne true hjk] at hun)
        refine wpOp_mono (fun a' w' h3 => ⟨h3.2.2.1, ih (listed.setIfInBounds j true) a' w' hord' (hcl.step hj) (ready_mono hr (Ne.symm hji)) h3.1 h3.2.1 ?_⟩) h2
        rw [Array.setIfInBounds_comm _ _ hji]
        exact h3.2.2.2

def TakeE (P : Program) (ops : Array Oper) (Q : Exit → Act → World → Prop) (C : World → Prop) (B : Array Nat) (i : Nat) (oi : Oper) (listed : Array Bool) : Prop :=
  ∀ j oj, ops[j]? = some oj → j ≠ i → listed.getD j true = false → (i < j ∧ (B.getD j 0).testBit i = true) ∨ (oi.apart ops oj = true ∧ (PureCond P Q ops B j oj ∨ StarCond P Q ops C B j oj))
theorem wpAnyC_firstE2 (hQ : Clean Q) {B : Array Nat} (hB : waitsOk ops B = true) {i : Nat} {oi : Oper} (hi : ops[i]? = some oi) (hsel : ∀ (j : Nat) (o : Oper) cs b, ops[j]? = some o → o.op ≠ .select cs b) :
    ∀ (fuel : Nat) (listed : Array Bool) (a : Act) (w : World), TakeE P ops Q C B i oi listed → Closed ops listed → i ∈ Region.ready .any ops listed → C w →
      wpOp P ops Q i (fun a' w' => C w' ∧ wpAnyC P ops C Q fuel (listed.setIfInBounds i true) a' w') a w → wpAnyC P ops C Q (fuel + 1) listed a w := by
  intro fuel
  induction fuel with
  | zero =>
    intro listed a w hord hcl hr hC H
    refine ⟨fun h => (by rw [h] at hr; cases hr), fun j hj => ?_⟩
    by_cases hji : j = i
    · subst hji; exact wpOp_mono (fun a' w' h => ⟨fun _ => h.1, h.2⟩) H
    · have := ready_mono hj hji
      obtain ⟨a1, w1, h1, _⟩ := wpOp_reach hQ hi H
      rw [h1.2.1] at this
      cases this
  | succ fuel ih =>
    intro listed a w hord hcl hr hC H
    refine ⟨fun h => (by rw [h] at hr; cases hr), fun j hj => ?_⟩
    by_cases hji : j = i
    · subst hji; exact wpOp_mono (fun a' w' h => ⟨fun _ => h.1, h.2⟩) H
    · obtain ⟨hjun, oj, hoj, hall⟩ := mem_ready.1 hj
      have hiun := (mem_ready.1 hr).1
      rcases hord j oj hoj hji hjun with ⟨hij, hw⟩ | ⟨hap, hcond⟩
      · exact (listed_false (waits_listed hB hcl j oj hoj hall i hij hw) hiun).elim
      · obtain ⟨k1, k2, k3⟩ := Oper.apart_spec hap
        obtain ⟨a1, w1, ⟨hC1, h1⟩, hs1⟩ := wpOp_reach hQ hi H
        have hlook : ∀ t ∈ oj.looksAt ops, a1.tmps.getD t undef = a.tmps.getD t undef := fun t ht => hs1 t fun hd => k1 t hd ht
        obtain ⟨he, hwt⟩ := same_op (ops := ops) (fun cs b => hsel j oj cs b hoj) hlook
        have hend : ∀ t, (∀ k ok, ops[k]? = some ok → ok.dst = some t → k < j ∧ (B.getD j 0).testBit k = true) → ∃ a' w', Q .normal a' w' ∧ a'.tmps.getD t undef = a1.tmps.getD t undef := fun t ht =>
          pure_at_ready hQ hB hcl (i := i) hoj hall (listed' := listed.setIfInBounds i true) (fun k hk => getD_set_ne true (Ne.symm hk)) hiun (wpAnyC_any _ _ _ _ h1) ht
        have hyield : ∃ v, YieldsC P ops C oj v a1 := by
          rcases hcond with ⟨L, hp1, hp2, hp3⟩ | ⟨ty, t, hop, hst, hss⟩
          · have hpl : ∀ p ∈ L, okV p.2 (a1.eval (.tmp p.1)) = true := by
              intro p hp
              obtain ⟨a', w', hq, hs⟩ := hend p.1 (hp3 p hp)
              have := hp2 p hp a' w' hq
              rw [hs] at this
              exact this
            obtain ⟨v, hy⟩ := yields_of_pure hQ hoj (pureAt_of hp1 hpl) (h1.2 j (ready_mono hj hji))
            exact ⟨v, hy.mono fun _ _ => trivial⟩
          · obtain ⟨a', w', hq, hs⟩ := hend t hss
            have := hst a' w' hq
            rw [hs] at this
            exact yields_of_load hQ hoj hop this hC1 (h1.2 j (ready_mono hj hji))
        obtain ⟨v, hy1⟩ := hyield
        have hy : YieldsC P ops C oj v a := hy1.of_same he.symm hwt.symm
        have hord' : TakeE P ops Q C B i oi (listed.setIfInBounds j true) := fun k ok hk hki hun => hord k ok hk hki (by
          by_cases hjk : j = k
          · subst hjk; exact hjun
          · rwa [getD_set_ne true hjk] at hun)
        refine hy.wpOp hoj hC ⟨fun _ => hC, ?_⟩
        refine ih (listed.setIfInBounds j true) _ _ hord' (hcl.step hj) (ready_mono hr (Ne.symm hji)) hC ?_
        refine wpOp_mono (fun a2 w2 h2 => ?_) (wpOp_putS hQ hi hap (fun cs b => hsel i oi cs b hi) (fun cs b => hsel j oj cs b hoj) hy H)
        obtain ⟨a3, rfl, hy3, hC3, hK3⟩ := h2
        have := YieldsC.of_wpOpC hQ hoj hy3 hC3 (hK3.2 j (ready_mono hj hji))
        rw [Array.setIfInBounds_comm _ _ hji]
        exact ⟨hC3, this.2⟩

/-! ### a few orders -/
def tailsOf (h : Nat) (os : List (List Nat)) : List (List Nat) := os.filterMap fun o => match o with | i :: r => if i == h then some r else none | [] => none
def headsOf (os : List (List Nat)) : List Nat := os.filterMap fun o => o.head?
def wpOrd (P : Program) (ops : Array Oper) (C : World → Prop) (Q : Exit → Act → World → Prop) : Nat → List (List Nat) → Act → World → Prop
  | 0, _, a, w => Q .normal a w
  | n + 1, os, a, w => ∀ h ∈ headsOf os, wpOp P ops Q h (fun a' w' => (eAt P ops h = true → C w') ∧ wpOrd P ops C Q n (tailsOf h os) a' w') a w
def takeOk (P : Program) (ops : Array Oper) (B : Array Nat) (ls : List Tmp) (listed : Array Bool) (i : Nat) : Bool :=
  match ops[i]? with
  | none => false
  | some oi => (List.range ops.size).all fun j => j == i || listed.getD j true || (decide (i < j) && (B.getD j 0).testBit i) || match ops[j]? with
      | none => true
      | some oj => oi.apart ops oj && pairOkC P ls oi oj
def nOrE (P : Program) (ops : Array Oper) (i : Nat) : Bool := match ops[i]? with | some o => ncls o || lcls o || ecls P o | none => false
def covOk (P : Program) (ops : Array Oper) (B : Array Nat) (ls : List Tmp) : Nat → Array Bool → List (List Nat) → Bool
  | 0, listed, _ => (Region.ready .any ops listed).isEmpty
  | n + 1, listed, os =>
    let hs := headsOf os
    let rd := Region.ready .any ops listed
    (match hs.eraseDups with
      | [] => false
      | [i] => takeOk P ops B ls listed i
      | hs' => (rd.all fun r => hs'.contains r) && hs'.all (nOrE P ops)) &&
    hs.eraseDups.all fun h => rd.contains h && covOk P ops B ls n (listed.setIfInBounds h true) (tailsOf h os)
def ssaAll (P : Program) (ops : Array Oper) (B : Array Nat) (ls : List Tmp) : Bool :=
  Region.noSelect ops && waitsOk ops B && (List.range ops.size).all fun i => match ops[i]? with
    | none => false
    | some oi => ssaOk P ops B i oi && starSsa ops B ls i oi

theorem mem_dups {l : List Nat} {x : Nat} : x ∈ l.eraseDups ↔ x ∈ l := List.mem_eraseDups
theorem wpOrd_reach (hQ : Clean Q) {B : Array Nat} {ls : List Tmp} : ∀ (n : Nat) (listed : Array Bool) (os : List (List Nat)) (a : Act) (w : World), covOk P ops B ls n listed os = true → wpOrd P ops C Q n os a w →
    ∃ a' w', Q .normal a' w' ∧ ∀ t, (∀ k o, ops[k]? = some o → listed.getD k true = false → o.dst ≠ some t) → a'.tmps.getD t undef = a.tmps.getD t undef
  | 0, _, _, a, w, _, h => ⟨a, w, h, fun _ _ => rfl⟩
  | n + 1, listed, os, a, w, hc, h => by
    simp only [covOk, Bool.and_eq_true, List.all_eq_true] at hc
    obtain ⟨hm, hall⟩ := hc
    have hne : ∃ i, i ∈ (headsOf os).eraseDups := by
      cases hh : (headsOf os).eraseDups with
      | nil => rw [hh] at hm; cases hm
      | cons i r => exact ⟨i, by simp⟩
    obtain ⟨i, hi⟩ := hne
    obtain ⟨hrd, hrec⟩ := hall i hi
    have hir : i ∈ Region.ready .any ops listed := by simpa using hrd
    obtain ⟨hun, oi, hoi, _⟩ := mem_ready.1 hir
    obtain ⟨a1, w1, ⟨_, h1⟩, h2⟩ := wpOp_reach hQ hoi (h i (mem_dups.1 hi))
    obtain ⟨a2, w2, h3, h4⟩ := wpOrd_reach hQ n _ _ a1 w1 hrec h1
    refine ⟨a2, w2, h3, fun t ht => (h4 t fun k o ho hk => ?_).trans (h2 t (ht i oi hoi hun))⟩
    refine ht k o ho ?_
    by_cases hik : i = k
    · subst hik; exact hun
    · rwa [getD_set_ne true hik] at hk

theorem wpAnyC_ord (hQ : Clean Q) (hUp : Up C) {B : Array Nat} {ls : List Tmp} (hS : ssaAll P ops B ls = true) (hdyn : ∀ a w, Q .normal a w → dynOk (dyns P ops.toList) a = true) (hstab : ∀ a w, Q .normal a w → ∀ t ∈ ls, Stab P C (a.tmps.getD t undef)) :
    ∀ (n : Nat) (listed : Array Bool) (os : List (List Nat)) (a : Act) (w : World), covOk P ops B ls n listed os = true → Closed ops listed → C w → wpOrd P ops C Q n os a w → wpAnyC P ops C Q n listed a w := by
  simp only [ssaAll, Bool.and_eq_true, List.all_eq_true, List.mem_range] at hS
  obtain ⟨⟨hsel0, hwait⟩, hall⟩ := hS
  have hsel := Region.noSelect_spec hsel0
  have hpure : ∀ j oj L, ops[j]? = some oj → pcls P oj = some L → PureCond P Q ops B j oj := by
    intro j oj L hj hL
    have hlt := (Array.getElem?_eq_some_iff.1 hj).1
    have h1 := hall j hlt
    rw [hj] at h1
    simp only [Bool.and_eq_true] at h1
    have h2 := h1.1
    unfold ssaOk at h2
    rw [hL] at h2
    simp only [List.all_eq_true, List.mem_range] at h2
    refine ⟨L, hL, fun p hp a' w' hq => ?_, fun p hp k ok hk hd => ?_⟩
    · have := hdyn a' w' hq
      unfold dynOk at this
      rw [List.all_eq_true] at this
      exact this p (List.mem_flatMap.2 ⟨oj, by simpa using Array.mem_of_getElem? hj, by rw [hL]; exact hp⟩)
    · have h3 := h2 p hp k (Array.getElem?_eq_some_iff.1 hk).1
      rw [hk] at h3
      simpa [hd] using h3
  have hstar : ∀ j oj, ops[j]? = some oj → lstar ls oj = true → StarCond P Q ops C B j oj := by
    intro j oj hj hs
    have hlt := (Array.getElem?_eq_some_iff.1 hj).1
    have h1 := hall j hlt
    rw [hj] at h1
    simp only [Bool.and_eq_true] at h1
    have h2 := h1.2
    unfold lstar at hs
    unfold starSsa at h2
    split at hs
    · rename_i ty t hop
      rw [hop] at h2
      simp only [hs, Bool.not_true, Bool.false_or, List.all_eq_true, List.mem_range] at h2
      refine ⟨ty, t, hop, fun a' w' hq => hstab a' w' hq t (by simpa using hs), fun k ok hk hd => ?_⟩
      have h3 := h2 k (Array.getElem?_eq_some_iff.1 hk).1
      rw [hk] at h3
      simpa [hd] using h3
    · cases hs
  have heOf : ∀ j oj, ops[j]? = some oj → eAt P ops j = ecls P oj := fun j oj hj => by unfold eAt; rw [hj]
  have hkind : ∀ j oj, ops[j]? = some oj → (∃ L, pcls P oj = some L) ∨ lcls oj = true ∨ ncls oj = true ∨ eAt P ops j = true := by
    intro j oj hj
    rw [heOf j oj hj]
    unfold ecls
    cases h1 : pcls P oj with
    | some L => exact .inl ⟨L, rfl⟩
    | none =>
      cases h2 : lcls oj with
      | true => exact .inr (.inl rfl)
      | false =>
        cases h3 : ncls oj with
        | true => exact .inr (.inr (.inl rfl))
        | false => exact .inr (.inr (.inr rfl))
  have hstarL : ∀ oj, lstar ls oj = true → lcls oj = true := fun oj hh => by
    unfold lstar at hh
    unfold lcls
    split at hh
    · rename_i hop; rw [hop]
    · cases hh
  intro n
  induction n with
  | zero =>
    intro listed os a w hcov hcl hC h
    simp only [covOk, List.isEmpty_iff] at hcov
    exact ⟨hcov, h⟩
  | succ n ih =>
    intro listed os a w hcov hcl hC h
    have hcov0 := hcov
    simp only [covOk, Bool.and_eq_true, List.all_eq_true] at hcov
    obtain ⟨hm, hrecs⟩ := hcov
    -- an operation that is new memory or changes what was there: its next world is of the class
    have hstep : ∀ i oi, ops[i]? = some oi → i ∈ headsOf os → ((ncls oi = true ∨ lcls oi = true) ∨ ecls P oi = true) → wpOp P ops Q i (fun a' w' => C w' ∧ wpAnyC P ops C Q n (listed.setIfInBounds i true) a' w') a w := by
      intro i oi hoi hi hk
      have hop := h i hi
      obtain ⟨hrd, hrec⟩ := hrecs i (mem_dups.2 hi)
      have hcl' := hcl.step (show i ∈ Region.ready .any ops listed by simpa using hrd)
      have heAt := heOf i oi hoi
      rcases hk with hn | he
      · unfold wpOp at hop ⊢
        simp only [hoi] at hop ⊢
        split
        · rename_i hw
          rw [if_pos hw] at hop
          refine hop.imp (fun hh => Oper.wp_mono (fun a1 w1 h1 => ?_) (hn.elim (fun h => wp_news h hh) (fun h => wp_loads h hh))) id
          have hC1 := hUp w w1 hC h1.1
          exact ⟨hC1, ih _ _ a1 w1 hrec hcl' hC1 h1.2.2⟩
        · rename_i hw
          rw [if_neg hw] at hop
          exact ⟨hC, ih _ _ _ _ hrec hcl' hC hop.2⟩
      · exact wpOp_mono (fun a1 w1 h1 => ⟨h1.1 (by rw [heAt]; exact he), ih _ _ a1 w1 hrec hcl' (h1.1 (by rw [heAt]; exact he)) h1.2⟩) hop
    cases hh : (headsOf os).eraseDups with
    | nil => rw [hh] at hm; cases hm
    | cons i r =>
      cases r with
      | nil =>
        rw [hh] at hm
        simp only [] at hm
        have hih : i ∈ headsOf os := mem_dups.1 (by rw [hh]; simp)
        obtain ⟨hrd, hrec⟩ := hrecs i (mem_dups.2 hih)
        have hready : i ∈ Region.ready .any ops listed := by simpa using hrd
        have hcl' := hcl.step hready
        have hop := h i hih
        unfold takeOk at hm
        cases h0 : ops[i]? with
        | none => rw [h0] at hm; cases hm
        | some o =>
          rw [h0] at hm
          simp only [List.all_eq_true, List.mem_range] at hm
          have hlater : ∀ j oj, ops[j]? = some oj → j ≠ i → listed.getD j true = false → (i < j ∧ (B.getD j 0).testBit i = true) ∨ (o.apart ops oj = true ∧ pairOkC P ls o oj = true) := by
            intro j oj hoj hji hun
            have := hm j (Array.getElem?_eq_some_iff.1 hoj).1
            rw [hoj] at this
            simp only [Bool.or_eq_true, Bool.and_eq_true, decide_eq_true_eq, beq_iff_eq, hji, hun, Bool.false_eq_true, false_or] at this
            rcases this with h' | h'
            · exact .inl h'
            · exact .inr h'
          have heAt := heOf i o h0
          cases hL : pcls P o with
          | some L =>
            obtain ⟨L', hL', hp2, hp3⟩ := hpure i o L h0 hL
            rw [hL] at hL'
            injection hL' with hL'
            subst hL'
            obtain ⟨hiun, _, _, hdeps⟩ := mem_ready.1 hready
            obtain ⟨a', w', hq, hsame⟩ := wpOrd_reach hQ _ _ _ _ _ hcov0 h
            have hpl : ∀ p ∈ L, okV p.2 (a.eval (.tmp p.1)) = true := by
              intro p hp
              have := hp2 p hp a' w' hq
              rw [hsame p.1 ?_] at this
              · exact this
              · intro k ok hk hkun hd
                obtain ⟨g1, g2⟩ := hp3 p hp k ok hk hd
                obtain ⟨_, o2, ho2, hall2⟩ := mem_ready.1 hready
                exact listed_false (waits_listed hwait hcl i o2 ho2 hall2 k g1 g2) hkun
            obtain ⟨v, hy⟩ := yields_of_pure hQ h0 (pureAt_of hL hpl) hop
            have hei : eAt P ops i = false := by rw [heAt]; simp [ecls, hL]
            refine wpAnyC_firstD2 hQ (D := AnyW) hwait h0 hei hsel n listed a w (fun j oj hoj hji hun => ?_) hcl hready trivial hy (ih _ _ _ _ hrec hcl' hC (YieldsC.of_wpOp hQ h0 hy hop).2)
            rcases hlater j oj hoj hji hun with h'' | ⟨h1, _⟩
            · exact .inl h''
            · exact .inr ⟨h1, .inl fun _ => trivial⟩
          | none =>
            by_cases hload : lcls o = true
            · have hei : eAt P ops i = false := by rw [heAt]; simp [ecls, hload]
              by_cases hst : lstar ls o = true
              · obtain ⟨ty, t, hot, hs1, hs2⟩ := hstar i o h0 hst
                obtain ⟨a', w', hq, hsame⟩ := wpOrd_reach hQ _ _ _ _ _ hcov0 h
                have hsv : Stab P C (a.tmps.getD t undef) := by
                  have := hs1 a' w' hq
                  rw [hsame t ?_] at this
                  · exact this
                  · intro k ok hk hkun hd
                    obtain ⟨g1, g2⟩ := hs2 k ok hk hd
                    obtain ⟨_, o2, ho2, hall2⟩ := mem_ready.1 hready
                    exact listed_false (waits_listed hwait hcl i o2 ho2 hall2 k g1 g2) hkun
                obtain ⟨v, hy⟩ := yields_of_load hQ h0 hot hsv hC hop
                refine wpAnyC_firstD2 hQ (D := C) hwait h0 hei hsel n listed a w (fun j oj hoj hji hun => ?_) hcl hready hC hy (ih _ _ _ _ hrec hcl' hC (YieldsC.of_wpOpC hQ h0 hy hC hop).2)
                rcases hlater j oj hoj hji hun with h'' | ⟨h1, _⟩
                · exact .inl h''
                · refine .inr ⟨h1, ?_⟩
                  rcases hkind j oj hoj with ⟨L, hL2⟩ | h2 | h2 | h2
                  · exact .inr (.inr (.inl (hpure j oj L hoj hL2)))
                  · refine .inr (.inl fun a w1 n w2 hC1 hrun => ?_)
                    obtain ⟨v, e1, e2, _⟩ := loadAt_of h2 a w1 n w2 hrun
                    exact ⟨v, e1, by rw [e2]; exact hC1⟩
                  · refine .inr (.inl fun a w1 n w2 hC1 hrun => ?_)
                    obtain ⟨v, e1, e2⟩ := newsAt_of h2 a w1 n w2 hrun
                    exact ⟨v, e1, hUp w1 w2 hC1 e2⟩
                  · exact .inr (.inr (.inr ⟨h2, fun _ h => h⟩))
              · by_cases hwant : Region.wanted o (yielded ops a.tmps) = true
                · have hwp : o.wp P a w (fun a' w' => (eAt P ops i = true → C w') ∧ wpOrd P ops C Q n (tailsOf i os) a' w') Q := by
                    unfold wpOp at hop
                    simp only [h0, hwant, if_true] at hop
                    rcases hop with h' | h'
                    · exact h'
                    · exact absurd h'.2 hQ.lets
                  unfold Oper.wp at hwp
                  cases hr : (execOp a.eval o).run P w with
                  | halt x w' =>
                    rw [hr] at hwp
                    cases x <;> simp only [Oper.upon] at hwp
                    exact absurd hwp (hQ.panic _ _ _)
                  | ok q w' =>
                    obtain ⟨v, rfl, rfl, hv⟩ := loadAt_of hload a w q w' hr
                    rw [hr] at hwp
                    simp only [Oper.upon] at hwp
                    refine wpAnyC_firstD2 hQ (D := Ext w') hwait h0 hei hsel n listed a w' (fun j oj hoj hji hun => ?_) hcl hready (Ext.refl _) (.inl ⟨hwant, hv⟩) (ih _ _ _ _ hrec hcl' hC hwp.2)
                    rcases hlater j oj hoj hji hun with h'' | ⟨h1, h2⟩
                    · exact .inl h''
                    · refine .inr ⟨h1, ?_⟩
                      have loadk : lcls oj = true → ∀ (a : Act) w1 n w2, Ext w' w1 → (execOp a.eval oj).run P w1 = .ok n w2 → ∃ v, n = .value v ∧ Ext w' w2 := fun h2 a w1 n w2 hE hrun => by
                        obtain ⟨v, e1, e2, _⟩ := loadAt_of h2 a w1 n w2 hrun
                        exact ⟨v, e1, by rw [e2]; exact hE⟩
                      unfold pairOkC at h2
                      simp only [hL, Option.isSome_none, Bool.false_or, Bool.or_eq_true, Bool.and_eq_true] at h2
                      rcases h2 with ((h2 | h2) | h2) | ⟨_, h2 | h2⟩
                      · obtain ⟨L, hL2⟩ := Option.isSome_iff_exists.1 h2
                        exact .inr (.inr (.inl (hpure j oj L hoj hL2)))
                      · exact absurd h2 hst
                      · exact .inr (.inl (loadk (hstarL oj h2)))
                      · exact .inr (.inl (loadk h2))
                      · refine .inr (.inl fun a w1 n w2 hE hrun => ?_)
                        obtain ⟨v, e1, e2⟩ := newsAt_of h2 a w1 n w2 hrun
                        exact ⟨v, e1, hE.trans e2⟩
                · have hun' : Region.wanted o (yielded ops a.tmps) = false := by simpa using hwant
                  have hy : YieldsC P ops AnyW o undef a := .inr ⟨hun', rfl⟩
                  refine wpAnyC_firstD2 hQ (D := AnyW) hwait h0 hei hsel n listed a w (fun j oj hoj hji hun => ?_) hcl hready trivial hy (ih _ _ _ _ hrec hcl' hC (YieldsC.of_wpOp hQ h0 hy hop).2)
                  rcases hlater j oj hoj hji hun with h'' | ⟨h1, _⟩
                  · exact .inl h''
                  · exact .inr ⟨h1, .inl fun _ => trivial⟩
            · have hk : ncls o = true ∨ ecls P o = true := by
                by_cases hn : ncls o = true
                · exact .inl hn
                · right
                  have e1 : lcls o = false := by simpa using hload
                  have e2 : ncls o = false := by simpa using hn
                  simp [ecls, hL, e1, e2]
              refine wpAnyC_firstE2 hQ hwait h0 hsel n listed a w (fun j oj hoj hji hun => ?_) hcl hready hC (hstep i o h0 hih (hk.imp .inl id))
              rcases hlater j oj hoj hji hun with h'' | ⟨h1, h2⟩
              · exact .inl h''
              · refine .inr ⟨h1, ?_⟩
                unfold pairOkC at h2
                simp only [hL, Option.isSome_none, Bool.false_or, Bool.or_eq_true, Bool.and_eq_true] at h2
                rcases h2 with ((h2 | h2) | h2) | ⟨h2, _⟩
                · obtain ⟨L, hL2⟩ := Option.isSome_iff_exists.1 h2
                  exact .inl (hpure j oj L hoj hL2)
                · exact absurd (hstarL o h2) hload
                · exact .inr (hstar j oj hoj h2)
                · exact absurd h2 hload
      | cons i2 r =>
        rw [hh] at hm
        simp only [Bool.and_eq_true, List.all_eq_true] at hm
        obtain ⟨hm1, hm2⟩ := hm
        refine ⟨fun hnil => ?_, fun j hj => ?_⟩
        · obtain ⟨hrd, _⟩ := hrecs i (by rw [hh]; simp)
          have : i ∈ Region.ready .any ops listed := by simpa using hrd
          rw [hnil] at this
          cases this
        · have hjh : j ∈ i :: i2 :: r := by simpa using hm1 j hj
          have hjk := hm2 j hjh
          unfold nOrE at hjk
          cases h0 : ops[j]? with
          | none => rw [h0] at hjk; cases hjk
          | some oj =>
            rw [h0] at hjk
            simp only [Bool.or_eq_true] at hjk
            exact wpOp_mono (fun a' w' hh => ⟨fun _ => hh.1, hh.2⟩) (hstep j oj h0 (mem_dups.1 (by rw [hh]; exact hjh)) hjk)

/-- A REGION THAT DRAWS ITS ORDER, WALKED IN A FEW ORDERS. -/
theorem wp_region_ord {id : Nat} {l : List Oper} {a : Act} {w : World} (hm : P.follows .mixedOrders = true) (ls : List Tmp) (os : List (List Nat)) (hS : ssaAll P l.toArray (Region.before l.toArray) ls = true) (hB : covOk P l.toArray (Region.before l.toArray) ls l.length (Array.replicate l.length false) os = true) (C : World → Prop) (hUp : Up C) (hC : C w.drew) (hQ : Clean Q)
    (h : wpOrd P l.toArray C (FinC P (dyns P l) C ls Q) l.length os a w.drew) : (Code.region id l.toArray true).wp P Q a w := by
  have hQ' : Clean (FinC P (dyns P l) C ls Q) := ⟨fun c a w hq => hQ.panic c a w hq, fun a w hq => hQ.out a w hq⟩
  refine wp_mono (Q := FinC P (dyns P l) C ls Q) ?_ (fun e a w h => by cases e <;> first | exact h.1 | exact h)
  refine wp_region_any hm ?_
  have := wpAnyC_ord (P := P) (ops := l.toArray) (Q := FinC P (dyns P l) C ls Q) hQ' hUp hS (fun a w hq => hq.2.1) (fun a w hq => hq.2.2) l.length (Array.replicate l.length false) os a w.drew hB (fun k o ho hk => by
    by_cases hlt : k < l.length
    · simp [hlt] at hk
    · simp [hlt] at hk) hC h
  simpa using wpAnyC_any _ _ _ _ this
end
end Go.Px
