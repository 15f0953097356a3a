/- A region whose order is drawn may be walked in the order of its text, if the check of its grounds answers yes. Conditions: those that stand ahead of each theorem. -/
/-
  The theorem, second half: an operation that changes the world; the region. Over any program. No condition is added to any statement here.
-/
import Derived.Test.YtieobcaegegboaaDoorAny3
namespace Go.Px
open Go Go.RowKit
section
variable {P : Program} {ops : Array Oper} {Q : Exit → Act → World → Prop}

def AnyW : World → Prop := fun _ => True
theorem YieldsC.of_wpOp (hQ : Clean Q) {j : Nat} {oj : Oper} (hj : ops[j]? = some oj) {v : Value} {a : Act} {w : World} (hy : YieldsC P ops AnyW oj v a) {K : Act → World → Prop} (h : Go.wpOp P ops Q j K a w) : K (a.put oj.dst v) w := by
  unfold Go.wpOp at h
  simp only [hj] at h
  rcases hy with ⟨hw, hv⟩ | ⟨hw, rfl⟩
  · simp only [hw, if_true] at h
    rcases h with h | h
    · simpa only [Oper.wp, hv w trivial, Oper.upon] using h
    · exact absurd h.2 hQ.lets
  · simpa only [hw, Bool.false_eq_true, if_false] using h
theorem same_op {o : Oper} (hs : ∀ cs b, o.op ≠ .select cs b) {a a1 : Act} (h : ∀ t ∈ o.looksAt ops, a1.tmps.getD t undef = a.tmps.getD t undef) :
    execOp a1.eval o = execOp a.eval o ∧ Region.wanted o (yielded ops a1.tmps) = Region.wanted o (yielded ops a.tmps) := by
  refine ⟨execOp_congr o hs fun x hx => ?_, ?_⟩
  · cases x with
    | tmp t => exact h t (List.mem_append_left _ (List.mem_filterMap.2 ⟨.tmp t, by simpa using hx, rfl⟩))
    | _ => rfl
  · unfold Region.wanted
    cases hg : o.guard with
    | none => rfl
    | some gw =>
      obtain ⟨g, want⟩ := gw
      have hy : yielded ops a1.tmps g = yielded ops a.tmps g := by
        unfold yielded
        cases ht : (ops[g]?).bind (·.dst) with
        | none => rfl
        | some t =>
          have e := h t (by simp [Oper.looksAt, hg, ht])
          simp only [Option.bind_some]
          have e' : a1.tmps[t]?.getD undef = a.tmps[t]?.getD undef := by simpa using e
          rcases h1 : a1.tmps[t]? with _ | x <;> rcases h2 : a.tmps[t]? with _ | y <;> simp only [h1, h2, Option.getD_none, Option.getD_some] at e' ⊢
          · subst e'; rfl
          · subst e'; rfl
          · subst e'; rfl
      simp only [hy]
theorem wpOp_putR (hQ : Clean Q) {i : Nat} {oi oj : Oper} {v : Value} (hi : ops[i]? = some oi) (hap : oi.apart ops oj = true)
    (hsi : ∀ cs b, oi.op ≠ .select cs b) (hsj : ∀ cs b, oj.op ≠ .select cs b) {K : Act → World → Prop} {a : Act} {w : World}
    (hy : YieldsC P ops AnyW oj v a) (h : wpOp P ops Q i K a w) :
    wpOp P ops Q i (fun a' w' => ∃ a2, a' = a2.put oj.dst v ∧ YieldsC P ops AnyW oj v a2 ∧ K a2 w') (a.put oj.dst v) w := by
  obtain ⟨h1, h2, h3⟩ := Oper.apart_spec hap
  have keep : ∀ (a : Act), YieldsC P ops AnyW oj v a → ∀ u, YieldsC P ops AnyW oj v (a.put oi.dst u) := fun a hy u =>
    hy.of_same (execOp_put oj hsj a oi.dst u h1) (wanted_put oj a oi.dst u h1)
  have keepD : ∀ d, YieldsC P ops AnyW oj v { a with defers := d :: a.defers } := fun d => hy.of_same rfl rfl
  have comm : ∀ (b : Act) u, (b.put oj.dst v).put oi.dst u = (b.put oi.dst u).put oj.dst v := fun b u => (Act.put_comm b u v h2).symm
  unfold wpOp at *
  simp only [hi] at *
  rw [wanted_put oi a oj.dst v h3]
  split
  · rename_i hw
    simp only [hw, if_true] at h
    rcases h with h | ⟨_, hlets⟩
    case inr => exact absurd hlets hQ.lets
    refine .inl ?_
    unfold Oper.wp at *
    rw [execOp_put oi hsi a oj.dst v h3]
    generalize (execOp a.eval oi).run P w = r at *
    cases r with
    | ok n w' =>
      cases n <;> simp only [Oper.upon] at h ⊢
      case value u => exact ⟨_, comm a u, keep a hy u, h⟩
      case skip => exact ⟨_, comm a undef, keep a hy _, h⟩
      case defer d =>
        refine ⟨({ a with defers := d :: a.defers } : Act).put oi.dst undef, ?_, keep _ (keepD d) _, h⟩
        rw [Act.put_defers, comm]
      case enter f args =>
        refine Calls.mono h fun e w'' he => ?_
        cases e with
        | returned u => exact ⟨_, comm a u, keep a hy u, he⟩
        | panicked c => exact absurd he (hQ.panic _ _ _)
        | outgrown => exact absurd he hQ.lets
      case row row args => exact Rows.mono h fun u w'' he => ⟨_, comm a u, keep a hy u, he⟩
    | halt x w' =>
      cases x <;> simp only [Oper.upon] at h ⊢
      case panic u => exact absurd h (hQ.panic _ _ _)
  · rename_i hw
    simp only [hw] at h
    exact ⟨_, comm a undef, keep a hy _, h⟩

def PureCond (P : Program) (Q : Exit → Act → World → Prop) (ops : Array Oper) (B : Array Nat) (j : Nat) (oj : Oper) : Prop :=
  ∃ L, pcls P oj = some L ∧ (∀ p ∈ L, ∀ a' w', Q .normal a' w' → okV p.2 (a'.tmps.getD p.1 undef) = true) ∧
    ∀ p ∈ L, ∀ k ok, ops[k]? = some ok → ok.dst = some p.1 → k < j ∧ (B.getD j 0).testBit k = true

theorem listed_false {listed : Array Bool} {k : Nat} (e1 : listed.getD k false = true) (e2 : listed.getD k true = false) : False := by
  rcases Nat.lt_or_ge k listed.size with h' | h'
  · simp [h'] at e1 e2; rw [e1] at e2; cases e2
  · simp [Array.getElem?_eq_none h'] at e1

/-- a pure operation that is wanted and has come to its end yields the same in every world -/
theorem yields_of_pure (hQ : Clean Q) {j : Nat} {oj : Oper} (hj : ops[j]? = some oj) {a : Act} {w : World} {K : Act → World → Prop} (hp : PureAt P oj a) (h : wpOp P ops Q j K a w) : ∃ v, YieldsC P ops AnyW oj v a := by
  unfold wpOp at h
  simp only [hj] at h
  by_cases hw : Region.wanted oj (yielded ops a.tmps) = true
  · simp only [hw, if_true] at h
    rcases h with h | h
    · unfold Oper.wp at h
      cases hr : (execOp a.eval oj).run P w with
      | ok n w' =>
        obtain ⟨v, _, hv⟩ := hp w n w' hr
        exact ⟨v, .inl ⟨hw, fun w2 _ => hv w2⟩⟩
      | halt x w' =>
        rw [hr] at h
        cases x <;> simp only [Oper.upon] at h
        exact absurd h (hQ.panic _ _ _)
    · exact absurd h.2 hQ.lets
  · exact ⟨undef, .inr ⟨by simpa using hw, rfl⟩⟩

theorem wpAny_firstE (hQ : Clean Q) {B : Array Nat} (hB : waitsOk ops B = true) {i : Nat} {oi : Oper} (hi : ops[i]? = some oi) (hsel : ∀ (j : Nat) (o : Oper) cs b, ops[j]? = some o → o.op ≠ .select cs b)
    (hord : ∀ j oj, ops[j]? = some oj → i < j → (B.getD j 0).testBit i = true ∨ (oi.apart ops oj = true ∧ PureCond P Q ops B j oj)) :
    ∀ (fuel : Nat) (listed : Array Bool) (a : Act) (w : World), Closed ops listed → (∀ j, j < i → listed.getD j false = true) → i ∈ Region.ready .any ops listed →
      wpOp P ops Q i (wpAny P .any ops Q fuel (listed.setIfInBounds i true)) a w → wpAny P .any ops Q (fuel + 1) listed a w := by
  intro fuel
  induction fuel with
  | zero =>
    intro listed a w hcl hlow hr H
    refine ⟨fun h => (by rw [h] at hr; cases hr), fun j hj => ?_⟩
    by_cases hji : j = i
    · subst hji; exact H
    · have := ready_mono hj hji
      obtain ⟨a1, w1, h1, _⟩ := wpOp_reach hQ hi H
      rw [h1.1] at this
      cases this
  | succ fuel ih =>
    intro listed a w hcl hlow hr H
    refine ⟨fun h => (by rw [h] at hr; cases hr), fun j hj => ?_⟩
    by_cases hji : j = i
    · subst hji; exact H
    · obtain ⟨hjun, oj, hoj, hall⟩ := mem_ready.1 hj
      have hiun := (mem_ready.1 hr).1
      have hij : i < j := by
        rcases Nat.lt_or_ge j i with h' | h'
        · exact (listed_false (hlow j h') hjun).elim
        · omega
      rcases hord j oj hoj hij with hw | ⟨hap, L, hp1, hp2, hp3⟩
      · exact (listed_false (waits_listed hB hcl j oj hoj hall i hij hw) hiun).elim
      · obtain ⟨k1, k2, k3⟩ := Oper.apart_spec hap
        obtain ⟨a1, w1, h1, hs1⟩ := wpOp_reach hQ hi H
        have hlook : ∀ t ∈ oj.looksAt ops, a1.tmps.getD t undef = a.tmps.getD t undef := fun t ht => hs1 t fun hd => k1 t hd ht
        obtain ⟨he, hwt⟩ := same_op (ops := ops) (fun cs b => hsel j oj cs b hoj) hlook
        obtain ⟨a', w', hq, hsame⟩ := wpAny_reach hQ _ _ _ _ h1
        have hpl : ∀ p ∈ L, okV p.2 (a1.eval (.tmp p.1)) = true := by
          intro p hp
          have := hp2 p hp a' w' hq
          rw [hsame p.1 ?_] at this
          · exact this
          · intro k ok hk hkun hd
            obtain ⟨g1, g2⟩ := hp3 p hp k ok hk hd
            have g3 := waits_listed hB hcl j oj hoj hall k g1 g2
            by_cases hik : i = k
            · subst hik
              exact listed_false g3 hiun
            · rw [getD_set_ne true hik] at hkun
              exact listed_false g3 hkun
        have hpa := pureAt_of hp1 hpl
        obtain ⟨v, hy1⟩ := yields_of_pure hQ hoj hpa (h1.2 j (ready_mono hj hji))
        have hy : YieldsC P ops AnyW oj v a := hy1.of_same he.symm hwt.symm
        refine hy.wpOp hoj trivial ?_
        refine ih (listed.setIfInBounds j true) _ _ (hcl.step hj) (fun k hk => getD_set_true (hlow k hk)) (ready_mono hr (Ne.symm hji)) ?_
        refine wpOp_mono (fun a2 w2 h2 => ?_) (wpOp_putR hQ hi hap (fun cs b => hsel i oi cs b hi) (fun cs b => hsel j oj cs b hoj) hy H)
        obtain ⟨a3, rfl, hy3, hK3⟩ := h2
        have := YieldsC.of_wpOp hQ hoj hy3 (hK3.2 j (ready_mono hj hji))
        rw [Array.setIfInBounds_comm _ _ hji]
        exact this

/-! ### the check, and the region -/
def pairOk (P : Program) (oi oj : Oper) : Bool := (pcls P oi).isSome || (pcls P oj).isSome || (lcls oi && (lcls oj || ncls oj))
def ssaOk (P : Program) (ops : Array Oper) (B : Array Nat) (i : Nat) (oi : Oper) : Bool :=
  match pcls P oi with
  | some L => L.all fun p => (List.range ops.size).all fun k => match ops[k]? with | some ok => ok.dst != some p.1 || (decide (k < i) && (B.getD i 0).testBit k) | none => true
  | none => true
def ordOk (P : Program) (ops : Array Oper) (B : Array Nat) : Bool :=
  Region.noSelect ops && waitsOk ops B && (List.range ops.size).all fun i => match ops[i]? with
    | none => false
    | some oi => (oi.after.all fun e => !Region.binds .any e || decide (e.on < i)) && ssaOk P ops B i oi &&
        (List.range ops.size).all fun j => decide (j ≤ i) || (B.getD j 0).testBit i || match ops[j]? with
          | none => true
          | some oj => oi.apart ops oj && pairOk P oi oj
def dyns (P : Program) (l : List Oper) : List (Tmp × Bool) := l.flatMap fun o => (pcls P o).getD []
def dynOk (D : List (Tmp × Bool)) (a : Act) : Bool := D.all fun p => okV p.2 (a.tmps.getD p.1 undef)
def Fin (D : List (Tmp × Bool)) (Q : Exit → Act → World → Prop) : Exit → Act → World → Prop
  | .normal, a, w => Q .normal a w ∧ dynOk D a = true
  | e, a, w => Q e a w
theorem fin_mk {D : List (Tmp × Bool)} {a : Act} {w : World} (h : dynOk D a = true) (hq : Q .normal a w) : Fin D Q .normal a w := ⟨hq, h⟩
theorem Fin.clean {D : List (Tmp × Bool)} (h : Clean Q) : Clean (Fin D Q) := ⟨fun c a w hq => h.panic c a w hq, fun a w hq => h.out a w hq⟩
theorem Fin.le {D : List (Tmp × Bool)} : ∀ e a w, Fin D Q e a w → Q e a w := by
  intro e a w h
  cases e <;> first | exact h.1 | exact h

theorem wpAny_text (hQ : Clean Q) {B : Array Nat} (hB : ordOk P ops B = true) (hdyn : ∀ a w, Q .normal a w → dynOk (dyns P ops.toList) a = true) : ∀ (l : List Oper) (k : Nat) (listed : Array Bool) (a : Act) (w : World), (∀ j, l[j]? = ops[k + j]?) → k + l.length = ops.size →
    listed.size = ops.size → (∀ j, j < ops.size → (listed.getD j false = true ↔ j < k)) → wpList P ops Q l a w → wpAny P .any ops Q l.length listed a w := by
  simp only [ordOk, Bool.and_eq_true, List.all_eq_true, List.mem_range] at hB
  obtain ⟨⟨hsel0, hwait⟩, hall⟩ := hB
  have hsel := Region.noSelect_spec hsel0
  have hpure : ∀ j oj L, ops[j]? = some oj → pcls P oj = some L → PureCond P Q ops B j oj := by
    intro j oj L hj hL
    have hlt := (Array.getElem?_eq_some_iff.1 hj).1
    have h1 := hall j hlt
    rw [hj] at h1
    simp only [Bool.and_eq_true] at h1
    have h2 := h1.1.2
    unfold ssaOk at h2
    rw [hL] at h2
    simp only [List.all_eq_true, List.mem_range] at h2
    refine ⟨L, hL, fun p hp a' w' hq => ?_, fun p hp k ok hk hd => ?_⟩
    · have := hdyn a' w' hq
      unfold dynOk at this
      rw [List.all_eq_true] at this
      exact this p (List.mem_flatMap.2 ⟨oj, by simpa using Array.mem_of_getElem? hj, by rw [hL]; exact hp⟩)
    · have h3 := h2 p hp k (Array.getElem?_eq_some_iff.1 hk).1
      rw [hk] at h3
      simpa [hd] using h3
  intro l
  induction l with
  | nil =>
    intro k listed a w hl hlen hsz hlow h
    refine ⟨?_, h⟩
    apply List.eq_nil_iff_forall_not_mem.2
    intro j hj
    obtain ⟨hun, oj, hoj, _⟩ := mem_ready.1 hj
    have hlt := (Array.getElem?_eq_some_iff.1 hoj).1
    exact listed_false ((hlow j hlt).2 (by simp at hlen; omega)) hun
  | cons o l ih =>
    intro k listed a w hl hlen hsz hlow h
    have h0 : ops[k]? = some o := by simpa using (hl 0).symm
    have hk := (Array.getElem?_eq_some_iff.1 h0).1
    have hck := hall k hk
    rw [h0] at hck
    simp only [Bool.and_eq_true, Array.all_eq_true_iff_forall_mem, Bool.or_eq_true, Bool.not_eq_true', decide_eq_true_eq, List.all_eq_true, List.mem_range] at hck
    obtain ⟨⟨hedge, _⟩, hpairs⟩ := hck
    have hready : k ∈ Region.ready .any ops listed := by
      refine mem_ready.2 ⟨?_, o, h0, fun e he hb => ?_⟩
      · have : ¬ listed.getD k false = true := fun hh => by have := (hlow k hk).1 hh; omega
        have hsz' : k < listed.size := by omega
        simp [hsz'] at this ⊢
        exact this
      · rcases hedge e he with h' | h'
        · rw [hb] at h'; cases h'
        · exact (hlow e.on (by omega)).2 h'
    have hcl : Closed ops listed := by
      intro j oj hoj hj e he hb
      have hlt := (Array.getElem?_eq_some_iff.1 hoj).1
      have h1 := hall j hlt
      rw [hoj] at h1
      simp only [Bool.and_eq_true, Array.all_eq_true_iff_forall_mem, Bool.or_eq_true, Bool.not_eq_true', decide_eq_true_eq] at h1
      have hjk := (hlow j hlt).1 hj
      rcases h1.1.1 e he with h' | h'
      · rw [hb] at h'; cases h'
      · exact (hlow e.on (by omega)).2 (by omega)
    have hlow' : ∀ j, j < k → listed.getD j false = true := fun j hj => (hlow j (by omega)).2 hj
    have hnext : ∀ a1 w1, wpList P ops Q l a1 w1 → wpAny P .any ops Q l.length (listed.setIfInBounds k true) a1 w1 := by
      intro a1 w1 h1
      refine ih (k + 1) _ a1 w1 (fun j => by have := hl (j + 1); simpa [Nat.add_assoc, Nat.add_comm 1 j] using this) (by simp at hlen; omega) (by simpa using hsz) (fun j hj => ?_) h1
      by_cases hkj : k = j
      · subst hkj
        have hsz' : k < listed.size := by omega
        simp [hsz']
      · rw [getD_set_ne false hkj, hlow j hj]
        omega
    -- the operations behind it
    have hlater : ∀ j oj, ops[j]? = some oj → k < j → (B.getD j 0).testBit k = true ∨ (o.apart ops oj = true ∧ pairOk P o oj = true) := by
      intro j oj hoj hkj
      have := hpairs j (Array.getElem?_eq_some_iff.1 hoj).1
      rw [hoj] at this
      simp only [Bool.and_eq_true] at this
      rcases this with (h' | h') | h'
      · omega
      · exact .inl h'
      · exact .inr h'
    -- what has come to its end at the operation itself
    have hop : wpOp P ops Q k (wpList P ops Q l) a w := by
      unfold wpOp
      simp only [h0]
      unfold wpList at h
      exact h
    cases hL : pcls P o with
    | some L =>
      -- it does not look at the world
      obtain ⟨L', hL', hp2, hp3⟩ := hpure k o L h0 hL
      rw [hL] at hL'
      injection hL' with hL'
      subst hL'
      obtain ⟨a', w', hq, hsame⟩ := wpList_reach hQ _ _ _ h
      have hpl : ∀ p ∈ L, okV p.2 (a.eval (.tmp p.1)) = true := by
        intro p hp
        have := hp2 p hp a' w' hq
        rw [hsame p.1 ?_] at this
        · exact this
        · intro ok hok hd
          obtain ⟨m, hm⟩ := List.getElem?_of_mem hok
          rw [hl m] at hm
          obtain ⟨g1, _⟩ := hp3 p hp (k + m) ok hm hd
          omega
      obtain ⟨v, hy⟩ := yields_of_pure hQ h0 (pureAt_of hL hpl) hop
      refine wpAny_firstC hQ (C := AnyW) hwait h0 hsel (fun j oj hoj hjk => ?_) l.length listed a w hcl hlow' hready trivial hy (hnext _ _ (YieldsC.of_wpOp hQ h0 hy hop))
      rcases Nat.lt_or_ge j k with h' | h'
      · exact .inr (.inr h')
      · rcases hlater j oj hoj (by omega) with h'' | ⟨h1, _⟩
        · exact .inl ⟨by omega, h''⟩
        · exact .inr (.inl ⟨h1, .inl fun _ => trivial⟩)
    | none =>
      by_cases hload : lcls o = true
      · -- it reads
        by_cases hwant : Region.wanted o (yielded ops a.tmps) = true
        · have hwp : o.wp P a w (wpList P ops Q l) Q := by
            unfold wpOp at hop
            simp only [h0, hwant, if_true] at hop
            rcases hop with h' | h'
            · exact h'
            · exact absurd h'.2 hQ.lets
          unfold Oper.wp at hwp
          cases hr : (execOp a.eval o).run P w with
          | halt x w' =>
            rw [hr] at hwp
            cases x <;> simp only [Oper.upon] at hwp
            exact absurd hwp (hQ.panic _ _ _)
          | ok n w' =>
            obtain ⟨v, rfl, rfl, hv⟩ := loadAt_of hload a w n w' hr
            rw [hr] at hwp
            simp only [Oper.upon] at hwp
            refine wpAny_firstC hQ (C := Ext w') hwait h0 hsel (fun j oj hoj hjk => ?_) l.length listed a w' hcl hlow' hready (Ext.refl _) (.inl ⟨hwant, hv⟩) (hnext _ _ hwp)
            rcases Nat.lt_or_ge j k with h' | h'
            · exact .inr (.inr h')
            · rcases hlater j oj hoj (by omega) with h'' | ⟨h1, h2⟩
              · exact .inl ⟨by omega, h''⟩
              · refine .inr (.inl ⟨h1, ?_⟩)
                unfold pairOk at h2
                simp only [hL, Option.isSome_none, Bool.false_or, Bool.or_eq_true, Bool.and_eq_true] at h2
                rcases h2 with h2 | ⟨_, h2 | h2⟩
                · obtain ⟨L, hL2⟩ := Option.isSome_iff_exists.1 h2
                  obtain ⟨L', e1, e2, e3⟩ := hpure j oj L hoj hL2
                  refine .inr (.inr (.inr ⟨⟨L', e1, e2⟩, fun L'' e4 => ?_⟩))
                  rw [e1] at e4
                  injection e4 with e4
                  subst e4
                  exact e3
                · refine .inr (.inl fun a => ⟨loadAt_of h2 a, fun w1 n w2 hC hrun => ?_⟩)
                  obtain ⟨_, _, e2, _⟩ := loadAt_of h2 a w1 n w2 hrun
                  rw [e2]
                  exact hC
                · refine .inr (.inr (.inl fun a => ⟨newsAt_of h2 a, fun w1 n w2 hC hrun => ?_⟩))
                  obtain ⟨_, _, e2⟩ := newsAt_of h2 a w1 n w2 hrun
                  exact hC.trans e2
        · have hun : Region.wanted o (yielded ops a.tmps) = false := by simpa using hwant
          have hy : YieldsC P ops AnyW o undef a := .inr ⟨hun, rfl⟩
          refine wpAny_firstC hQ (C := AnyW) hwait h0 hsel (fun j oj hoj hjk => ?_) l.length listed a w hcl hlow' hready trivial hy (hnext _ _ (YieldsC.of_wpOp hQ h0 hy hop))
          rcases Nat.lt_or_ge j k with h' | h'
          · exact .inr (.inr h')
          · rcases hlater j oj hoj (by omega) with h'' | ⟨h1, _⟩
            · exact .inl ⟨by omega, h''⟩
            · exact .inr (.inl ⟨h1, .inl fun _ => trivial⟩)
      · -- it changes the world
        refine wpAny_firstE hQ hwait h0 hsel (fun j oj hoj hkj => ?_) l.length listed a w hcl hlow' hready (wpOp_mono (fun a1 w1 => hnext a1 w1) hop)
        rcases hlater j oj hoj hkj with h'' | ⟨h1, h2⟩
        · exact .inl h''
        · refine .inr ⟨h1, ?_⟩
          unfold pairOk at h2
          simp only [hL, Option.isSome_none, Bool.false_or, Bool.or_eq_true, Bool.and_eq_true] at h2
          rcases h2 with h2 | ⟨h2, _⟩
          · obtain ⟨L, hL2⟩ := Option.isSome_iff_exists.1 h2
            exact hpure j oj L hoj hL2
          · exact absurd h2 hload

/-- A REGION THAT DRAWS ITS ORDER, WALKED IN THE TEXT's ORDER. -/
theorem wp_region_text {id : Nat} {l : List Oper} {a : Act} {w : World} (hm : P.follows .mixedOrders = true) (hB : ordOk P l.toArray (Region.before l.toArray) = true) (hQ : Clean Q)
    (h : wpList P l.toArray (Fin (dyns P l) Q) l a w.drew) : (Code.region id l.toArray true).wp P Q a w := by
  refine wp_mono (Q := Fin (dyns P l) Q) ?_ Fin.le
  refine wp_region_any hm ?_
  have := wpAny_text (P := P) (ops := l.toArray) (Q := Fin (dyns P l) Q) (Fin.clean hQ) hB (fun a w hq => hq.2) l 0 (Array.replicate l.length false) a w.drew (by simp) (by simp) (by simp) (fun j hj => by simp at hj; simp [hj]) h
  simpa using this
end
end Go.Px
