/- Second part of the proof that a region with loads or new memory beside calls may be walked in a few orders: moving one operation. Conditions: those that stand ahead of each theorem. -/
/-
  The region, with the class of worlds. Over any program. No condition is added to any statement here.
-/
import Derived.Test.YtieobcaegegboaaDoorAny5
namespace Go.Px
open Go Go.RowKit
section
variable {P : Program} {ops : Array Oper} {Q : Exit → Act → World → Prop} {C : World → Prop}

theorem wp_news {o : Oper} {a : Act} {w : World} {K : Act → World → Prop} (hn : ncls o = true) (h : o.wp P a w K Q) : o.wp P a w (fun a' w' => Ext w w' ∧ K a' w') Q := by
  unfold Oper.wp at *
  cases hr : (execOp a.eval o).run P w with
  | ok n w' =>
    obtain ⟨v, rfl, he⟩ := newsAt_of hn a w n w' hr
    rw [hr] at h
    exact ⟨he, h⟩
  | halt x w' =>
    rw [hr] at h
    cases x <;> exact h

theorem wp_loads {o : Oper} {a : Act} {w : World} {K : Act → World → Prop} (hn : lcls o = true) (h : o.wp P a w K Q) : o.wp P a w (fun a' w' => Ext w w' ∧ K a' w') Q := by
  unfold Oper.wp at *
  cases hr : (execOp a.eval o).run P w with
  | ok n w' =>
    have hl := loadAt_of (P := P) hn a w n w' hr
    obtain ⟨v, rfl, rfl, _⟩ := hl
    rw [hr] at h
    exact ⟨Ext.refl _, h⟩
  | halt x w' =>
    rw [hr] at h
    cases x <;> exact h

theorem wpAnyC_text (hQ : Clean Q) (hUp : Up C) {B : Array Nat} {ls : List Tmp} (hB : ordOkC P ops B ls = true) (hdyn : ∀ a w, Q .normal a w → dynOk (dyns P ops.toList) a = true) (hstab : ∀ a w, Q .normal a w → ∀ t ∈ ls, Stab P C (a.tmps.getD t undef)) :
    ∀ (l : List Oper) (k : Nat) (listed : Array Bool) (a : Act) (w : World), (∀ j, l[j]? = ops[k + j]?) → k + l.length = ops.size →
    listed.size = ops.size → (∀ j, j < ops.size → (listed.getD j false = true ↔ j < k)) → C w → wpListC P ops C Q l a w → wpAnyC P ops C Q l.length listed a w := by
  simp only [ordOkC, Bool.and_eq_true, List.all_eq_true, List.mem_range] at hB
  obtain ⟨⟨hsel0, hwait⟩, hall⟩ := hB
  have hsel := Region.noSelect_spec hsel0
  have hpure : ∀ j oj L, ops[j]? = some oj → pcls P oj = some L → PureCond P Q ops B j oj := by
    intro j oj L hj hL
    have hlt := (Array.getElem?_eq_some_iff.1 hj).1
    have h1 := hall j hlt
    rw [hj] at h1
    simp only [Bool.and_eq_true] at h1
    have h2 := h1.1.1.2
    unfold ssaOk at h2
    rw [hL] at h2
    simp only [List.all_eq_true, List.mem_range] at h2
    refine ⟨L, hL, fun p hp a' w' hq => ?_, fun p hp k ok hk hd => ?_⟩
    · have := hdyn a' w' hq
      unfold dynOk at this
      rw [List.all_eq_true] at this
      exact this p (List.mem_flatMap.2 ⟨oj, by simpa using Array.mem_of_getElem? hj, by rw [hL]; exact hp⟩)
    · have h3 := h2 p hp k (Array.getElem?_eq_some_iff.1 hk).1
      rw [hk] at h3
      simpa [hd] using h3
  have hstar : ∀ j oj, ops[j]? = some oj → lstar ls oj = true → StarCond P Q ops C B j oj := by
    intro j oj hj hs
    have hlt := (Array.getElem?_eq_some_iff.1 hj).1
    have h1 := hall j hlt
    rw [hj] at h1
    simp only [Bool.and_eq_true] at h1
    have h2 := h1.1.2
    unfold lstar at hs
    unfold starSsa at h2
    split at hs
    · rename_i ty t hop
      rw [hop] at h2
      simp only [hs, Bool.not_true, Bool.false_or, List.all_eq_true, List.mem_range] at h2
      refine ⟨ty, t, hop, fun a' w' hq => hstab a' w' hq t (by simpa using hs), fun k ok hk hd => ?_⟩
      have h3 := h2 k (Array.getElem?_eq_some_iff.1 hk).1
      rw [hk] at h3
      simpa [hd] using h3
    · cases hs
  intro l
  induction l with
  | nil =>
    intro k listed a w hl hlen hsz hlow hC h
    refine ⟨?_, h⟩
    apply List.eq_nil_iff_forall_not_mem.2
    intro j hj
    obtain ⟨hun, oj, hoj, _⟩ := mem_ready.1 hj
    have hlt := (Array.getElem?_eq_some_iff.1 hoj).1
    exact listed_false ((hlow j hlt).2 (by simp at hlen; omega)) hun
  | cons o l ih =>
    intro k listed a w hl hlen hsz hlow hC h
    have h0 : ops[k]? = some o := by simpa using (hl 0).symm
    have hk := (Array.getElem?_eq_some_iff.1 h0).1
    have hck := hall k hk
    rw [h0] at hck
    simp only [Bool.and_eq_true, Array.all_eq_true_iff_forall_mem, Bool.or_eq_true, Bool.not_eq_true', decide_eq_true_eq, List.all_eq_true, List.mem_range] at hck
    obtain ⟨⟨⟨hedge, _⟩, _⟩, hpairs⟩ := hck
    have hready : k ∈ Region.ready .any ops listed := by
      refine mem_ready.2 ⟨?_, o, h0, fun e he hb => ?_⟩
      · have : ¬ listed.getD k false = true := fun hh => by have := (hlow k hk).1 hh; omega
        have hsz' : k < listed.size := by omega
        simp [hsz'] at this ⊢
        exact this
      · rcases hedge e he with h' | h'
        · rw [hb] at h'; cases h'
        · exact (hlow e.on (by omega)).2 h'
    have hcl : Closed ops listed := by
      intro j oj hoj hj e he hb
      have hlt := (Array.getElem?_eq_some_iff.1 hoj).1
      have h1 := hall j hlt
      rw [hoj] at h1
      simp only [Bool.and_eq_true, Array.all_eq_true_iff_forall_mem, Bool.or_eq_true, Bool.not_eq_true', decide_eq_true_eq] at h1
      have hjk := (hlow j hlt).1 hj
      rcases h1.1.1.1 e he with h' | h'
      · rw [hb] at h'; cases h'
      · exact (hlow e.on (by omega)).2 (by omega)
    have hlow' : ∀ j, j < k → listed.getD j false = true := fun j hj => (hlow j (by omega)).2 hj
    have hnext : ∀ a1 w1, C w1 → wpListC P ops C Q l a1 w1 → wpAnyC P ops C Q l.length (listed.setIfInBounds k true) a1 w1 := by
      intro a1 w1 hC1 h1
      refine ih (k + 1) _ a1 w1 (fun j => by have := hl (j + 1); simpa [Nat.add_assoc, Nat.add_comm 1 j] using this) (by simp at hlen; omega) (by simpa using hsz) (fun j hj => ?_) hC1 h1
      by_cases hkj : k = j
      · subst hkj
        have hsz' : k < listed.size := by omega
        simp [hsz']
      · rw [getD_set_ne false hkj, hlow j hj]
        omega
    have hlater : ∀ j oj, ops[j]? = some oj → k < j → (B.getD j 0).testBit k = true ∨ (o.apart ops oj = true ∧ pairOkC P ls o oj = true) := by
      intro j oj hoj hkj
      have := hpairs j (Array.getElem?_eq_some_iff.1 hoj).1
      rw [hoj] at this
      simp only [Bool.and_eq_true] at this
      rcases this with (h' | h') | h'
      · omega
      · exact .inl h'
      · exact .inr h'
    have hop : wpOp P ops Q k (fun a' w' => (ecls P o = true → C w') ∧ wpListC P ops C Q l a' w') a w := by
      unfold wpOp
      simp only [h0]
      unfold wpListC at h
      split
      · rename_i hw; rw [if_pos hw] at h; exact h
      · rename_i hw; rw [if_neg hw] at h; exact ⟨fun _ => hC, h⟩
    have heAt : eAt P ops k = ecls P o := by unfold eAt; rw [h0]
    have heOf : ∀ j oj, ops[j]? = some oj → eAt P ops j = ecls P oj := fun j oj hj => by unfold eAt; rw [hj]
    -- what another operation is
    have hkind : ∀ j oj, ops[j]? = some oj → (∃ L, pcls P oj = some L) ∨ lcls oj = true ∨ ncls oj = true ∨ eAt P ops j = true := by
      intro j oj hj
      rw [heOf j oj hj]
      unfold ecls
      cases h1 : pcls P oj with
      | some L => exact .inl ⟨L, rfl⟩
      | none =>
        cases h2 : lcls oj with
        | true => exact .inr (.inl rfl)
        | false =>
          cases h3 : ncls oj with
          | true => exact .inr (.inr (.inl rfl))
          | false => exact .inr (.inr (.inr rfl))
    cases hL : pcls P o with
    | some L =>
      obtain ⟨L', hL', hp2, hp3⟩ := hpure k o L h0 hL
      rw [hL] at hL'
      injection hL' with hL'
      subst hL'
      obtain ⟨a', w', hq, hsame⟩ := wpList_reach hQ _ _ _ (wpListC_list _ _ _ h)
      have hpl : ∀ p ∈ L, okV p.2 (a.eval (.tmp p.1)) = true := by
        intro p hp
        have := hp2 p hp a' w' hq
        rw [hsame p.1 ?_] at this
        · exact this
        · intro ok hok hd
          obtain ⟨m, hm⟩ := List.getElem?_of_mem hok
          rw [hl m] at hm
          obtain ⟨g1, _⟩ := hp3 p hp (k + m) ok hm hd
          omega
      obtain ⟨v, hy⟩ := yields_of_pure hQ h0 (pureAt_of hL hpl) hop
      have hei : eAt P ops k = false := by rw [heAt]; simp [ecls, hL]
      refine wpAnyC_firstD hQ (D := AnyW) hwait h0 hei hsel (fun j oj hoj hkj => ?_) l.length listed a w hcl hlow' hready trivial hy (hnext _ _ hC (YieldsC.of_wpOp hQ h0 hy hop).2)
      rcases hlater j oj hoj hkj with h'' | ⟨h1, _⟩
      · exact .inl h''
      · exact .inr ⟨h1, .inl fun _ => trivial⟩
    | none =>
      by_cases hload : lcls o = true
      · have hei : eAt P ops k = false := by rw [heAt]; simp [ecls, hload]
        by_cases hst : lstar ls o = true
        · -- a load that stands beside calls
          obtain ⟨ty, t, hot, hs1, hs2⟩ := hstar k o h0 hst
          obtain ⟨a', w', hq, hsame⟩ := wpList_reach hQ _ _ _ (wpListC_list _ _ _ h)
          have hsv : Stab P C (a.tmps.getD t undef) := by
            have := hs1 a' w' hq
            rw [hsame t ?_] at this
            · exact this
            · intro ok hok hd
              obtain ⟨m, hm⟩ := List.getElem?_of_mem hok
              rw [hl m] at hm
              obtain ⟨g1, _⟩ := hs2 (k + m) ok hm hd
              omega
          obtain ⟨v, hy⟩ := yields_of_load hQ h0 hot hsv hC hop
          refine wpAnyC_firstD hQ (D := C) hwait h0 hei hsel (fun j oj hoj hkj => ?_) l.length listed a w hcl hlow' hready hC hy (hnext _ _ hC (YieldsC.of_wpOpC hQ h0 hy hC hop).2)
          rcases hlater j oj hoj hkj with h'' | ⟨h1, _⟩
          · exact .inl h''
          · refine .inr ⟨h1, ?_⟩
            rcases hkind j oj hoj with ⟨L, hL2⟩ | h2 | h2 | h2
            · exact .inr (.inr (.inl (hpure j oj L hoj hL2)))
            · refine .inr (.inl fun a w1 n w2 hC1 hrun => ?_)
              obtain ⟨v, e1, e2, _⟩ := loadAt_of h2 a w1 n w2 hrun
              exact ⟨v, e1, by rw [e2]; exact hC1⟩
            · refine .inr (.inl fun a w1 n w2 hC1 hrun => ?_)
              obtain ⟨v, e1, e2⟩ := newsAt_of h2 a w1 n w2 hrun
              exact ⟨v, e1, hUp w1 w2 hC1 e2⟩
            · exact .inr (.inr (.inr ⟨h2, fun _ h => h⟩))
        · by_cases hwant : Region.wanted o (yielded ops a.tmps) = true
          · have hwp : o.wp P a w (fun a' w' => (ecls P o = true → C w') ∧ wpListC P ops C Q l a' w') Q := by
              unfold wpOp at hop
              simp only [h0, hwant, if_true] at hop
              rcases hop with h' | h'
              · exact h'
              · exact absurd h'.2 hQ.lets
            unfold Oper.wp at hwp
            cases hr : (execOp a.eval o).run P w with
            | halt x w' =>
              rw [hr] at hwp
              cases x <;> simp only [Oper.upon] at hwp
              exact absurd hwp (hQ.panic _ _ _)
            | ok n w' =>
              obtain ⟨v, rfl, rfl, hv⟩ := loadAt_of hload a w n w' hr
              rw [hr] at hwp
              simp only [Oper.upon] at hwp
              refine wpAnyC_firstD hQ (D := Ext w') hwait h0 hei hsel (fun j oj hoj hkj => ?_) l.length listed a w' hcl hlow' hready (Ext.refl _) (.inl ⟨hwant, hv⟩) (hnext _ _ hC hwp.2)
              rcases hlater j oj hoj hkj with h'' | ⟨h1, h2⟩
              · exact .inl h''
              · refine .inr ⟨h1, ?_⟩
                have loadk : lcls oj = true → ∀ (a : Act) w1 n w2, Ext w' w1 → (execOp a.eval oj).run P w1 = .ok n w2 → ∃ v, n = .value v ∧ Ext w' w2 := fun h2 a w1 n w2 hE hrun => by
                  obtain ⟨v, e1, e2, _⟩ := loadAt_of h2 a w1 n w2 hrun
                  exact ⟨v, e1, by rw [e2]; exact hE⟩
                unfold pairOkC at h2
                simp only [hL, Option.isSome_none, Bool.false_or, Bool.or_eq_true, Bool.and_eq_true] at h2
                rcases h2 with ((h2 | h2) | h2) | ⟨_, h2 | h2⟩
                · obtain ⟨L, hL2⟩ := Option.isSome_iff_exists.1 h2
                  exact .inr (.inr (.inl (hpure j oj L hoj hL2)))
                · exact absurd h2 hst
                · have : lcls oj = true := by
                    unfold lstar at h2
                    unfold lcls
                    split at h2
                    · rename_i hop; rw [hop]
                    · cases h2
                  exact .inr (.inl (loadk this))
                · exact .inr (.inl (loadk h2))
                · refine .inr (.inl fun a w1 n w2 hE hrun => ?_)
                  obtain ⟨v, e1, e2⟩ := newsAt_of h2 a w1 n w2 hrun
                  exact ⟨v, e1, hE.trans e2⟩
          · have hun : Region.wanted o (yielded ops a.tmps) = false := by simpa using hwant
            have hy : YieldsC P ops AnyW o undef a := .inr ⟨hun, rfl⟩
            refine wpAnyC_firstD hQ (D := AnyW) hwait h0 hei hsel (fun j oj hoj hkj => ?_) l.length listed a w hcl hlow' hready trivial hy (hnext _ _ hC (YieldsC.of_wpOp hQ h0 hy hop).2)
            rcases hlater j oj hoj hkj with h'' | ⟨h1, _⟩
            · exact .inl h''
            · exact .inr ⟨h1, .inl fun _ => trivial⟩
      · -- it changes the world
        have hop' : wpOp P ops Q k (fun a' w' => C w' ∧ wpAnyC P ops C Q l.length (listed.setIfInBounds k true) a' w') a w := by
          by_cases hn : ncls o = true
          · unfold wpOp at hop ⊢
            simp only [h0] at hop ⊢
            split
            · rename_i hw
              rw [if_pos hw] at hop
              refine hop.imp (fun hh => Oper.wp_mono (fun a1 w1 h1 => ?_) (wp_news hn hh)) id
              have hC1 := hUp w w1 hC h1.1
              exact ⟨hC1, hnext a1 w1 hC1 h1.2.2⟩
            · rename_i hw
              rw [if_neg hw] at hop
              exact ⟨hC, hnext _ _ hC hop.2⟩
          · have he : ecls P o = true := by
              have e1 : lcls o = false := by simpa using hload
              have e2 : ncls o = false := by simpa using hn
              simp [ecls, hL, e1, e2]
            exact wpOp_mono (fun a1 w1 h1 => ⟨h1.1 he, hnext a1 w1 (h1.1 he) h1.2⟩) hop
        refine wpAnyC_firstE hQ hwait h0 hsel (fun j oj hoj hkj => ?_) l.length listed a w hcl hlow' hready hC hop'
        rcases hlater j oj hoj hkj with h'' | ⟨h1, h2⟩
        · exact .inl h''
        · refine .inr ⟨h1, ?_⟩
          unfold pairOkC at h2
          simp only [hL, Option.isSome_none, Bool.false_or, Bool.or_eq_true, Bool.and_eq_true] at h2
          have hnst : ¬ lstar ls o = true := fun hh => by
            apply hload
            unfold lstar at hh
            unfold lcls
            split at hh
            · rename_i hop; rw [hop]
            · cases hh
          rcases h2 with ((h2 | h2) | h2) | ⟨h2, _⟩
          · obtain ⟨L, hL2⟩ := Option.isSome_iff_exists.1 h2
            exact .inl (hpure j oj L hoj hL2)
          · exact absurd h2 hnst
          · exact .inr (hstar j oj hoj h2)
          · exact absurd h2 hload

/-! ### in pieces: each piece has at most one operation that changes what was there, as its last -/
def wpSegs (P : Program) (ops : Array Oper) (C : World → Prop) (Q : Exit → Act → World → Prop) : List (List Oper) → Act → World → Prop
  | [], a, w => Q .normal a w
  | s :: ss, a, w => wpList P ops (fun e a' w' => match e with | .normal => C w' ∧ wpSegs P ops C Q ss a' w' | e => Q e a' w') s a w
def segsOk (P : Program) (ss : List (List Oper)) : Bool := ss.all fun s => s.dropLast.all fun o => !ecls P o
theorem segs_list (hQ : Clean Q) : ∀ (ss : List (List Oper)), segsOk P ss = true → ∀ a w, wpSegs P ops C Q ss a w → wpListC P ops C Q ss.flatten a w
  | [], _, a, w, h => h
  | s :: ss, hok, a, w, h => by
    simp only [segsOk, List.all_cons, Bool.and_eq_true] at hok
    have ih := segs_list hQ ss hok.2
    have hs := hok.1
    clear hok
    have hno : ¬ LetsOut (fun e a' w' => match e with | .normal => C w' ∧ wpSegs P ops C Q ss a' w' | e => Q e a' w' : Exit → Act → World → Prop) := fun ⟨a, w, hq⟩ => hQ.out a w hq
    have hE : ∀ (o : Oper) (a : Act) (w : World) (K : Act → World → Prop), o.wp P a w K (fun e a' w' => match e with | .normal => C w' ∧ wpSegs P ops C Q ss a' w' | e => Q e a' w') → o.wp P a w K Q := by
      intro o a w K hh
      unfold Oper.wp at *
      generalize (execOp a.eval o).run P w = r at *
      cases r with
      | ok n w' =>
        cases n <;> simp only [Oper.upon] at hh ⊢ <;> exact hh
      | halt x w' =>
        cases x <;> simp only [Oper.upon] at hh ⊢ <;> exact hh
    rw [List.flatten_cons]
    unfold wpSegs at h
    induction s generalizing a w with
    | nil => exact ih a w h.2
    | cons o s ihs =>
      have hs' : (s.dropLast.all fun o => !ecls P o) = true := by
        cases s with
        | nil => rfl
        | cons o2 s2 =>
          simp only [List.dropLast_cons_cons, List.all_cons, Bool.and_eq_true] at hs
          exact hs.2
      rw [List.cons_append]
      unfold wpListC
      unfold wpList at h
      split
      · rename_i hw
        rw [if_pos hw] at h
        rcases h with h | h
        · refine .inl (Oper.wp_mono (fun a1 w1 h1 => ⟨fun he => ?_, by first | exact ihs a1 w1 hs' h1 | exact ihs a1 w1 h1 hs'⟩) (hE _ _ _ _ h))
          cases s with
          | nil => exact h1.1
          | cons o2 s2 =>
            simp only [List.dropLast_cons_cons, List.all_cons, Bool.and_eq_true] at hs
            simp [he] at hs
        · exact absurd h.2 hno
      · rename_i hw
        rw [if_neg hw] at h
        first | exact ihs _ _ hs' h | exact ihs _ _ h hs'
def FinC (P : Program) (D : List (Tmp × Bool)) (C : World → Prop) (ls : List Tmp) (Q : Exit → Act → World → Prop) : Exit → Act → World → Prop
  | .normal, a, w => Q .normal a w ∧ dynOk D a = true ∧ ∀ t ∈ ls, Stab P C (a.tmps.getD t undef)
  | e, a, w => Q e a w
theorem finC_mk {D : List (Tmp × Bool)} {ls : List Tmp} {a : Act} {w : World} (h : dynOk D a = true) (hs : ∀ t ∈ ls, Stab P C (a.tmps.getD t undef)) (hq : Q .normal a w) : FinC P D C ls Q .normal a w := ⟨hq, h, hs⟩
/-- A REGION THAT DRAWS ITS ORDER, WALKED IN THE TEXT's ORDER, PIECE BY PIECE. -/
theorem wp_region_segs {id : Nat} {l : List Oper} {a : Act} {w : World} (hm : P.follows .mixedOrders = true) (ls : List Tmp) (hB : ordOkC P l.toArray (Region.before l.toArray) ls = true) (C : World → Prop) (hUp : Up C) (hC : C w.drew) (ss : List (List Oper)) (hss : ss.flatten = l) (hok : segsOk P ss = true) (hQ : Clean Q)
    (h : wpSegs P l.toArray C (FinC P (dyns P l) C ls Q) ss a w.drew) : (Code.region id l.toArray true).wp P Q a w := by
  have hQ' : Clean (FinC P (dyns P l) C ls Q) := ⟨fun c a w hq => hQ.panic c a w hq, fun a w hq => hQ.out a w hq⟩
  refine wp_mono (Q := FinC P (dyns P l) C ls Q) ?_ (fun e a w h => by cases e <;> first | exact h.1 | exact h)
  refine wp_region_any hm ?_
  have h1 := segs_list hQ' ss hok a w.drew h
  rw [hss] at h1
  have := wpAnyC_text (P := P) (ops := l.toArray) (Q := FinC P (dyns P l) C ls Q) hQ' hUp hB (fun a w hq => hq.2.1) (fun a w hq => hq.2.2) l 0 (Array.replicate l.length false) a w.drew (by simp) (by simp) (by simp) (fun j hj => by simp at hj; simp [hj]) hC h1
  simpa using wpAnyC_any _ _ _ _ this
end
end Go.Px
