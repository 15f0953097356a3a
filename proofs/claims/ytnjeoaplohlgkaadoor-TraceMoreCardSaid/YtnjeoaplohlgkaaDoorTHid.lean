/- What is secret, what leaks and what is aside, the program's and the document's. Conditions: those that stand ahead of each theorem. -/
import Derived.Test.YtnjeoaplohlgkaaDoorTLaw2
namespace Go.Proofs.YtnjeoaplohlgkaaDoor
open Go.RowKit Go.Px Go.Sha
theorem op_iaddV {P : Program} {o : Oper} {w : World} {ρ : Operand → Value} {t t' : TypeId} {x y : Operand} (ho : o.op = .binOp .add t x y t') {a b : Int} (hx : ρ x = .int .i64 a) (hy : ρ y = .int .i64 b) (z : Int) (hz : IntKind.i64.wrap (a + b) = z) : (execOp ρ o).run P w = .ok (.value (.int .i64 z)) w := by
  unfold execOp
  simp only [ho, hx, hy, Sem.run_bind, run_eqGuard_int, Result.andThen_ok, binOp, ne_eq, not_true_eq_false, if_false, Op.intArith, Sem.run_pure, hz, Result.andThen_ok]
/-- what a node lets out -/
structure PN where
  kind : Int
  src : Int
  to : Int
  id : List Byte
structure NOk (n : PN) : Prop where
  kind : In64 n.kind
  src : In64 n.src
  to : In64 n.to
  id : n.id.length = 32
def nC (n : PN) : List Value := I64 n.kind :: I64 n.src :: I64 n.to :: n.id.map B8
theorem nC_one (n : PN) : ∀ v ∈ nC n, v.oneCell' = true := by
  intro v hv
  unfold nC at hv
  simp only [List.mem_cons] at hv
  rcases hv with rfl | rfl | rfl | hv
  · rfl
  · rfl
  · rfl
  · exact B8_one _ v hv
theorem nC_len {n : PN} (h : n.id.length = 32) : (nC n).length = 35 := by simp [nC, h]
def zNote : List Value := [.int .i64 0, .int .i64 0, .int .i64 0] ++ List.replicate 32 (.int .u8 0)
theorem aggNote : Agg Tryd.prog 60 35 := Agg.of Tryd.underlying60 rfl (by kernel_rfl)
theorem aggAct : Agg Tryd.prog 52 46 := Agg.of Tryd.underlying52 rfl (by kernel_rfl)
theorem iNote : (Tryd.prog.info? 60).map (fun i => (i.zero, i.size, i.bytes)) = some (some (.agg zNote.toArray), 35, 56) := by kernel_rfl
theorem slNote : SlTy Tryd.prog 58 60 35 56 where
  ty := by kernel_rfl
  info := by
    obtain ⟨i, h1, h2, h3, h4⟩ := info_parts iNote
    exact ⟨i, _, h1, h2, h3, by simp [Value.cells, zNote], h4, by simp [Value.cells, Value.oneCell', zNote]⟩
  pos := by omega
/-- an act's cells, of which the first four are looked at -/
def actC (k a b l : Int) (r : List Value) : List Value := I64 k :: I64 a :: I64 b :: I64 l :: r
def asideP (k a b l : Int) (E : List Int) : Bool := if k = 7 then !decide (a ∈ E) else if k = 3 ∨ k = 4 then decide (l = 1) && (!decide (a ∈ E) && !decide (b ∈ E)) else false
def outB (k t : Int) (E : List Int) : Bool := decide (k = 3) || (decide (k = 4) && decide (t ∈ E))
def leakB (n : PN) (E : List Int) : Bool := outB n.kind n.to E && secretB n.src E
def leaksB (a : Int) (L : List PN) (E : List Int) : Bool := !decide (a ∈ E) && L.any fun n => leakB n E
theorem inI (a : Int) (E : List Int) : ∃ c : Int, (if a ∈ E then I64 1 else I64 0) = I64 c ∧ c = if a ∈ E then 1 else 0 := by
  by_cases h : a ∈ E
  · exact ⟨1, by rw [if_pos h], by rw [if_pos h]⟩
  · exact ⟨0, by rw [if_neg h], by rw [if_neg h]⟩
section
variable {R : Nat → Prop} {base w : World} {F : List Hp}
theorem has_b (hS : SepL R base w F) {v : Value} {E : List Int} (hv : RdIn R base 1 v (E.map fun z => [I64 z])) {z : Int} {b : Bool} (hb : Hid (decide (z ∈ E) = b)) :
    Calls Tryd.prog 28 #[v, I64 z] w (Ret fun r w' => r = .bool b ∧ SepL R base w' F) := by
  have h := has_s hS hv z
  rwa [hb.out] at h
set_option maxRecDepth 100000 in
set_option maxHeartbeats 4000000 in
theorem aside_s (hS : SepL R base w F) {v : Value} {E : List Int} (hv : RdIn R base 1 v (E.map fun z => [I64 z])) (hE : ∀ z ∈ E, In64 z) {k a b l : Int} {r : List Value} (ha : In64 a) (hb : In64 b) {q : Bool} (hq : asideP k a b l E = q) :
    Calls Tryd.prog 19 #[.agg (actC k a b l r).toArray, v] w (Ret fun r w' => r = .bool q ∧ SepL R base w' F) := by
  have HE := hide hE
  have HA := hide ha
  have HB := hide hb
  obtain ⟨ca, hca, ea⟩ := inI a E
  obtain ⟨cb, hcb, eb⟩ := inI b E
  have HCA := hide hca
  have HCB := hide hcb
  unfold asideP at hq
  clear hE ha hb hca hcb
  by_cases h7 : k = 7
  · rw [if_pos h7] at hq
    have HK7 := eqT h7
    have HEA : Hid ((ca == 0) = q) := by
      unfold Hid
      rw [ea, ← hq]
      by_cases h : a ∈ E <;> simp [h]
    clear hq h7 ea eb
    go_enter Tryd.func19, Tryd.ntmps19
    go_wp2_with (first
      | (show wpList _ _ _ (⟨_, .box _ _, _, _, _, _⟩ :: _) _ _; refine wpS_boxA (cs := actC k a b l r) hS rfl rfl rfl ?_; clear hS; intro nb w hS; go_frame)
      | (show wpList _ _ _ (⟨_, .load 3 _, _, _, _, _⟩ :: _) _ _; refine wpList_val rfl (op_load1S (b := nb) (T := 52) oneInt ((hS.bring (by repeat (first | exact t0 | apply tS)))) rfl rfl rfl) ?_; go_frame)
      | (go_at_call 24; refine Ret.calls (set_s hS hv HE.out) ?_; clear hS; rintro r1 w ⟨m, M, rfl, hm, hS⟩; have HM := hide hm; clear hm)
      | (show wpList _ _ _ (⟨some 11, .binOp _ _ _ _ _, _, _, _, _⟩ :: _) _ _; refine wpList_val rfl (op_eqI' rfl rfl rfl HK7.out) ?_; go_frame)
      | (show wpList _ _ _ (⟨some 15, .lookup _ _ _ _, _, _, _, _⟩ :: _) _ _; refine wpList_val rfl (op_lookup mapI rfl rfl (b := m) (x := I64 a) rfl (SepL.getMap ((hS.bring (by repeat (first | exact t0 | apply tS))))) (isKeyI HA.out)) ?_; rw [HM.out.get HA.out, HCA.out]; go_frame)
      | (show wpList _ _ _ (⟨some 16, .binOp _ _ _ _ _, _, _, _, _⟩ :: _) _ _; refine wpList_val rfl (op_eqI' rfl rfl rfl HEA.out) ?_; go_frame)
      )
    go_ret
    exact ⟨rfl, hS.sel (by repeat (first | exact Sel.refl | refine Sel.take (by repeat (first | exact t0 | apply tS)) ?_ | apply Sel.drop))⟩
  · rw [if_neg h7] at hq
    have HK7 := eqF h7
    by_cases h34 : k = 3 ∨ k = 4
    · rw [if_pos h34] at hq
      obtain ⟨z, hz⟩ : ∃ z, IntKind.i64.wrap (ca + cb) = z := ⟨_, rfl⟩
      have HZ := hide hz
      by_cases hl : l = 1
      · rw [decide_eq_true hl, Bool.true_and] at hq
        have HL1 := eqT hl
        have HEZ : Hid ((z == 0) = q) := by
          unfold Hid
          rw [← hz, ea, eb, ← hq]
          by_cases h : a ∈ E <;> by_cases g : b ∈ E <;> simp [h, g] <;> decide
        by_cases h3 : k = 3
        · have HK3 := eqT h3
          clear hq h7 ea eb hl h34 h3 hz
          go_enter Tryd.func19, Tryd.ntmps19
          go_wp2_with (first
            | (show wpList _ _ _ (⟨_, .box _ _, _, _, _, _⟩ :: _) _ _; refine wpS_boxA (cs := actC k a b l r) hS rfl rfl rfl ?_; clear hS; intro nb w hS; go_frame)
            | (show wpList _ _ _ (⟨_, .load 3 _, _, _, _, _⟩ :: _) _ _; refine wpList_val rfl (op_load1S (b := nb) (T := 52) oneInt ((hS.bring (by repeat (first | exact t0 | apply tS)))) rfl rfl rfl) ?_; go_frame)
            | (go_at_call 24; refine Ret.calls (set_s hS hv HE.out) ?_; clear hS; rintro r1 w ⟨m, M, rfl, hm, hS⟩; have HM := hide hm; clear hm)
            | (show wpList _ _ _ (⟨some 11, .binOp _ _ _ _ _, _, _, _, _⟩ :: _) _ _; refine wpList_val rfl (op_eqI' rfl rfl rfl HK7.out) ?_; go_frame)
            | (show wpList _ _ _ (⟨some 18, .binOp _ _ _ _ _, _, _, _, _⟩ :: _) _ _; refine wpList_val rfl (op_eqI' rfl rfl rfl HK3.out) ?_; go_frame)
            | (show wpList _ _ _ (⟨some 22, .binOp _ _ _ _ _, _, _, _, _⟩ :: _) _ _; refine wpList_val rfl (op_eqI' rfl rfl rfl HL1.out) ?_; go_frame)
            | (show wpList _ _ _ (⟨some 27, .lookup _ _ _ _, _, _, _, _⟩ :: _) _ _; refine wpList_val rfl (op_lookup mapI rfl rfl (b := m) (x := I64 a) rfl (SepL.getMap ((hS.bring (by repeat (first | exact t0 | apply tS))))) (isKeyI HA.out)) ?_; rw [HM.out.get HA.out, HCA.out]; go_frame)
            | (show wpList _ _ _ (⟨some 31, .lookup _ _ _ _, _, _, _, _⟩ :: _) _ _; refine wpList_val rfl (op_lookup mapI rfl rfl (b := m) (x := I64 b) rfl (SepL.getMap ((hS.bring (by repeat (first | exact t0 | apply tS))))) (isKeyI HB.out)) ?_; rw [HM.out.get HB.out, HCB.out]; go_frame)
            | (show wpList _ _ _ (⟨some 32, .binOp _ _ _ _ _, _, _, _, _⟩ :: _) _ _; refine wpList_val rfl (op_iaddV rfl rfl rfl z HZ.out) ?_; go_frame)
            | (show wpList _ _ _ (⟨some 33, .binOp _ _ _ _ _, _, _, _, _⟩ :: _) _ _; refine wpList_val rfl (op_eqI' rfl rfl rfl HEZ.out) ?_; go_frame)
            )
          go_ret
          exact ⟨rfl, hS.sel (by repeat (first | exact Sel.refl | refine Sel.take (by repeat (first | exact t0 | apply tS)) ?_ | apply Sel.drop))⟩
        · have HK3 := eqF h3
          have HK4 := eqT (h34.resolve_left h3)
          clear hq h7 ea eb hl h34 h3 hz
          go_enter Tryd.func19, Tryd.ntmps19
          go_wp2_with (first
            | (show wpList _ _ _ (⟨_, .box _ _, _, _, _, _⟩ :: _) _ _; refine wpS_boxA (cs := actC k a b l r) hS rfl rfl rfl ?_; clear hS; intro nb w hS; go_frame)
            | (show wpList _ _ _ (⟨_, .load 3 _, _, _, _, _⟩ :: _) _ _; refine wpList_val rfl (op_load1S (b := nb) (T := 52) oneInt ((hS.bring (by repeat (first | exact t0 | apply tS)))) rfl rfl rfl) ?_; go_frame)
            | (go_at_call 24; refine Ret.calls (set_s hS hv HE.out) ?_; clear hS; rintro r1 w ⟨m, M, rfl, hm, hS⟩; have HM := hide hm; clear hm)
            | (show wpList _ _ _ (⟨some 11, .binOp _ _ _ _ _, _, _, _, _⟩ :: _) _ _; refine wpList_val rfl (op_eqI' rfl rfl rfl HK7.out) ?_; go_frame)
            | (show wpList _ _ _ (⟨some 18, .binOp _ _ _ _ _, _, _, _, _⟩ :: _) _ _; refine wpList_val rfl (op_eqI' rfl rfl rfl HK3.out) ?_; go_frame)
            | (show wpList _ _ _ (⟨some 19, .binOp _ _ _ _ _, _, _, _, _⟩ :: _) _ _; refine wpList_val rfl (op_eqI' rfl rfl rfl HK4.out) ?_; go_frame)
            | (show wpList _ _ _ (⟨some 22, .binOp _ _ _ _ _, _, _, _, _⟩ :: _) _ _; refine wpList_val rfl (op_eqI' rfl rfl rfl HL1.out) ?_; go_frame)
            | (show wpList _ _ _ (⟨some 27, .lookup _ _ _ _, _, _, _, _⟩ :: _) _ _; refine wpList_val rfl (op_lookup mapI rfl rfl (b := m) (x := I64 a) rfl (SepL.getMap ((hS.bring (by repeat (first | exact t0 | apply tS))))) (isKeyI HA.out)) ?_; rw [HM.out.get HA.out, HCA.out]; go_frame)
            | (show wpList _ _ _ (⟨some 31, .lookup _ _ _ _, _, _, _, _⟩ :: _) _ _; refine wpList_val rfl (op_lookup mapI rfl rfl (b := m) (x := I64 b) rfl (SepL.getMap ((hS.bring (by repeat (first | exact t0 | apply tS))))) (isKeyI HB.out)) ?_; rw [HM.out.get HB.out, HCB.out]; go_frame)
            | (show wpList _ _ _ (⟨some 32, .binOp _ _ _ _ _, _, _, _, _⟩ :: _) _ _; refine wpList_val rfl (op_iaddV rfl rfl rfl z HZ.out) ?_; go_frame)
            | (show wpList _ _ _ (⟨some 33, .binOp _ _ _ _ _, _, _, _, _⟩ :: _) _ _; refine wpList_val rfl (op_eqI' rfl rfl rfl HEZ.out) ?_; go_frame)
            )
          go_ret
          exact ⟨rfl, hS.sel (by repeat (first | exact Sel.refl | refine Sel.take (by repeat (first | exact t0 | apply tS)) ?_ | apply Sel.drop))⟩
      · rw [decide_eq_false hl, Bool.false_and] at hq
        subst hq
        have HL1 := eqF hl
        by_cases h3 : k = 3
        · have HK3 := eqT h3
          clear h7 ea eb hl h34 h3 hz
          go_enter Tryd.func19, Tryd.ntmps19
          go_wp2_with (first
            | (show wpList _ _ _ (⟨_, .box _ _, _, _, _, _⟩ :: _) _ _; refine wpS_boxA (cs := actC k a b l r) hS rfl rfl rfl ?_; clear hS; intro nb w hS; go_frame)
            | (show wpList _ _ _ (⟨_, .load 3 _, _, _, _, _⟩ :: _) _ _; refine wpList_val rfl (op_load1S (b := nb) (T := 52) oneInt ((hS.bring (by repeat (first | exact t0 | apply tS)))) rfl rfl rfl) ?_; go_frame)
            | (go_at_call 24; refine Ret.calls (set_s hS hv HE.out) ?_; clear hS; rintro r1 w ⟨m, M, rfl, hm, hS⟩; have HM := hide hm; clear hm)
            | (show wpList _ _ _ (⟨some 11, .binOp _ _ _ _ _, _, _, _, _⟩ :: _) _ _; refine wpList_val rfl (op_eqI' rfl rfl rfl HK7.out) ?_; go_frame)
            | (show wpList _ _ _ (⟨some 18, .binOp _ _ _ _ _, _, _, _, _⟩ :: _) _ _; refine wpList_val rfl (op_eqI' rfl rfl rfl HK3.out) ?_; go_frame)
            | (show wpList _ _ _ (⟨some 22, .binOp _ _ _ _ _, _, _, _, _⟩ :: _) _ _; refine wpList_val rfl (op_eqI' rfl rfl rfl HL1.out) ?_; go_frame)
            )
          go_ret
          exact ⟨rfl, hS.sel (by repeat (first | exact Sel.refl | refine Sel.take (by repeat (first | exact t0 | apply tS)) ?_ | apply Sel.drop))⟩
        · have HK3 := eqF h3
          have HK4 := eqT (h34.resolve_left h3)
          clear h7 ea eb hl h34 h3 hz
          go_enter Tryd.func19, Tryd.ntmps19
          go_wp2_with (first
            | (show wpList _ _ _ (⟨_, .box _ _, _, _, _, _⟩ :: _) _ _; refine wpS_boxA (cs := actC k a b l r) hS rfl rfl rfl ?_; clear hS; intro nb w hS; go_frame)
            | (show wpList _ _ _ (⟨_, .load 3 _, _, _, _, _⟩ :: _) _ _; refine wpList_val rfl (op_load1S (b := nb) (T := 52) oneInt ((hS.bring (by repeat (first | exact t0 | apply tS)))) rfl rfl rfl) ?_; go_frame)
            | (go_at_call 24; refine Ret.calls (set_s hS hv HE.out) ?_; clear hS; rintro r1 w ⟨m, M, rfl, hm, hS⟩; have HM := hide hm; clear hm)
            | (show wpList _ _ _ (⟨some 11, .binOp _ _ _ _ _, _, _, _, _⟩ :: _) _ _; refine wpList_val rfl (op_eqI' rfl rfl rfl HK7.out) ?_; go_frame)
            | (show wpList _ _ _ (⟨some 18, .binOp _ _ _ _ _, _, _, _, _⟩ :: _) _ _; refine wpList_val rfl (op_eqI' rfl rfl rfl HK3.out) ?_; go_frame)
            | (show wpList _ _ _ (⟨some 19, .binOp _ _ _ _ _, _, _, _, _⟩ :: _) _ _; refine wpList_val rfl (op_eqI' rfl rfl rfl HK4.out) ?_; go_frame)
            | (show wpList _ _ _ (⟨some 22, .binOp _ _ _ _ _, _, _, _, _⟩ :: _) _ _; refine wpList_val rfl (op_eqI' rfl rfl rfl HL1.out) ?_; go_frame)
            )
          go_ret
          exact ⟨rfl, hS.sel (by repeat (first | exact Sel.refl | refine Sel.take (by repeat (first | exact t0 | apply tS)) ?_ | apply Sel.drop))⟩
    · rw [if_neg h34] at hq
      subst hq
      rw [not_or] at h34
      have HK3 := eqF h34.1
      have HK4 := eqF h34.2
      clear h7 ea eb h34
      go_enter Tryd.func19, Tryd.ntmps19
      go_wp2_with (first
        | (show wpList _ _ _ (⟨_, .box _ _, _, _, _, _⟩ :: _) _ _; refine wpS_boxA (cs := actC k a b l r) hS rfl rfl rfl ?_; clear hS; intro nb w hS; go_frame)
        | (show wpList _ _ _ (⟨_, .load 3 _, _, _, _, _⟩ :: _) _ _; refine wpList_val rfl (op_load1S (b := nb) (T := 52) oneInt ((hS.bring (by repeat (first | exact t0 | apply tS)))) rfl rfl rfl) ?_; go_frame)
        | (go_at_call 24; refine Ret.calls (set_s hS hv HE.out) ?_; clear hS; rintro r1 w ⟨m, M, rfl, hm, hS⟩; have HM := hide hm; clear hm)
        | (show wpList _ _ _ (⟨some 11, .binOp _ _ _ _ _, _, _, _, _⟩ :: _) _ _; refine wpList_val rfl (op_eqI' rfl rfl rfl HK7.out) ?_; go_frame)
        | (show wpList _ _ _ (⟨some 18, .binOp _ _ _ _ _, _, _, _, _⟩ :: _) _ _; refine wpList_val rfl (op_eqI' rfl rfl rfl HK3.out) ?_; go_frame)
        | (show wpList _ _ _ (⟨some 19, .binOp _ _ _ _ _, _, _, _, _⟩ :: _) _ _; refine wpList_val rfl (op_eqI' rfl rfl rfl HK4.out) ?_; go_frame)
        )
      go_ret
      exact ⟨rfl, hS.sel (by repeat (first | exact Sel.refl | refine Sel.take (by repeat (first | exact t0 | apply tS)) ?_ | apply Sel.drop))⟩
set_option maxRecDepth 100000 in
set_option maxHeartbeats 4000000 in
theorem raside_s (hS : SepL R base w F) {v : Value} {E : List Int} (hv : RdIn R base 1 v (E.map fun z => [I64 z])) {k a b l : Int} {r : List Value} {q : Bool} (hq : asideP k a b l E = q) :
    Calls Tryd.prog 23 #[.agg (actC k a b l r).toArray, v] w (Ret fun r w' => r = .bool q ∧ SepL R base w' F) := by
  obtain ⟨da, hda⟩ : ∃ d, decide (a ∈ E) = d := ⟨_, rfl⟩
  obtain ⟨db, hdb⟩ : ∃ d, decide (b ∈ E) = d := ⟨_, rfl⟩
  have HDA := hide hda
  have HDB := hide hdb
  unfold asideP at hq
  rw [hda, hdb] at hq
  clear hda hdb
  by_cases h7 : k = 7
  · rw [if_pos h7] at hq
    subst hq
    have HK7 := eqT h7
    clear h7
    go_enter Tryd.func23, Tryd.ntmps23
    go_wp2_with (first
      | (show wpList _ _ _ (⟨_, .box _ _, _, _, _, _⟩ :: _) _ _; refine wpS_boxA (cs := actC k a b l r) hS rfl rfl rfl ?_; clear hS; intro nb w hS; go_frame)
      | (show wpList _ _ _ (⟨_, .load 3 _, _, _, _, _⟩ :: _) _ _; refine wpList_val rfl (op_load1S (b := nb) (T := 52) oneInt ((hS.bring (by repeat (first | exact t0 | apply tS)))) rfl rfl rfl) ?_; go_frame)
      | (show wpList _ _ _ (⟨some 8, .binOp _ _ _ _ _, _, _, _, _⟩ :: _) _ _; refine wpList_val rfl (op_eqI' rfl rfl rfl HK7.out) ?_; go_frame)
      | (go_at_call 28; with_reducible refine Ret.calls (has_b hS hv HDA) ?_; clear hS; rintro r1 w ⟨rfl, hS⟩)
      )
    go_ret
    exact ⟨rfl, hS.sel (by repeat (first | exact Sel.refl | refine Sel.take (by repeat (first | exact t0 | apply tS)) ?_ | apply Sel.drop))⟩
  · rw [if_neg h7] at hq
    have HK7 := eqF h7
    by_cases h34 : k = 3 ∨ k = 4
    · rw [if_pos h34] at hq
      by_cases hl : l = 1
      · rw [decide_eq_true hl, Bool.true_and] at hq
        subst hq
        have HL1 := eqT hl
        by_cases h3 : k = 3
        · have HK3 := eqT h3
          clear h7 hl h34 h3
          cases da
          · skip
            go_enter Tryd.func23, Tryd.ntmps23
            go_wp2_with (first
              | (show wpList _ _ _ (⟨_, .box _ _, _, _, _, _⟩ :: _) _ _; refine wpS_boxA (cs := actC k a b l r) hS rfl rfl rfl ?_; clear hS; intro nb w hS; go_frame)
              | (show wpList _ _ _ (⟨_, .load 3 _, _, _, _, _⟩ :: _) _ _; refine wpList_val rfl (op_load1S (b := nb) (T := 52) oneInt ((hS.bring (by repeat (first | exact t0 | apply tS)))) rfl rfl rfl) ?_; go_frame)
              | (show wpList _ _ _ (⟨some 8, .binOp _ _ _ _ _, _, _, _, _⟩ :: _) _ _; refine wpList_val rfl (op_eqI' rfl rfl rfl HK7.out) ?_; go_frame)
              | (show wpList _ _ _ (⟨some 15, .binOp _ _ _ _ _, _, _, _, _⟩ :: _) _ _; refine wpList_val rfl (op_eqI' rfl rfl rfl HK3.out) ?_; go_frame)
              | (show wpList _ _ _ (⟨some 19, .binOp _ _ _ _ _, _, _, _, _⟩ :: _) _ _; refine wpList_val rfl (op_eqI' rfl rfl rfl HL1.out) ?_; go_frame)
              | (go_at_call 28; with_reducible refine Ret.calls (has_b hS hv HDA) ?_; clear hS; rintro r1 w ⟨rfl, hS⟩)
              | (go_at_call 28; with_reducible refine Ret.calls (has_b hS hv HDB) ?_; clear hS; rintro r1 w ⟨rfl, hS⟩)
              )
            go_ret
            exact ⟨rfl, hS.sel (by repeat (first | exact Sel.refl | refine Sel.take (by repeat (first | exact t0 | apply tS)) ?_ | apply Sel.drop))⟩
          · skip
            go_enter Tryd.func23, Tryd.ntmps23
            go_wp2_with (first
              | (show wpList _ _ _ (⟨_, .box _ _, _, _, _, _⟩ :: _) _ _; refine wpS_boxA (cs := actC k a b l r) hS rfl rfl rfl ?_; clear hS; intro nb w hS; go_frame)
              | (show wpList _ _ _ (⟨_, .load 3 _, _, _, _, _⟩ :: _) _ _; refine wpList_val rfl (op_load1S (b := nb) (T := 52) oneInt ((hS.bring (by repeat (first | exact t0 | apply tS)))) rfl rfl rfl) ?_; go_frame)
              | (show wpList _ _ _ (⟨some 8, .binOp _ _ _ _ _, _, _, _, _⟩ :: _) _ _; refine wpList_val rfl (op_eqI' rfl rfl rfl HK7.out) ?_; go_frame)
              | (show wpList _ _ _ (⟨some 15, .binOp _ _ _ _ _, _, _, _, _⟩ :: _) _ _; refine wpList_val rfl (op_eqI' rfl rfl rfl HK3.out) ?_; go_frame)
              | (show wpList _ _ _ (⟨some 19, .binOp _ _ _ _ _, _, _, _, _⟩ :: _) _ _; refine wpList_val rfl (op_eqI' rfl rfl rfl HL1.out) ?_; go_frame)
              | (go_at_call 28; with_reducible refine Ret.calls (has_b hS hv HDA) ?_; clear hS; rintro r1 w ⟨rfl, hS⟩)
              )
            go_ret
            exact ⟨rfl, hS.sel (by repeat (first | exact Sel.refl | refine Sel.take (by repeat (first | exact t0 | apply tS)) ?_ | apply Sel.drop))⟩
        · have HK3 := eqF h3
          have HK4 := eqT (h34.resolve_left h3)
          clear h7 hl h34 h3
          cases da
          · skip
            go_enter Tryd.func23, Tryd.ntmps23
            go_wp2_with (first
              | (show wpList _ _ _ (⟨_, .box _ _, _, _, _, _⟩ :: _) _ _; refine wpS_boxA (cs := actC k a b l r) hS rfl rfl rfl ?_; clear hS; intro nb w hS; go_frame)
              | (show wpList _ _ _ (⟨_, .load 3 _, _, _, _, _⟩ :: _) _ _; refine wpList_val rfl (op_load1S (b := nb) (T := 52) oneInt ((hS.bring (by repeat (first | exact t0 | apply tS)))) rfl rfl rfl) ?_; go_frame)
              | (show wpList _ _ _ (⟨some 8, .binOp _ _ _ _ _, _, _, _, _⟩ :: _) _ _; refine wpList_val rfl (op_eqI' rfl rfl rfl HK7.out) ?_; go_frame)
              | (show wpList _ _ _ (⟨some 15, .binOp _ _ _ _ _, _, _, _, _⟩ :: _) _ _; refine wpList_val rfl (op_eqI' rfl rfl rfl HK3.out) ?_; go_frame)
              | (show wpList _ _ _ (⟨some 16, .binOp _ _ _ _ _, _, _, _, _⟩ :: _) _ _; refine wpList_val rfl (op_eqI' rfl rfl rfl HK4.out) ?_; go_frame)
              | (show wpList _ _ _ (⟨some 19, .binOp _ _ _ _ _, _, _, _, _⟩ :: _) _ _; refine wpList_val rfl (op_eqI' rfl rfl rfl HL1.out) ?_; go_frame)
              | (go_at_call 28; with_reducible refine Ret.calls (has_b hS hv HDA) ?_; clear hS; rintro r1 w ⟨rfl, hS⟩)
              | (go_at_call 28; with_reducible refine Ret.calls (has_b hS hv HDB) ?_; clear hS; rintro r1 w ⟨rfl, hS⟩)
              )
            go_ret
            exact ⟨rfl, hS.sel (by repeat (first | exact Sel.refl | refine Sel.take (by repeat (first | exact t0 | apply tS)) ?_ | apply Sel.drop))⟩
          · skip
            go_enter Tryd.func23, Tryd.ntmps23
            go_wp2_with (first
              | (show wpList _ _ _ (⟨_, .box _ _, _, _, _, _⟩ :: _) _ _; refine wpS_boxA (cs := actC k a b l r) hS rfl rfl rfl ?_; clear hS; intro nb w hS; go_frame)
              | (show wpList _ _ _ (⟨_, .load 3 _, _, _, _, _⟩ :: _) _ _; refine wpList_val rfl (op_load1S (b := nb) (T := 52) oneInt ((hS.bring (by repeat (first | exact t0 | apply tS)))) rfl rfl rfl) ?_; go_frame)
              | (show wpList _ _ _ (⟨some 8, .binOp _ _ _ _ _, _, _, _, _⟩ :: _) _ _; refine wpList_val rfl (op_eqI' rfl rfl rfl HK7.out) ?_; go_frame)
              | (show wpList _ _ _ (⟨some 15, .binOp _ _ _ _ _, _, _, _, _⟩ :: _) _ _; refine wpList_val rfl (op_eqI' rfl rfl rfl HK3.out) ?_; go_frame)
              | (show wpList _ _ _ (⟨some 16, .binOp _ _ _ _ _, _, _, _, _⟩ :: _) _ _; refine wpList_val rfl (op_eqI' rfl rfl rfl HK4.out) ?_; go_frame)
              | (show wpList _ _ _ (⟨some 19, .binOp _ _ _ _ _, _, _, _, _⟩ :: _) _ _; refine wpList_val rfl (op_eqI' rfl rfl rfl HL1.out) ?_; go_frame)
              | (go_at_call 28; with_reducible refine Ret.calls (has_b hS hv HDA) ?_; clear hS; rintro r1 w ⟨rfl, hS⟩)
              )
            go_ret
            exact ⟨rfl, hS.sel (by repeat (first | exact Sel.refl | refine Sel.take (by repeat (first | exact t0 | apply tS)) ?_ | apply Sel.drop))⟩
      · rw [decide_eq_false hl, Bool.false_and] at hq
        subst hq
        have HL1 := eqF hl
        by_cases h3 : k = 3
        · have HK3 := eqT h3
          clear h7 hl h34 h3
          go_enter Tryd.func23, Tryd.ntmps23
          go_wp2_with (first
            | (show wpList _ _ _ (⟨_, .box _ _, _, _, _, _⟩ :: _) _ _; refine wpS_boxA (cs := actC k a b l r) hS rfl rfl rfl ?_; clear hS; intro nb w hS; go_frame)
            | (show wpList _ _ _ (⟨_, .load 3 _, _, _, _, _⟩ :: _) _ _; refine wpList_val rfl (op_load1S (b := nb) (T := 52) oneInt ((hS.bring (by repeat (first | exact t0 | apply tS)))) rfl rfl rfl) ?_; go_frame)
            | (show wpList _ _ _ (⟨some 8, .binOp _ _ _ _ _, _, _, _, _⟩ :: _) _ _; refine wpList_val rfl (op_eqI' rfl rfl rfl HK7.out) ?_; go_frame)
            | (show wpList _ _ _ (⟨some 15, .binOp _ _ _ _ _, _, _, _, _⟩ :: _) _ _; refine wpList_val rfl (op_eqI' rfl rfl rfl HK3.out) ?_; go_frame)
            | (show wpList _ _ _ (⟨some 19, .binOp _ _ _ _ _, _, _, _, _⟩ :: _) _ _; refine wpList_val rfl (op_eqI' rfl rfl rfl HL1.out) ?_; go_frame)
            )
          go_ret
          exact ⟨rfl, hS.sel (by repeat (first | exact Sel.refl | refine Sel.take (by repeat (first | exact t0 | apply tS)) ?_ | apply Sel.drop))⟩
        · have HK3 := eqF h3
          have HK4 := eqT (h34.resolve_left h3)
          clear h7 hl h34 h3
          go_enter Tryd.func23, Tryd.ntmps23
          go_wp2_with (first
            | (show wpList _ _ _ (⟨_, .box _ _, _, _, _, _⟩ :: _) _ _; refine wpS_boxA (cs := actC k a b l r) hS rfl rfl rfl ?_; clear hS; intro nb w hS; go_frame)
            | (show wpList _ _ _ (⟨_, .load 3 _, _, _, _, _⟩ :: _) _ _; refine wpList_val rfl (op_load1S (b := nb) (T := 52) oneInt ((hS.bring (by repeat (first | exact t0 | apply tS)))) rfl rfl rfl) ?_; go_frame)
            | (show wpList _ _ _ (⟨some 8, .binOp _ _ _ _ _, _, _, _, _⟩ :: _) _ _; refine wpList_val rfl (op_eqI' rfl rfl rfl HK7.out) ?_; go_frame)
            | (show wpList _ _ _ (⟨some 15, .binOp _ _ _ _ _, _, _, _, _⟩ :: _) _ _; refine wpList_val rfl (op_eqI' rfl rfl rfl HK3.out) ?_; go_frame)
            | (show wpList _ _ _ (⟨some 16, .binOp _ _ _ _ _, _, _, _, _⟩ :: _) _ _; refine wpList_val rfl (op_eqI' rfl rfl rfl HK4.out) ?_; go_frame)
            | (show wpList _ _ _ (⟨some 19, .binOp _ _ _ _ _, _, _, _, _⟩ :: _) _ _; refine wpList_val rfl (op_eqI' rfl rfl rfl HL1.out) ?_; go_frame)
            )
          go_ret
          exact ⟨rfl, hS.sel (by repeat (first | exact Sel.refl | refine Sel.take (by repeat (first | exact t0 | apply tS)) ?_ | apply Sel.drop))⟩
    · rw [if_neg h34] at hq
      subst hq
      rw [not_or] at h34
      have HK3 := eqF h34.1
      have HK4 := eqF h34.2
      clear h7 h34
      go_enter Tryd.func23, Tryd.ntmps23
      go_wp2_with (first
        | (show wpList _ _ _ (⟨_, .box _ _, _, _, _, _⟩ :: _) _ _; refine wpS_boxA (cs := actC k a b l r) hS rfl rfl rfl ?_; clear hS; intro nb w hS; go_frame)
        | (show wpList _ _ _ (⟨_, .load 3 _, _, _, _, _⟩ :: _) _ _; refine wpList_val rfl (op_load1S (b := nb) (T := 52) oneInt ((hS.bring (by repeat (first | exact t0 | apply tS)))) rfl rfl rfl) ?_; go_frame)
        | (show wpList _ _ _ (⟨some 8, .binOp _ _ _ _ _, _, _, _, _⟩ :: _) _ _; refine wpList_val rfl (op_eqI' rfl rfl rfl HK7.out) ?_; go_frame)
        | (show wpList _ _ _ (⟨some 15, .binOp _ _ _ _ _, _, _, _, _⟩ :: _) _ _; refine wpList_val rfl (op_eqI' rfl rfl rfl HK3.out) ?_; go_frame)
        | (show wpList _ _ _ (⟨some 16, .binOp _ _ _ _ _, _, _, _, _⟩ :: _) _ _; refine wpList_val rfl (op_eqI' rfl rfl rfl HK4.out) ?_; go_frame)
        )
      go_ret
      exact ⟨rfl, hS.sel (by repeat (first | exact Sel.refl | refine Sel.take (by repeat (first | exact t0 | apply tS)) ?_ | apply Sel.drop))⟩
set_option maxRecDepth 100000 in
set_option maxHeartbeats 4000000 in
theorem rsecret_s (hS : SepL R base w F) {v : Value} {E : List Int} (hv : RdIn R base 1 v (E.map fun z => [I64 z])) {z : Int} {q : Bool} (hb : secretB z E = q) :
    Calls Tryd.prog 20 #[I64 z, v] w (Ret fun r w' => r = .bool q ∧ SepL R base w' F) := by
  obtain ⟨c, hc⟩ : ∃ c, decide (z ∈ E) = c := ⟨_, rfl⟩
  have HDA := hide hc
  unfold secretB at hb
  rw [hc] at hb
  clear hc
  by_cases h1 : z = 64
  · have H1 := eqT h1
    rw [decide_eq_true h1, Bool.true_or] at hb
    subst hb
    clear h1
    go_enter Tryd.func20, Tryd.ntmps20
    go_wp2_with (first
      | (show wpList _ _ _ (⟨some 6, .binOp _ _ _ _ _, _, _, _, _⟩ :: _) _ _; refine wpList_val rfl (op_eqI' rfl rfl rfl H1.out) ?_; go_frame)
      )
    go_ret
    exact ⟨rfl, hS⟩
  · have H1 := eqF h1
    rw [decide_eq_false h1, Bool.false_or] at hb
    by_cases h2 : 0 ≤ z
    · have H2 : Hid (decide (0 ≤ z) = true) := decT h2
      rw [decide_eq_true h2, Bool.true_and] at hb
      by_cases h3 : z < 64
      · have H3 : Hid (decide (z < 64) = true) := decT h3
        rw [decide_eq_true h3, Bool.true_and] at hb
        subst hb
        clear h1 h2 h3
        go_enter Tryd.func20, Tryd.ntmps20
        go_wp2_with (first
          | (show wpList _ _ _ (⟨some 6, .binOp _ _ _ _ _, _, _, _, _⟩ :: _) _ _; refine wpList_val rfl (op_eqI' rfl rfl rfl H1.out) ?_; go_frame)
          | (show wpList _ _ _ (⟨some 9, .binOp _ _ _ _ _, _, _, _, _⟩ :: _) _ _; refine wpList_val rfl (op_igeq rfl rfl rfl H2.out) ?_; go_frame)
          | (show wpList _ _ _ (⟨some 12, .binOp _ _ _ _ _, _, _, _, _⟩ :: _) _ _; refine wpList_val rfl (op_ilss rfl rfl rfl H3.out) ?_; go_frame)
          | (go_at_call 28; refine Ret.calls (has_b hS hv HDA) ?_; clear hS; rintro r1 w ⟨rfl, hS⟩)
          )
        go_ret
        exact ⟨rfl, hS⟩
      · have H3 : Hid (decide (z < 64) = false) := decF h3
        rw [decide_eq_false h3, Bool.false_and] at hb
        subst hb
        clear h1 h2 h3
        go_enter Tryd.func20, Tryd.ntmps20
        go_wp2_with (first
          | (show wpList _ _ _ (⟨some 6, .binOp _ _ _ _ _, _, _, _, _⟩ :: _) _ _; refine wpList_val rfl (op_eqI' rfl rfl rfl H1.out) ?_; go_frame)
          | (show wpList _ _ _ (⟨some 9, .binOp _ _ _ _ _, _, _, _, _⟩ :: _) _ _; refine wpList_val rfl (op_igeq rfl rfl rfl H2.out) ?_; go_frame)
          | (show wpList _ _ _ (⟨some 12, .binOp _ _ _ _ _, _, _, _, _⟩ :: _) _ _; refine wpList_val rfl (op_ilss rfl rfl rfl H3.out) ?_; go_frame)
          )
        go_ret
        exact ⟨rfl, hS⟩
    · have H2 : Hid (decide (0 ≤ z) = false) := decF h2
      rw [decide_eq_false h2, Bool.false_and, Bool.false_and] at hb
      subst hb
      clear h1 h2
      go_enter Tryd.func20, Tryd.ntmps20
      go_wp2_with (first
        | (show wpList _ _ _ (⟨some 6, .binOp _ _ _ _ _, _, _, _, _⟩ :: _) _ _; refine wpList_val rfl (op_eqI' rfl rfl rfl H1.out) ?_; go_frame)
        | (show wpList _ _ _ (⟨some 9, .binOp _ _ _ _ _, _, _, _, _⟩ :: _) _ _; refine wpList_val rfl (op_igeq rfl rfl rfl H2.out) ?_; go_frame)
        )
      go_ret
      exact ⟨rfl, hS⟩
set_option maxRecDepth 100000 in
set_option maxHeartbeats 4000000 in
theorem leakF {ne : Nat} {v : Value} {E : List Int} {n : PN} (hS : SepL R base w (.blk ne 22 [v] :: F)) (hv : RdIn R base 1 v (E.map fun z => [I64 z])) {q : Bool} (hq : leakB n E = q) :
    Calls Tryd.prog 35 #[.agg (nC n).toArray, .pointer (some ⟨ne, 0, none⟩)] w (Ret fun r w' => r = .bool q ∧ SepL R base w' (.blk ne 22 [v] :: F)) := by
  obtain ⟨sc, hsc⟩ : ∃ d, secretB n.src E = d := ⟨_, rfl⟩
  obtain ⟨dt, hdt⟩ : ∃ d, decide (n.to ∈ E) = d := ⟨_, rfl⟩
  have HSC := hide hsc
  have HDT := hide hdt
  unfold leakB outB at hq
  rw [hsc, hdt] at hq
  clear hsc hdt
  by_cases h3 : n.kind = 3
  · have HK3 := eqT h3
    rw [decide_eq_true h3, Bool.true_or, Bool.true_and] at hq
    subst hq
    clear h3
    go_enter Tryd.func35, Tryd.ntmps35
    go_wp2_with (first
      | go_big_skip
      | (show wpList _ _ _ (⟨_, .box _ _, _, _, _, _⟩ :: _) _ _; refine wpS_boxA (cs := nC n) hS rfl rfl rfl ?_; clear hS; intro nb w hS; go_frame)
      | (show wpList _ _ _ (⟨_, .load 3 _, _, _, _, _⟩ :: _) _ _; refine wpList_val rfl (op_load1S (b := nb) (T := 60) oneInt ((hS.bring (by repeat (first | exact t0 | apply tS)))) rfl rfl rfl) ?_; go_frame)
      | (show wpList _ _ _ (⟨_, .load 22 _, _, _, _, _⟩ :: _) _ _; refine wpList_val rfl (op_load1S (b := ne) (T := 22) oneInts ((hS.bring (by repeat (first | exact t0 | apply tS)))) rfl rfl rfl) ?_; go_frame)
      | (show wpList _ _ _ (⟨some 7, .binOp _ _ _ _ _, _, _, _, _⟩ :: _) _ _; refine wpList_val rfl (op_eqI' rfl rfl rfl HK3.out) ?_; go_frame)
      | (go_at_call 18; refine Ret.calls (secret_s v E n.src _ (by exact hS.rd hv) HSC.out) ?_; rintro r1 w' ⟨rfl, rfl⟩)
      )
    go_ret
    exact ⟨rfl, hS.sel (by repeat (first | exact Sel.refl | refine Sel.take (by repeat (first | exact t0 | apply tS)) ?_ | apply Sel.drop))⟩
  · have HK3 := eqF h3
    rw [decide_eq_false h3, Bool.false_or] at hq
    by_cases h4 : n.kind = 4
    · have HK4 := eqT h4
      rw [decide_eq_true h4, Bool.true_and] at hq
      subst hq
      clear h3 h4
      cases dt
      · skip
        go_enter Tryd.func35, Tryd.ntmps35
        go_wp2_with (first
          | go_big_skip
          | (show wpList _ _ _ (⟨_, .box _ _, _, _, _, _⟩ :: _) _ _; refine wpS_boxA (cs := nC n) hS rfl rfl rfl ?_; clear hS; intro nb w hS; go_frame)
          | (show wpList _ _ _ (⟨_, .load 3 _, _, _, _, _⟩ :: _) _ _; refine wpList_val rfl (op_load1S (b := nb) (T := 60) oneInt ((hS.bring (by repeat (first | exact t0 | apply tS)))) rfl rfl rfl) ?_; go_frame)
          | (show wpList _ _ _ (⟨_, .load 22 _, _, _, _, _⟩ :: _) _ _; refine wpList_val rfl (op_load1S (b := ne) (T := 22) oneInts ((hS.bring (by repeat (first | exact t0 | apply tS)))) rfl rfl rfl) ?_; go_frame)
          | (show wpList _ _ _ (⟨some 7, .binOp _ _ _ _ _, _, _, _, _⟩ :: _) _ _; refine wpList_val rfl (op_eqI' rfl rfl rfl HK3.out) ?_; go_frame)
          | (show wpList _ _ _ (⟨some 11, .binOp _ _ _ _ _, _, _, _, _⟩ :: _) _ _; refine wpList_val rfl (op_eqI' rfl rfl rfl HK4.out) ?_; go_frame)
          | (go_at_call 33; refine Ret.calls (contains_int v E n.to _ (by exact hS.rd hv) HDT) ?_; rintro r1 w' ⟨rfl, rfl⟩)
          )
        go_ret
        exact ⟨rfl, hS.sel (by repeat (first | exact Sel.refl | refine Sel.take (by repeat (first | exact t0 | apply tS)) ?_ | apply Sel.drop))⟩
      · skip
        go_enter Tryd.func35, Tryd.ntmps35
        go_wp2_with (first
          | (show wpList _ _ _ (⟨_, .box _ _, _, _, _, _⟩ :: _) _ _; refine wpS_boxA (cs := nC n) hS rfl rfl rfl ?_; clear hS; intro nb w hS; go_frame)
          | (show wpList _ _ _ (⟨_, .load 3 _, _, _, _, _⟩ :: _) _ _; refine wpList_val rfl (op_load1S (b := nb) (T := 60) oneInt ((hS.bring (by repeat (first | exact t0 | apply tS)))) rfl rfl rfl) ?_; go_frame)
          | (show wpList _ _ _ (⟨_, .load 22 _, _, _, _, _⟩ :: _) _ _; refine wpList_val rfl (op_load1S (b := ne) (T := 22) oneInts ((hS.bring (by repeat (first | exact t0 | apply tS)))) rfl rfl rfl) ?_; go_frame)
          | (show wpList _ _ _ (⟨some 7, .binOp _ _ _ _ _, _, _, _, _⟩ :: _) _ _; refine wpList_val rfl (op_eqI' rfl rfl rfl HK3.out) ?_; go_frame)
          | (show wpList _ _ _ (⟨some 11, .binOp _ _ _ _ _, _, _, _, _⟩ :: _) _ _; refine wpList_val rfl (op_eqI' rfl rfl rfl HK4.out) ?_; go_frame)
          | (go_at_call 33; refine Ret.calls (contains_int v E n.to _ (by exact hS.rd hv) HDT) ?_; rintro r1 w' ⟨rfl, rfl⟩)
          | (go_at_call 18; refine Ret.calls (secret_s v E n.src _ (by exact hS.rd hv) HSC.out) ?_; rintro r1 w' ⟨rfl, rfl⟩)
          )
        go_ret
        exact ⟨rfl, hS.sel (by repeat (first | exact Sel.refl | refine Sel.take (by repeat (first | exact t0 | apply tS)) ?_ | apply Sel.drop))⟩
    · have HK4 := eqF h4
      rw [decide_eq_false h4, Bool.false_and, Bool.false_and] at hq
      subst hq
      clear h3 h4
      go_enter Tryd.func35, Tryd.ntmps35
      go_wp2_with (first
        | go_big_skip
        | (show wpList _ _ _ (⟨_, .box _ _, _, _, _, _⟩ :: _) _ _; refine wpS_boxA (cs := nC n) hS rfl rfl rfl ?_; clear hS; intro nb w hS; go_frame)
        | (show wpList _ _ _ (⟨_, .load 3 _, _, _, _, _⟩ :: _) _ _; refine wpList_val rfl (op_load1S (b := nb) (T := 60) oneInt ((hS.bring (by repeat (first | exact t0 | apply tS)))) rfl rfl rfl) ?_; go_frame)
        | (show wpList _ _ _ (⟨some 7, .binOp _ _ _ _ _, _, _, _, _⟩ :: _) _ _; refine wpList_val rfl (op_eqI' rfl rfl rfl HK3.out) ?_; go_frame)
        | (show wpList _ _ _ (⟨some 11, .binOp _ _ _ _ _, _, _, _, _⟩ :: _) _ _; refine wpList_val rfl (op_eqI' rfl rfl rfl HK4.out) ?_; go_frame)
        )
      go_ret
      exact ⟨rfl, hS.sel (by repeat (first | exact Sel.refl | refine Sel.take (by repeat (first | exact t0 | apply tS)) ?_ | apply Sel.drop))⟩
theorem any_next {p : PN → Bool} {L : List PN} {k : Nat} (h : k < L.length) : (L.take (k + 1)).any p = ((L.take k).any p || p L[k]) := by
  rw [List.take_succ_eq_append_getElem h, List.any_append]
  simp
theorem any_yes {p : PN → Bool} {L : List PN} {k : Nat} (h : k < L.length) (hp : p L[k] = true) : L.any p = true := List.any_eq_true.2 ⟨L[k], List.getElem_mem h, hp⟩
set_option maxRecDepth 100000 in
set_option maxHeartbeats 4000000 in
theorem indexN {ne : Nat} {v vn : Value} {E : List Int} {L : List PN} (hS : SepL R base w (.blk ne 22 [v] :: F)) (hv : RdIn R base 1 v (E.map fun z => [I64 z])) (hn : RdIn R base 35 vn (L.map nC)) :
    Calls Tryd.prog 39 #[vn, .func (.func 35) #[] #[.pointer (some ⟨ne, 0, none⟩)]] w (Ret fun r w' => (∃ j : Int, r = .int .i64 j ∧ Hid (decide (0 ≤ j) = L.any fun n => leakB n E)) ∧ SepL R base w' (.blk ne 22 [v] :: F)) := by
  have HL : Hid ((L.map nC).length = L.length) := by simp [Hid]
  have hmax := (hS.rd hn).len
  rw [HL.out] at hmax
  unfold maxLen at hmax
  go_enter Tryd.func39, Tryd.ntmps39
  go_wp2_with (first
    | (show wpList _ _ _ (⟨_, .call ⟨.builtin .len, _, _⟩, _, _, _, _⟩ :: _) _ _; refine wpList_val rfl (op_len slNote rfl rfl (v := vn) (xs := L.map nC) rfl (by exact hS.rd hn)) ?_; rw [HL.out]; go_frame)
    )
  go_loopw [8] (fun i wr => ∃ k : Nat, i = .int .i64 k ∧ k ≤ L.length ∧ Hid (((L.take k).any fun n => leakB n E) = false) ∧ SepL R base wr (.blk ne 22 [v] :: F)) (fun i _ => L.length - (intOf i).toNat)
  case atStart => exact ⟨0, rfl, by omega, rfl, hS⟩
  case round =>
    clear hS
    obtain ⟨k, rfl, hk, HNO, hS⟩ := hrel
    by_cases hlt : k < L.length
    · have hlk : k < (L.map nC).length := by rw [HL.out]; exact hlt
      obtain ⟨n, hx⟩ : ∃ n, L[k] = n := ⟨_, rfl⟩
      have HX : Hid ((L.map nC)[k] = nC n) := by
        unfold Hid
        rw [List.getElem_map, hx]
      have hnx := any_next (p := fun n => leakB n E) hlt
      rw [HNO.out, Bool.false_or, hx] at hnx
      cases hq : leakB n E with
      | true =>
        have HQ := hide hq
        have HY : Hid ((L.any fun n => leakB n E) = true) := any_yes hlt (by rw [hx]; exact hq)
        clear hx hq hnx
        go_wp2_with (first
          | (show wpList _ _ _ (⟨_, .indexAddr 58 _ _, _, _, _, _⟩ :: _) _ _; refine wpList_val rfl (op_indexAddr slNote rfl (v := vn) (xs := L.map nC) rfl (k := k) rfl (by exact hS.rd hn) hlk) ?_; go_frame)
          | (show wpList _ _ _ (⟨_, .load 60 _, _, _, _, _⟩ :: _) _ _; refine wpList_val rfl (op_loadE aggNote rfl (v := vn) (xs := L.map nC) (k := k) rfl (by exact hS.rd hn) hlk) ?_; rw [HX.out]; go_frame)
          | (go_at_call 35; refine Ret.calls (leakF (v := v) hS hv HQ.out) ?_; clear hS; rintro r1 w ⟨rfl, hS⟩)
          )
        go_ret
        exact ⟨⟨k, rfl, by unfold Hid; rw [HY.out]; exact decide_eq_true (by omega)⟩, hS⟩
      | false =>
        have HQ := hide hq
        have HN2 : Hid (((L.take (k + 1)).any fun n => leakB n E) = false) := by
          unfold Hid
          rw [hnx]
          exact hq
        clear hx hq hnx
        go_wp2_with (first
          | (show wpList _ _ _ (⟨_, .indexAddr 58 _ _, _, _, _, _⟩ :: _) _ _; refine wpList_val rfl (op_indexAddr slNote rfl (v := vn) (xs := L.map nC) rfl (k := k) rfl (by exact hS.rd hn) hlk) ?_; go_frame)
          | (show wpList _ _ _ (⟨_, .load 60 _, _, _, _, _⟩ :: _) _ _; refine wpList_val rfl (op_loadE aggNote rfl (v := vn) (xs := L.map nC) (k := k) rfl (by exact hS.rd hn) hlk) ?_; rw [HX.out]; go_frame)
          | (go_at_call 35; refine Ret.calls (leakF (v := v) hS hv HQ.out) ?_; clear hS; rintro r1 w ⟨rfl, hS⟩)
          )
        go_roundw
        case rel => exact ⟨k + 1, by go_num, by omega, HN2, hS⟩
        case measure => simp [intOf]; omega
    · have hk2 : k = L.length := by omega
      subst hk2
      have hno := HNO.out
      rw [List.take_length] at hno
      have HNN := hide hno
      clear hno
      go_wp2_with fail
      go_ret
      exact ⟨⟨-1, rfl, by unfold Hid; rw [HNN.out]; rfl⟩, hS⟩
set_option maxRecDepth 100000 in
set_option maxHeartbeats 4000000 in
theorem containsN {ne : Nat} {v vn : Value} {E : List Int} {L : List PN} (hS : SepL R base w (.blk ne 22 [v] :: F)) (hv : RdIn R base 1 v (E.map fun z => [I64 z])) (hn : RdIn R base 35 vn (L.map nC)) {q : Bool} (hq : Hid ((L.any fun n => leakB n E) = q)) :
    Calls Tryd.prog 34 #[vn, .func (.func 35) #[] #[.pointer (some ⟨ne, 0, none⟩)]] w (Ret fun r w' => r = .bool q ∧ SepL R base w' (.blk ne 22 [v] :: F)) := by
  go_enter Tryd.func34, Tryd.ntmps34
  go_wp2_with (first
    | (go_at_call 39; refine Ret.calls (indexN (ne := ne) hS hv hn) ?_; clear hS; rintro r1 w ⟨⟨j, rfl, HJ⟩, hS⟩)
    | (show wpList _ _ _ (⟨some 8, .binOp _ _ _ _ _, _, _, _, _⟩ :: _) _ _; refine wpList_val rfl (op_igeq rfl rfl rfl (HJ.out.trans hq.out)) ?_; go_frame)
    )
  go_ret
  exact ⟨rfl, hS⟩
set_option maxRecDepth 100000 in
set_option maxHeartbeats 4000000 in
theorem leaks_s (hS : SepL R base w F) {v vn : Value} {E : List Int} {L : List PN} (hv : RdIn R base 1 v (E.map fun z => [I64 z])) (hn : RdIn R base 35 vn (L.map nC)) {a : Int} {q : Bool} (hq : leaksB a L E = q) :
    Calls Tryd.prog 21 #[I64 a, vn, v] w (Ret fun r w' => r = .bool q ∧ SepL R base w' F) := by
  obtain ⟨da, hda⟩ : ∃ d, decide (a ∈ E) = d := ⟨_, rfl⟩
  have HDA := hide hda
  have HV1 := hide (hS.rd hv).cells1
  unfold leaksB at hq
  rw [hda] at hq
  have HQ := hide hq
  clear hda hq
  cases da
  · have HQ2 : Hid ((L.any fun n => leakB n E) = q) := HQ.out
    go_enter Tryd.func21, Tryd.ntmps21
    go_wp2_with (first
      | (show wpList _ _ _ (⟨_, .box _ _, _, _, _, _⟩ :: _) _ _; refine wpS_box1 hS rfl rfl (v := v) rfl HV1.out ?_; clear hS; intro ne w hS; go_frame)
      | (show wpList _ _ _ (⟨_, .load 22 _, _, _, _, _⟩ :: _) _ _; refine wpList_val rfl (op_load1S (b := ne) (T := 22) oneInts ((hS.bring (by repeat (first | exact t0 | apply tS)))) rfl rfl rfl) ?_; go_frame)
      | (go_at_call 33; refine Ret.calls (contains_int v E a _ (by exact hS.rd hv) HDA) ?_; rintro r1 w' ⟨rfl, rfl⟩)
      | (go_at_call 34; refine Ret.calls (containsN (ne := ne) hS hv hn HQ2) ?_; clear hS; rintro r1 w ⟨rfl, hS⟩)
      )
    go_ret
    exact ⟨rfl, hS.sel (by repeat (first | exact Sel.refl | refine Sel.take (by repeat (first | exact t0 | apply tS)) ?_ | apply Sel.drop))⟩
  · have HQ2 : Hid (q = false) := HQ.out.symm
    go_enter Tryd.func21, Tryd.ntmps21
    go_wp2_with (first
      | (show wpList _ _ _ (⟨_, .box _ _, _, _, _, _⟩ :: _) _ _; refine wpS_box1 hS rfl rfl (v := v) rfl HV1.out ?_; clear hS; intro ne w hS; go_frame)
      | (show wpList _ _ _ (⟨_, .load 22 _, _, _, _, _⟩ :: _) _ _; refine wpList_val rfl (op_load1S (b := ne) (T := 22) oneInts ((hS.bring (by repeat (first | exact t0 | apply tS)))) rfl rfl rfl) ?_; go_frame)
      | (go_at_call 33; refine Ret.calls (contains_int v E a _ (by exact hS.rd hv) HDA) ?_; rintro r1 w' ⟨rfl, rfl⟩)
      )
    go_ret
    exact ⟨by rw [HQ2.out]; rfl, hS.sel (by repeat (first | exact Sel.refl | refine Sel.take (by repeat (first | exact t0 | apply tS)) ?_ | apply Sel.drop))⟩
set_option maxRecDepth 100000 in
set_option maxHeartbeats 4000000 in
theorem rleaks_s (hS : SepL R base w F) {v vn : Value} {E : List Int} {L : List PN} (hv : RdIn R base 1 v (E.map fun z => [I64 z])) (hn : RdIn R base 35 vn (L.map nC)) (hok : ∀ n ∈ L, n.id.length = 32) {a : Int} {q : Bool} (hq : leaksB a L E = q) :
    Calls Tryd.prog 22 #[I64 a, vn, v] w (Ret fun r w' => r = .bool q ∧ SepL R base w' F) := by
  have HL : Hid ((L.map nC).length = L.length) := by simp [Hid]
  have hmax := (hS.rd hn).len
  rw [HL.out] at hmax
  unfold maxLen at hmax
  have HOK := hide hok
  obtain ⟨da, hda⟩ : ∃ d, decide (a ∈ E) = d := ⟨_, rfl⟩
  have HDN := hide hda
  unfold leaksB at hq
  rw [hda] at hq
  have HQ := hide hq
  clear hda hq hok
  go_enter Tryd.func22, Tryd.ntmps22
  go_wp2_with (first
    | (show wpList _ _ _ (⟨_, .call ⟨.builtin .len, _, _⟩, _, _, _, _⟩ :: _) _ _; refine wpList_val rfl (op_len slNote rfl rfl (v := vn) (xs := L.map nC) rfl (by exact hS.rd hn)) ?_; rw [HL.out]; go_frame)
    )
  go_loopw [11] (fun i wr => ∃ k : Nat, i = .int .i64 k ∧ k ≤ L.length ∧ Hid ((!da && (L.take k).any fun n => leakB n E) = false) ∧ SepL R base wr F) (fun i _ => L.length - (intOf i).toNat)
  case atStart => exact ⟨0, rfl, by omega, by cases da <;> rfl, hS⟩
  case round =>
    clear hS
    obtain ⟨k, rfl, hk, HNO, hS⟩ := hrel
    by_cases hlt : k < L.length
    · have hlk : k < (L.map nC).length := by rw [HL.out]; exact hlt
      obtain ⟨n, hx⟩ : ∃ n, L[k] = n := ⟨_, rfl⟩
      have HX : Hid ((L.map nC)[k] = nC n) := by
        unfold Hid
        rw [List.getElem_map, hx]
      have HNL := hide (nC_len (HOK.out n (by rw [← hx]; exact List.getElem_mem hlt)))
      have hnx := any_next (p := fun n => leakB n E) hlt
      rw [hx] at hnx
      have hyes : leakB n E = true → (L.any fun n => leakB n E) = true := fun h => any_yes hlt (by rw [hx]; exact h)
      clear hx
      have hno := HNO.out
      cases da with
      | true =>
        have HAN : Hid ((!true && (L.take (k + 1)).any fun n => leakB n E) = false) := rfl
        clear hnx hyes hno
        go_wp2_with (first
          | go_big_skip
          | (show wpList _ _ _ (⟨some 13, .indexAddr _ _ _, _, _, _, _⟩ :: _) _ _; refine wpList_val rfl (op_indexAddr slNote rfl (v := vn) (xs := L.map nC) rfl (k := k) rfl (by exact hS.rd hn) hlk) ?_; go_frame)
          | (show wpList _ _ _ (⟨some 14, .load _ _, _, _, _, _⟩ :: _) _ _; refine wpList_val rfl (op_loadE aggNote rfl (v := vn) (xs := L.map nC) (k := k) rfl (by exact hS.rd hn) hlk) ?_; rw [HX.out]; go_frame)
          | (show wpList _ _ _ (⟨_, .alloc 60, _, _, _, _⟩ :: _) _ _; refine wpS_alloc hS rfl rfl Tryd.zeroValue60 (zs := zNote) rfl ?_; clear hS; intro nb w hS; go_frame)
          | (show wpList _ _ _ (⟨_, .store 60 _ _, _, _, _, _⟩ :: _) _ _; (refine wpS_storeAll (b := nb) aggNote (hS.bring (by repeat (first | exact t0 | apply tS))) rfl rfl rfl (vs := nC n) rfl HNL.out (nC_one n) rfl ?_); clear hS; intro w hS; go_frame)
          | (go_at_call 28; with_reducible refine Ret.calls (has_b hS hv HDN) ?_; clear hS; rintro r1 w ⟨rfl, hS⟩)
          )
        go_roundw
        case rel => exact ⟨k + 1, by go_num, by omega, HAN, hS.sel (by repeat (first | exact Sel.refl | refine Sel.take (by repeat (first | exact t0 | apply tS)) ?_ | apply Sel.drop))⟩
        case measure => simp [intOf]; omega
      | false =>
        rw [Bool.not_false, Bool.true_and] at hno
        rw [hno, Bool.false_or] at hnx
        have hq0 := HQ.out
        rw [Bool.not_false, Bool.true_and] at hq0
        obtain ⟨sc, hsc⟩ : ∃ d, secretB n.src E = d := ⟨_, rfl⟩
        obtain ⟨dt, hdt⟩ : ∃ d, decide (n.to ∈ E) = d := ⟨_, rfl⟩
        have HSC := hide hsc
        have HDT := hide hdt
        unfold leakB outB at hnx hyes
        rw [hsc, hdt] at hnx hyes
        clear hsc hdt hno
        cases sc with
        | false =>
          have HAN : Hid ((!false && (L.take (k + 1)).any fun n => leakB n E) = false) := by
            unfold Hid
            rw [Bool.not_false, Bool.true_and]
            exact hnx.trans (Bool.and_false _)
          clear hnx hyes hq0
          go_wp2_with (first
            | (show wpList _ _ _ (⟨some 13, .indexAddr _ _ _, _, _, _, _⟩ :: _) _ _; refine wpList_val rfl (op_indexAddr slNote rfl (v := vn) (xs := L.map nC) rfl (k := k) rfl (by exact hS.rd hn) hlk) ?_; go_frame)
            | (show wpList _ _ _ (⟨some 14, .load _ _, _, _, _, _⟩ :: _) _ _; refine wpList_val rfl (op_loadE aggNote rfl (v := vn) (xs := L.map nC) (k := k) rfl (by exact hS.rd hn) hlk) ?_; rw [HX.out]; go_frame)
            | (show wpList _ _ _ (⟨_, .alloc 60, _, _, _, _⟩ :: _) _ _; refine wpS_alloc hS rfl rfl Tryd.zeroValue60 (zs := zNote) rfl ?_; clear hS; intro nb w hS; go_frame)
            | (show wpList _ _ _ (⟨_, .store 60 _ _, _, _, _, _⟩ :: _) _ _; (refine wpS_storeAll (b := nb) aggNote (hS.bring (by repeat (first | exact t0 | apply tS))) rfl rfl rfl (vs := nC n) rfl HNL.out (nC_one n) rfl ?_); clear hS; intro w hS; go_frame)
            | (show wpList _ _ _ (⟨_, .load 3 _, _, _, _, _⟩ :: _) _ _; refine wpList_val rfl (op_load1S (b := nb) (T := 60) oneInt ((hS.bring (by repeat (first | exact t0 | apply tS)))) rfl rfl rfl) ?_; go_frame)
            | (go_at_call 28; with_reducible refine Ret.calls (has_b hS hv HDN) ?_; clear hS; rintro r1 w ⟨rfl, hS⟩)
            | (go_at_call 20; refine Ret.calls (rsecret_s hS hv HSC.out) ?_; clear hS; rintro r1 w ⟨rfl, hS⟩)
            )
          go_roundw
          case rel => exact ⟨k + 1, by go_num, by omega, HAN, hS.sel (by repeat (first | exact Sel.refl | refine Sel.take (by repeat (first | exact t0 | apply tS)) ?_ | apply Sel.drop))⟩
          case measure => simp [intOf]; omega
        | true =>
          rw [Bool.and_true] at hnx hyes
          by_cases h3 : n.kind = 3
          · have HK3 := eqT h3
            have HYES : Hid (q = true) := by
              unfold Hid
              rw [← hq0]
              exact hyes (by simp [h3])
            clear hnx hyes hq0 h3
            go_wp2_with (first
              | go_big_skip
              | (show wpList _ _ _ (⟨some 13, .indexAddr _ _ _, _, _, _, _⟩ :: _) _ _; refine wpList_val rfl (op_indexAddr slNote rfl (v := vn) (xs := L.map nC) rfl (k := k) rfl (by exact hS.rd hn) hlk) ?_; go_frame)
              | (show wpList _ _ _ (⟨some 14, .load _ _, _, _, _, _⟩ :: _) _ _; refine wpList_val rfl (op_loadE aggNote rfl (v := vn) (xs := L.map nC) (k := k) rfl (by exact hS.rd hn) hlk) ?_; rw [HX.out]; go_frame)
              | (show wpList _ _ _ (⟨_, .alloc 60, _, _, _, _⟩ :: _) _ _; refine wpS_alloc hS rfl rfl Tryd.zeroValue60 (zs := zNote) rfl ?_; clear hS; intro nb w hS; go_frame)
              | (show wpList _ _ _ (⟨_, .store 60 _ _, _, _, _, _⟩ :: _) _ _; (refine wpS_storeAll (b := nb) aggNote (hS.bring (by repeat (first | exact t0 | apply tS))) rfl rfl rfl (vs := nC n) rfl HNL.out (nC_one n) rfl ?_); clear hS; intro w hS; go_frame)
              | (show wpList _ _ _ (⟨_, .load 3 _, _, _, _, _⟩ :: _) _ _; refine wpList_val rfl (op_load1S (b := nb) (T := 60) oneInt ((hS.bring (by repeat (first | exact t0 | apply tS)))) rfl rfl rfl) ?_; go_frame)
              | (show wpList _ _ _ (⟨some 27, .binOp _ _ _ _ _, _, _, _, _⟩ :: _) _ _; refine wpList_val rfl (op_eqI' rfl rfl rfl HK3.out) ?_; go_frame)
              | (go_at_call 28; with_reducible refine Ret.calls (has_b hS hv HDN) ?_; clear hS; rintro r1 w ⟨rfl, hS⟩)
              | (go_at_call 20; refine Ret.calls (rsecret_s hS hv HSC.out) ?_; clear hS; rintro r1 w ⟨rfl, hS⟩)
              )
            go_ret
            exact ⟨by rw [HYES.out]; rfl, hS.sel (by repeat (first | exact Sel.refl | refine Sel.take (by repeat (first | exact t0 | apply tS)) ?_ | apply Sel.drop))⟩
          · have HK3 := eqF h3
            by_cases h4 : n.kind = 4
            · have HK4 := eqT h4
              cases dt with
              | true =>
                have HYES : Hid (q = true) := by
                  unfold Hid
                  rw [← hq0]
                  exact hyes (by simp [h4])
                clear hnx hyes hq0 h3 h4
                go_wp2_with (first
                  | (show wpList _ _ _ (⟨some 13, .indexAddr _ _ _, _, _, _, _⟩ :: _) _ _; refine wpList_val rfl (op_indexAddr slNote rfl (v := vn) (xs := L.map nC) rfl (k := k) rfl (by exact hS.rd hn) hlk) ?_; go_frame)
                  | (show wpList _ _ _ (⟨some 14, .load _ _, _, _, _, _⟩ :: _) _ _; refine wpList_val rfl (op_loadE aggNote rfl (v := vn) (xs := L.map nC) (k := k) rfl (by exact hS.rd hn) hlk) ?_; rw [HX.out]; go_frame)
                  | (show wpList _ _ _ (⟨_, .alloc 60, _, _, _, _⟩ :: _) _ _; refine wpS_alloc hS rfl rfl Tryd.zeroValue60 (zs := zNote) rfl ?_; clear hS; intro nb w hS; go_frame)
                  | (show wpList _ _ _ (⟨_, .store 60 _ _, _, _, _, _⟩ :: _) _ _; (refine wpS_storeAll (b := nb) aggNote (hS.bring (by repeat (first | exact t0 | apply tS))) rfl rfl rfl (vs := nC n) rfl HNL.out (nC_one n) rfl ?_); clear hS; intro w hS; go_frame)
                  | (show wpList _ _ _ (⟨_, .load 3 _, _, _, _, _⟩ :: _) _ _; refine wpList_val rfl (op_load1S (b := nb) (T := 60) oneInt ((hS.bring (by repeat (first | exact t0 | apply tS)))) rfl rfl rfl) ?_; go_frame)
                  | (show wpList _ _ _ (⟨some 27, .binOp _ _ _ _ _, _, _, _, _⟩ :: _) _ _; refine wpList_val rfl (op_eqI' rfl rfl rfl HK3.out) ?_; go_frame)
                  | (show wpList _ _ _ (⟨some 31, .binOp _ _ _ _ _, _, _, _, _⟩ :: _) _ _; refine wpList_val rfl (op_eqI' rfl rfl rfl HK4.out) ?_; go_frame)
                  | (go_at_call 28; with_reducible refine Ret.calls (has_b hS hv HDN) ?_; clear hS; rintro r1 w ⟨rfl, hS⟩)
                  | (go_at_call 28; with_reducible refine Ret.calls (has_b hS hv HDT) ?_; clear hS; rintro r1 w ⟨rfl, hS⟩)
                  | (go_at_call 20; refine Ret.calls (rsecret_s hS hv HSC.out) ?_; clear hS; rintro r1 w ⟨rfl, hS⟩)
                  )
                go_ret
                exact ⟨by rw [HYES.out]; rfl, hS.sel (by repeat (first | exact Sel.refl | refine Sel.take (by repeat (first | exact t0 | apply tS)) ?_ | apply Sel.drop))⟩
              | false =>
                have HAN : Hid ((!false && (L.take (k + 1)).any fun n => leakB n E) = false) := by
                  unfold Hid
                  rw [Bool.not_false, Bool.true_and]
                  exact hnx.trans (by simp [h3])
                clear hnx hyes hq0 h3 h4
                go_wp2_with (first
                  | (show wpList _ _ _ (⟨some 13, .indexAddr _ _ _, _, _, _, _⟩ :: _) _ _; refine wpList_val rfl (op_indexAddr slNote rfl (v := vn) (xs := L.map nC) rfl (k := k) rfl (by exact hS.rd hn) hlk) ?_; go_frame)
                  | (show wpList _ _ _ (⟨some 14, .load _ _, _, _, _, _⟩ :: _) _ _; refine wpList_val rfl (op_loadE aggNote rfl (v := vn) (xs := L.map nC) (k := k) rfl (by exact hS.rd hn) hlk) ?_; rw [HX.out]; go_frame)
                  | (show wpList _ _ _ (⟨_, .alloc 60, _, _, _, _⟩ :: _) _ _; refine wpS_alloc hS rfl rfl Tryd.zeroValue60 (zs := zNote) rfl ?_; clear hS; intro nb w hS; go_frame)
                  | (show wpList _ _ _ (⟨_, .store 60 _ _, _, _, _, _⟩ :: _) _ _; (refine wpS_storeAll (b := nb) aggNote (hS.bring (by repeat (first | exact t0 | apply tS))) rfl rfl rfl (vs := nC n) rfl HNL.out (nC_one n) rfl ?_); clear hS; intro w hS; go_frame)
                  | (show wpList _ _ _ (⟨_, .load 3 _, _, _, _, _⟩ :: _) _ _; refine wpList_val rfl (op_load1S (b := nb) (T := 60) oneInt ((hS.bring (by repeat (first | exact t0 | apply tS)))) rfl rfl rfl) ?_; go_frame)
                  | (show wpList _ _ _ (⟨some 27, .binOp _ _ _ _ _, _, _, _, _⟩ :: _) _ _; refine wpList_val rfl (op_eqI' rfl rfl rfl HK3.out) ?_; go_frame)
                  | (show wpList _ _ _ (⟨some 31, .binOp _ _ _ _ _, _, _, _, _⟩ :: _) _ _; refine wpList_val rfl (op_eqI' rfl rfl rfl HK4.out) ?_; go_frame)
                  | (go_at_call 28; with_reducible refine Ret.calls (has_b hS hv HDN) ?_; clear hS; rintro r1 w ⟨rfl, hS⟩)
                  | (go_at_call 28; with_reducible refine Ret.calls (has_b hS hv HDT) ?_; clear hS; rintro r1 w ⟨rfl, hS⟩)
                  | (go_at_call 20; refine Ret.calls (rsecret_s hS hv HSC.out) ?_; clear hS; rintro r1 w ⟨rfl, hS⟩)
                  )
                go_roundw
                case rel => exact ⟨k + 1, by go_num, by omega, HAN, hS.sel (by repeat (first | exact Sel.refl | refine Sel.take (by repeat (first | exact t0 | apply tS)) ?_ | apply Sel.drop))⟩
                case measure => simp [intOf]; omega
            · have HK4 := eqF h4
              have HAN : Hid ((!false && (L.take (k + 1)).any fun n => leakB n E) = false) := by
                unfold Hid
                rw [Bool.not_false, Bool.true_and]
                exact hnx.trans (by simp [h3, h4])
              clear hnx hyes hq0 h3 h4
              go_wp2_with (first
                | (show wpList _ _ _ (⟨some 13, .indexAddr _ _ _, _, _, _, _⟩ :: _) _ _; refine wpList_val rfl (op_indexAddr slNote rfl (v := vn) (xs := L.map nC) rfl (k := k) rfl (by exact hS.rd hn) hlk) ?_; go_frame)
                | (show wpList _ _ _ (⟨some 14, .load _ _, _, _, _, _⟩ :: _) _ _; refine wpList_val rfl (op_loadE aggNote rfl (v := vn) (xs := L.map nC) (k := k) rfl (by exact hS.rd hn) hlk) ?_; rw [HX.out]; go_frame)
                | (show wpList _ _ _ (⟨_, .alloc 60, _, _, _, _⟩ :: _) _ _; refine wpS_alloc hS rfl rfl Tryd.zeroValue60 (zs := zNote) rfl ?_; clear hS; intro nb w hS; go_frame)
                | (show wpList _ _ _ (⟨_, .store 60 _ _, _, _, _, _⟩ :: _) _ _; (refine wpS_storeAll (b := nb) aggNote (hS.bring (by repeat (first | exact t0 | apply tS))) rfl rfl rfl (vs := nC n) rfl HNL.out (nC_one n) rfl ?_); clear hS; intro w hS; go_frame)
                | (show wpList _ _ _ (⟨_, .load 3 _, _, _, _, _⟩ :: _) _ _; refine wpList_val rfl (op_load1S (b := nb) (T := 60) oneInt ((hS.bring (by repeat (first | exact t0 | apply tS)))) rfl rfl rfl) ?_; go_frame)
                | (show wpList _ _ _ (⟨some 27, .binOp _ _ _ _ _, _, _, _, _⟩ :: _) _ _; refine wpList_val rfl (op_eqI' rfl rfl rfl HK3.out) ?_; go_frame)
                | (show wpList _ _ _ (⟨some 31, .binOp _ _ _ _ _, _, _, _, _⟩ :: _) _ _; refine wpList_val rfl (op_eqI' rfl rfl rfl HK4.out) ?_; go_frame)
                | (go_at_call 28; with_reducible refine Ret.calls (has_b hS hv HDN) ?_; clear hS; rintro r1 w ⟨rfl, hS⟩)
                | (go_at_call 20; refine Ret.calls (rsecret_s hS hv HSC.out) ?_; clear hS; rintro r1 w ⟨rfl, hS⟩)
                )
              go_roundw
              case rel => exact ⟨k + 1, by go_num, by omega, HAN, hS.sel (by repeat (first | exact Sel.refl | refine Sel.take (by repeat (first | exact t0 | apply tS)) ?_ | apply Sel.drop))⟩
              case measure => simp [intOf]; omega
    · have hk2 : k = L.length := by omega
      subst hk2
      have hno := HNO.out
      rw [List.take_length, HQ.out] at hno
      have HNN := hide hno
      clear hno
      go_wp2_with fail
      go_ret
      exact ⟨by rw [HNN.out]; rfl, hS⟩
end
end Go.Proofs.YtnjeoaplohlgkaaDoor
