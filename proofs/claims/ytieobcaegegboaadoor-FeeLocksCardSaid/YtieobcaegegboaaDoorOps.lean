/- For each kind of operation of the model (loads and stores of many cells, comparison, maps, append) it is proved which value it returns. Conditions: those that stand ahead of each theorem. -/
/-
  Laws on single operations for the walks: loads and stores of several cells, '==' on keys, maps, append. Over any program. No condition is added to any statement here.
-/
import Derived.Test.YtieobcaegegboaaDoorMem
namespace Go.Px
open Go Go.RowKit

section
variable {P : Program}

theorem wpList_want {ops : Array Oper} {rest : List Oper} {o : Oper} {a : Act} {w : World} {Q : Exit → Act → World → Prop} (hgd : Region.wanted o (yielded ops a.tmps) = true)
    (h : ∀ K : Act → World → Prop, (∀ a w, wpList P ops Q rest a w → K a w) → o.wp P a w K Q) : wpList P ops Q (o :: rest) a w :=
  wpList_step fun K hK => by rw [if_pos hgd]; exact h K hK
theorem wpList_val {ops : Array Oper} {rest : List Oper} {o : Oper} {a : Act} {w w' : World} {Q : Exit → Act → World → Prop} {v : Value} (hgd : Region.wanted o (yielded ops a.tmps) = true)
    (hr : (execOp a.eval o).run P w = .ok (.value v) w') (h : wpList P ops Q rest (a.put o.dst v) w') : wpList P ops Q (o :: rest) a w :=
  wpList_want hgd fun _ hK => by unfold Oper.wp; rw [hr]; exact hK _ _ h
theorem wpList_skp {ops : Array Oper} {rest : List Oper} {o : Oper} {a : Act} {w w' : World} {Q : Exit → Act → World → Prop} (hgd : Region.wanted o (yielded ops a.tmps) = true)
    (hr : (execOp a.eval o).run P w = .ok .skip w') (h : wpList P ops Q rest (a.put o.dst undef) w') : wpList P ops Q (o :: rest) a w :=
  wpList_want hgd fun _ hK => by unfold Oper.wp; rw [hr]; exact hK _ _ h
theorem quiet_val {o : Oper} {a : Act} {C : World → Prop} {K : Act → Prop} {v : Value} (hr : ∀ w, C w → (execOp a.eval o).run P w = .ok (.value v) w) (h : K (a.put o.dst v)) : o.quiet P a C K :=
  ⟨v, fun w hw => by unfold Oper.quietAt; rw [hr w hw]; exact ⟨rfl, rfl⟩, h⟩

/-! ### variables of several cells -/
structure Agg (P : Program) (t : TypeId) (n : Nat) : Prop where
  isAgg : ∀ w, (isAgg t).run P w = .ok true w
  size : ∀ w, (sizeOf t).run P w = .ok n w
theorem Agg.of {t : TypeId} {n : Nat} {d : TypeDesc} (hu : P.underlying t = some d) (hd : (match d with | .struct _ | .array _ _ => true | _ => false) = true) (hi : (P.info? t).map (·.size) = some n) : Agg P t n := by
  refine ⟨fun w => ?_, fun w => ?_⟩
  · unfold Go.isAgg
    rw [Sem.run_bind, run_underlying hu w]
    cases d <;> simp_all
  · cases hq : P.info? t with
    | none => simp [hq] at hi
    | some i =>
      have hs : i.size = n := by simpa [hq] using hi
      simp [sizeOf, typeInfo, hq, hs]
theorem run_loadVar_cells {t : TypeId} {n : Nat} (A : Agg P t n) {w : World} {b off : Nat} {cs : List Value} (hc : Cells w b off cs) (hn : cs.length = n) :
    (loadVar t ⟨b, off, none⟩).run P w = .ok (.agg cs.toArray) w := by
  have hl := run_loadCells_list (P := P) w ⟨b, off, none⟩ cs hc.at_add
  rw [hn] at hl
  simp [loadVar, Sem.run_bind, A.isAgg, A.size, hl]
theorem op_load {o : Oper} {ρ : Operand → Value} {t : TypeId} {n : Nat} (A : Agg P t n) {x : Operand} (ho : o.op = .load t x) {w : World} {b off : Nat} (hx : ρ x = .pointer (some ⟨b, off, none⟩))
    {cs : List Value} (hc : Cells w b off cs) (hn : cs.length = n) : (execOp ρ o).run P w = .ok (.value (.agg cs.toArray)) w := by
  unfold execOp
  simp only [ho, hx, Instr.loadAt, Instr.sureAddr, Sem.run_bind, Sem.run_pure, Result.andThen_ok, run_loadVar_cells A hc hn]
theorem op_store {o : Oper} {ρ : Operand → Value} {t : TypeId} {n : Nat} (A : Agg P t n) {x y : Operand} (ho : o.op = .store t x y) {w : World} {b off : Nat} (hx : ρ x = .pointer (some ⟨b, off, none⟩))
    {vs : Array Value} (hy : ρ y = .agg vs) (hn : vs.size = n) (h1 : ∀ v ∈ vs.toList, v.oneCell' = true) {T : TypeId} {C : List Value} (hb : Blk w b T C) (hfit : off + n ≤ C.length) :
    (execOp ρ o).run P w = .ok .skip (w.setRow b (C.take off ++ vs.toList ++ C.drop (off + n)).toArray) := by
  have hst := run_storeCells_at P b off T vs.toList 0 C.toArray w hb (by simp [hn]; omega) h1
  simp only [Nat.add_zero] at hst
  unfold execOp
  simp [ho, hx, hy, Instr.storeAt, Instr.sureAddr, storeVar, A.size, Value.cells, hn, hst]
theorem op_store_all {o : Oper} {ρ : Operand → Value} {t : TypeId} {n : Nat} (A : Agg P t n) {x y : Operand} (ho : o.op = .store t x y) {w : World} {b : Nat} (hx : ρ x = .pointer (some ⟨b, 0, none⟩))
    {vs : Array Value} (hy : ρ y = .agg vs) (hn : vs.size = n) (h1 : ∀ v ∈ vs.toList, v.oneCell' = true) {T : TypeId} {C : List Value} (hb : Blk w b T C) (hfit : C.length = n) :
    (execOp ρ o).run P w = .ok .skip (w.setRow b vs) := by
  rw [op_store A ho hx hy hn h1 hb (by omega)]
  rw [List.take_zero, List.nil_append, List.drop_eq_nil_of_le (by omega), List.append_nil, Array.toArray_toList]

theorem op_alloc {o : Oper} {ρ : Operand → Value} {t : TypeId} (ho : o.op = .alloc t) {w : World} {z : Value} (hz : ∀ w, (zeroValue t).run P w = .ok z w) :
    (execOp ρ o).run P w = .ok (.value (.pointer (some ⟨w.heap.size, 0, none⟩))) (w.alloc (.cells z.cells t)) := by
  unfold execOp
  simp [ho, Instr.alloc, hz, newVar, newRow]
theorem op_box {o : Oper} {ρ : Operand → Value} {t : TypeId} {x : Operand} (ho : o.op = .box t x) {w : World} {v : Value} (hx : ρ x = v) :
    (execOp ρ o).run P w = .ok (.value (.pointer (some ⟨w.heap.size, 0, none⟩))) (w.alloc (.cells v.cells t)) := by
  unfold execOp
  simp [ho, hx, Instr.box, newVar, newRow]
theorem setRow_alloc (w : World) (cs ds : Array Value) (t : TypeId) : (w.alloc (.cells cs t)).setRow w.heap.size ds = w.alloc (.cells ds t) := by
  have h : ∀ (a : Array Obj) (x y : Obj) (f : Obj → Obj), f x = y → (a.push x).modify a.size f = a.push y := by
    intro a x y f hf
    apply Array.ext_getElem?
    intro i
    rw [Array.getElem?_modify, Array.getElem?_push, Array.getElem?_push]
    by_cases hi : i = a.size
    · subst hi; simp [hf]
    · simp [hi, Ne.symm hi]
  unfold World.setRow World.alloc
  simp only [World.mk.injEq, and_true]
  exact h _ _ _ _ rfl
theorem op_store_new {o : Oper} {ρ : Operand → Value} {t : TypeId} {n : Nat} (A : Agg P t n) {x y : Operand} (ho : o.op = .store t x y) {w : World} {T : TypeId} {C : Array Value} (hx : ρ x = .pointer (some ⟨w.heap.size, 0, none⟩))
    {vs : Array Value} (hy : ρ y = .agg vs) (hn : vs.size = n) (h1 : ∀ v ∈ vs.toList, v.oneCell' = true) (hfit : C.size = n) :
    (execOp ρ o).run P (w.alloc (.cells C T)) = .ok .skip (w.alloc (.cells vs T)) := by
  rw [op_store_all A ho hx hy hn h1 (Blk.new w T C) (by simpa using hfit), setRow_alloc]

/-! ### keys -/
noncomputable def eqv (x y : Value) : Bool := @decide (x = y) (Classical.propDecidable _)
theorem eqv_true {x y : Value} : eqv x y = true ↔ x = y := by unfold eqv; simp
theorem eqv_self (x : Value) : eqv x x = true := eqv_true.2 rfl
theorem eqv_false {x y : Value} : eqv x y = false ↔ x ≠ y := by unfold eqv; simp
theorem eqv_comm (x y : Value) : eqv x y = eqv y x := by
  rw [Bool.eq_iff_iff, eqv_true, eqv_true]
  exact ⟨Eq.symm, Eq.symm⟩

structure Key (P : Program) (k : TypeId) : Prop where
  law : Maps.Keyed P k
  eq : ∀ (w : World) {x y : Value} {lx ly : Lit}, keyOf P k x = some lx → keyOf P k y = some ly → ∃ r : Bool, (Op.equal k x y).run P w = .ok r w ∧ (r = true ↔ lx = ly)
  guard : P.eqGuardType P.depth k = false
def IsKey (P : Program) (k : TypeId) (x : Value) : Prop := ∃ l, keyOf P k x = some l

theorem run_equal {k : TypeId} (K : Key P k) (w : World) {x y : Value} (hx : IsKey P k x) (hy : IsKey P k y) : (Op.equal k x y).run P w = .ok (eqv x y) w := by
  obtain ⟨lx, hx⟩ := hx
  obtain ⟨ly, hy⟩ := hy
  obtain ⟨r, hr, hi⟩ := K.eq w hx hy
  rw [hr]
  congr 1
  rw [Bool.eq_iff_iff, hi, eqv_true]
  constructor
  · rintro rfl
    exact K.law.inj hx hy
  · rintro rfl
    rw [hx] at hy
    injection hy
theorem run_eqGuard_agg {k : TypeId} (hg : P.eqGuardType P.depth k = false) (op : BinOp) (x y : Operand) (a b : Array Value) (w : World) : (eqGuard op k x y (.agg a) (.agg b)).run P w = .ok () w := by
  unfold eqGuard
  cases op <;> simp [hg, program, Sem.run] <;> rfl
theorem op_eql {o : Oper} {ρ : Operand → Value} {k t : TypeId} (K : Key P k) {x y : Operand} (ho : o.op = .binOp .eql k x y t) {w : World} {a b : Array Value} (hx : ρ x = .agg a) (hy : ρ y = .agg b)
    (ka : IsKey P k (.agg a)) (kb : IsKey P k (.agg b)) : (execOp ρ o).run P w = .ok (.value (.bool (eqv (.agg a) (.agg b)))) w := by
  unfold execOp
  have hb : (binOp .eql k (.agg a) (.agg b)).run P w = .ok (.bool (eqv (.agg a) (.agg b))) w := by
    simp [binOp, run_equal K w ka kb]
  simp [ho, hx, hy, Sem.run_bind, run_eqGuard_agg K.guard, hb]
theorem op_neq {o : Oper} {ρ : Operand → Value} {k t : TypeId} (K : Key P k) {x y : Operand} (ho : o.op = .binOp .neq k x y t) {w : World} {a b : Array Value} (hx : ρ x = .agg a) (hy : ρ y = .agg b)
    (ka : IsKey P k (.agg a)) (kb : IsKey P k (.agg b)) : (execOp ρ o).run P w = .ok (.value (.bool (!eqv (.agg a) (.agg b)))) w := by
  unfold execOp
  have hb : (binOp .neq k (.agg a) (.agg b)).run P w = .ok (.bool (!eqv (.agg a) (.agg b))) w := by
    simp [binOp, run_equal K w ka kb]
  simp [ho, hx, hy, Sem.run_bind, run_eqGuard_agg K.guard, hb]

/-! ### maps -/
def ents (es : Array MapEntry) : List (Value × Value) := es.toList.map fun e => (e.key, e.val)
noncomputable def mget (M : List (Value × Value)) (x : Value) : Option Value := (M.find? fun p => eqv p.1 x).map (·.2)
noncomputable def mput (M : List (Value × Value)) (x v : Value) : List (Value × Value) := if (mget M x).isSome then M.map fun p => if eqv p.1 x then (x, v) else p else M ++ [(x, v)]
noncomputable def mdel (M : List (Value × Value)) (x : Value) : List (Value × Value) := M.filter fun p => !eqv p.1 x

structure MapAt (P : Program) (k : TypeId) (w : World) (b : Nat) (M : List (Value × Value)) : Prop where
  at_ : ∃ es clock, w.heap[b]? = some (.map es clock) ∧ ents es = M
  keys : ∀ p ∈ M, IsKey P k p.1
  nodup : (M.map (·.1)).Nodup
theorem MapAt.lt {k : TypeId} {w : World} {b : Nat} {M : List (Value × Value)} (h : MapAt P k w b M) : b < w.heap.size := by
  obtain ⟨es, c, h, _⟩ := h.at_
  exact (Array.getElem?_eq_some_iff.1 h).1
theorem MapAt.keep {k : TypeId} {w w' : World} {b : Nat} {M : List (Value × Value)} (h : MapAt P k w b M) (he : w'.heap[b]? = w.heap[b]?) : MapAt P k w' b M := by
  obtain ⟨⟨es, c, h1, h2⟩, h3, h4⟩ := h
  exact ⟨⟨es, c, he.trans h1, h2⟩, h3, h4⟩
theorem MapAt.chg {k : TypeId} {S : Nat → Prop} {w w' : World} {b : Nat} {M : List (Value × Value)} (h : MapAt P k w b M) (hc : Chg S w w') (hs : ¬ S b) : MapAt P k w' b M := h.keep (hc.block b h.lt hs)
theorem MapAt.new {k : TypeId} (w : World) : MapAt P k (w.alloc (.map #[] 0)) w.heap.size [] := ⟨⟨#[], 0, heap_alloc_new w _, rfl⟩, by simp, by simp⟩

theorem mget_none {M : List (Value × Value)} {x : Value} (h : ∀ p ∈ M, p.1 ≠ x) : mget M x = none := by
  unfold mget
  rw [List.find?_eq_none.2 (fun p hp => by simpa [eqv_true] using h p hp)]
  rfl
theorem mget_some {M : List (Value × Value)} {x v : Value} (hn : (M.map (·.1)).Nodup) (h : (x, v) ∈ M) : mget M x = some v := by
  induction M with
  | nil => cases h
  | cons p r ih =>
    unfold mget
    rw [List.find?_cons]
    simp only [List.map_cons, List.nodup_cons] at hn
    rcases List.mem_cons.1 h with e | h'
    · subst e
      simp [eqv_self]
    · have hne : p.1 ≠ x := fun e => hn.1 (by rw [e]; exact List.mem_map.2 ⟨(x, v), h', rfl⟩)
      rw [eqv_false.2 hne]
      exact ih hn.2 h'
theorem mget_mem {M : List (Value × Value)} {x v : Value} (h : mget M x = some v) : (x, v) ∈ M := by
  unfold mget at h
  cases hf : M.find? (fun p => eqv p.1 x) with
  | none => simp [hf] at h
  | some p =>
    have h1 := List.mem_of_find?_eq_some hf
    have h2 := List.find?_some hf
    simp [hf] at h
    rw [eqv_true] at h2
    rw [← h2, ← h]
    exact h1
theorem ents_get {es : Array MapEntry} {j : Nat} {e : MapEntry} (h : es.toList[j]? = some e) : (e.key, e.val) ∈ ents es := by
  unfold ents
  exact List.mem_map.2 ⟨e, List.mem_of_getElem? h, rfl⟩

/-- what a search in a map's entries finds -/
theorem run_findKey {k : TypeId} (K : Key P k) (w : World) {es : Array MapEntry} {M : List (Value × Value)} (he : ents es = M) (hk : ∀ p ∈ M, IsKey P k p.1) (hn : (M.map (·.1)).Nodup) {x : Value} (hx : IsKey P k x) :
    (mget M x = none ∧ (Instr.findKey k x es.toList).run P w = .ok none w ∧ ∀ p ∈ M, p.1 ≠ x) ∨
    ∃ j e, mget M x = some e.val ∧ (Instr.findKey k x es.toList).run P w = .ok (some (j, e.val)) w ∧ es.toList[j]? = some e ∧ e.key = x := by
  obtain ⟨lx, hx⟩ := hx
  have hall : ∀ e ∈ es.toList, ∃ l, keyOf P k e.key = some l := fun e h => hk (e.key, e.val) (by rw [← he]; exact List.mem_map.2 ⟨e, h, rfl⟩)
  rcases K.law.find w hx es.toList hall with ⟨h1, h2⟩ | ⟨j, e, h1, h2, h3⟩
  · left
    have h4 : ∀ p ∈ M, p.1 ≠ x := by
      intro p hp
      rw [← he] at hp
      obtain ⟨e, h5, rfl⟩ := List.mem_map.1 hp
      exact h2 e h5
    exact ⟨mget_none h4, h1, h4⟩
  · right
    exact ⟨j, e, mget_some hn (by rw [← h3, ← he]; exact ents_get h2), h1, h2, h3⟩

structure MapTy (P : Program) (t k e : TypeId) (z : Value) : Prop where
  ty : P.underlying t = some (.map k e)
  key : Key P k
  zero : ∀ w, (zeroValue e).run P w = .ok z w

theorem run_getMap {w : World} {b : Nat} {es : Array MapEntry} {c : Nat} (h : w.heap[b]? = some (.map es c)) : (getObj b).run P w = .ok (.map es c) w := by
  simp [getObj, Sem.run, h]
theorem run_setMap {w : World} {b : Nat} {es : Array MapEntry} {c : Nat} (h : w.heap[b]? = some (.map es c)) (o : Obj) : (setObj b o).run P w = .ok () (setObjAt w b o) := by
  simp [setObj, Sem.run, h, setObjAt]

theorem run_lookup {t k e : TypeId} {z : Value} (T : MapTy P t k e z) {w : World} {b : Nat} {M : List (Value × Value)} (h : MapAt P k w b M) {x : Value} (hx : IsKey P k x) (ok : Bool) :
    (Instr.lookup t (.map (some b)) x ok).run P w = .ok (if ok then .tuple #[(mget M x).getD z, .bool (mget M x).isSome] else (mget M x).getD z) w := by
  obtain ⟨⟨es, c, h1, h2⟩, h3, h4⟩ := h
  obtain ⟨lx, hlx⟩ := hx
  have hc := T.key.law.check w es.isEmpty hlx
  rcases run_findKey T.key w h2 h3 h4 ⟨lx, hlx⟩ with ⟨g1, g2, _⟩ | ⟨j, en, g1, g2, _, _⟩
  · simp [Instr.lookup, Sem.run_bind, run_underlying T.ty, run_getMap h1, hc, g2, T.zero, g1]
  · simp [Instr.lookup, Sem.run_bind, run_underlying T.ty, run_getMap h1, hc, g2, g1]
theorem op_lookup {t k e : TypeId} {z : Value} (T : MapTy P t k e z) {o : Oper} {ρ : Operand → Value} {m i : Operand} (ho : o.op = .lookup t m i false) {w : World} {b : Nat} (hm : ρ m = .map (some b))
    {x : Value} (hi : ρ i = x) {M : List (Value × Value)} (h : MapAt P k w b M) (hx : IsKey P k x) : (execOp ρ o).run P w = .ok (.value ((mget M x).getD z)) w := by
  unfold execOp
  simp [ho, hm, hi, run_lookup T h hx]

theorem modify_ents (es : Array MapEntry) (j : Nat) (e : MapEntry) (x v : Value) (hj : es.toList[j]? = some e) (hk : e.key = x) (hn : ((ents es).map (·.1)).Nodup) :
    ents (es.modify j fun e => { e with key := x, val := v }) = (ents es).map fun p => if eqv p.1 x then (x, v) else p := by
  unfold ents at *
  apply List.ext_getElem?
  intro i
  simp only [List.getElem?_map, Array.getElem?_toList, Array.getElem?_modify]
  have hj' : es[j]? = some e := by simpa using hj
  by_cases hij : j = i
  · subst hij
    simp [hj', hk, eqv_self]
  · rw [if_neg hij]
    cases hi : es[i]? with
    | none => rfl
    | some e' =>
      have hne : e'.key ≠ x := by
        intro hx
        have h1 : ((es.toList.map fun e => (e.key, e.val)).map (·.1))[i]? = some x := by simp [hi, hx]
        have h2 : ((es.toList.map fun e => (e.key, e.val)).map (·.1))[j]? = some x := by simp [hj', hk]
        exact hij ((List.getElem?_inj (List.getElem?_eq_some_iff.1 h2).1 hn).1 (h2.trans h1.symm))
      simp [eqv_false.2 hne]
theorem mput_keys {k : TypeId} {M : List (Value × Value)} {x v : Value} (hx : IsKey P k x) (hk : ∀ p ∈ M, IsKey P k p.1) : ∀ p ∈ mput M x v, IsKey P k p.1 := by
  intro p hp
  unfold mput at hp
  split at hp
  · obtain ⟨q, hq, rfl⟩ := List.mem_map.1 hp
    split
    · exact hx
    · exact hk q hq
  · rcases List.mem_append.1 hp with h | h
    · exact hk p h
    · simp at h
      subst h
      exact hx
theorem mput_nodup {M : List (Value × Value)} {x v : Value} (hn : (M.map (·.1)).Nodup) : ((mput M x v).map (·.1)).Nodup := by
  unfold mput
  split
  · have : (M.map fun p => if eqv p.1 x then (x, v) else p).map (·.1) = M.map (·.1) := by
      rw [List.map_map]
      apply List.map_congr_left
      intro p _
      simp only [Function.comp]
      split
      · rename_i h; rw [eqv_true] at h; exact h.symm
      · rfl
    rw [this]
    exact hn
  · rename_i h
    rw [List.map_append, List.nodup_append]
    refine ⟨hn, by simp, ?_⟩
    intro a ha b hb
    simp at hb
    subst hb
    rintro rfl
    obtain ⟨p, hp, rfl⟩ := List.mem_map.1 ha
    exact h (by rw [mget_some hn (v := p.2) hp]; rfl)
theorem mdel_keys {k : TypeId} {M : List (Value × Value)} {x : Value} (hk : ∀ p ∈ M, IsKey P k p.1) : ∀ p ∈ mdel M x, IsKey P k p.1 := fun p hp => hk p (List.mem_filter.1 hp).1
theorem mdel_nodup {M : List (Value × Value)} {x : Value} (hn : (M.map (·.1)).Nodup) : ((mdel M x).map (·.1)).Nodup := hn.sublist (List.Sublist.map _ List.filter_sublist)

theorem run_mapUpdate {t k e : TypeId} {z : Value} (T : MapTy P t k e z) {w : World} {b : Nat} {M : List (Value × Value)} (h : MapAt P k w b M) {x : Value} (hx : IsKey P k x) (v : Value) :
    ∃ o, (Instr.mapUpdate t (.map (some b)) x v).run P w = .ok () (setObjAt w b o) ∧ MapAt P k (setObjAt w b o) b (mput M x v) := by
  have hlt := h.lt
  obtain ⟨⟨es, c, h1, h2⟩, h3, h4⟩ := h
  obtain ⟨lx, hlx⟩ := hx
  have hc := T.key.law.check w false hlx
  have hst := T.key.law.stays w hlx
  rcases run_findKey T.key w h2 h3 h4 ⟨lx, hlx⟩ with ⟨g1, g2, _⟩ | ⟨j, en, g1, g2, g3, g4⟩
  · refine ⟨.map (es.push { key := x, val := v, born := c }) (c + 1), ?_, ⟨⟨_, _, setObjAt_same w b _ hlt, ?_⟩, mput_keys ⟨lx, hlx⟩ h3, mput_nodup h4⟩⟩
    · simp [Instr.mapUpdate, Sem.run_bind, run_underlying T.ty, run_getMap h1, hc, g2, run_setMap h1]
    · unfold mput
      rw [g1]
      unfold ents at *
      simp [← h2]
  · have g3' : es[j]? = some en := by simpa using g3
    refine ⟨.map (es.modify j fun e => { e with key := x, val := v }) c, ?_, ⟨⟨_, _, setObjAt_same w b _ hlt, ?_⟩, mput_keys ⟨lx, hlx⟩ h3, mput_nodup h4⟩⟩
    · simp [Instr.mapUpdate, Sem.run_bind, run_underlying T.ty, run_getMap h1, hc, g2, g3', g4, hst, run_setMap h1]
    · unfold mput
      rw [g1, ← h2]
      simp only [Option.isSome_some, if_true]
      exact modify_ents es j en x v g3 g4 (by rw [h2]; exact h4)
theorem erase_ents (es : Array MapEntry) (j : Nat) (e : MapEntry) (x : Value) (hj : es.toList[j]? = some e) (hk : e.key = x) (hn : ((ents es).map (·.1)).Nodup) :
    ents (es.eraseIdxIfInBounds j) = mdel (ents es) x := by
  have hlt : j < es.toList.length := (List.getElem?_eq_some_iff.1 hj).1
  have hlt' : j < es.size := by simpa using hlt
  have he : (es.eraseIdxIfInBounds j).toList = es.toList.eraseIdx j := by
    rw [Array.eraseIdxIfInBounds, dif_pos hlt', Array.toList_eraseIdx]
  unfold ents mdel at *
  rw [he, ChangeMaps.map_eraseIdx]
  refine (ChangeMaps.filter_eq_eraseIdx (fun p : Value × Value => eqv p.1 x) _ j (e.key, e.val) (by simp [hj]) (by simp [eqv_true, hk]) ?_).symm
  generalize es.toList.map (fun e => (e.key, e.val)) = L at *
  clear he
  induction L with
  | nil => exact List.Pairwise.nil
  | cons p r ih =>
    simp only [List.map_cons, List.nodup_cons] at hn
    refine List.pairwise_cons.2 ⟨fun q hq => ?_, ih hn.2⟩
    rintro ⟨h1, h2⟩
    rw [eqv_true] at h1 h2
    exact hn.1 (List.mem_map.2 ⟨q, hq, by rw [h1, h2]⟩)
theorem mdel_none {M : List (Value × Value)} {x : Value} (h : ∀ p ∈ M, p.1 ≠ x) : mdel M x = M := by
  unfold mdel
  exact List.filter_eq_self.2 fun p hp => by simp [eqv_false.2 (h p hp)]
theorem run_delete {t k e ty : TypeId} {z : Value} (T : MapTy P t k e z) {w : World} {b : Nat} {M : List (Value × Value)} (h : MapAt P k w b M) {x : Value} (hx : IsKey P k x) {ts : Array TypeId} (hts : ts[0]? = some t) :
    ∃ o, (Builtin.delete_ ts ty #[.map (some b), x]).run P w = .ok (.tuple #[]) (setObjAt w b o) ∧ MapAt P k (setObjAt w b o) b (mdel M x) := by
  have hlt := h.lt
  obtain ⟨⟨es, c, h1, h2⟩, h3, h4⟩ := h
  obtain ⟨lx, hlx⟩ := hx
  have hc := T.key.law.check w es.isEmpty hlx
  rcases run_findKey T.key w h2 h3 h4 ⟨lx, hlx⟩ with ⟨g1, g2, g3⟩ | ⟨j, en, g1, g2, g3, g4⟩
  · refine ⟨.map es c, ?_, ⟨⟨_, _, setObjAt_same w b _ hlt, ?_⟩, mdel_keys h3, mdel_nodup h4⟩⟩
    · simp [Builtin.delete_, hts, Sem.run_bind, run_underlying T.ty, run_getMap h1, hc, g2, run_setMap h1]
    · rw [mdel_none g3, h2]
  · refine ⟨.map (es.eraseIdxIfInBounds j) c, ?_, ⟨⟨_, _, setObjAt_same w b _ hlt, ?_⟩, mdel_keys h3, mdel_nodup h4⟩⟩
    · simp [Builtin.delete_, hts, Sem.run_bind, run_underlying T.ty, run_getMap h1, hc, g2, run_setMap h1]
    · rw [erase_ents es j en x g3 g4 (by rw [h2]; exact h4), h2]
theorem op_mapUpdate {t k e : TypeId} {z : Value} (T : MapTy P t k e z) {o : Oper} {ρ : Operand → Value} {m i y : Operand} (ho : o.op = .mapUpdate t m i y) {w : World} {b : Nat} (hm : ρ m = .map (some b))
    {x v : Value} (hi : ρ i = x) (hy : ρ y = v) {M : List (Value × Value)} (h : MapAt P k w b M) (hx : IsKey P k x) :
    ∃ ob, (execOp ρ o).run P w = .ok .skip (setObjAt w b ob) ∧ MapAt P k (setObjAt w b ob) b (mput M x v) := by
  obtain ⟨ob, h1, h2⟩ := run_mapUpdate T h hx v
  refine ⟨ob, ?_, h2⟩
  unfold execOp
  simp [ho, hm, hi, hy, h1]
theorem wpList_mapUpdate {t k e : TypeId} {z : Value} (T : MapTy P t k e z) {ops : Array Oper} {rest : List Oper} {o : Oper} {a : Act} {w : World} {Q : Exit → Act → World → Prop} (hgd : Region.wanted o (yielded ops a.tmps) = true)
    {m i y : Operand} (ho : o.op = .mapUpdate t m i y) {b : Nat} (hm : a.eval m = .map (some b)) {x v : Value} (hi : a.eval i = x) (hy : a.eval y = v) {M : List (Value × Value)} (h : MapAt P k w b M) (hx : IsKey P k x)
    (hk : ∀ ob, MapAt P k (setObjAt w b ob) b (mput M x v) → wpList P ops Q rest (a.put o.dst undef) (setObjAt w b ob)) : wpList P ops Q (o :: rest) a w := by
  obtain ⟨ob, h1, h2⟩ := op_mapUpdate T ho hm hi hy h hx
  exact wpList_skp hgd h1 (hk ob h2)
theorem wpList_delete {t k e : TypeId} {z : Value} (T : MapTy P t k e z) {ops : Array Oper} {rest : List Oper} {o : Oper} {a : Act} {w : World} {Q : Exit → Act → World → Prop} (hgd : Region.wanted o (yielded ops a.tmps) = true)
    {m i : Operand} {ts : Array TypeId} (ho : o.op = .call { callee := .builtin .delete, args := #[m, i], argTypes := ts }) (hts : ts[0]? = some t) {b : Nat} (hm : a.eval m = .map (some b)) {x : Value} (hi : a.eval i = x)
    {M : List (Value × Value)} (h : MapAt P k w b M) (hx : IsKey P k x)
    (hk : ∀ ob, MapAt P k (setObjAt w b ob) b (mdel M x) → wpList P ops Q rest (a.put o.dst (.tuple #[])) (setObjAt w b ob)) : wpList P ops Q (o :: rest) a w := by
  obtain ⟨ob, h1, h2⟩ := run_delete (ty := o.type) T h hx hts
  refine wpList_val hgd ?_ (hk ob h2)
  unfold execOp
  simp [ho, resolve, invoke, builtin, hm, hi, h1]
theorem op_lenMap {t k e : TypeId} {z : Value} (T : MapTy P t k e z) {o : Oper} {ρ : Operand → Value} {m : Operand} {ts : Array TypeId} (ho : o.op = .call { callee := .builtin .len, args := #[m], argTypes := ts }) (hts : ts[0]? = some t)
    {w : World} {b : Nat} (hm : ρ m = .map (some b)) {M : List (Value × Value)} (h : MapAt P k w b M) : (execOp ρ o).run P w = .ok (.value (.int .i64 M.length)) w := by
  obtain ⟨⟨es, c, h1, h2⟩, h3, h4⟩ := h
  have hl : M.length = es.size := by rw [← h2]; simp [ents]
  unfold execOp
  simp [ho, resolve, invoke, builtin, hm, Builtin.len_, hts, run_underlying T.ty, run_getMap h1, goInt, hl]

/-! ### append -/
structure SlTy (P : Program) (t e : TypeId) (n bytes : Nat) : Prop where
  ty : P.underlying t = some (.slice e)
  info : ∃ i z, P.info? e = some i ∧ i.zero = some z ∧ i.size = n ∧ z.cells.size = n ∧ i.bytes = bytes ∧ ∀ v ∈ z.cells.toList, v.oneCell' = true
  pos : 0 < n
def Flat (xs : List (List Value)) : Prop := ∀ x ∈ xs, ∀ v ∈ x, v.oneCell' = true
theorem Rd.src {n : Nat} {w : World} {A : Option Addr} {m c : Nat} {xs : List (List Value)} (h : Rd n w (.slice A m c) xs) : m = xs.length ∧ xs.flatten.length = xs.length * n ∧ (∀ ad, A = some ad → ∀ j u, xs.flatten[j]? = some u → w.cell? (ad.add j) = some u) ∧ (A = none → xs = []) := by
  obtain ⟨A', cap, e, h1, h2, h3, h4⟩ := h
  injection e with e1 e2 e3
  subst e1
  refine ⟨e2, flatten_length h3, fun ad hA j u hj => ?_, fun hA => ?_⟩
  · have hne : xs ≠ [] := by rintro rfl; simp at hj
    obtain ⟨b, off, hb, hc⟩ := h4 hne
    rw [hA] at hb
    injection hb with hb
    subst hb
    exact hc.at_add j u hj
  · rcases xs with _ | ⟨x, r⟩
    · rfl
    · obtain ⟨b, off, hb, _⟩ := h4 (by simp)
      rw [hA] at hb
      cases hb

/-- append to a slice in a block of one's own: what comes out, and where the world has changed -/
theorem run_append {t e n bytes : Nat} (T : SlTy P t e n bytes) (ty : TypeId) {w : World} {s x : Value} {xs ys : List (List Value)} (hs : Own e n w s xs) (hx : Rd n w x ys) (hf : Flat ys)
    (hb : (xs.length + ys.length) * bytes ≤ 140737488355328) (hl : xs.length + ys.length ≤ maxLen) :
    ∃ v' w', (Builtin.append_ #[t, t] ty #[s, x]).run P w = .ok v' w' ∧ Own e n w' v' (xs ++ ys) ∧ Chg (sblk s) w w' ∧ (∀ k, sblk v' k → sblk s k ∨ k = w.heap.size) ∧
      (∀ b off cs, Cells w b off cs → (∀ A m c, s = .slice (some A) m c → b = A.block → m + ys.length ≤ c → off + cs.length ≤ A.off + m * n) → Cells w' b off cs) := by
  obtain ⟨i, z, hi, hz, hn1, hz1, hby, hz2⟩ := T.info
  obtain ⟨A, m, c, rfl⟩ : ∃ A m c, x = .slice A m c := by obtain ⟨A, c, e, _⟩ := hx.form; exact ⟨_, _, _, e⟩
  obtain ⟨rfl, hfl, hcell, hnone⟩ := hx.src
  have hone : ∀ u ∈ ys.flatten, u.oneCell' = true := fun u hu => by
    obtain ⟨y, hy, hu⟩ := List.mem_flatten.1 hu
    exact hf y hy u hu
  have helen : ∀ q ∈ xs ++ ys, q.length = n := fun q hq => by
    rcases List.mem_append.1 hq with h | h
    · exact hs.1 q h
    · exact hx.elen q h
  have h63 : xs.length + ys.length ≤ 9223372036854775807 := by simp only [maxLen] at hl; omega
  -- a new block
  have grown : ∀ old : Nat, old < xs.length + ys.length →
      Own e n (w.drew.alloc (.cells (xs.flatten.toArray ++ ys.flatten.toArray ++ Builtin.zeroCells z.cells (grownCap w (xs.length + ys.length) old e - (xs.length + ys.length))) e))
        (.slice (some ⟨w.heap.size, 0, none⟩) (xs.length + ys.length) (grownCap w (xs.length + ys.length) old e)) (xs ++ ys) := by
    intro old ho
    have hge := grownCap_ge w (xs.length + ys.length) old e
    have hcm : grownCap w (xs.length + ys.length) old e ≤ maxLen := grownCap_le_maxLen w _ old e hl
    refine ⟨helen, .inr ⟨w.heap.size, 0, grownCap w (xs.length + ys.length) old e, _, by simp, by simpa using hge, hcm, heap_alloc_new w.drew _, ?_, ?_⟩⟩
    · simp only [Array.size_append, List.size_toArray, size_zeroCells, hz1, flatten_length hs.1, hfl]
      rw [Nat.zero_add, ← Nat.add_mul, ← Nat.add_mul]
      apply Nat.le_of_eq
      congr 1
      omega
    · simp only [Array.toList_append, List.append_assoc, List.drop_zero, List.flatten_append]
      rw [← List.append_assoc, List.length_append, Nat.add_mul, ← hfl, ← flatten_length hs.1, ← List.length_append]
      exact List.take_left
  have hchg : ∀ (C : Array Value), Chg (sblk s) w (w.drew.alloc (.cells C e)) := fun C => ((Chg.refl _ w).drew).alloc _
  rcases A with _ | ad
  · -- nothing is appended
    have hy := hnone rfl
    subst hy
    refine ⟨s, w, ?_, by simpa using hs, Chg.refl _ _, fun k hk => .inl hk, fun _ _ _ h _ => h⟩
    rcases hs.2 with ⟨rfl, rfl⟩ | ⟨b, off, cap, C, rfl, h3, h4, h5, h6, h7⟩
    · simp [Builtin.append_, run_underlying T.ty, sizeOf, typeInfo, hi, Builtin.lenOf, Builtin.firstCells]
    · simp [Builtin.append_, run_underlying T.ty, sizeOf, typeInfo, hi, Builtin.lenOf, Builtin.firstCells, h3, storeCells]
  · have hnews := hcell ad rfl
    rcases hs.2 with ⟨rfl, rfl⟩ | ⟨b, off, cap, C, rfl, h3, h4, h5, h6, h7⟩
    · rcases Nat.eq_zero_or_pos ys.length with h0 | h0
      · have hy : ys = [] := List.eq_nil_of_length_eq_zero h0
        subst hy
        refine ⟨.slice none 0 0, w, ?_, Own.nil, Chg.refl _ _, fun k hk => .inl hk, fun _ _ _ h _ => h⟩
        simp [Builtin.append_, run_underlying T.ty, sizeOf, typeInfo, hi, Builtin.lenOf, Builtin.firstCells, loadCells, loadCellsFrom]
      · have hr := run_append_nil (P := P) w t ty e i z T.ty hi hz ad ys.length c ys.flatten (by rw [hfl, hn1]) hnews h0 (by simp at h63; omega) (by simp at hb; rw [hby]; omega)
        have hg := grown 0 (by simp; omega)
        simp only [List.length_nil, Nat.zero_add, List.nil_append, List.flatten_nil, Array.empty_append] at hg ⊢
        exact ⟨_, _, hr, by simpa using hg, hchg _, fun k hk => .inr (by simpa [sblk] using hk), fun b off cs h _ => h.chg (((Chg.refl No w).drew).alloc _) id⟩
    · by_cases hroom : xs.length + ys.length ≤ cap
      · have hin : off + xs.length * n + ys.flatten.length ≤ C.size := by
          rw [hfl]
          have := Nat.mul_le_mul_right n hroom
          rw [Nat.add_mul] at this
          omega
        have hfc := run_firstCells_some (P := P) w i.size ys.length ad ys.length c ys.flatten (by rw [hfl, hn1]) hnews
        have hst := run_storeCells_at P b (off + xs.length * n) e ys.flatten 0 C w h5 (by omega) hone
        simp only [Nat.add_zero] at hst
        have hch : Chg (sblk (.slice (some ⟨b, off, none⟩) xs.length cap)) w (w.setRow b (C.toList.take (off + xs.length * n) ++ ys.flatten ++ C.toList.drop (off + xs.length * n + ys.flatten.length)).toArray) :=
          Chg.setRow (S := sblk (.slice (some ⟨b, off, none⟩) xs.length cap)) (Chg.refl _ w) (g := b) (fun _ => (rfl : b = b)) _
        refine ⟨.slice (some ⟨b, off, none⟩) (xs.length + ys.length) cap, _, ?_, ⟨helen, .inr ⟨b, off, cap, _, by simp, by simpa using hroom, h4, setRow_heap w b C _ e _ h5, ?_, ?_⟩⟩, hch, fun k hk => .inl hk, ?_⟩
        · rw [← hn1] at hst
          simp [Builtin.append_, run_underlying T.ty, sizeOf, typeInfo, hi, Builtin.lenOf, hroom, hfc, Addr.add_lit, hst]
          rw [hn1]
        · simp only [List.size_toArray, List.length_append, List.length_take, List.length_drop, Array.length_toList]
          omega
        · have e1 : ∀ q : List Value, (C.toList.take (off + xs.length * n) ++ q).drop off = xs.flatten ++ q := by
            intro q
            rw [List.drop_append_of_le_length (by simp; omega), List.drop_take]
            congr 1
            rw [← h7]
            congr 1
            omega
          rw [List.append_assoc, e1, List.flatten_append, List.length_append, Nat.add_mul, ← hfl, ← flatten_length hs.1, ← List.append_assoc, ← List.length_append]
          exact List.take_left
        · intro b0 off0 cs hc hle
          have hle' := hle _ _ _ rfl
          by_cases hb0 : b0 = b
          · subst hb0
            have hle'' : off0 + cs.length ≤ off + xs.length * n := hle' rfl hroom
            obtain ⟨C0, T0, fr0, g1, g2⟩ := hc
            rw [h5] at g1
            injection g1 with g1
            injection g1 with e1 e2 e3
            subst e1
            refine ⟨_, _, _, setRow_heap w b0 C _ e _ h5, ?_⟩
            conv => rhs; rw [← g2]
            simp only [List.append_assoc]
            rw [List.drop_append_of_le_length (by simp; omega), List.take_append_of_le_length (by simp; omega), List.drop_take, List.take_take, Nat.min_eq_left (by omega)]
          · exact hc.keep (setRow_other w b b0 _ hb0)
      · have holds : ∀ j u, xs.flatten[j]? = some u → w.cell? ((⟨b, off, none⟩ : Addr).add j) = some u := by
          have hc : Cells w b off xs.flatten := ⟨C, e, _, h5, by rw [flatten_length hs.1]; exact h7⟩
          exact hc.at_add
        have hr := run_append_grow (P := P) w t ty e i z T.ty hi hz ⟨b, off, none⟩ xs.length cap xs.flatten (by rw [flatten_length hs.1, hn1]) holds ad ys.length c ys.flatten (by rw [hfl, hn1]) hnews (by omega) (by omega) (growslice_fits (by omega) (by rw [hby]; exact hb))
        exact ⟨_, _, hr, grown cap (by omega), hchg _, fun k hk => .inr (by simpa [sblk] using hk), fun b off cs h _ => h.chg (((Chg.refl No w).drew).alloc _) id⟩
theorem wpList_append {t e n bytes : Nat} (T : SlTy P t e n bytes) {ops : Array Oper} {rest : List Oper} {o : Oper} {a : Act} {w : World} {Q : Exit → Act → World → Prop} (hgd : Region.wanted o (yielded ops a.tmps) = true)
    {s x : Operand} (ho : o.op = .call { callee := .builtin .append, args := #[s, x], argTypes := #[t, t] }) {sv xv : Value} (hs : a.eval s = sv) (hx : a.eval x = xv)
    {xs ys : List (List Value)} (own : Own e n w sv xs) (rd : Rd n w xv ys) (hf : Flat ys) (hb : (xs.length + ys.length) * bytes ≤ 140737488355328) (hl : xs.length + ys.length ≤ maxLen)
    (hk : ∀ v' w', Own e n w' v' (xs ++ ys) → Chg (sblk sv) w w' → (∀ k, sblk v' k → sblk sv k ∨ k = w.heap.size) → wpList P ops Q rest (a.put o.dst v') w') : wpList P ops Q (o :: rest) a w := by
  obtain ⟨v', w', h1, h2, h3, h4, _⟩ := run_append T o.type own rd hf hb hl
  refine wpList_val hgd ?_ (hk v' w' h2 h3 h4)
  unfold execOp
  simp [ho, resolve, invoke, builtin, hs, hx, h1]
end
end Go.Px
