/- First part of the proof that a region whose order is drawn may be walked in the order of its text: acts that touch different things commute. Conditions: those that stand ahead of each theorem. -/
/-
  A region that draws its order is walked in the text's order: whatever order is drawn comes to the same, where a Bool over the operations holds. Over any program. No condition is added to any statement here.
-/
import Derived.WalkKit
import Derived.WalkSpells
import Derived.WalkLawsBesides
import Derived.Still
import Derived.KernelRfl
namespace Go.Px
open Go Go.RowKit

/-! ### runs that do not look at the world -/
section
variable {P : Program}

def Ext (w w' : World) : Prop := ∀ i, i < w.heap.size → w'.heap[i]? = w.heap[i]?
theorem Ext.refl (w : World) : Ext w w := fun _ _ => rfl
theorem Ext.size {w w' : World} (h : Ext w w') : w.heap.size ≤ w'.heap.size := by
  rcases Nat.eq_zero_or_pos w.heap.size with h0 | h0
  · omega
  · have h1 := h (w.heap.size - 1) (by omega)
    have h2 : w.heap[w.heap.size - 1]? ≠ none := by simp; omega
    rw [← h1] at h2
    have h3 : ¬ w'.heap.size ≤ w.heap.size - 1 := fun hh => h2 (Array.getElem?_eq_none hh)
    omega
theorem Ext.trans {a b c : World} (h : Ext a b) (k : Ext b c) : Ext a c := fun i hi => (k i (Nat.lt_of_lt_of_le hi h.size)).trans (h i hi)

def Still {α : Type} (P : Program) (s : Sem α) : Prop := ∀ w v w', s.run P w = .ok v w' → w' = w ∧ ∀ w2, s.run P w2 = .ok v w2
def Dies {α : Type} (P : Program) (s : Sem α) : Prop := ∀ w v w', s.run P w ≠ .ok v w'
/-- the same in every world that has all that this one has -/
def Stays {α : Type} (P : Program) (s : Sem α) : Prop := ∀ w v w', s.run P w = .ok v w' → w' = w ∧ ∀ w2, Ext w w2 → s.run P w2 = .ok v w2
def News {α : Type} (P : Program) (s : Sem α) : Prop := ∀ w v w', s.run P w = .ok v w' → Ext w w'

theorem run_bind_ok {α β : Type} {s : Sem α} {f : α → Sem β} {w w' : World} {v : β} (h : (s >>= f).run P w = .ok v w') : ∃ x w1, s.run P w = .ok x w1 ∧ (f x).run P w1 = .ok v w' := by
  rw [Sem.run_bind] at h
  cases hs : s.run P w with
  | ok x w1 => rw [hs] at h; exact ⟨x, w1, rfl, h⟩
  | halt x w1 => rw [hs] at h; cases h
theorem Dies.still {α : Type} {s : Sem α} (h : Dies P s) : Still P s := fun w v w' hr => absurd hr (h w v w')
theorem Dies.bind {α β : Type} {s : Sem α} {f : α → Sem β} (h : ∀ x, Dies P (f x)) : Dies P (s >>= f) := fun w v w' hr => by
  obtain ⟨x, w1, _, h2⟩ := run_bind_ok hr
  exact h x w1 v w' h2
theorem Still.pure {α : Type} (a : α) : Still P (Pure.pure a : Sem α) := fun w v w' h => by
  simp only [Sem.run_pure] at h
  injection h with h1 h2
  subst h1; subst h2
  exact ⟨rfl, fun _ => by rw [Sem.run_pure]⟩
theorem Still.halt {α : Type} (x : Halt) : Still P (Sem.halt x : Sem α) := fun w v w' h => by cases h
theorem Still.bind {α β : Type} {s : Sem α} {f : α → Sem β} (hs : Still P s) (hf : ∀ x, Still P (f x)) : Still P (s >>= f) := fun w v w' h => by
  obtain ⟨x, w1, h1, h2⟩ := run_bind_ok h
  obtain ⟨rfl, e1⟩ := hs w x w1 h1
  obtain ⟨rfl, e2⟩ := hf x w1 v w' h2
  exact ⟨rfl, fun w2 => by rw [Sem.run_bind, e1 w2]; exact e2 w2⟩
theorem Still.stays {α : Type} {s : Sem α} (h : Still P s) : Stays P s := fun w v w' hr => ⟨(h w v w' hr).1, fun w2 _ => (h w v w' hr).2 w2⟩
theorem Stays.bind {α β : Type} {s : Sem α} {f : α → Sem β} (hs : Stays P s) (hf : ∀ x, Stays P (f x)) : Stays P (s >>= f) := fun w v w' h => by
  obtain ⟨x, w1, h1, h2⟩ := run_bind_ok h
  obtain ⟨rfl, e1⟩ := hs w x w1 h1
  obtain ⟨rfl, e2⟩ := hf x w1 v w' h2
  exact ⟨rfl, fun w2 he => by rw [Sem.run_bind, e1 w2 he]; exact e2 w2 he⟩
theorem Still.news {α : Type} {s : Sem α} (h : Still P s) : News P s := fun w v w' hr => by rw [(h w v w' hr).1]; exact Ext.refl w
theorem News.bind {α β : Type} {s : Sem α} {f : α → Sem β} (hs : News P s) (hf : ∀ x, News P (f x)) : News P (s >>= f) := fun w v w' h => by
  obtain ⟨x, w1, h1, h2⟩ := run_bind_ok h
  exact (hs w x w1 h1).trans (hf x w1 v w' h2)

theorem still_program : Still P program := fun w v w' h => by
  have e : ∀ w2, (program).run P w2 = .ok P w2 := fun _ => rfl
  rw [e] at h
  injection h with h1 h2
  subst h1; subst h2
  exact ⟨rfl, e⟩
theorem still_stuck {α : Type} (s : String) : Still P (stuck s : Sem α) := Still.halt _
theorem still_unsupported {α : Type} (s : Unsupported) : Still P (unsupported s : Sem α) := Still.halt _
theorem still_typeInfo (t : TypeId) : Still P (typeInfo t) := by
  unfold typeInfo
  refine still_program.bind fun p => ?_
  split
  · exact Still.pure _
  · exact still_stuck _
theorem still_underlying (t : TypeId) : Still P (underlying t) := by
  unfold underlying
  refine still_program.bind fun p => ?_
  split
  · exact Still.pure _
  · exact still_stuck _
theorem still_sizeOf (t : TypeId) : Still P (sizeOf t) := (still_typeInfo t).bind fun _ => Still.pure _
theorem still_isAgg (t : TypeId) : Still P (isAgg t) := by
  unfold isAgg
  refine (still_underlying t).bind fun d => ?_
  split <;> exact Still.pure _
theorem still_zeroValue (t : TypeId) : Still P (zeroValue t) := by
  unfold zeroValue
  refine (still_typeInfo t).bind fun i => ?_
  split
  · exact Still.pure _
  · exact still_unsupported _
theorem dies_goPanic {α : Type} (v : Value) : Dies P (goPanic v : Sem α) := fun w v w' h => by cases h
theorem dies_runtimePanic {α : Type} (e : RuntimeError) : Dies P (runtimePanic e : Sem α) := by
  unfold runtimePanic
  refine Dies.bind fun p => ?_
  cases e <;> first | exact dies_goPanic _ | exact Dies.bind fun _ => Dies.bind fun _ => dies_goPanic _ | exact Dies.bind fun _ => dies_goPanic _
theorem dies_boundsPanic {α : Type} (k : IntKind) (x y : Int) (c : BoundsCode) : Dies P (boundsPanic k x y c : Sem α) := by
  unfold boundsPanic
  dsimp only
  split <;> exact Dies.bind fun _ => dies_runtimePanic _
theorem still_asIntOf (v : Value) : Still P (asIntOf v) := by
  unfold asIntOf
  split
  · exact Still.pure _
  · exact still_unsupported _
  · exact still_stuck _
theorem still_asBool (v : Value) : Still P (asBool v) := by
  unfold asBool
  split
  · exact Still.pure _
  · exact still_stuck _
theorem still_asAgg (v : Value) : Still P (asAgg v) := by
  unfold asAgg
  split
  · exact Still.pure _
  · exact still_stuck _
theorem still_sureAddr (v : Value) : Still P (Instr.sureAddr v) := by
  unfold Instr.sureAddr
  split
  · exact Still.pure _
  · exact still_stuck _
theorem still_asAddr (v : Value) : Still P (asAddr v) := by
  unfold asAddr
  split
  · exact Still.pure _
  · exact (dies_runtimePanic _).still
  · exact still_stuck _
theorem still_part (t : TypeId) (cs : Array Value) (o : Nat) : Still P (part t cs o) := by
  unfold part
  refine (still_isAgg t).bind fun b => ?_
  split
  · exact (still_sizeOf t).bind fun _ => Still.pure _
  · split
    · exact Still.pure _
    · exact still_stuck _

theorem still_sliceBound (x : Value) (y : Nat) (c : BoundsCode) : Still P (Instr.sliceBound x y c) := by
  unfold Instr.sliceBound
  refine (still_asIntOf x).bind fun q => ?_
  split
  split
  · exact Still.pure _
  · exact (dies_boundsPanic _ _ _ _).still
theorem still_sliceBounds (b : Bool) (len cap : Nat) (lo hi mx : Option Value) : Still P (Instr.sliceBounds b len cap lo hi mx) := by
  unfold Instr.sliceBounds
  cases lo <;> cases hi <;> cases mx <;> dsimp only <;>
    (first
      | exact Still.bind (still_sliceBound _ _ _) fun _ => Still.bind (still_sliceBound _ _ _) fun _ => Still.bind (still_sliceBound _ _ _) fun _ => Still.pure _
      | exact Still.bind (still_sliceBound _ _ _) fun _ => Still.bind (still_sliceBound _ _ _) fun _ => Still.bind (Still.pure _) fun _ => Still.pure _
      | exact Still.bind (still_sliceBound _ _ _) fun _ => Still.bind (Still.pure _) fun _ => Still.bind (still_sliceBound _ _ _) fun _ => Still.pure _
      | exact Still.bind (still_sliceBound _ _ _) fun _ => Still.bind (Still.pure _) fun _ => Still.bind (Still.pure _) fun _ => Still.pure _
      | exact Still.bind (Still.pure _) fun _ => Still.bind (still_sliceBound _ _ _) fun _ => Still.bind (still_sliceBound _ _ _) fun _ => Still.pure _
      | exact Still.bind (Still.pure _) fun _ => Still.bind (still_sliceBound _ _ _) fun _ => Still.bind (Still.pure _) fun _ => Still.pure _
      | exact Still.bind (Still.pure _) fun _ => Still.bind (Still.pure _) fun _ => Still.bind (still_sliceBound _ _ _) fun _ => Still.pure _
      | exact Still.bind (Still.pure _) fun _ => Still.bind (Still.pure _) fun _ => Still.bind (Still.pure _) fun _ => Still.pure _
      | exact Still.bind (still_sliceBound _ _ _) fun _ => Still.bind (still_stuck _) fun _ => Still.bind (still_sliceBound _ _ _) fun _ => Still.pure _
      | exact Still.bind (still_sliceBound _ _ _) fun _ => Still.bind (still_stuck _) fun _ => Still.bind (Still.pure _) fun _ => Still.pure _)
theorem still_slice (t : TypeId) (x : Value) (lo hi mx : Option Value) : Still P (Instr.slice t x lo hi mx) := by
  unfold Instr.slice
  refine (still_underlying t).bind fun d => ?_
  split
  · split
    · exact still_stuck _
    · exact (still_sliceBounds _ _ _ _ _ _).bind fun _ => Still.pure _
  · exact (still_sliceBounds _ _ _ _ _ _).bind fun _ => (still_sizeOf _).bind fun _ => Still.pure _
  · refine (still_asAddr _).bind fun _ => (still_underlying _).bind fun d => ?_
    split
    · exact (still_sliceBounds _ _ _ _ _ _).bind fun _ => (still_sizeOf _).bind fun _ => Still.pure _
    · exact still_stuck _
  · exact still_stuck _
theorem still_sliceAt (t : TypeId) (x : Value) (lo hi mx : Option Value) : Still P (Instr.sliceAt t x lo hi mx) := by
  unfold Instr.sliceAt
  refine (still_underlying t).bind fun d => ?_
  split
  · exact (still_sureAddr _).bind fun _ => (still_sliceBounds _ _ _ _ _ _).bind fun _ => (still_sizeOf _).bind fun _ => Still.pure _
  · exact still_slice _ _ _ _ _
theorem still_indexAt (t : TypeId) (x i : Value) : Still P (Instr.indexAt t x i) := by
  unfold Instr.indexAt
  refine (still_asIntOf i).bind fun q => ?_
  split
  refine (still_underlying t).bind fun d => ?_
  have tail : ∀ (k : IntKind) (i : Int) (r : Option Addr × Nat × TypeId), Still P (do
      let tiny := r.2.1 ≤ 1 && (match ← underlying t with | .array .. => true | _ => false)
      match r.1 with
      | some a =>
        if 0 ≤ i ∧ i < r.2.1 then pure (Value.pointer (some (a.add (i.toNat * (← sizeOf r.2.2)))))
        else if tiny then unsupported (.noEntry "op/indexAddr.an index out of range at an array of length 0 or 1 (ledger 616)")
        else boundsPanic k i r.2.1 .index
      | none => boundsPanic k i 0 .index) := by
    intro k i r
    refine (still_underlying t).bind fun d => ?_
    dsimp only
    split
    · split
      · exact (still_sizeOf _).bind fun _ => Still.pure _
      · split <;> (split
                   · exact still_unsupported _
                   · exact (dies_boundsPanic _ _ _ _).still)
    · exact (dies_boundsPanic _ _ _ _).still
  split
  · exact (still_sureAddr _).bind fun a => tail _ _ (some a, _, _)
  · exact tail _ _ (_, _, _)
  · exact still_stuck _
theorem still_index (t : TypeId) (x i : Value) : Still P (Instr.index t x i) := by
  unfold Instr.index
  refine (still_asIntOf i).bind fun q => ?_
  split
  refine (still_underlying t).bind fun d => ?_
  split
  · split
    · exact (still_sizeOf _).bind fun _ => still_part _ _ _
    · exact (dies_boundsPanic _ _ _ _).still
  · split
    · exact Still.pure _
    · exact (dies_boundsPanic _ _ _ _).still
  · exact still_stuck _
theorem still_field (t : TypeId) (x : Value) (f : Nat) : Still P (Instr.field t x f) := by
  unfold Instr.field
  refine (still_underlying t).bind fun d => ?_
  split
  · split
    · exact (still_asAgg _).bind fun _ => still_part _ _ _
    · exact still_stuck _
  · exact still_stuck _
theorem still_extract (x : Value) (i : Nat) : Still P (Instr.extract x i) := by
  unfold Instr.extract
  split
  · split
    · exact Still.pure _
    · exact still_stuck _
  · exact still_stuck _
theorem still_intArith (op : BinOp) (k : IntKind) (x y : Int) : Still P (Op.intArith op k x y) := by
  unfold Op.intArith
  split <;> first | exact Still.pure _ | exact still_stuck _
theorem still_intBits (op : BinOp) (k : IntKind) (x y : Int) : Still P (Op.intBits op k x y) := by
  unfold Op.intBits
  dsimp only
  split <;> first | exact Still.pure _ | exact still_stuck _
theorem still_intCmp (op : BinOp) (x y : Int) : Still P (Op.intCmp op x y) := by
  unfold Op.intCmp
  split <;> first | exact Still.pure _ | exact still_stuck _
theorem still_intDiv (op : BinOp) (k : IntKind) (x y : Int) : Still P (Op.intDiv op k x y) := by
  unfold Op.intDiv
  split
  · exact (dies_runtimePanic _).still
  · split <;> first | exact Still.pure _ | exact still_stuck _
theorem still_shift (op : BinOp) (k : IntKind) (x : Int) (yk : IntKind) (y : Int) : Still P (Op.shift op k x yk y) := by
  unfold Op.shift
  split
  · exact (dies_runtimePanic _).still
  · dsimp only
    split <;> first | exact Still.pure _ | exact still_stuck _
theorem still_stringOp (op : BinOp) (x y : ByteArray) : Still P (Op.stringOp op x y) := by
  unfold Op.stringOp
  dsimp only
  split
  · split
    · exact still_unsupported _
    · exact Still.pure _
  all_goals first | exact Still.pure _ | exact still_stuck _
theorem still_unary (op : UnOp) (x : Value) : Still P (Op.unary op x) := by
  unfold Op.unary
  split <;> first | exact still_intArith _ _ _ _ | exact still_intBits _ _ _ _ | exact Still.pure _ | exact still_unsupported _ | exact still_stuck _

def plainV : Value → Bool
  | .int _ _ | .bool _ | .string _ | .tuple _ => true
  | _ => false
def tameV : Value → Bool
  | .func .. => false
  | _ => true
theorem still_equal_plain (t : TypeId) {a b : Value} (ha : plainV a = true) (hb : plainV b = true) : Still P (Op.equal t a b) := by
  unfold Op.equal
  show Still P (Op.equalIn (9999 + 1) t _ _)
  unfold Op.equalIn
  refine (still_underlying t).bind fun d => ?_
  cases a <;> simp [plainV] at ha <;> cases b <;> simp [plainV] at hb <;> cases d
  all_goals first
    | exact Still.pure _
    | exact still_stuck _
    | (dsimp only; split <;> first | exact Still.pure _ | exact still_stuck _)
theorem still_eqGuard_plain (op : BinOp) (t : TypeId) (x y : Operand) {a b : Value} (ha : plainV a = true) : Still P (eqGuard op t x y a b) := by
  cases a <;> simp [plainV] at ha <;> (cases op <;> exact Still.pure _)
theorem still_binOp_plain (op : BinOp) (t : TypeId) {a b : Value} (ha : plainV a = true) (hb : plainV b = true) : Still P (binOp op t a b) := by
  cases a <;> simp [plainV] at ha <;> cases b <;> simp [plainV] at hb
  all_goals cases op
  all_goals (try simp only [binOp])
  all_goals first
    | exact still_stuck _
    | exact still_unsupported _
    | exact still_stringOp _ _ _
    | exact still_shift _ _ _ _ _
    | (exact (still_equal_plain _ rfl rfl).bind fun _ => Still.pure _)
    | (split <;> first | exact still_stuck _ | exact still_intArith _ _ _ _ | exact still_intDiv _ _ _ _ | exact still_intBits _ _ _ _ | exact still_intCmp _ _ _)
end
end Go.Px
