/- Second part of the proof that a region whose order is drawn may be walked in the order of its text: one operation may be moved ahead of another. Conditions: those that stand ahead of each theorem. -/
/-
  Which operations look at the world, and which change it. Over any program. No condition is added to any statement here.
-/
import Derived.Test.YtieobcaegegboaaDoorAny
namespace Go.Px
open Go Go.RowKit
section
variable {P : Program}

theorem cell?_ext {w w2 : World} (h : Ext w w2) {a : Addr} {v : Value} (hc : w.cell? a = some v) : w2.cell? a = some v := by
  have hlt := World.block_lt_of_cell? w a hc
  rw [World.cell?_of_block (w := w) (h a.block hlt)]
  exact hc
theorem seen_none {p : Program} {w : World} {at_ : Addr} {u : TypeId} {k : Addr} {b : Bool} (h : w.heap[at_.block]? = none) : ∀ r, w.seen p at_ u k b ≠ .ok r := by
  intro r hr
  unfold World.seen at hr
  simp only [h] at hr
  split at hr <;> first | (cases hr; done) | skip
  all_goals (split at hr <;> first | (cases hr; done) | skip)
  all_goals (split at hr <;> first | (cases hr; done) | skip)
  all_goals (split at hr <;> first | (cases hr; done) | skip)
theorem seen_same {p : Program} {w w2 : World} {at_ : Addr} {u : TypeId} {k : Addr} {b : Bool} (h : w2.heap[at_.block]? = w.heap[at_.block]?) : w2.seen p at_ u k b = w.seen p at_ u k b := by
  unfold World.seen
  rw [h]
theorem farLoad_ext {w w2 : World} (he : Ext w w2) {a : Addr} {b : Bool} {r : Value × List Addr} (hn : w.cell? a = none) (h : w.farLoad P a b = .ok r) : w2.cell? a = none ∧ w2.farLoad P a b = .ok r := by
  unfold World.farLoad at h
  have hlt : a.block < w.heap.size := by
    rcases Nat.lt_or_ge a.block w.heap.size with h' | h'
    · exact h'
    · rw [Array.getElem?_eq_none h'] at h
      cases h
  have hb := he a.block hlt
  refine ⟨by rw [World.cell?_of_block (w := w) hb]; exact hn, ?_⟩
  unfold World.farLoad
  rw [hb]
  split at h
  · rename_i at_ u hv
    have e : w2.viewLoad P at_ u a b = w.viewLoad P at_ u a b := by
      rcases Nat.lt_or_ge at_.block w.heap.size with h' | h'
      · unfold World.viewLoad
        rw [seen_same (he at_.block h')]
      · exfalso
        have hs := seen_none (p := P) (u := u) (k := a) (b := b) (Array.getElem?_eq_none (xs := w.heap) h')
        unfold World.viewLoad at h
        cases hq : w.seen P at_ u a b with
        | ok r => exact hs r hq
        | error e =>
          rw [hq] at h
          cases h
    rw [e]
    exact h
  · cases h
theorem stays_load (a : Addr) (m : Mode) : Stays P (load a m) := by
  intro w v w' h
  unfold load at h ⊢
  simp only [Sem.run] at h
  split at h
  · rename_i u hu
    injection h with h1 h2
    subst h1; subst h2
    refine ⟨rfl, fun w2 he => ?_⟩
    simp only [Sem.run, cell?_ext he hu]
  · rename_i hn
    split at h
    · rename_i u l hu
      injection h with h1 h2
      subst h1; subst h2
      refine ⟨rfl, fun w2 he => ?_⟩
      obtain ⟨e1, e2⟩ := farLoad_ext he hn hu
      simp only [Sem.run, e1, e2]
    · cases h
theorem stays_loadCellsFrom (a : Addr) : ∀ (n i : Nat) (acc : Array Value), Stays P (loadCellsFrom a i n acc)
  | 0, i, acc => (Still.pure _).stays
  | n + 1, i, acc => by
    unfold loadCellsFrom
    exact (stays_load _ _).bind fun v => stays_loadCellsFrom a n (i + 1) _
theorem stays_loadAt (t : TypeId) (x : Value) : Stays P (Instr.loadAt t x) := by
  unfold Instr.loadAt
  refine (still_sureAddr x).stays.bind fun a => ?_
  unfold loadVar
  refine (still_isAgg t).stays.bind fun b => ?_
  split
  · exact (still_sizeOf t).stays.bind fun n => (stays_loadCellsFrom _ _ _ _).bind fun _ => (Still.pure _).stays
  · exact stays_load _ _

theorem news_newObj (o : Obj) : News P (newObj o) := by
  intro w v w' h
  have e : (newObj o).run P w = .ok w.heap.size (w.alloc o) := rfl
  rw [e] at h
  injection h with h1 h2
  subst h2
  exact fun i hi => Below.heap_alloc w o i hi
theorem news_newRow (e : TypeId) (cs : Array Value) : News P (newRow e cs) := by
  unfold newRow
  exact (news_newObj _).bind fun _ => (Still.pure _).news
theorem news_alloc (e : TypeId) : News P (Instr.alloc e true (.tuple #[])) := by
  unfold Instr.alloc
  refine (still_zeroValue e).news.bind fun z => ?_
  exact (news_newRow _ _).bind fun _ => (Still.pure _).news
theorem news_box (e : TypeId) (v : Value) : News P (Instr.box e v) := by
  unfold Instr.box
  exact (news_newRow _ _).bind fun _ => (Still.pure _).news
theorem news_buildSlice (t : TypeId) (n : Nat) (ps : Array (Nat × Value)) : News P (Instr.buildSlice t n ps) := by
  unfold Instr.buildSlice
  refine (still_underlying t).news.bind fun d => ?_
  split
  · refine (still_sizeOf _).news.bind fun s => ?_
    split
    · split
      · exact (Still.halt _).news
      · refine (Still.pure _).news.bind fun z => ?_
        dsimp only
        split
        · exact (news_newRow _ _).bind fun _ => (Still.pure _).news
        · exact (still_stuck _).news
    · split
      · exact (Still.halt _).news
      · refine News.bind (still_zeroValue _).news fun z => ?_
        refine (Still.pure _).news.bind fun z => ?_
        dsimp only
        split
        · exact (news_newRow _ _).bind fun _ => (Still.pure _).news
        · exact (still_stuck _).news
  · exact (still_stuck _).news

/-! ### operations -/
def PureAt (P : Program) (o : Oper) (a : Act) : Prop := ∀ w n w', (execOp a.eval o).run P w = .ok n w' → ∃ v, n = .value v ∧ ∀ w2, (execOp a.eval o).run P w2 = .ok (.value v) w2
def LoadAt (P : Program) (o : Oper) (a : Act) : Prop := ∀ w n w', (execOp a.eval o).run P w = .ok n w' → ∃ v, n = .value v ∧ w' = w ∧ ∀ w2, Ext w w2 → (execOp a.eval o).run P w2 = .ok (.value v) w2
def NewsAt (P : Program) (o : Oper) (a : Act) : Prop := ∀ w n w', (execOp a.eval o).run P w = .ok n w' → ∃ v, n = .value v ∧ Ext w w'

theorem still_value {s : Sem Value} {e : Sem Next} (he : e = (do pure (.value (← s)))) (h : Still P s) {w : World} {n : Next} {w' : World} (hr : e.run P w = .ok n w') :
    ∃ v, n = .value v ∧ ∀ w2, e.run P w2 = .ok (.value v) w2 := by
  subst he
  obtain ⟨v, w1, h1, h2⟩ := run_bind_ok hr
  rw [Sem.run_pure] at h2
  injection h2 with h3 h4
  exact ⟨v, h3.symm, fun w2 => by rw [Sem.run_bind, (h w v w1 h1).2 w2]; rfl⟩
theorem stays_value {s : Sem Value} {e : Sem Next} (he : e = (do pure (.value (← s)))) (h : Stays P s) {w : World} {n : Next} {w' : World} (hr : e.run P w = .ok n w') :
    ∃ v, n = .value v ∧ w' = w ∧ ∀ w2, Ext w w2 → e.run P w2 = .ok (.value v) w2 := by
  subst he
  obtain ⟨v, w1, h1, h2⟩ := run_bind_ok hr
  rw [Sem.run_pure] at h2
  injection h2 with h3 h4
  obtain ⟨e1, e2⟩ := h w v w1 h1
  exact ⟨v, h3.symm, by rw [← h4, e1], fun w2 hx => by rw [Sem.run_bind, e2 w2 hx]; rfl⟩
theorem news_value {s : Sem Value} {e : Sem Next} (he : e = (do pure (.value (← s)))) (h : News P s) {w : World} {n : Next} {w' : World} (hr : e.run P w = .ok n w') :
    ∃ v, n = .value v ∧ Ext w w' := by
  subst he
  obtain ⟨v, w1, h1, h2⟩ := run_bind_ok hr
  rw [Sem.run_pure] at h2
  injection h2 with h3 h4
  exact ⟨v, h3.symm, by rw [← h4]; exact h w v w1 h1⟩

/-- what an operand's temporary must hold -/
def opndReq : Operand → Option (List (Tmp × Bool))
  | .tmp t => some [(t, true)]
  | .const v => if plainV v then some [] else none
  | _ => none
def fieldOk (P : Program) (s : TypeId) (f : Nat) : Bool :=
  match P.underlying s with
  | some (.struct fs) => (match fs[f]? with | some fd => (match P.info? fd.type with | some i => i.size != 0 | none => false) | none => false)
  | _ => false
def isNilPtr : Operand → Bool
  | .const (.pointer none) => true
  | _ => false
def isPtrTy (P : Program) (t : TypeId) : Bool := match P.underlying t with | some (.pointer _) => true | _ => false
def isIntTy (P : Program) (t : TypeId) : Bool := match P.underlying t with | some (.int _) => true | _ => false
def isLenTy (P : Program) (t : TypeId) : Bool := match P.underlying t with | some (.slice _) | some (.array _ _) | some .string => true | _ => false
def isPlainTy (P : Program) (t : TypeId) : Bool := match P.underlying t with | some (.int _) | some .bool | some .string => true | _ => false
def isCmp : BinOp → Bool | .eql | .neq => true | _ => false
def both : Option (List (Tmp × Bool)) → Option (List (Tmp × Bool)) → Option (List (Tmp × Bool))
  | some a, some b => some (a ++ b)
  | _, _ => none
def pcls (P : Program) (o : Oper) : Option (List (Tmp × Bool)) :=
  match o.op with
  | .move _ | .assign _ | .pick _ _ _ | .extract _ _ | .unOp _ _ _ | .indexAddr _ _ _ | .index _ _ _ | .slice _ _ _ _ _ | .field _ _ _ | .build _ _ => some []
  | .fieldAddr s _ f => if fieldOk P s f then some [] else none
  | .nilCheck (.tmp t) => some [(t, false)]
  | .nilCheck (.const v) => if tameV v then some [] else none
  | .nilCheck (.global _) => some []
  | .binOp op t x y _ => if isCmp op && isPtrTy P t && isNilPtr y then some [] else if isPlainTy P t then both (opndReq x) (opndReq y) else none
  | .convert src dst x => if isIntTy P src && isIntTy P dst then opndReq x else none
  | .call { callee := .builtin .len, args := _, argTypes } => if argTypes.size == 1 && (argTypes[0]?).any (isLenTy P) then some [] else none
  | _ => none
def lcls (o : Oper) : Bool := match o.op with | .load _ _ => true | _ => false
def ncls (o : Oper) : Bool := match o.op with | .alloc _ | .box _ _ | .buildSlice _ _ _ => true | _ => false

def okV (b : Bool) (v : Value) : Bool := if b then plainV v else tameV v
theorem opndReq_plain {x : Operand} {L : List (Tmp × Bool)} (h : opndReq x = some L) {a : Act} (ha : ∀ p ∈ L, okV p.2 (a.eval (.tmp p.1)) = true) : plainV (a.eval x) = true := by
  cases x with
  | tmp t => simp [opndReq] at h; subst h; exact ha (t, true) (by simp)
  | const v => simp [opndReq] at h; exact h.1
  | global g => simp [opndReq] at h
  | func f => simp [opndReq] at h
theorem both_some {p q : Option (List (Tmp × Bool))} {L : List (Tmp × Bool)} (h : both p q = some L) : ∃ a b, p = some a ∧ q = some b ∧ L = a ++ b := by
  cases p <;> cases q <;> simp [both] at h
  exact ⟨_, _, rfl, rfl, h.symm⟩
theorem still_eql_nilPtr {t : TypeId} (ht : isPtrTy P t = true) (x : Value) : Still P (Op.equal t x (.pointer none)) := by
  unfold isPtrTy at ht
  split at ht
  · rename_i e he
    unfold Op.equal
    show Still P (Op.equalIn (9999 + 1) t _ _)
    intro w v w' hr
    unfold Op.equalIn at hr ⊢
    rw [Sem.run_bind, run_underlying he] at hr
    simp only [Result.andThen_ok] at hr
    have key : Still P (match TypeDesc.pointer e, x, Value.pointer none with
      | .pointer _, .pointer none, .pointer b => (pure b.isNone : Sem Bool)
      | .pointer _, .pointer _, .pointer none => pure false
      | _, _, _ => stuck "==: the operands do not fit the type, or the type is not comparable") := by
      split <;> first | exact Still.pure _ | exact still_stuck _
    cases x with
    | pointer a =>
      cases a with
      | none =>
        simp only [Sem.run_pure] at hr
        injection hr with h1 h2
        subst h1; subst h2
        exact ⟨rfl, fun w2 => by rw [Sem.run_bind, run_underlying he]; rfl⟩
      | some a =>
        simp only [Sem.run_pure] at hr
        injection hr with h1 h2
        subst h1; subst h2
        exact ⟨rfl, fun w2 => by rw [Sem.run_bind, run_underlying he]; rfl⟩
    | _ => cases hr
  · cases ht
theorem sem_bind_pure {α : Type} (x : Sem α) : Sem.bind x Sem.pure = x := by
  induction x <;> first | (simp_all [Sem.bind]; done) | (rename_i ih; simp only [Sem.bind]; congr 1; funext b; exact ih b)
theorem sem_bind_assoc {α β γ : Type} (x : Sem α) (f : α → Sem β) (g : β → Sem γ) : Sem.bind (Sem.bind x f) g = Sem.bind x fun a => Sem.bind (f a) g := by
  induction x <;> first | (simp_all [Sem.bind]; done) | (rename_i ih; simp only [Sem.bind]; congr 1; funext b; exact ih b)
theorem sem_lawful : LawfulMonad Sem := LawfulMonad.mk' Sem (id_map := fun x => sem_bind_pure x) (pure_bind := fun _ _ => rfl) (bind_assoc := fun x f g => sem_bind_assoc x f g)
theorem still_mapM {α β : Type} {f : α → Sem β} (hf : ∀ x, Still P (f x)) (as : Array α) : Still P (as.mapM f) := by
  have := sem_lawful
  rw [Array.mapM_eq_mapM_toList]
  have h : ∀ l : List α, Still P (l.mapM f) := by
    intro l
    induction l with
    | nil => rw [List.mapM_nil]; exact Still.pure _
    | cons x l ih =>
      rw [List.mapM_cons]
      exact (hf x).bind fun _ => ih.bind fun _ => Still.pure _
  rw [map_eq_pure_bind]
  exact (h _).bind fun _ => Still.pure _
theorem still_build (t : TypeId) (ps : Array (Nat × Value)) : Still P (Instr.build t ps) := by
  unfold Instr.build
  refine (still_zeroValue t).bind fun z => (still_underlying t).bind fun d => ?_
  split
  · refine Still.bind ?_ fun places => ?_
    · exact still_mapM (fun f => (still_sizeOf _).bind fun _ => Still.pure _) _
    · split
      · exact Still.pure _
      · exact still_stuck _
  · refine (still_sizeOf _).bind fun sz => ?_
    split
    · exact Still.pure _
    · exact still_stuck _
  · exact still_stuck _
theorem pureAt_of {o : Oper} {a : Act} {L : List (Tmp × Bool)} (h : pcls P o = some L) (ha : ∀ p ∈ L, okV p.2 (a.eval (.tmp p.1)) = true) : PureAt P o a := by
  intro w n w' hr
  obtain ⟨dst, op, type, pos, after, guard⟩ := o
  cases op <;> simp only [pcls] at h <;> try (cases h; done)
  case move x =>
    have e : ∀ w2, (execOp a.eval ⟨dst, .move x, type, pos, after, guard⟩).run P w2 = .ok (.value (a.eval x)) w2 := fun _ => rfl
    rw [e] at hr; injection hr with h1 h2
    exact ⟨_, h1.symm, e⟩
  case assign x =>
    have e : ∀ w2, (execOp a.eval ⟨dst, .assign x, type, pos, after, guard⟩).run P w2 = .ok (.value (a.eval x)) w2 := fun _ => rfl
    rw [e] at hr; injection hr with h1 h2
    exact ⟨_, h1.symm, e⟩
  case pick c x y => exact still_value (s := do pure (if ← asBool (a.eval c) then a.eval x else a.eval y)) (by simp [execOp]) ((still_asBool _).bind fun _ => Still.pure _) hr
  case build t ps => exact still_value (s := Instr.build t (ps.map fun (i, x) => (i, a.eval x))) rfl (still_build _ _) hr
  case extract x i => exact still_value (s := Instr.extract (a.eval x) i) rfl (still_extract _ _) hr
  case unOp op t x => exact still_value (s := Op.unary op (a.eval x)) rfl (still_unary _ _) hr
  case indexAddr t x i => exact still_value (s := Instr.indexAt t (a.eval x) (a.eval i)) rfl (still_indexAt _ _ _) hr
  case index t x i => exact still_value (s := Instr.index t (a.eval x) (a.eval i)) rfl (still_index _ _ _) hr
  case slice t x lo hi mx => exact still_value (s := Instr.sliceAt t (a.eval x) (lo.map a.eval) (hi.map a.eval) (mx.map a.eval)) rfl (still_sliceAt _ _ _ _ _) hr
  case field t x f => exact still_value (s := Instr.field t (a.eval x) f) rfl (still_field _ _ _) hr
  case fieldAddr s x f =>
    split at h
    · rename_i hf
      refine still_value (s := Instr.fieldAt s (a.eval x) f) rfl ?_ hr
      unfold fieldOk at hf
      split at hf
      · rename_i fs hfs
        split at hf
        · rename_i fd hfd
          split at hf
          · rename_i i hi
            have hs : ∀ w, (sizeOf fd.type).run P w = .ok i.size w := fun w => by simp [sizeOf, typeInfo, hi]
            have hne : i.size ≠ 0 := by simpa using hf
            intro w v w' hr
            have e : ∀ w2, (Instr.fieldAt s (a.eval x) f).run P w2 = ((Instr.sureAddr (a.eval x)).run P w2).andThen fun ad w3 => .ok (.pointer (some (ad.add fd.offset))) w3 := by
              intro w2
              unfold Instr.fieldAt
              rw [Sem.run_bind, run_underlying hfs]
              simp only [Result.andThen_ok, hfd]
              rw [Sem.run_bind]
              congr 1
              funext ad w3
              unfold fieldPlace
              simp [Sem.run_bind, hs, hne]
            rw [e] at hr
            cases hq : (Instr.sureAddr (a.eval x)).run P w with
            | ok ad w1 =>
              rw [hq] at hr
              simp only [Result.andThen_ok] at hr
              obtain ⟨e1, e2⟩ := still_sureAddr (P := P) (a.eval x) w ad w1 hq
              injection hr with h1 h2
              subst h1; subst h2
              exact ⟨e1, fun w2 => by rw [e, e2]; rfl⟩
            | halt x1 w1 => rw [hq] at hr; cases hr
          · cases hf
        · cases hf
      · cases hf
    · cases h
  case nilCheck x =>
    have tame : tameV (a.eval x) = true := by
      cases x with
      | tmp t => simp only [Option.some.injEq] at h; subst h; exact ha (t, false) (by simp)
      | const v => simp only at h; by_cases hv : tameV v = true
                   · exact hv
                   · simp [hv] at h
      | global g => rfl
      | func f => cases h
    have hs : Still P (execOp a.eval ⟨dst, .nilCheck x, type, pos, after, guard⟩) := by
      unfold execOp
      dsimp only
      cases hv : a.eval x <;> simp only [hv, tameV] at tame ⊢ <;> try (exact Still.pure _)
      case pointer q => cases q <;> first | exact Still.pure _ | exact (dies_runtimePanic _).still
      case func => cases tame
      all_goals exact (dies_runtimePanic _).still
    obtain ⟨e1, e2⟩ := hs w n w' hr
    have hv : ∃ v, n = .value v := by
      unfold execOp at hr
      dsimp only at hr
      cases hv : a.eval x <;> simp only [hv, tameV] at tame hr <;> try (simp only [Sem.run_pure] at hr; injection hr with h1 h2; exact ⟨_, h1.symm⟩)
      case pointer q =>
        cases q with
        | none => exact absurd hr (dies_runtimePanic _ w n w')
        | some q => simp only [Sem.run_pure] at hr; injection hr with h1 h2; exact ⟨_, h1.symm⟩
      case func => cases tame
      all_goals exact absurd hr (dies_runtimePanic _ w n w')
    obtain ⟨v, rfl⟩ := hv
    exact ⟨v, rfl, e2⟩
  case binOp op t x y yt =>
    refine still_value (s := do eqGuard op t x y (a.eval x) (a.eval y); binOp op t (a.eval x) (a.eval y)) rfl ?_ hr
    split at h
    · rename_i hc
      simp only [Bool.and_eq_true] at hc
      obtain ⟨⟨h1, h2⟩, h3⟩ := hc
      have hy : a.eval y = .pointer none := by
        unfold isNilPtr at h3
        split at h3
        · rfl
        · cases h3
      rw [hy]
      have hg : Still P (eqGuard op t x y (a.eval x) (.pointer none)) := by
        unfold eqGuard
        cases op <;> simp [isCmp] at h1 <;> (cases a.eval x <;> exact Still.pure _)
      refine hg.bind fun _ => ?_
      have he := still_eql_nilPtr (P := P) h2 (a.eval x)
      cases op <;> simp [isCmp] at h1
      · unfold binOp
        cases hx : a.eval x <;> rw [hx] at he <;> first | exact he.bind fun _ => Still.pure _ | exact still_unsupported _ | exact still_stuck _
      · unfold binOp
        cases hx : a.eval x <;> rw [hx] at he <;> first | exact he.bind fun _ => Still.pure _ | exact still_unsupported _ | exact still_stuck _
    · split at h
      · obtain ⟨L1, L2, hx, hy, rfl⟩ := both_some h
        have px := opndReq_plain hx fun p hp => ha p (by simp [hp])
        have py := opndReq_plain hy fun p hp => ha p (by simp [hp])
        exact (still_eqGuard_plain op t x y px).bind fun _ => still_binOp_plain op t px py
      · cases h
  case convert src dst' x =>
    split at h
    · rename_i hc
      simp only [Bool.and_eq_true] at hc
      have px := opndReq_plain h ha
      refine still_value (s := convert src dst' (a.eval x)) rfl ?_ hr
      obtain ⟨h1, h2⟩ := hc
      unfold isIntTy at h1 h2
      split at h1
      · rename_i k1 hk1
        split at h2
        · rename_i k2 hk2
          have e : ∀ w2, (convert src dst' (a.eval x)).run P w2 = (match a.eval x with | .int _ n => (Conv.intToInt k2 n).run P w2 | _ => (convert src dst' (a.eval x)).run P w2) := by
            intro w2
            cases hx : a.eval x <;> simp only []
            simp [convert, Sem.run_bind, run_underlying hk1, run_underlying hk2]
          intro w v w' hr
          rw [e] at hr
          cases hx : a.eval x <;> rw [hx] at hr px <;> simp only [] at hr
          case int k n =>
            simp only [Conv.intToInt, Sem.run_pure] at hr
            injection hr with h1 h2
            subst h1; subst h2
            refine ⟨rfl, fun w2 => ?_⟩
            have := e w2
            rw [hx] at this
            rw [this]
            rfl
          all_goals first
            | (simp [convert, Sem.run_bind, run_underlying hk1, run_underlying hk2, unsupported, stuck, Sem.run] at hr; done)
            | (cases px; done)
        · cases h2
      · cases h1
    · cases h
  case call c =>
    obtain ⟨callee, args, tys⟩ := c
    cases callee <;> try (cases h; done)
    case builtin b =>
      cases b <;> try (cases h; done)
      simp only [] at h
      split at h
      · rename_i hc
        simp only [Bool.and_eq_true, beq_iff_eq] at hc
        refine still_value (s := Builtin.len_ tys type (args.map a.eval)) (by simp [execOp, resolve, invoke, builtin]) ?_ hr
        unfold Builtin.len_
        cases h0 : tys[0]? with
        | none => simp [h0] at hc
        | some t =>
          have ht : isLenTy P t = true := by simpa [h0] using hc.2
          cases h1 : (args.map a.eval)[0]? with
          | none => exact still_stuck _
          | some x =>
            unfold isLenTy at ht
            intro w v w' hr
            have e : ∀ d, P.underlying t = some d → ∀ w2, (underlying t).run P w2 = .ok d w2 := fun d hd w2 => run_underlying hd w2
            split at ht
            · rename_i el hd
              simp only [Sem.run_bind, e _ hd, Result.andThen_ok] at hr ⊢
              cases x <;> simp only [Sem.run_pure] at hr ⊢ <;> first | (injection hr with h1 h2; subst h1; subst h2; exact ⟨rfl, fun _ => rfl⟩) | cases hr
            · rename_i n el hd
              simp only [Sem.run_bind, e _ hd, Result.andThen_ok] at hr ⊢
              cases x <;> simp only [Sem.run_pure] at hr ⊢ <;> first | (injection hr with h1 h2; subst h1; subst h2; exact ⟨rfl, fun _ => rfl⟩) | cases hr
            · rename_i hd
              simp only [Sem.run_bind, e _ hd, Result.andThen_ok] at hr ⊢
              cases x <;> simp only [Sem.run_pure] at hr ⊢ <;> first | (injection hr with h1 h2; subst h1; subst h2; exact ⟨rfl, fun _ => rfl⟩) | cases hr
            · cases ht
      · cases h
theorem loadAt_of {o : Oper} (h : lcls o = true) (a : Act) : LoadAt P o a := by
  intro w n w' hr
  obtain ⟨dst, op, type, pos, after, guard⟩ := o
  cases op <;> simp [lcls] at h
  case load t x => exact stays_value (s := Instr.loadAt t (a.eval x)) rfl (stays_loadAt _ _) hr
theorem newsAt_of {o : Oper} (h : ncls o = true) (a : Act) : NewsAt P o a := by
  intro w n w' hr
  obtain ⟨dst, op, type, pos, after, guard⟩ := o
  cases op <;> simp [ncls] at h
  case alloc t => exact news_value (s := Instr.alloc t true (.tuple #[])) rfl (news_alloc _) hr
  case box t x => exact news_value (s := Instr.box t (a.eval x)) rfl (news_box _ _) hr
  case buildSlice t k ps =>
    simp only [execOp] at hr
    exact news_value rfl (news_buildSlice _ _ _) hr
end
end Go.Px
