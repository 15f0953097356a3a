/- For each kind of operation that reads, writes or makes memory it is proved what becomes of a list of separate parts of memory. Conditions: those that stand ahead of each theorem. -/
import Derived.Test.YtieobcaegegboaaDoorSep
namespace Go.Px
open Go Go.RowKit
section
variable {P : Program} {R : Nat → Prop} {base : World} {L : List Hp} {ops : Array Oper} {rest : List Oper} {o : Oper} {a : Act} {w : World} {Q : Exit → Act → World → Prop}

/-! ### what a frame's slot holds, found by looking -/
def slotAt : List Value → Nat → Option Value
  | x :: _, 0 => some x
  | _ :: t, n + 1 => slotAt t n
  | [], _ => none
def rdOp (a : Act) : Operand → Option Value
  | .tmp t => slotAt a.tmps.toList t
  | .const v => some v
  | _ => none
theorem slotAt_get : ∀ (l : List Value) (n : Nat), slotAt l n = l[n]?
  | [], _ => rfl
  | _ :: _, 0 => rfl
  | _ :: t, n + 1 => by simpa [slotAt] using slotAt_get t n
theorem rdOp_eval {x : Operand} {v : Value} (h : rdOp a x = some v) : a.eval x = v := by
  cases x <;> simp [rdOp] at h
  · rw [slotAt_get] at h
    simp only [Act.eval]
    simp at h
    simp [h]
  · exact h

/-! ### variables of one cell -/
structure One (P : Program) (t : TypeId) : Prop where
  isAgg : ∀ w, (isAgg t).run P w = .ok false w
  size : ∀ w, (sizeOf t).run P w = .ok 1 w
theorem One.of {t : TypeId} {d : TypeDesc} (hu : P.underlying t = some d) (hd : (match d with | .struct _ | .array _ _ => false | _ => true) = true) (hi : (P.info? t).map (·.size) = some 1) : One P t := by
  refine ⟨fun w => ?_, fun w => ?_⟩
  · unfold Go.isAgg
    rw [Sem.run_bind, run_underlying hu w]
    cases d <;> simp_all
  · cases hq : P.info? t with
    | none => simp [hq] at hi
    | some i =>
      have hs : i.size = 1 := by simpa [hq] using hi
      simp [sizeOf, typeInfo, hq, hs]
theorem op_load1 {ρ : Operand → Value} {t : TypeId} (A : One P t) {x : Operand} (ho : o.op = .load t x) {b off : Nat} (hx : ρ x = .pointer (some ⟨b, off, none⟩)) {v : Value} (hc : w.cell? ⟨b, off, none⟩ = some v) :
    (execOp ρ o).run P w = .ok (.value v) w := by
  unfold execOp
  simp [ho, hx, Instr.loadAt, Instr.sureAddr, Sem.run_bind, loadVar, A.isAgg, hc]

theorem op_load1S {ρ : Operand → Value} {t : TypeId} (A : One P t) {b off : Nat} {T : TypeId} {C : List Value} (hS : SepL R base w (.blk b T C :: L)) {x : Operand} (ho : o.op = .load t x) (hx : ρ x = .pointer (some ⟨b, off, none⟩)) {v : Value} (hv : C[off]? = some v) :
    (execOp ρ o).run P w = .ok (.value v) w := op_load1 A ho hx ((hS.getBlk.cell off).trans hv)

/-! ### places of a slice -/
/-- the address of a slice's place k (elements of n cells) -/
def elAt (n : Nat) (v : Value) (k : Nat) : Value := match v with
  | .slice (some x) _ _ => .pointer (some (x.add (k * n)))
  | _ => undef
/-- s[l:h] -/
def cutV (n : Nat) (v : Value) (l h : Nat) : Value := match v with
  | .slice A _ cap => .slice (cutAddr A cap l n) (h - l) (cap - l)
  | v => v
theorem sblk_cutV {n : Nat} {v : Value} {l h : Nat} : ∀ k, sblk (cutV n v l h) k → sblk v k := by
  intro k hk
  cases v <;> first | exact hk | exact sblk_cut k hk
theorem Rd.cutV {n : Nat} {v : Value} {xs : List (List Value)} (hr : Rd n w v xs) {l h : Nat} (h1 : l ≤ h) (h2 : h ≤ xs.length) : Rd n w (cutV n v l h) ((xs.drop l).take (h - l)) := by
  obtain ⟨A, c, rfl, _⟩ := hr.form
  exact hr.cut h1 h2
theorem RdIn.cutV {n : Nat} {v : Value} {xs : List (List Value)} (hr : RdIn R base n v xs) {l h : Nat} (h1 : l ≤ h) (h2 : h ≤ xs.length) : RdIn R base n (cutV n v l h) ((xs.drop l).take (h - l)) :=
  ⟨hr.rd.cutV h1 h2, fun hn k hk => hr.ro (cut_ne hn) k (sblk_cutV k hk)⟩
theorem Rd.elAt {n : Nat} {v : Value} {xs : List (List Value)} (hr : Rd n w v xs) {k : Nat} (hk : k < xs.length) : ∃ b off, elAt n v k = .pointer (some ⟨b, off, none⟩) ∧ Cells w b off xs[k] := by
  obtain ⟨A, c, rfl, _⟩ := hr.form
  obtain ⟨b, off, rfl, hc⟩ := hr.at (List.getElem?_eq_getElem hk)
  exact ⟨b, off + k * n, by show Value.pointer (some ((⟨b, off, none⟩ : Addr).add (k * n))) = _; rw [Addr.add_lit], hc⟩
theorem op_indexAddr {t e n bytes : Nat} (T : SlTy P t e n bytes) {ρ : Operand → Value} {x i : Operand} (ho : o.op = .indexAddr t x i) {v : Value} (hx : ρ x = v) {kk : IntKind} {k : Nat} (hi : ρ i = .int kk k) {xs : List (List Value)} (hr : Rd n w v xs) (hk : k < xs.length) :
    (execOp ρ o).run P w = .ok (.value (elAt n v k)) w := by
  obtain ⟨j, z, hj, hz, hn1, _⟩ := T.info
  obtain ⟨A, c, rfl, _⟩ := hr.form
  obtain ⟨b, off, rfl, _⟩ := hr.at (List.getElem?_eq_getElem hk)
  have hs : (sizeOf e).run P w = .ok n w := by simp [sizeOf, typeInfo, hj, hn1]
  unfold execOp elAt
  simp [ho, hx, hi, Instr.indexAt, asIntOf, Sem.run_bind, run_underlying T.ty, hs, hk]
theorem op_indexAddrZ {t e n bytes : Nat} (T : SlTy P t e n bytes) {ρ : Operand → Value} {x i : Operand} (ho : o.op = .indexAddr t x i) {v : Value} (hx : ρ x = v) {kk : IntKind} {z : Int} (hi : ρ i = .int kk z) {xs : List (List Value)} (hr : Rd n w v xs) (k : Nat) (hz : z = k) (hk : k < xs.length) :
    (execOp ρ o).run P w = .ok (.value (elAt n v k)) w := op_indexAddr T ho hx (hz ▸ hi) hr hk
theorem op_loadE {ρ : Operand → Value} {t : TypeId} {n : Nat} (A : Agg P t n) {x : Operand} (ho : o.op = .load t x) {v : Value} {k : Nat} (hx : ρ x = elAt n v k) {xs : List (List Value)} (hr : Rd n w v xs) (hk : k < xs.length) :
    (execOp ρ o).run P w = .ok (.value (.agg xs[k].toArray)) w := by
  obtain ⟨b, off, he, hc⟩ := hr.elAt hk
  exact op_load A ho (hx.trans he) hc (hr.elen _ (List.getElem_mem hk))
theorem op_loadE1 {ρ : Operand → Value} {t : TypeId} (A : One P t) {x : Operand} (ho : o.op = .load t x) {v : Value} {k : Nat} (hx : ρ x = elAt 1 v k) {α : Type} {f : α → Value} {us : List α} (hr : Rd 1 w v (us.map fun u => [f u])) (hk : k < us.length) :
    (execOp ρ o).run P w = .ok (.value (f us[k])) w := by
  obtain ⟨b, off, he, hc⟩ := hr.elAt (k := k) (by simpa using hk)
  rw [List.getElem_map] at hc
  have := hc.at (j := 0) (v := f us[k]) rfl
  exact op_load1 A ho (hx.trans he) this
theorem op_len {t e n bytes : Nat} (T : SlTy P t e n bytes) {ρ : Operand → Value} {x : Operand} {ts : Array TypeId} (ho : o.op = .call { callee := .builtin .len, args := #[x], argTypes := ts }) (hts : ts[0]? = some t) {v : Value} (hx : ρ x = v) {xs : List (List Value)} (hr : Rd n w v xs) :
    (execOp ρ o).run P w = .ok (.value (.int .i64 xs.length)) w := by
  obtain ⟨A, c, rfl, _⟩ := hr.form
  unfold execOp
  simp [ho, resolve, invoke, builtin, hx, Builtin.len_, hts, run_underlying T.ty, goInt]
theorem op_cut {t e n bytes : Nat} (T : SlTy P t e n bytes) {ρ : Operand → Value} {x : Operand} {lo hi : Option Operand} (ho : o.op = .slice t x lo hi none) {v : Value} (hx : ρ x = v) {xs : List (List Value)} (hr : Rd n w v xs)
    {l h : Nat} (hlo : isLo (lo.map ρ) l) (hhi : isHi (hi.map ρ) xs.length h) (h1 : l ≤ h) (h2 : h ≤ xs.length) : (execOp ρ o).run P w = .ok (.value (cutV n v l h)) w := by
  obtain ⟨A, c, rfl, h3, _⟩ := hr.form
  exact op_slice T ho w hx hlo hhi h1 (by omega)

/-! ### new memory -/
theorem wpS_boxA (hS : SepL R base w L) (hgd : Region.wanted o (yielded ops a.tmps) = true) {t : TypeId} {x : Operand} (ho : o.op = .box t x) {cs : List Value} (hx : a.eval x = .agg cs.toArray)
    (hk : ∀ nb w', SepL R base w' (.blk nb t cs :: L) → wpList P ops Q rest (a.put o.dst (.pointer (some ⟨nb, 0, none⟩))) w') : wpList P ops Q (o :: rest) a w :=
  wpList_box hgd ho hx fun nb w' _ hle hB hc => hk nb w' (hS.newBlk (by simpa [Value.cells] using hB) hle hc)
theorem wpS_box1 (hS : SepL R base w L) (hgd : Region.wanted o (yielded ops a.tmps) = true) {t : TypeId} {x : Operand} (ho : o.op = .box t x) {v : Value} (hx : rdOp a x = some v) (hv : v.cells = #[v])
    (hk : ∀ nb w', SepL R base w' (.blk nb t [v] :: L) → wpList P ops Q rest (a.put o.dst (.pointer (some ⟨nb, 0, none⟩))) w') : wpList P ops Q (o :: rest) a w :=
  wpList_box hgd ho (rdOp_eval hx) fun nb w' _ hle hB hc => hk nb w' (hS.newBlk (by rw [hv] at hB; exact hB) hle hc)
theorem wpS_alloc (hS : SepL R base w L) (hgd : Region.wanted o (yielded ops a.tmps) = true) {t : TypeId} (ho : o.op = .alloc t) {z : Value} (hz : ∀ w, (zeroValue t).run P w = .ok z w) {zs : List Value} (hzs : z.cells.toList = zs)
    (hk : ∀ nb w', SepL R base w' (.blk nb t zs :: L) → wpList P ops Q rest (a.put o.dst (.pointer (some ⟨nb, 0, none⟩))) w') : wpList P ops Q (o :: rest) a w :=
  wpList_alloc hgd ho hz fun nb w' _ hle hB hc => hk nb w' (hS.newBlk (by rw [hzs] at hB; exact hB) hle hc)
theorem wpS_make {t e n bytes : Nat} (T : SlTy P t e n bytes) {zs : List Value} (hzs : ∀ i z, P.info? e = some i → i.zero = some z → z.cells.toList = zs) (hS : SepL R base w L) (hgd : Region.wanted o (yielded ops a.tmps) = true) {x y : Operand} (ho : o.op = .makeSlice t x y)
    {l c : Nat} (hx : a.eval x = .int .i64 l) (hy : a.eval y = .int .i64 c) (hlc : l ≤ c) (hb : bytes * c ≤ 281474976710656) (h63 : c ≤ 9223372036854775807)
    (hk : ∀ v w', SepL R base w' (.own e n v (List.replicate l zs) :: L) → wpList P ops Q rest (a.put o.dst v) w') : wpList P ops Q (o :: rest) a w :=
  wpList_make T hzs hgd ho hx hy hlc hb h63 fun v w' ho' hn hc => hk v w' (hS.newOwn ho' hn hc)
theorem wpS_makeMap {t k e : TypeId} {z : Value} (T : MapTy P t k e z) (hS : SepL R base w L) (hgd : Region.wanted o (yielded ops a.tmps) = true) (ho : o.op = .makeMap t none)
    (hk : ∀ nb w', SepL R base w' (.map P k nb [] :: L) → wpList P ops Q rest (a.put o.dst (.map (some nb))) w') : wpList P ops Q (o :: rest) a w :=
  wpList_makeMap T hgd ho fun nb w' hle hM hc => hk nb w' (hS.newMap hM hle hc)
theorem wpS_buildL {t e n bytes : Nat} (T : SlTy P t e n bytes) (hS : SepL R base w L) (hgd : Region.wanted o (yielded ops a.tmps) = true) {len : Nat} {parts : Array (Nat × Operand)} (ho : o.op = .buildSlice t len parts)
    (vs : List Value) (hp0 : parts.toList.map (fun p => (p.1, a.eval p.2)) = (vs.zipIdx 0).map fun x => (x.2, x.1)) (hl : len = vs.length) (hpos : 0 < len) (hsm : len * n ≤ 16777216) (hv : ∀ v ∈ vs, v.cells.size = n)
    (hk : ∀ v w', SepL R base w' (.own e n v (vs.map fun v => v.cells.toList) :: L) → wpList P ops Q rest (a.put o.dst v) w') : wpList P ops Q (o :: rest) a w :=
  wpList_buildL T hgd ho vs hp0 hl hpos hsm hv fun v w' ho' hn hc => hk v w' (hS.newOwn ho' hn hc)
theorem wpS_build1A {t e n bytes : Nat} (T : SlTy P t e n bytes) (hn : n ≤ 16777216) (hS : SepL R base w L) (hgd : Region.wanted o (yielded ops a.tmps) = true) {x : Operand} (ho : o.op = .buildSlice t 1 #[(0, x)]) {cs : List Value} (hx : a.eval x = .agg cs.toArray) (hv : cs.length = n)
    (hk : ∀ v w', SepL R base w' (.own e n v [cs] :: L) → wpList P ops Q rest (a.put o.dst v) w') : wpList P ops Q (o :: rest) a w :=
  wpList_build1 T hn hgd ho hx (by simpa [Value.cells] using hv) fun nb w' _ hle hB hc => hk _ w' (hS.newOwn (Blk.own1 (by simpa [Value.cells] using hB) hv) (by rintro k rfl; exact hle) hc)
theorem wpS_build11 {t e bytes : Nat} (T : SlTy P t e 1 bytes) (hS : SepL R base w L) (hgd : Region.wanted o (yielded ops a.tmps) = true) {x : Operand} (ho : o.op = .buildSlice t 1 #[(0, x)]) {u : Value} (hx : rdOp a x = some u) (hv : u.cells = #[u])
    (hk : ∀ v w', SepL R base w' (.own e 1 v [[u]] :: L) → wpList P ops Q rest (a.put o.dst v) w') : wpList P ops Q (o :: rest) a w :=
  wpList_build1 T (by omega) hgd ho (rdOp_eval hx) (by simp [hv]) fun nb w' _ hle hB hc => hk _ w' (hS.newOwn (Blk.own1 (by rw [hv] at hB; exact hB) rfl) (by rintro k rfl; exact hle) hc)

/-- '[]T{}' -/
theorem wpS_build0 {t e n bytes : Nat} (T : SlTy P t e n bytes) (hS : SepL R base w L) (hgd : Region.wanted o (yielded ops a.tmps) = true) (ho : o.op = .buildSlice t 0 #[])
    (hk : ∀ v w', SepL R base w' (.own e n v [] :: L) → wpList P ops Q rest (a.put o.dst v) w') : wpList P ops Q (o :: rest) a w := by
  obtain ⟨i, z, hi, hz, hn1, _⟩ := T.info
  refine wpList_val hgd (v := .slice (some ⟨w.heap.size, 0, none⟩) 0 0) (w' := w.alloc (.cells #[] e)) ?_ (hk _ _ (hS.newOwn (v := .slice (some ⟨w.heap.size, 0, none⟩) 0 0) ⟨by simp, .inr ⟨w.heap.size, 0, 0, #[], rfl, by simp, by simp [maxLen], heap_alloc_new w _, by simp, by simp⟩⟩ (by rintro k rfl; exact Nat.le_refl _) (chg_alloc w _)))
  have hs : (sizeOf e).run P w = .ok n w := by simp [sizeOf, typeInfo, hi, hn1]
  unfold execOp
  simp [ho, Instr.buildSlice, Sem.run_bind, run_underlying T.ty, hs, Instr.fill, newRow]
  congr 2
  exact Array.eq_empty_of_size_eq_zero (by simp)

/-! ### stores -/
theorem wpS_store1 {t : TypeId} (h1 : (P.info? t).map (·.size) = some 1) {b i : Nat} {T : TypeId} {C : List Value} (hS : SepL R base w (.blk b T C :: L)) (hgd : Region.wanted o (yielded ops a.tmps) = true) {x y : Operand} (ho : o.op = .store t x y) (hx : a.eval x = .pointer (some ⟨b, i, none⟩)) {v : Value} (hy : rdOp a y = some v) (hv : v.cells = #[v]) (hone : v.oneCell' = true)
    (hi : i < C.length) (hk : ∀ w', SepL R base w' (.blk b T (C.set i v) :: L) → wpList P ops Q rest (a.put o.dst undef) w') : wpList P ops Q (o :: rest) a w :=
  wpList_store1 h1 hgd ho hx (rdOp_eval hy) hv hone hS.getBlk hi fun w' hB hc => hk w' (hS.updBlk hB hc)
theorem wpS_storeAll {t : TypeId} {n : Nat} (A : Agg P t n) {b : Nat} {T : TypeId} {C : List Value} (hS : SepL R base w (.blk b T C :: L)) (hgd : Region.wanted o (yielded ops a.tmps) = true) {x y : Operand} (ho : o.op = .store t x y) (hx : a.eval x = .pointer (some ⟨b, 0, none⟩))
    {vs : List Value} (hy : a.eval y = .agg vs.toArray) (hn : vs.length = n) (h1 : ∀ v ∈ vs, v.oneCell' = true) (hfit : C.length = n)
    (hk : ∀ w', SepL R base w' (.blk b T vs :: L) → wpList P ops Q rest (a.put o.dst undef) w') : wpList P ops Q (o :: rest) a w :=
  wpList_storeAll A hgd ho hx hy hn h1 hS.getBlk hfit fun w' hB hc => hk w' (hS.updBlk hB hc)
theorem wpS_storeN {t : TypeId} {n : Nat} (A : Agg P t n) {b off : Nat} {T : TypeId} {C : List Value} (hS : SepL R base w (.blk b T C :: L)) (hgd : Region.wanted o (yielded ops a.tmps) = true) {x y : Operand} (ho : o.op = .store t x y) (hx : a.eval x = .pointer (some ⟨b, off, none⟩))
    {vs : List Value} (hy : a.eval y = .agg vs.toArray) (hn : vs.length = n) (h1 : ∀ v ∈ vs, v.oneCell' = true) (hfit : off + n ≤ C.length)
    (hk : ∀ w', SepL R base w' (.blk b T (C.take off ++ vs ++ C.drop (off + n)) :: L) → wpList P ops Q rest (a.put o.dst undef) w') : wpList P ops Q (o :: rest) a w :=
  wpList_storeN A hgd ho hx hy hn h1 hS.getBlk hfit fun w' hB hc => hk w' (hS.updBlk hB hc)
theorem wpS_storeE {t : TypeId} {n : Nat} (A : Agg P t n) {e k : Nat} {v : Value} {xs : List (List Value)} (hS : SepL R base w (.own e n v xs :: L)) (hgd : Region.wanted o (yielded ops a.tmps) = true) {x y : Operand} (ho : o.op = .store t x y) (hx : a.eval x = elAt n v k)
    {vs : List Value} (hy : a.eval y = .agg vs.toArray) (hn : vs.length = n) (h1 : ∀ v ∈ vs, v.oneCell' = true) (hk1 : k < xs.length)
    (hk : ∀ w', SepL R base w' (.own e n v (xs.set k vs) :: L) → wpList P ops Q rest (a.put o.dst undef) w') : wpList P ops Q (o :: rest) a w := by
  have own := hS.getOwn
  obtain ⟨A', c, rfl, _⟩ := own.rd.form
  obtain ⟨b, off, rfl, _⟩ := own.rd.at (List.getElem?_eq_getElem hk1)
  replace hx : a.eval x = Value.pointer (some ((⟨b, off, none⟩ : Addr).add (k * n))) := hx
  rw [Addr.add_lit] at hx
  exact wpList_storeAt A hgd ho hx hy hn h1 own hk1 fun w' hO hc => hk w' (hS.updOwn hO hc fun k hk => .inl hk)

/-! ### append -/
theorem wpS_append {t e n bytes : Nat} (T : SlTy P t e n bytes) {sv xv : Value} {xs ys : List (List Value)} (hS : SepL R base w (.own e n sv xs :: L)) (hgd : Region.wanted o (yielded ops a.tmps) = true)
    {s x : Operand} (ho : o.op = .call { callee := .builtin .append, args := #[s, x], argTypes := #[t, t] }) (hs : a.eval s = sv) (hx : a.eval x = xv)
    (rd : Rd n w xv ys) (hf : Flat ys) (hb : (xs.length + ys.length) * bytes ≤ 140737488355328) (hl : xs.length + ys.length ≤ maxLen)
    (hk : ∀ v' w', SepL R base w' (.own e n v' (xs ++ ys) :: L) → wpList P ops Q rest (a.put o.dst v') w') : wpList P ops Q (o :: rest) a w :=
  wpList_append T hgd ho hs hx hS.getOwn rd hf hb hl fun v' w' hO hc hn => hk v' w' (hS.updOwn hO hc fun k hk => (hn k hk).imp id (fun e => by omega))

/-- two slices that may share a block, both read -/
def hRd2 (n : Nat) (v : Value) (xs : List (List Value)) (u : Value) (ys : List (List Value)) : Hp :=
  ⟨fun w F => Rd n w v xs ∧ Rd n w u ys ∧ ∀ k, F k ↔ sblk v k ∨ sblk u k,
    fun ⟨h1, h2, h3⟩ he => ⟨h1.keep fun k _ hk => he k ((h3 k).2 (.inl hk)), h2.keep fun k _ hk => he k ((h3 k).2 (.inr hk)), h3⟩⟩
theorem SepL.rd2l {n : Nat} {v u : Value} {xs ys : List (List Value)} (h : SepL R base w (hRd2 n v xs u ys :: L)) : Rd n w v xs := let ⟨_, h1⟩ := h.head; h1.1
theorem SepL.rd2r {n : Nat} {v u : Value} {xs ys : List (List Value)} (h : SepL R base w (hRd2 n v xs u ys :: L)) : Rd n w u ys := let ⟨_, h1⟩ := h.head; h1.2.1
theorem Own.cutV {T n : Nat} {v : Value} {xs : List (List Value)} (hr : Own T n w v xs) {l h : Nat} (h1 : l ≤ h) (h2 : h ≤ xs.length) : Own T n w (cutV n v l h) ((xs.drop l).take (h - l)) := by
  obtain ⟨A, c, rfl, _⟩ := hr.rd.form
  exact hr.cut h1 h2
theorem SepL.ownCut {T n : Nat} {v : Value} {xs : List (List Value)} (h : SepL R base w (.own T n v xs :: L)) {l : Nat} (h1 : l ≤ xs.length) : SepL R base w (.own T n (Px.cutV n v l xs.length) (xs.drop l) :: L) :=
  h.updOwn (by
    have := h.getOwn.cutV h1 (Nat.le_refl _)
    rwa [List.take_of_length_le (by simp)] at this) (Chg.refl _ w) fun k hk => .inl (sblk_cutV k hk)
/-- append to the end of a slice of which an earlier part is still read -/
theorem wpS_appendCut {t e n bytes : Nat} (T : SlTy P t e n bytes) {sv xv : Value} {xs ys : List (List Value)} (hS : SepL R base w (.own e n sv xs :: L)) (hgd : Region.wanted o (yielded ops a.tmps) = true)
    {s x : Operand} (ho : o.op = .call { callee := .builtin .append, args := #[s, x], argTypes := #[t, t] }) {l : Nat} (hs : a.eval s = cutV n sv l xs.length) (hx : a.eval x = xv)
    (rd : Rd n w xv ys) (hf : Flat ys) (hpos : 0 < ys.length) (h1 : l ≤ xs.length) (hb : (xs.length - l + ys.length) * bytes ≤ 140737488355328) (hl : xs.length - l + ys.length ≤ maxLen)
    (hk : ∀ v' w', SepL R base w' (hRd2 n sv xs v' (xs.drop l ++ ys) :: L) → wpList P ops Q rest (a.put o.dst v') w') : wpList P ops Q (o :: rest) a w := by
  have own := hS.getOwn
  have oc := own.cutV h1 (Nat.le_refl _)
  have hlen : ((xs.drop l).take (xs.length - l)).length = xs.length - l := by simp
  obtain ⟨v', w', g1, g2, g3, g4, g5⟩ := run_append T o.type oc rd hf (by rw [hlen]; exact hb) (by rw [hlen]; exact hl)
  rw [List.take_of_length_le (by simp)] at g2
  refine wpList_val hgd (v := v') ?_ (hk v' w' (hS.fromOwn (F' := fun k => sblk sv k ∨ sblk v' k) ⟨?_, g2.rd, fun _ => Iff.rfl⟩ (g3.mono fun k _ hk => sblk_cutV k hk) ?_))
  · unfold execOp
    simp [ho, resolve, invoke, builtin, hs, hx, g1]
  · obtain ⟨A, c, rfl, h3, h4⟩ := own.rd.form
    refine ⟨A, c, rfl, h3, h4, own.elen, fun hne => ?_⟩
    obtain ⟨A', c', e', _, _, _, k5⟩ := own.rd
    injection e' with e1 e2 e3
    subst e1
    obtain ⟨b, off, rfl, hc⟩ := k5 hne
    refine ⟨b, off, rfl, g5 b off _ hc fun A m c2 he hb hroom => ?_⟩
    have hcut : Px.cutV n (.slice (some ⟨b, off, none⟩) xs.length c) l xs.length = .slice (cutAddr (some ⟨b, off, none⟩) c l n) (xs.length - l) (c - l) := rfl
    rw [hcut] at he
    injection he with f1 f2 f3
    unfold cutAddr at f1
    rw [flatten_length own.elen]
    split at f1
    · rename_i hcl
      omega
    · simp only [Option.map_some, Option.some.injEq] at f1
      subst f1
      rw [Addr.add_lit, ← f2]
      show off + xs.length * n ≤ off + l * n + (xs.length - l) * n
      rw [Nat.add_assoc, ← Nat.add_mul]
      apply Nat.le_of_eq
      congr 2
      omega
  · rintro k (hk | hk)
    · exact ⟨Nat.lt_of_lt_of_le (own.lt k hk) g3.size, .inl hk⟩
    · refine ⟨g2.lt k hk, ?_⟩
      rcases g4 k hk with h | h
      · exact .inl (sblk_cutV k h)
      · exact .inr (by omega)

/-! ### maps -/
theorem wpS_mput {t k e : TypeId} {z : Value} (T : MapTy P t k e z) {b : Nat} {M : List (Value × Value)} (hS : SepL R base w (.map P k b M :: L)) (hgd : Region.wanted o (yielded ops a.tmps) = true)
    {m i y : Operand} (ho : o.op = .mapUpdate t m i y) (hm : a.eval m = .map (some b)) {x v : Value} (hi : rdOp a i = some x) (hy : rdOp a y = some v) (hx : IsKey P k x)
    (hk : ∀ w', SepL R base w' (.map P k b (mput M x v) :: L) → wpList P ops Q rest (a.put o.dst undef) w') : wpList P ops Q (o :: rest) a w :=
  wpList_mput T hgd ho hm x v (rdOp_eval hi) (rdOp_eval hy) hS.getMap hx fun w' hM hc => hk w' (hS.updMap hM hc)
theorem wpS_mdel {t k e : TypeId} {z : Value} (T : MapTy P t k e z) {b : Nat} {M : List (Value × Value)} (hS : SepL R base w (.map P k b M :: L)) (hgd : Region.wanted o (yielded ops a.tmps) = true)
    {m i : Operand} {ts : Array TypeId} (ho : o.op = .call { callee := .builtin .delete, args := #[m, i], argTypes := ts }) (hts : ts[0]? = some t) (hm : a.eval m = .map (some b)) {x : Value} (hi : rdOp a i = some x) (hx : IsKey P k x)
    (hk : ∀ w', SepL R base w' (.map P k b (mdel M x) :: L) → wpList P ops Q rest (a.put o.dst (.tuple #[])) w') : wpList P ops Q (o :: rest) a w :=
  wpList_mdel T hgd ho hts hm x (rdOp_eval hi) hS.getMap hx fun w' hM hc => hk w' (hS.updMap hM hc)

attribute [irreducible] hRd2
/-! ### calls that change nothing -/
theorem SepL.callNo {f : FuncId} {args : Array Value} {V : Value → World → Prop} (hS : SepL R base w L) (h : Calls P f args w (Ret fun r w' => V r w' ∧ Chg No w w')) : Calls P f args w (Ret fun r w' => V r w' ∧ SepL R base w' L) :=
  Ret.calls h fun _ _ ⟨h1, h2⟩ => ⟨h1, hS.chgNo h2⟩
end
end Go.Px
