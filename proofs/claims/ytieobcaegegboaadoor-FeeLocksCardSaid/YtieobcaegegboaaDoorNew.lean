/- For operations that make new memory, write it or cut a slice it is proved what holds in the world behind them. Conditions: those that stand ahead of each theorem. -/
/-
  Laws on single operations that make or change memory, each with the world behind it as a variable. Over any program. No condition is added to any statement here.
-/
import Derived.Test.YtieobcaegegboaaDoorRet
import Derived.Great.BuildSlice
import Derived.Laws.MakeOwn
namespace Go.Px
open Go Go.RowKit

section
variable {P : Program}

theorem chg_alloc (w : World) (o : Obj) : Chg No w (w.alloc o) := (Chg.refl No w).alloc o
/-- a new block of cells -/
theorem wpList_newblk {ops : Array Oper} {rest : List Oper} {o : Oper} {a : Act} {w : World} {Q : Exit → Act → World → Prop} {v : Nat → Value} {cs : Array Value} {T : TypeId} (hgd : Region.wanted o (yielded ops a.tmps) = true)
    (hr : (execOp a.eval o).run P w = .ok (.value (v w.heap.size)) (w.alloc (.cells cs T)))
    (hk : ∀ nb w', Hid (nb = w.heap.size) → w.heap.size ≤ nb → Blk w' nb T cs.toList → Chg No w w' → wpList P ops Q rest (a.put o.dst (v nb)) w') : wpList P ops Q (o :: rest) a w :=
  wpList_val hgd hr (hk _ _ rfl (Nat.le_refl _) (Blk.new w T cs) (chg_alloc w _))
theorem wpList_box {ops : Array Oper} {rest : List Oper} {o : Oper} {a : Act} {w : World} {Q : Exit → Act → World → Prop} (hgd : Region.wanted o (yielded ops a.tmps) = true) {t : TypeId} {x : Operand} (ho : o.op = .box t x) {v : Value} (hx : a.eval x = v)
    (hk : ∀ nb w', Hid (nb = w.heap.size) → w.heap.size ≤ nb → Blk w' nb t v.cells.toList → Chg No w w' → wpList P ops Q rest (a.put o.dst (.pointer (some ⟨nb, 0, none⟩))) w') : wpList P ops Q (o :: rest) a w :=
  wpList_newblk (v := fun nb => .pointer (some ⟨nb, 0, none⟩)) hgd (op_box ho hx) hk
theorem wpList_alloc {ops : Array Oper} {rest : List Oper} {o : Oper} {a : Act} {w : World} {Q : Exit → Act → World → Prop} (hgd : Region.wanted o (yielded ops a.tmps) = true) {t : TypeId} (ho : o.op = .alloc t) {z : Value} (hz : ∀ w, (zeroValue t).run P w = .ok z w)
    (hk : ∀ nb w', Hid (nb = w.heap.size) → w.heap.size ≤ nb → Blk w' nb t z.cells.toList → Chg No w w' → wpList P ops Q rest (a.put o.dst (.pointer (some ⟨nb, 0, none⟩))) w') : wpList P ops Q (o :: rest) a w :=
  wpList_newblk (v := fun nb => .pointer (some ⟨nb, 0, none⟩)) hgd (op_alloc ho hz) hk
/-- '[]T{x}' -/
theorem op_build1 {t e n bytes : Nat} (T : SlTy P t e n bytes) (hn : n ≤ 16777216) {o : Oper} {ρ : Operand → Value} {x : Operand} (ho : o.op = .buildSlice t 1 #[(0, x)]) {w : World} {v : Value} (hx : ρ x = v) (hv : v.cells.size = n) :
    (execOp ρ o).run P w = .ok (.value (.slice (some ⟨w.heap.size, 0, none⟩) 1 1)) (w.alloc (.cells v.cells e)) := by
  obtain ⟨i, z, hi, hz, hn1, hz1, hby, hz2⟩ := T.info
  have hpos := T.pos
  have hf := Great.fill_whole hpos [v] ((Array.range (1 * i.size)).map (z.cells[· % z.cells.size]!)) (by simp [hv]) (by simp [hn1])
  have hr := run_buildSlice (P := P) w t e 1 #[(0, v)] v.cells i z T.ty hi hz (by rw [hn1]; omega) (by rw [hn1]; omega) (by rw [hn1] at hf ⊢; simpa using hf)
  unfold execOp
  simp [ho, hx, hr]
theorem wpList_build1 {t e n bytes : Nat} (T : SlTy P t e n bytes) (hn : n ≤ 16777216) {ops : Array Oper} {rest : List Oper} {o : Oper} {a : Act} {w : World} {Q : Exit → Act → World → Prop} (hgd : Region.wanted o (yielded ops a.tmps) = true) {x : Operand} (ho : o.op = .buildSlice t 1 #[(0, x)]) {v : Value} (hx : a.eval x = v) (hv : v.cells.size = n)
    (hk : ∀ nb w', Hid (nb = w.heap.size) → w.heap.size ≤ nb → Blk w' nb e v.cells.toList → Chg No w w' → wpList P ops Q rest (a.put o.dst (.slice (some ⟨nb, 0, none⟩) 1 1)) w') : wpList P ops Q (o :: rest) a w :=
  wpList_newblk (v := fun nb => .slice (some ⟨nb, 0, none⟩) 1 1) hgd (op_build1 T hn ho hx hv) hk
/-- a block of one element, as a slice -/
theorem Blk.own1 {w : World} {b : Nat} {e n : Nat} {x : List Value} (h : Blk w b e x) (hn : x.length = n) : Own e n w (.slice (some ⟨b, 0, none⟩) 1 1) [x] :=
  ⟨by simpa using hn, .inr ⟨b, 0, 1, x.toArray, rfl, by simp, by simp [maxLen], h, by simp [hn], by simp [← hn]⟩⟩

theorem madeCells_whole (z : Value) (k : Nat) : (madeCells z.cells (k * z.cells.size)).toList = (List.replicate k z.cells.toList).flatten := by
  unfold madeCells
  rw [Array.toList_map, Array.toList_range]
  induction k with
  | zero => simp
  | succ k ih =>
    rw [Nat.add_mul, Nat.one_mul, List.range_add, List.map_append, ih, List.replicate_succ', List.flatten_append]
    congr 1
    rw [List.flatten_cons, List.flatten_nil, List.append_nil, List.map_map]
    apply List.ext_getElem?
    intro j
    rw [List.getElem?_map]
    rcases Nat.lt_or_ge j z.cells.size with hj | hj
    · rw [List.getElem?_range hj]
      simp [Nat.mod_eq_of_lt hj, hj]
    · rw [List.getElem?_eq_none (by simpa using hj), List.getElem?_eq_none (by simpa using hj)]
      rfl
/-- 'make([]T, l, c)' -/
theorem wpList_make {t e n bytes : Nat} (T : SlTy P t e n bytes) {zs : List Value} (hzs : ∀ i z, P.info? e = some i → i.zero = some z → z.cells.toList = zs) {ops : Array Oper} {rest : List Oper} {o : Oper} {a : Act} {w : World} {Q : Exit → Act → World → Prop} (hgd : Region.wanted o (yielded ops a.tmps) = true) {x y : Operand} (ho : o.op = .makeSlice t x y)
    {l c : Nat} (hx : a.eval x = .int .i64 l) (hy : a.eval y = .int .i64 c) (hlc : l ≤ c) (hb : bytes * c ≤ 281474976710656) (h63 : c ≤ 9223372036854775807)
    (hk : ∀ v w', Own e n w' v (List.replicate l zs) → (∀ k, sblk v k → w.heap.size ≤ k) → Chg No w w' → wpList P ops Q rest (a.put o.dst v) w') : wpList P ops Q (o :: rest) a w := by
  obtain ⟨i, z, hi, hz, hn1, hz1, hby, hz2⟩ := T.info
  have hr := run_make (P := P) w t e i z T.ty hi hz .i64 .i64 l c (by omega) (by omega) (by rw [hby]; have : ((bytes * c : Nat) : Int) ≤ 281474976710656 := by omega
                                                                                            rwa [Int.natCast_mul] at this) (by omega)
  simp only [Int.toNat_natCast] at hr
  have hz3 := hzs i z hi hz
  have hzl : zs.length = n := by rw [← hz3]; simpa using hz1
  have hmc : (madeCells z.cells (c * i.size)).toList = (List.replicate c zs).flatten := by
    have := madeCells_whole z c
    rw [hz1] at this
    rw [hn1, this, hz3]
  have hml : (madeCells z.cells (c * i.size)).size = c * n := by
    rw [← Array.length_toList, hmc, List.length_flatten]
    simp [hzl]
  refine wpList_val hgd (v := .slice (some ⟨w.heap.size, 0, none⟩) l c) (w' := w.alloc (.cells (madeCells z.cells (c * i.size)) e)) ?_ (hk _ _ ?_ ?_ (chg_alloc w _))
  · unfold execOp
    simp [ho, hx, hy, hr]
  · refine ⟨fun q hq => by rw [List.eq_of_mem_replicate hq]; exact hzl, .inr ⟨w.heap.size, 0, c, _, by simp, by simpa using hlc, by simp only [maxLen]; omega, heap_alloc_new w _, by rw [hml]; omega, ?_⟩⟩
    rw [List.drop_zero, hmc, List.length_replicate]
    have := flatten_take (n := n) (xs := List.replicate c zs) l (fun q hq => by rw [List.eq_of_mem_replicate hq]; exact hzl)
    rw [← this, List.take_replicate, Nat.min_eq_left hlc]
  · intro k hk
    cases hk
    exact Nat.le_refl _
theorem wpList_makeMap {t k e : TypeId} {z : Value} (_ : MapTy P t k e z) {ops : Array Oper} {rest : List Oper} {o : Oper} {a : Act} {w : World} {Q : Exit → Act → World → Prop} (hgd : Region.wanted o (yielded ops a.tmps) = true) (ho : o.op = .makeMap t none)
    (hk : ∀ nb w', w.heap.size ≤ nb → MapAt P k w' nb [] → Chg No w w' → wpList P ops Q rest (a.put o.dst (.map (some nb))) w') : wpList P ops Q (o :: rest) a w := by
  refine wpList_val hgd (v := .map (some w.heap.size)) (w' := w.alloc (.map #[] 0)) ?_ (hk _ _ (Nat.le_refl _) (MapAt.new w) (chg_alloc w _))
  unfold execOp
  simp [ho, run_makeMap]

/-- one cell of a block is written -/
theorem op_store1 {t : TypeId} (h1 : (P.info? t).map (·.size) = some 1) {o : Oper} {ρ : Operand → Value} {x y : Operand} (ho : o.op = .store t x y) {w : World} {b i : Nat} (hx : ρ x = .pointer (some ⟨b, i, none⟩)) {v : Value} (hy : ρ y = v) (hv : v.cells = #[v]) (hone : v.oneCell' = true)
    {T : TypeId} {C : List Value} (hb : Blk w b T C) (hi : i < C.length) : (execOp ρ o).run P w = .ok .skip (w.setRow b (C.set i v).toArray) := by
  have hs : (sizeOf t).run P w = .ok 1 w := by
    cases hq : P.info? t with
    | none => simp [hq] at h1
    | some j => simp [hq] at h1; simp [sizeOf, typeInfo, hq, h1]
  have hst := run_storeCells_at P b i T [v] 0 C.toArray w hb (by simp; omega) (by simpa using hone)
  simp only [Nat.add_zero] at hst
  unfold execOp
  simp [ho, hx, hy, Instr.storeAt, Instr.sureAddr, storeVar, hs, hv, hst]
  congr 2
  rw [List.set_eq_take_append_cons_drop, if_pos hi]
theorem wpList_store1 {t : TypeId} (h1 : (P.info? t).map (·.size) = some 1) {ops : Array Oper} {rest : List Oper} {o : Oper} {a : Act} {w : World} {Q : Exit → Act → World → Prop} (hgd : Region.wanted o (yielded ops a.tmps) = true) {x y : Operand} (ho : o.op = .store t x y) {b i : Nat} (hx : a.eval x = .pointer (some ⟨b, i, none⟩)) {v : Value} (hy : a.eval y = v) (hv : v.cells = #[v]) (hone : v.oneCell' = true)
    {T : TypeId} {C : List Value} (hb : Blk w b T C) (hi : i < C.length)
    (hk : ∀ w', Blk w' b T (C.set i v) → Chg (fun k => k = b) w w' → wpList P ops Q rest (a.put o.dst undef) w') : wpList P ops Q (o :: rest) a w :=
  wpList_skp hgd (op_store1 h1 ho hx hy hv hone hb hi) (hk _ (by simpa using hb.row (C.set i v).toArray) (Chg.setRow (S := fun k => k = b) (Chg.refl _ w) (fun _ => rfl) _))
/-- several cells of a block -/
theorem wpList_storeN {t : TypeId} {n : Nat} (A : Agg P t n) {ops : Array Oper} {rest : List Oper} {o : Oper} {a : Act} {w : World} {Q : Exit → Act → World → Prop} (hgd : Region.wanted o (yielded ops a.tmps) = true) {x y : Operand} (ho : o.op = .store t x y) {b off : Nat} (hx : a.eval x = .pointer (some ⟨b, off, none⟩))
    {vs : List Value} (hy : a.eval y = .agg vs.toArray) (hn : vs.length = n) (h1 : ∀ v ∈ vs, v.oneCell' = true) {T : TypeId} {C : List Value} (hb : Blk w b T C) (hfit : off + n ≤ C.length)
    (hk : ∀ w', Blk w' b T (C.take off ++ vs ++ C.drop (off + n)) → Chg (fun k => k = b) w w' → wpList P ops Q rest (a.put o.dst undef) w') : wpList P ops Q (o :: rest) a w :=
  wpList_skp hgd (op_store A ho hx hy (by simpa using hn) (by simpa using h1) hb hfit) (hk _ (by simpa using hb.row (C.take off ++ vs ++ C.drop (off + n)).toArray) (Chg.setRow (S := fun k => k = b) (Chg.refl _ w) (fun _ => rfl) _))
/-- all of a block -/
theorem wpList_storeAll {t : TypeId} {n : Nat} (A : Agg P t n) {ops : Array Oper} {rest : List Oper} {o : Oper} {a : Act} {w : World} {Q : Exit → Act → World → Prop} (hgd : Region.wanted o (yielded ops a.tmps) = true) {x y : Operand} (ho : o.op = .store t x y) {b : Nat} (hx : a.eval x = .pointer (some ⟨b, 0, none⟩))
    {vs : List Value} (hy : a.eval y = .agg vs.toArray) (hn : vs.length = n) (h1 : ∀ v ∈ vs, v.oneCell' = true) {T : TypeId} {C : List Value} (hb : Blk w b T C) (hfit : C.length = n)
    (hk : ∀ w', Blk w' b T vs → Chg (fun k => k = b) w w' → wpList P ops Q rest (a.put o.dst undef) w') : wpList P ops Q (o :: rest) a w :=
  wpList_storeN A hgd ho hx hy hn h1 hb (by omega) fun w' h => hk w' (by
    rw [List.take_zero, List.nil_append, List.drop_eq_nil_of_le (by omega), List.append_nil] at h
    exact h)

theorem flatten_set {n : Nat} : ∀ {xs : List (List Value)} (k : Nat) (x : List Value), (∀ x ∈ xs, x.length = n) → x.length = n → k < xs.length → (xs.set k x).flatten = xs.flatten.take (k * n) ++ x ++ xs.flatten.drop (k * n + n)
  | [], k, x, _, _, hk => by simp at hk
  | y :: r, 0, x, h, hx, _ => by
    have hy : y.length = n := h y (by simp)
    simp [← hy]
  | y :: r, k + 1, x, h, hx, hk => by
    have hy : y.length = n := h y (by simp)
    rw [List.set_cons_succ, List.flatten_cons, flatten_set (xs := r) k x (fun z hz => h z (by simp [hz])) hx (by simpa using hk), List.flatten_cons]
    rw [List.take_append, List.drop_append, Nat.add_mul, Nat.one_mul, List.take_of_length_le (l := y) (by omega), List.drop_eq_nil_of_le (as := y) (by omega), hy, List.nil_append]
    have e1 : k * n + n - n = k * n := by omega
    have e2 : k * n + n + n - n = k * n + n := by omega
    rw [e1, e2]
    simp [List.append_assoc]
/-- an element of a slice is written -/
theorem wpList_storeAt {t : TypeId} {n : Nat} (A : Agg P t n) {ops : Array Oper} {rest : List Oper} {o : Oper} {a : Act} {w : World} {Q : Exit → Act → World → Prop} (hgd : Region.wanted o (yielded ops a.tmps) = true) {x y : Operand} (ho : o.op = .store t x y) {e b off len cap k : Nat} (hx : a.eval x = .pointer (some ⟨b, off + k * n, none⟩))
    {vs : List Value} (hy : a.eval y = .agg vs.toArray) (hn : vs.length = n) (h1 : ∀ v ∈ vs, v.oneCell' = true) {xs : List (List Value)} (own : Own e n w (.slice (some ⟨b, off, none⟩) len cap) xs) (hk1 : k < xs.length)
    (hk : ∀ w', Own e n w' (.slice (some ⟨b, off, none⟩) len cap) (xs.set k vs) → Chg (fun k => k = b) w w' → wpList P ops Q rest (a.put o.dst undef) w') : wpList P ops Q (o :: rest) a w := by
  obtain ⟨hl, h2⟩ := own
  rcases h2 with ⟨h2, _⟩ | ⟨b', off', cap', C, hv, h3, h4, h5, h6, h7⟩
  · cases h2
  · injection hv with e1 e2 e3
    injection e1 with e1
    injection e1 with e1 e4 _
    subst e1; subst e2; subst e3; subst e4
    have hmul : (k + 1) * n ≤ cap * n := Nat.mul_le_mul_right n (by omega)
    rw [Nat.add_mul, Nat.one_mul] at hmul
    have hmul2 : (k + 1) * n ≤ xs.length * n := Nat.mul_le_mul_right n (by omega)
    rw [Nat.add_mul, Nat.one_mul] at hmul2
    have hb : Blk w b e C.toList := by unfold Blk; simpa using h5
    refine wpList_storeN A hgd ho hx hy hn h1 hb (by simp; omega) fun w' hB hC => hk w' ⟨fun q hq => ?_, .inr ⟨b, off, cap, _, by simp, by simpa using h3, h4, hB, ?_, ?_⟩⟩ hC
    · rcases List.mem_or_eq_of_mem_set hq with h | h
      · exact hl q h
      · rw [h]; exact hn
    · simp only [List.size_toArray, List.length_append, List.length_take, List.length_drop, Array.length_toList]
      omega
    · rw [List.length_set, flatten_set k vs hl hn hk1, ← h7]
      apply List.ext_getElem?
      intro j
      simp only [List.getElem?_take, List.getElem?_drop, List.getElem?_append, List.length_take, List.length_drop, List.length_append, Array.length_toList, hn]
      have em1 : min (k * n) (min (xs.length * n) (C.size - off)) = k * n := by omega
      have em2 : min (off + k * n) C.size = off + k * n := by omega
      rw [em1, em2]
      rcases Nat.lt_or_ge j (xs.length * n) with hj | hj
      · rcases Nat.lt_or_ge j (k * n) with hj3 | hj3
        · have c1 : off + j < off + k * n + n := by omega
          have c2 : off + j < off + k * n := by omega
          have c3 : j < k * n + n := by omega
          simp only [c1, c2, c3, hj, hj3, if_true]
        · rcases Nat.lt_or_ge j (k * n + n) with hj2 | hj2
          · have c1 : off + j < off + k * n + n := by omega
            have c2 : ¬ off + j < off + k * n := by omega
            have c3 : ¬ j < k * n := by omega
            have c4 : off + j - (off + k * n) = j - k * n := by omega
            simp only [c1, c2, c3, c4, hj, hj2, if_true, if_false]
          · have c1 : ¬ off + j < off + k * n + n := by omega
            have c2 : ¬ j < k * n + n := by omega
            have c4 : off + k * n + n + (off + j - (off + k * n + n)) = off + j := by omega
            have c5 : k * n + n + (j - (k * n + n)) = j := by omega
            simp only [c1, c2, c4, c5, hj, if_true, if_false]
      · have c1 : ¬ off + j < off + k * n + n := by omega
        have c2 : ¬ j < k * n + n := by omega
        have c5 : k * n + n + (j - (k * n + n)) = j := by omega
        have c6 : ¬ j < xs.length * n := by omega
        simp only [c2, c5, c6, if_false]

/-! ### slices of slices -/
def isLo (lo : Option Value) (l : Nat) : Prop := (lo = none ∧ l = 0) ∨ lo = some (.int .i64 l)
def isHi (hi : Option Value) (len h : Nat) : Prop := (hi = none ∧ h = len) ∨ hi = some (.int .i64 h)
def cutAddr (A : Option Addr) (cap l n : Nat) : Option Addr := if cap = l then A else A.map (·.add (l * n))
theorem run_sliceAt {t e n : Nat} (ht : P.underlying t = some (.slice e)) (hs : ∀ w, (sizeOf e).run P w = .ok n w) (w : World) (A : Option Addr) (len cap l h : Nat) {lo hi : Option Value} (hlo : isLo lo l) (hhi : isHi hi len h) (h1 : l ≤ h) (h2 : h ≤ cap) :
    (Instr.sliceAt t (.slice A len cap) lo hi none).run P w = .ok (.slice (cutAddr A cap l n) (h - l) (cap - l)) w := by
  have hb : (Instr.sliceBounds true len cap lo hi none).run P w = .ok (l, h, cap) w := by
    have b1 : ∀ (c : BoundsCode) (y : Nat), l ≤ y → (Instr.sliceBound (.int .i64 (l : Int)) y c).run P w = .ok l w := fun c y hy => by
      simp [Instr.sliceBound, asIntOf, hy]
    have b2 : ∀ (c : BoundsCode) (y : Nat), h ≤ y → (Instr.sliceBound (.int .i64 (h : Int)) y c).run P w = .ok h w := fun c y hy => by
      simp [Instr.sliceBound, asIntOf, hy]
    rcases hlo with ⟨rfl, rfl⟩ | rfl <;> rcases hhi with ⟨rfl, rfl⟩ | rfl <;> simp [Instr.sliceBounds, b1, b2, h1, h2]
  simp [Instr.sliceAt, Instr.slice, run_underlying ht, hb, hs, cutAddr]
theorem Rd.cut {n : Nat} {w : World} {A : Option Addr} {len cap : Nat} {xs : List (List Value)} (hr : Rd n w (.slice A len cap) xs) {l h : Nat} (h1 : l ≤ h) (h2 : h ≤ xs.length) :
    Rd n w (.slice (cutAddr A cap l n) (h - l) (cap - l)) ((xs.drop l).take (h - l)) := by
  obtain ⟨A', cap', e, g1, g2, g3, g4⟩ := hr
  injection e with e1 e2 e3
  subst e1; subst e3
  have hl : ((xs.drop l).take (h - l)).length = h - l := by simp; omega
  refine ⟨_, _, by rw [hl], by rw [hl]; omega, by omega, fun x hx => g3 x (List.mem_of_mem_drop (List.mem_of_mem_take hx)), fun hne => ?_⟩
  have hlt : l < h := by
    rcases Nat.lt_or_ge l h with h' | h'
    · exact h'
    · exfalso; apply hne; apply List.eq_nil_of_length_eq_zero; rw [hl]; omega
  obtain ⟨b, off, hA, hc⟩ := g4 (by rintro rfl; simp at h2; omega)
  refine ⟨b, off + l * n, ?_, ?_⟩
  · unfold cutAddr
    rw [if_neg (by omega), hA]
    simp [Addr.add_lit]
  · have := hc.sub (l * n) ((h - l) * n)
    rw [← flatten_drop l g3, ← flatten_take (h - l) (fun x hx => g3 x (List.mem_of_mem_drop hx))] at this
    exact this
theorem Own.cut {T n : Nat} {w : World} {A : Option Addr} {len cap : Nat} {xs : List (List Value)} (hr : Own T n w (.slice A len cap) xs) {l h : Nat} (h1 : l ≤ h) (h2 : h ≤ xs.length) :
    Own T n w (.slice (cutAddr A cap l n) (h - l) (cap - l)) ((xs.drop l).take (h - l)) := by
  obtain ⟨g3, g⟩ := hr
  have hl : ((xs.drop l).take (h - l)).length = h - l := by simp; omega
  refine ⟨fun x hx => g3 x (List.mem_of_mem_drop (List.mem_of_mem_take hx)), ?_⟩
  rcases g with ⟨g, rfl⟩ | ⟨b, off, cap', C, e, k3, k4, k5, k6, k7⟩
  · injection g with e1 e2 e3
    subst e1; subst e3
    simp at h2
    subst h2
    have : l = 0 := by omega
    subst this
    exact .inl ⟨rfl, by simp⟩
  · injection e with e1 e2 e3
    subst e1; subst e3
    refine .inr ⟨b, if cap = l then off else off + l * n, cap - l, C, ?_, by rw [hl]; omega, by omega, k5, ?_, ?_⟩
    · rw [hl]
      unfold cutAddr
      split <;> simp [Addr.add_lit]
    · have hm := Nat.sub_mul cap l n
      have hm2 : l * n ≤ cap * n := Nat.mul_le_mul_right n (by omega)
      split <;> omega
    · rw [hl]
      rcases Nat.lt_or_ge l h with hlt | hge
      · rw [if_neg (by omega), flatten_take (h - l) (fun x hx => g3 x (List.mem_of_mem_drop hx)), flatten_drop l g3, ← k7, ← List.drop_drop, List.drop_take, List.take_take]
        congr 1
        have : (h - l) * n + l * n ≤ xs.length * n := by rw [← Nat.add_mul]; exact Nat.mul_le_mul_right n (by omega)
        omega
      · have hz : h - l = 0 := by omega
        rw [hz]
        simp
theorem sblk_cut {A : Option Addr} {len cap l n m c : Nat} : ∀ k, sblk (.slice (cutAddr A cap l n) m c) k → sblk (.slice A len cap) k := by
  intro k hk
  unfold cutAddr at hk
  split at hk
  · cases A <;> exact hk
  · cases A with
    | none => exact hk
    | some a =>
      simp only [Option.map_some, sblk] at hk
      rw [hk]
      unfold sblk Addr.add
      split <;> rfl
theorem op_slice {t e n bytes : Nat} (T : SlTy P t e n bytes) {o : Oper} {ρ : Operand → Value} {x : Operand} {lo hi : Option Operand} (ho : o.op = .slice t x lo hi none) (w : World) {A : Option Addr} {len cap : Nat} (hx : ρ x = .slice A len cap)
    {l h : Nat} (hlo : isLo (lo.map ρ) l) (hhi : isHi (hi.map ρ) len h) (h1 : l ≤ h) (h2 : h ≤ cap) : (execOp ρ o).run P w = .ok (.value (.slice (cutAddr A cap l n) (h - l) (cap - l))) w := by
  obtain ⟨i, z, hi, hz, hn1, _⟩ := T.info
  have hs : ∀ w, (sizeOf e).run P w = .ok n w := fun w => by simp [sizeOf, typeInfo, hi, hn1]
  unfold execOp
  simp [ho, hx, run_sliceAt T.ty hs w A len cap l h hlo hhi h1 h2]

/-! ### maps, with the world behind as a variable -/
theorem chg_setObjAt (w : World) (b : Nat) (o : Obj) : Chg (fun k => k = b) w (setObjAt w b o) := Chg.setObjAt (S := fun k => k = b) (Chg.refl _ w) (fun _ => rfl) o
theorem wpList_mput {t k e : TypeId} {z : Value} (T : MapTy P t k e z) {ops : Array Oper} {rest : List Oper} {o : Oper} {a : Act} {w : World} {Q : Exit → Act → World → Prop} (hgd : Region.wanted o (yielded ops a.tmps) = true)
    {m i y : Operand} (ho : o.op = .mapUpdate t m i y) {b : Nat} (hm : a.eval m = .map (some b)) (x v : Value) (hi : a.eval i = x) (hy : a.eval y = v) {M : List (Value × Value)} (h : MapAt P k w b M) (hx : IsKey P k x)
    (hk : ∀ w', MapAt P k w' b (mput M x v) → Chg (fun k => k = b) w w' → wpList P ops Q rest (a.put o.dst undef) w') : wpList P ops Q (o :: rest) a w :=
  wpList_mapUpdate T hgd ho hm hi hy h hx fun ob hM => hk _ hM (chg_setObjAt w b ob)
theorem wpList_mdel {t k e : TypeId} {z : Value} (T : MapTy P t k e z) {ops : Array Oper} {rest : List Oper} {o : Oper} {a : Act} {w : World} {Q : Exit → Act → World → Prop} (hgd : Region.wanted o (yielded ops a.tmps) = true)
    {m i : Operand} {ts : Array TypeId} (ho : o.op = .call { callee := .builtin .delete, args := #[m, i], argTypes := ts }) (hts : ts[0]? = some t) {b : Nat} (hm : a.eval m = .map (some b)) (x : Value) (hi : a.eval i = x)
    {M : List (Value × Value)} (h : MapAt P k w b M) (hx : IsKey P k x)
    (hk : ∀ w', MapAt P k w' b (mdel M x) → Chg (fun k => k = b) w w' → wpList P ops Q rest (a.put o.dst (.tuple #[])) w') : wpList P ops Q (o :: rest) a w :=
  wpList_delete T hgd ho hts hm hi h hx fun ob hM => hk _ hM (chg_setObjAt w b ob)

/-- '[]T{..}', every place written -/
theorem wpList_buildL {t e n bytes : Nat} (T : SlTy P t e n bytes) {ops : Array Oper} {rest : List Oper} {o : Oper} {a : Act} {w : World} {Q : Exit → Act → World → Prop} (hgd : Region.wanted o (yielded ops a.tmps) = true) {len : Nat} {parts : Array (Nat × Operand)} (ho : o.op = .buildSlice t len parts)
    (vs : List Value) (hp0 : parts.toList.map (fun p => (p.1, a.eval p.2)) = (vs.zipIdx 0).map fun x => (x.2, x.1)) (hl : len = vs.length) (hpos : 0 < len) (hsm : len * n ≤ 16777216) (hv : ∀ v ∈ vs, v.cells.size = n)
    (hk : ∀ v w', Own e n w' v (vs.map fun v => v.cells.toList) → (∀ k, sblk v k → w.heap.size ≤ k) → Chg No w w' → wpList P ops Q rest (a.put o.dst v) w') : wpList P ops Q (o :: rest) a w := by
  obtain ⟨i, z, hi, hz, hn1, hz1, hby, hz2⟩ := T.info
  have hpn := T.pos
  have hp : (parts.map fun (i, x) => (i, a.eval x)).toList = (vs.zipIdx 0).map fun x => (x.2, x.1) := by rw [Array.toList_map]; exact hp0
  subst hl
  have hf := Great.fill_whole hpn vs ((Array.range (vs.length * i.size)).map (z.cells[· % z.cells.size]!)) hv (by simp [hn1])
  have hpos2 : 0 < vs.length * i.size := by rw [hn1]; exact Nat.mul_pos hpos hpn
  have hr := run_buildSlice (P := P) w t e vs.length (parts.map fun (i, x) => (i, a.eval x)) (vs.flatMap fun v => v.cells.toList).toArray i z T.ty hi hz (by rw [hn1]; omega) (by omega) (by rw [hp, hn1]; rw [hn1] at hf; exact hf)
  refine wpList_val hgd (v := .slice (some ⟨w.heap.size, 0, none⟩) vs.length vs.length) (w' := w.alloc (.cells (vs.flatMap fun v => v.cells.toList).toArray e)) ?_ (hk _ _ ?_ ?_ (chg_alloc w _))
  · unfold execOp
    simp only [ho, hr, Sem.run_bind, Result.andThen_ok, Sem.run_pure]
  · have hel : ∀ x ∈ vs.map (fun v => v.cells.toList), x.length = n := by
      intro x hx
      obtain ⟨v, hv', rfl⟩ := List.mem_map.1 hx
      simpa using hv v hv'
    have hfl : (vs.map fun v => v.cells.toList).flatten = vs.flatMap fun v => v.cells.toList := by rw [List.flatMap_def]
    have hlen := flatten_length hel
    rw [List.length_map, hfl] at hlen
    have hml : vs.length ≤ maxLen := by
      have : vs.length * 1 ≤ vs.length * n := Nat.mul_le_mul_left _ hpn
      simp only [maxLen]; omega
    refine ⟨hel, .inr ⟨w.heap.size, 0, vs.length, _, by simp, by simp, hml, heap_alloc_new w _, ?_, ?_⟩⟩
    · simp only [List.size_toArray]; omega
    · rw [List.length_map, List.drop_zero, hfl, ← hlen, List.take_length]
  · intro k hk'
    cases hk'
    exact Nat.le_refl _
theorem op_build {o : Oper} {ρ : Operand → Value} {t : TypeId} {parts : Array (Nat × Operand)} (ho : o.op = .build t parts) {ps : Array (Nat × Value)} (hp0 : parts.toList.map (fun p => (p.1, ρ p.2)) = ps.toList) {v : Value} (h : ∀ w, (Instr.build t ps).run P w = .ok v w) (w : World) :
    (execOp ρ o).run P w = .ok (.value v) w := by
  have hp : (parts.map fun (i, x) => (i, ρ x)) = ps := by
    apply Array.toList_inj.1
    rw [Array.toList_map]; exact hp0
  unfold execOp
  simp only [ho, hp, h, Sem.run_bind, Result.andThen_ok, Sem.run_pure]
end
end Go.Px
