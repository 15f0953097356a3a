/- Arrays in memory and as values: for each operation on a place, a piece or a copy it is proved what becomes of the separate parts of memory. Conditions: those that stand ahead of each theorem. -/
import Derived.Test.YtieobcaegegboaaDoorSepOps
import Derived.Test.YtieobcaegegboaaDoorAny9
namespace Go.Px
open Go Go.RowKit
section
variable {P : Program} {R : Nat → Prop} {base : World} {L : List Hp} {ops : Array Oper} {rest : List Oper} {o : Oper} {a : Act} {w : World} {Q : Exit → Act → World → Prop}

/-- an array type of elements of one cell -/
structure ArrTy (P : Program) (t e n : Nat) : Prop where
  ty : P.underlying t = some (.array n e)
  size : ∀ w, (sizeOf e).run P w = .ok 1 w
  one : ∀ w, (isAgg e).run P w = .ok false w
theorem ArrTy.of {t e n : Nat} {d : TypeDesc} (h : P.underlying t = some (.array n e)) (hu : P.underlying e = some d) (hd : (match d with | .struct _ | .array _ _ => false | _ => true) = true) (hi : (P.info? e).map (·.size) = some 1) : ArrTy P t e n :=
  ⟨h, (One.of hu hd hi).size, (One.of hu hd hi).isAgg⟩
/-- the address of a place -/
theorem op_indexArr {t e n : Nat} (T : ArrTy P t e n) {ρ : Operand → Value} {x i : Operand} (ho : o.op = .indexAddr t x i) {b off : Nat} (hx : ρ x = .pointer (some ⟨b, off, none⟩)) {kk : IntKind} {k : Nat} (hi : ρ i = .int kk k) (hk : k < n) :
    (execOp ρ o).run P w = .ok (.value (.pointer (some ⟨b, off + k, none⟩))) w := by
  have h2 : (0 : Int) ≤ k ∧ (k : Int) < n := by omega
  unfold execOp
  simp [ho, hx, hi, Instr.indexAt, asIntOf, Sem.run_bind, run_underlying T.ty, T.size, h2, Instr.sureAddr, Addr.add_lit, hk]
theorem op_indexArrZ {t e n : Nat} (T : ArrTy P t e n) {ρ : Operand → Value} {x i : Operand} (ho : o.op = .indexAddr t x i) {b off : Nat} (hx : ρ x = .pointer (some ⟨b, off, none⟩)) {kk : IntKind} {z : Int} (hi : ρ i = .int kk z) (k : Nat) (hz : z = k) (hk : k < n) :
    (execOp ρ o).run P w = .ok (.value (.pointer (some ⟨b, off + k, none⟩))) w := op_indexArr T ho hx (hz ▸ hi) hk
/-- a place of an array that is a value -/
theorem op_indexV {t e n : Nat} (T : ArrTy P t e n) {ρ : Operand → Value} {x i : Operand} (ho : o.op = .index t x i) {α : Type} {f : α → Value} {us : List α} (hx : ρ x = .agg (us.map f).toArray) (hl : us.length = n) {kk : IntKind} {k : Nat} (hi : ρ i = .int kk k) (hk : k < us.length) :
    (execOp ρ o).run P w = .ok (.value (f us[k])) w := by
  have h2 : (0 : Int) ≤ k ∧ (k : Int) < n := by omega
  unfold execOp
  simp [ho, hx, hi, Instr.index, asIntOf, Sem.run_bind, run_underlying T.ty, T.size, h2, part, T.one, hk]
  intro hh
  omega
/-- a cell of a block, that lies in a row of like ones -/
theorem getF {α : Type} {f : α → Value} {pre post : List Value} {us : List α} {p k : Nat} (hp : pre.length = p) (hk : k < us.length) : (pre ++ us.map f ++ post)[p + k]? = some (f us[k]) := by
  rw [List.append_assoc, List.getElem?_append_right (by omega), hp, Nat.add_sub_cancel_left, List.getElem?_append_left (by simpa using hk), List.getElem?_map, List.getElem?_eq_getElem hk]
  rfl
theorem op_loadF {ρ : Operand → Value} {t : TypeId} (A : One P t) {α : Type} {f : α → Value} {us : List α} {b : Nat} {T : TypeId} (hS : SepL R base w (.blk b T (us.map f) :: L)) {x : Operand} (ho : o.op = .load t x) {off : Nat} (hx : ρ x = .pointer (some ⟨b, off, none⟩)) (hk : off < us.length) :
    (execOp ρ o).run P w = .ok (.value (f us[off])) w :=
  op_load1S A hS ho hx (by rw [List.getElem?_map, List.getElem?_eq_getElem hk]; rfl)
theorem op_loadFF {ρ : Operand → Value} {t : TypeId} (A : One P t) {α : Type} {f : α → Value} {us : List α} {pre post : List Value} {b : Nat} {T : TypeId} (hS : SepL R base w (.blk b T (pre ++ us.map f ++ post) :: L)) {x : Operand} (ho : o.op = .load t x) {off : Nat} (hx : ρ x = .pointer (some ⟨b, off, none⟩)) (k : Nat) (he : off = pre.length + k) (hk : k < us.length) :
    (execOp ρ o).run P w = .ok (.value (f us[k])) w :=
  op_load1S A hS ho hx (by rw [he]; exact getF rfl hk)
theorem wpS_storeF {t : TypeId} (h1 : (P.info? t).map (·.size) = some 1) {α : Type} {f : α → Value} {us : List α} {b off : Nat} {T : TypeId} (hS : SepL R base w (.blk b T (us.map f) :: L)) (hgd : Region.wanted o (yielded ops a.tmps) = true) {x y : Operand} (ho : o.op = .store t x y) (hx : a.eval x = .pointer (some ⟨b, off, none⟩)) {v : α} (hy : a.eval y = f v) (hv : (f v).cells = #[f v]) (hone : (f v).oneCell' = true)
    (hi : off < us.length) (hk : ∀ w', SepL R base w' (.blk b T ((us.set off v).map f) :: L) → wpList P ops Q rest (a.put o.dst undef) w') : wpList P ops Q (o :: rest) a w :=
  wpList_store1 h1 hgd ho hx hy hv hone hS.getBlk (by simpa using hi) fun w' hB hc => hk w' (hS.updBlk (by rw [List.map_set]; exact hB) hc)
/-- a part of a struct or an array is loaded, or stored, whole -/
theorem cut_mid {pre mid post : List Value} : ((pre ++ mid ++ post).drop pre.length).take mid.length = mid := by
  rw [List.append_assoc, List.drop_left, List.take_left]
theorem op_loadMid {ρ : Operand → Value} {t : TypeId} {n : Nat} (A : Agg P t n) {pre mid post : List Value} {b : Nat} {T : TypeId} (hS : SepL R base w (.blk b T (pre ++ mid ++ post) :: L)) {x : Operand} (ho : o.op = .load t x) {off : Nat} (hx : ρ x = .pointer (some ⟨b, off, none⟩)) (he : off = pre.length) (hn : mid.length = n) :
    (execOp ρ o).run P w = .ok (.value (.agg mid.toArray)) w := by
  have hc := hS.getBlk.cells.sub off n
  rw [he, ← hn, cut_mid, Nat.zero_add] at hc
  rw [he] at hx
  exact op_load A ho hx hc hn
theorem wpS_storeMid {t : TypeId} {n : Nat} (A : Agg P t n) {pre mid post : List Value} {b : Nat} {T : TypeId} (hS : SepL R base w (.blk b T (pre ++ mid ++ post) :: L)) (hgd : Region.wanted o (yielded ops a.tmps) = true) {x y : Operand} (ho : o.op = .store t x y) {off : Nat} (hx : a.eval x = .pointer (some ⟨b, off, none⟩)) (he : off = pre.length)
    {vs : List Value} (hy : a.eval y = .agg vs.toArray) (hn : vs.length = n) (hm : mid.length = n) (h1 : ∀ v ∈ vs, v.oneCell' = true)
    (hk : ∀ w', SepL R base w' (.blk b T (pre ++ vs ++ post) :: L) → wpList P ops Q rest (a.put o.dst undef) w') : wpList P ops Q (o :: rest) a w :=
  wpS_storeN A hS hgd ho hx hy hn h1 (by simp; omega) fun w' h => hk w' (by
    have e1 : (pre ++ mid ++ post).take off = pre := by rw [he, List.append_assoc, List.take_left]
    have e2 : (pre ++ mid ++ post).drop (off + n) = post := by rw [he, ← hm, ← List.length_append, List.drop_left]
    rwa [e1, e2] at h)

/-! ### a table that stays as it was -/
structure CIn (R : Nat → Prop) (base : World) (b : Nat) (cs : List Value) : Prop where
  c : Cells base b 0 cs
  ro : R b
theorem SepL.same (h : SepL R base w L) {b : Nat} {cs : List Value} (hc : CIn R base b cs) : w.heap[b]? = base.heap[b]? := h.ro b hc.c.lt hc.ro
theorem SepL.cin (h : SepL R base w L) {b : Nat} {cs : List Value} (hc : CIn R base b cs) : Cells w b 0 cs := hc.c.keep (h.same hc)
theorem op_loadC {ρ : Operand → Value} {t : TypeId} (A : One P t) {α : Type} {f : α → Value} {us : List α} {b : Nat} (hS : SepL R base w L) (hc : CIn R base b (us.map f)) {x : Operand} (ho : o.op = .load t x) {off : Nat} (hx : ρ x = .pointer (some ⟨b, off, none⟩)) (hk : off < us.length) :
    (execOp ρ o).run P w = .ok (.value (f us[off])) w := by
  have := (hS.cin hc).at (j := off) (v := f us[off]) (by rw [List.getElem?_map, List.getElem?_eq_getElem hk]; rfl)
  rw [Nat.zero_add] at this
  exact op_load1 A ho hx this
theorem op_loadCA {ρ : Operand → Value} {t : TypeId} {n : Nat} (A : Agg P t n) {b : Nat} {cs : List Value} (hS : SepL R base w L) (hc : CIn R base b cs) {x : Operand} (ho : o.op = .load t x) (hx : ρ x = .pointer (some ⟨b, 0, none⟩)) (hn : cs.length = n) :
    (execOp ρ o).run P w = .ok (.value (.agg cs.toArray)) w := op_load A ho hx (hS.cin hc) hn
theorem Up.obj {b : Nat} {ob : Obj} : Up (fun w => w.heap[b]? = some ob) := fun _ _ h he => (he b (Array.getElem?_eq_some_iff.1 h).1).trans h

/-! ### bytes of a string -/
theorem flat1 {α : Type} : ∀ xs : List α, (xs.map fun u => [u]).flatten = xs
  | [] => rfl
  | x :: r => by rw [List.map_cons, List.flatten_cons, flat1 r]; rfl
/-- a slice that is only read -/
def hRd (n : Nat) (v : Value) (xs : List (List Value)) : Hp :=
  ⟨fun w F => Rd n w v xs ∧ ∀ k, F k ↔ sblk v k, fun ⟨h1, h2⟩ he => ⟨h1.keep fun k _ hk => he k ((h2 k).2 hk), h2⟩⟩
theorem SepL.rd1 {n : Nat} {v : Value} {xs : List (List Value)} (h : SepL R base w (hRd n v xs :: L)) : Rd n w v xs := let ⟨_, h1⟩ := h.head; h1.1
theorem wpS_bytesOf {src dst e : TypeId} (hs : P.underlying src = some .string) (hd : P.underlying dst = some (.slice e)) (he : P.underlying e = some (.int .u8)) (hS : SepL R base w L) (hgd : Region.wanted o (yielded ops a.tmps) = true) {x : Operand} (ho : o.op = .convert src dst x) {s : ByteArray} (hx : a.eval x = .string s) (hm : s.size ≤ 1000000)
    (hk : ∀ v w', SepL R base w' (hRd 1 v (s.data.toList.map fun b => [Value.int .u8 b.toNat]) :: L) → wpList P ops Q rest (a.put o.dst v) w') : wpList P ops Q (o :: rest) a w := by
  have hr := run_bytes_of_string (P := P) w src dst e s hs hd he
  have hge := grownCap_ge w s.size 0 e
  have hcm : grownCap w s.size 0 e ≤ maxLen := grownCap_le_maxLen w _ 0 e (by simp only [maxLen]; omega)
  generalize hc : grownCap w s.size 0 e = cap at *
  have hlen : (s.data.toList.map fun b => [Value.int .u8 b.toNat]).length = s.size := by
    rw [List.length_map, Array.length_toList]
    rfl
  have hrun : (execOp a.eval o).run P w = .ok (.value (.slice (some ⟨w.heap.size, 0, none⟩) s.size cap)) (w.drew.alloc (.cells (bytesRow s cap) e ((bytesRow s cap).size, (bytesRow s cap).size + 1))) := by
    unfold execOp
    simp only [ho, hx, Sem.run_bind, hr, Result.andThen_ok, Sem.run_pure]
  refine wpList_val hgd hrun (hk _ _ (hS.mk1 (b := hRd 1 _ _) (F' := fun k => k = w.heap.size) (((Chg.refl No w).drew).alloc _) ⟨?_, fun _ => Iff.rfl⟩ ?_))
  · refine ⟨_, cap, by rw [hlen], by rw [hlen]; exact hge, hcm, ?_, fun _ => ⟨w.heap.size, 0, rfl, _, _, _, heap_alloc_new w.drew _, ?_⟩⟩
    · intro q hq
      obtain ⟨b, _, rfl⟩ := List.mem_map.1 hq
      rfl
    · have hfl : (s.data.toList.map fun b => [Value.int .u8 b.toNat]).flatten = s.data.toList.map fun b => Value.int .u8 b.toNat := by
        rw [← flat1 (s.data.toList.map fun b => Value.int .u8 b.toNat), List.map_map]
        rfl
      rw [hfl, List.drop_zero]
      unfold bytesRow
      simp
  · rintro k rfl
    refine ⟨by simp, Nat.le_refl _⟩
attribute [irreducible] hRd

/-! ### a slice of an array of one's own -/
theorem op_sliceArr {t e n : Nat} (T : ArrTy P t e n) {ρ : Operand → Value} {x : Operand} {lo hi : Option Operand} (ho : o.op = .slice t x lo hi none) {b off : Nat} (hx : ρ x = .pointer (some ⟨b, off, none⟩)) {l h : Nat} (hlo : isLo (lo.map ρ) l) (hhi : isHi (hi.map ρ) n h) (h1 : l ≤ h) (h2 : h ≤ n) :
    (execOp ρ o).run P w = .ok (.value (.slice (some ⟨b, if n = l then off else off + l, none⟩) (h - l) (n - l))) w := by
  have hb : (Instr.sliceBounds false n n (lo.map ρ) (hi.map ρ) none).run P w = .ok (l, h, n) w := by
    have b1 : ∀ (c : BoundsCode) (y : Nat), l ≤ y → (Instr.sliceBound (.int .i64 (l : Int)) y c).run P w = .ok l w := fun c y hy => by
      simp [Instr.sliceBound, asIntOf, hy]
    have b2 : ∀ (c : BoundsCode) (y : Nat), h ≤ y → (Instr.sliceBound (.int .i64 (h : Int)) y c).run P w = .ok h w := fun c y hy => by
      simp [Instr.sliceBound, asIntOf, hy]
    rcases hlo with ⟨hlo, rfl⟩ | hlo <;> rcases hhi with ⟨hhi, rfl⟩ | hhi <;> rw [hlo, hhi] <;> simp [Instr.sliceBounds, b1, b2, h1, h2]
  unfold execOp
  simp only [ho, hx, Instr.sliceAt, Sem.run_bind, run_underlying T.ty, Instr.sureAddr, Sem.run_pure, Result.andThen_ok, hb, T.size, Option.map_none, Nat.mul_one, Addr.add_lit]
  split <;> rfl
/-- copy into a piece of an array of one's own -/
theorem wpS_copyArr {dT sT e : TypeId} (hu : P.underlying dT = some (.slice e)) (hs : (P.info? e).map (·.size) = some 1) {b off dl dc : Nat} {T : TypeId} {C : List Value} (hS : SepL R base w (.blk b T C :: L)) (hgd : Region.wanted o (yielded ops a.tmps) = true)
    {x y : Operand} (ho : o.op = .call { callee := .builtin .copy, args := #[x, y], argTypes := #[dT, sT] }) (hx : a.eval x = .slice (some ⟨b, off, none⟩) dl dc) {v : Value} (hy : a.eval y = v) {xs : List Value} (hr : Rd 1 w v (xs.map fun u => [u])) (h1 : ∀ u ∈ xs, u.oneCell' = true) (hfit : off + dl ≤ C.length)
    (hk : ∀ w' k, k = min xs.length dl → SepL R base w' (.blk b T (C.take off ++ xs.take k ++ C.drop (off + k)) :: L) → wpList P ops Q rest (a.put o.dst (.int .i64 k)) w') : wpList P ops Q (o :: rest) a w := by
  obtain ⟨A, c, rfl, h2, h3⟩ := hr.form
  simp only [List.length_map] at *
  have hfl : (xs.map fun u => [u]).flatten = xs := flat1 xs
  rcases A with _ | ad
  · have hx0 : xs = [] := by
      have := hr.src.2.2.2 rfl
      simpa using this
    subst hx0
    refine wpList_val hgd (v := .int .i64 (0 : Nat)) (w' := w) ?_ (hk w 0 (by simp) (by simpa using hS))
    obtain ⟨_, cap, e', g1, g2, g3, _⟩ := hr
    injection e' with e1 e2 e3
    have hsz : ∀ w, (sizeOf e).run P w = .ok 1 w := by
      cases hq : P.info? e with
      | none => simp [hq] at hs
      | some i => simp [hq] at hs; simp [sizeOf, typeInfo, hq, hs]
    unfold execOp
    simp [ho, hx, hy, resolve, invoke, builtin, Builtin.copy_, run_underlying hu, Builtin.lenOf, Builtin.firstCells, hsz, storeCells, goInt]
  · have hsrc := hr.src.2.2.1 ad rfl
    rw [hfl] at hsrc
    have hB : w.heap[b]? = some (.cells C.toArray T (0, 0)) := hS.getBlk
    have hlen : (xs.take (min xs.length dl)).length = min xs.length dl := by simp
    have hrun := run_copy_row (P := P) w dT sT o.type e b off dl dc ad xs.length c C.toArray T (xs.take (min xs.length dl)) hu hs hB hlen (fun j v hj => hsrc j v (by
      rw [List.getElem?_take] at hj
      split at hj
      · exact hj
      · cases hj)) (by rw [hlen, List.size_toArray]; have := Nat.min_le_right xs.length dl; omega) (fun u hu => h1 u (List.mem_of_mem_take hu))
    rw [hlen] at hrun
    refine wpList_val hgd (v := .int .i64 (min xs.length dl : Nat)) ?_ (hk _ (min xs.length dl) rfl (hS.updBlk (by simpa using hS.getBlk.row (C.take off ++ xs.take (min xs.length dl) ++ C.drop (off + min xs.length dl)).toArray) (Chg.setRow (S := fun k => k = b) (Chg.refl _ w) (fun _ => rfl) _)))
    unfold execOp
    simp only [ho, hx, hy, resolve, invoke, builtin, Sem.run_bind, Sem.run_pure, Result.andThen_ok, List.map_toArray, List.map_cons, List.map_nil, hrun, goInt]
    simp only [List.append_assoc]
end
end Go.Px
