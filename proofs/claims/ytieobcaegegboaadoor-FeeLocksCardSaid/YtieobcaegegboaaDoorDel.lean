/- An element or some are cut out of a slice of one's own: append over itself in place, the spare places behind it, clear; and parts of memory made anew beside a list of parts. Conditions: those that stand ahead of each theorem. -/
import Derived.Test.YtieobcaegegboaaDoorSepOps
import Derived.Test.YtieobcaegegboaaDoorRet
namespace Go.Px
open Go Go.RowKit
theorem Rd.cells1 {n : Nat} {w : World} {v : Value} {xs : List (List Value)} (h : Rd n w v xs) : v.cells = #[v] := by
  obtain ⟨A, c, rfl, _⟩ := h.form
  rfl
theorem Rd.one1 {n : Nat} {w : World} {v : Value} {xs : List (List Value)} (h : Rd n w v xs) : v.oneCell' = true := by
  obtain ⟨A, c, rfl, _⟩ := h.form
  rfl
/-- a slice with another length -/
def resz (v : Value) (k : Nat) : Value := match v with
  | .slice A _ c => .slice A k c
  | v => v
def capV (v : Value) : Nat := match v with
  | .slice _ _ c => c
  | _ => 0
theorem sblk_resz (v : Value) (k : Nat) : sblk (resz v k) = sblk v := by
  cases v with
  | slice A l c => cases A <;> rfl
  | _ => rfl
theorem capV_resz (v : Value) (k : Nat) : capV (resz v k) = capV v := by cases v <;> rfl
theorem capV_le {n : Nat} {w : World} {v : Value} {xs : List (List Value)} (h : Rd n w v xs) : xs.length ≤ capV v := by
  obtain ⟨A, c, rfl, h1, _⟩ := h.form
  exact h1
section
variable {P : Program} {R : Nat → Prop} {base : World} {L : List Hp} {ops : Array Oper} {rest : List Oper} {o : Oper} {a : Act} {w : World} {Q : Exit → Act → World → Prop} {ρ : Operand → Value}
/-- s[l:h], h up to the capacity -/
theorem op_cutCap {t e n bytes : Nat} (T : SlTy P t e n bytes) {x : Operand} {lo hi : Option Operand} (ho : o.op = .slice t x lo hi none) {v : Value} (hx : ρ x = v) {xs : List (List Value)} (hr : Rd n w v xs)
    {l h : Nat} (hlo : isLo (lo.map ρ) l) (hhi : isHi (hi.map ρ) xs.length h) (h1 : l ≤ h) (h2 : h ≤ capV v) : (execOp ρ o).run P w = .ok (.value (cutV n v l h)) w := by
  obtain ⟨A, c, rfl, h3, _⟩ := hr.form
  exact op_slice T ho w hx hlo hhi h1 h2
/-- s[l:h:m], of which the value alone is told -/
theorem op_slice3 {t e n bytes : Nat} (T : SlTy P t e n bytes) {x lo hi mx : Operand} (ho : o.op = .slice t x (some lo) (some hi) (some mx)) {v : Value} (hx : ρ x = v) {xs : List (List Value)} (hr : Rd n w v xs)
    {l h m : Nat} (hlo : ρ lo = .int .i64 l) (hhi : ρ hi = .int .i64 h) (hm : ρ mx = .int .i64 m) (h1 : l ≤ h) (h2 : h ≤ m) (h3 : m ≤ capV v) : ∃ u, (execOp ρ o).run P w = .ok (.value u) w := by
  obtain ⟨i, z, hi', hz, hn1, _⟩ := T.info
  have hs : ∀ w, (sizeOf e).run P w = .ok n w := fun w => by simp [sizeOf, typeInfo, hi', hn1]
  obtain ⟨A, c, rfl, h4, _⟩ := hr.form
  have hc : m ≤ c := h3
  have hb : (Instr.sliceBounds true xs.length c (some (.int .i64 l)) (some (.int .i64 h)) (some (.int .i64 m))).run P w = .ok (l, h, m) w := by
    simp [Instr.sliceBounds, Instr.sliceBound, asIntOf, h1, h2, hc]
  unfold execOp
  simp [ho, hx, hlo, hhi, hm, Instr.sliceAt, Instr.slice, run_underlying T.ty, hb, hs]
theorem wpList_slice3 {t e n bytes : Nat} (T : SlTy P t e n bytes) (hgd : Region.wanted o (yielded ops a.tmps) = true) {x lo hi mx : Operand} (ho : o.op = .slice t x (some lo) (some hi) (some mx)) {v : Value} (hx : a.eval x = v) {xs : List (List Value)} (hr : Rd n w v xs)
    {l h m : Nat} (hlo : a.eval lo = .int .i64 l) (hhi : a.eval hi = .int .i64 h) (hm : a.eval mx = .int .i64 m) (h1 : l ≤ h) (h2 : h ≤ m) (h3 : m ≤ capV v) (hk : ∀ u, wpList P ops Q rest (a.put o.dst u) w) : wpList P ops Q (o :: rest) a w := by
  obtain ⟨u, hu⟩ := op_slice3 T ho hx hr hlo hhi hm h1 h2 h3
  exact wpList_val hgd hu (hk u)

/-- s == nil -/
theorem op_eqNil {t e t' : TypeId} (hu : P.underlying t = some (.slice e)) {x y : Operand} (ho : o.op = .binOp .eql t x y t') {A : Option Addr} {m c : Nat} (hx : ρ x = .slice A m c) (hy : ρ y = .slice none 0 0) : (execOp ρ o).run P w = .ok (.value (.bool A.isNone)) w := by
  have h : (Op.equal t (.slice A m c) (.slice none 0 0)).run P w = .ok A.isNone w := by
    unfold Op.equal
    show (Op.equalIn (9999 + 1) _ _ _).run _ _ = _
    unfold Op.equalIn
    cases A <;> simp [Sem.run_bind, run_underlying hu]
  have hg : (eqGuard .eql t x y (.slice A m c) (.slice none 0 0)).run P w = .ok () w := rfl
  unfold execOp
  simp [ho, hx, hy, Sem.run_bind, hg, binOp, h]
theorem run_appendRoom {t e n bytes : Nat} (T : SlTy P t e n bytes) (ty : TypeId) {w : World} {s x : Value} {xs ys : List (List Value)} (hs : Own e n w s xs) (hx : Rd n w x ys) (hf : Flat ys) (hroom : xs.length + ys.length ≤ capV s) :
    ∃ w', (Builtin.append_ #[t, t] ty #[s, x]).run P w = .ok (resz s (xs.length + ys.length)) w' ∧ Own e n w' (resz s (xs.length + ys.length)) (xs ++ ys) ∧ Chg (sblk s) w w' := by
  obtain ⟨i, z, hi, hz, hn1, hz1, hby, hz2⟩ := T.info
  obtain ⟨A, m, c, rfl⟩ : ∃ A m c, x = .slice A m c := by obtain ⟨A, c, e, _⟩ := hx.form; exact ⟨_, _, _, e⟩
  obtain ⟨rfl, hfl, hcell, hnone⟩ := hx.src
  have hone : ∀ u ∈ ys.flatten, u.oneCell' = true := fun u hu => by
    obtain ⟨y, hy, hu⟩ := List.mem_flatten.1 hu
    exact hf y hy u hu
  have helen : ∀ q ∈ xs ++ ys, q.length = n := fun q hq => by
    rcases List.mem_append.1 hq with h | h
    · exact hs.1 q h
    · exact hx.elen q h
  rcases A with _ | ad
  · have hy := hnone rfl
    subst hy
    rcases hs.2 with ⟨rfl, rfl⟩ | ⟨b, off, cap, C, rfl, h3, h4, h5, h6, h7⟩
    · exact ⟨w, by simp [Builtin.append_, run_underlying T.ty, sizeOf, typeInfo, hi, Builtin.lenOf, Builtin.firstCells, resz], by simpa [resz] using hs, Chg.refl _ _⟩
    · exact ⟨w, by simp [Builtin.append_, run_underlying T.ty, sizeOf, typeInfo, hi, Builtin.lenOf, Builtin.firstCells, h3, storeCells, resz], by simpa [resz] using hs, Chg.refl _ _⟩
  · have hnews := hcell ad rfl
    rcases hs.2 with ⟨rfl, rfl⟩ | ⟨b, off, cap, C, rfl, h3, h4, h5, h6, h7⟩
    · have hy : ys = [] := List.eq_nil_of_length_eq_zero (by simp [capV] at hroom; simp [hroom])
      subst hy
      exact ⟨w, by simp [Builtin.append_, run_underlying T.ty, sizeOf, typeInfo, hi, Builtin.lenOf, Builtin.firstCells, loadCells, loadCellsFrom, resz], by simpa [resz] using hs, Chg.refl _ _⟩
    · have hroom' : xs.length + ys.length ≤ cap := hroom
      have hin : off + xs.length * n + ys.flatten.length ≤ C.size := by
        rw [hfl]
        have := Nat.mul_le_mul_right n hroom'
        rw [Nat.add_mul] at this
        omega
      have hfc := run_firstCells_some (P := P) w i.size ys.length ad ys.length c ys.flatten (by rw [hfl, hn1]) hnews
      have hst := run_storeCells_at P b (off + xs.length * n) e ys.flatten 0 C w h5 (by omega) hone
      simp only [Nat.add_zero] at hst
      refine ⟨w.setRow b (C.toList.take (off + xs.length * n) ++ ys.flatten ++ C.toList.drop (off + xs.length * n + ys.flatten.length)).toArray, ?_, ⟨helen, .inr ⟨b, off, cap, (C.toList.take (off + xs.length * n) ++ ys.flatten ++ C.toList.drop (off + xs.length * n + ys.flatten.length)).toArray, by simp [resz], by simpa using hroom', h4, setRow_heap w b C _ e _ h5, ?_, ?_⟩⟩, Chg.setRow (S := sblk (.slice (some ⟨b, off, none⟩) xs.length cap)) (Chg.refl _ w) (g := b) (fun _ => (rfl : b = b)) _⟩
      · rw [← hn1] at hst
        simp [Builtin.append_, run_underlying T.ty, sizeOf, typeInfo, hi, Builtin.lenOf, hroom', hfc, Addr.add_lit, hst, resz]
        rw [hn1]
      · simp only [List.size_toArray, List.length_append, List.length_take, List.length_drop, Array.length_toList]
        omega
      · have e1 : ∀ q : List Value, (C.toList.take (off + xs.length * n) ++ q).drop off = xs.flatten ++ q := by
          intro q
          rw [List.drop_append_of_le_length (by simp; omega), List.drop_take]
          congr 1
          rw [← h7]
          congr 1
          omega
        rw [List.append_assoc, e1, List.flatten_append, List.length_append, Nat.add_mul, ← hfl, ← flatten_length hs.1, ← List.append_assoc, ← List.length_append]
        exact List.take_left
theorem resz_cut0 {n : Nat} {v : Value} {i k : Nat} {w : World} {xs : List (List Value)} (_ : Rd n w v xs) : resz (cutV n v 0 i) k = resz v k := by
  cases v <;> simp [cutV, resz, cutAddr]
  intro h
  rename_i A _ _
  cases A <;> simp [Addr.add]
theorem capV_cut0 {n : Nat} {v : Value} {i : Nat} : capV (cutV n v 0 i) = capV v := by cases v <;> simp [cutV, capV]
theorem cutV_resz (n : Nat) (v : Value) (k l h : Nat) : cutV n (resz v k) l h = cutV n v l h := by cases v <;> rfl
theorem cut0_resz (n : Nat) (v : Value) (i : Nat) : (∃ A l c, v = .slice A l c) → cutV n v 0 i = resz v i := by
  rintro ⟨A, l, c, rfl⟩
  show Value.slice (cutAddr A c 0 n) (i - 0) (c - 0) = .slice A i c
  rw [Nat.sub_zero, Nat.sub_zero]
  congr 1
  unfold cutAddr
  split
  · rfl
  · cases A <;> simp [Addr.add]
theorem SepL.ownTake {T n : Nat} {v : Value} {xs : List (List Value)} (h : SepL R base w (.own T n v xs :: L)) {i : Nat} (hi : i ≤ xs.length) : SepL R base w (.own T n (resz v i) (xs.take i) :: L) := by
  have ho := h.getOwn
  obtain ⟨A, c, e, _⟩ := ho.rd.form
  have h1 := ho.cutV (l := 0) (h := i) (Nat.zero_le _) hi
  rw [cut0_resz n v i ⟨_, _, _, e⟩, List.drop_zero, Nat.sub_zero] at h1
  exact h.updOwn h1 (Chg.refl _ w) fun k hk => .inl (by rw [sblk_resz] at hk; exact hk)
/-- s[:h] of which the place alone is known -/
theorem op_cutForm {t e n bytes : Nat} (T : SlTy P t e n bytes) {x hi : Operand} (ho : o.op = .slice t x none (some hi) none) {v : Value} (hx : ρ x = v) (hf : ∃ A l c, v = .slice A l c)
    {h : Nat} (hhi : ρ hi = .int .i64 h) (h2 : h ≤ capV v) : (execOp ρ o).run P w = .ok (.value (cutV n v 0 h)) w := by
  obtain ⟨A, l, c, rfl⟩ := hf
  exact op_slice T ho w hx (Or.inl ⟨rfl, rfl⟩) (Or.inr (by simp [hhi])) (Nat.zero_le _) h2
/-- append(s[:i], s[j:]...) -/
theorem wpS_appendSelf {t e n bytes : Nat} (T : SlTy P t e n bytes) {v : Value} {xs : List (List Value)} (hS : SepL R base w (.own e n v xs :: L)) (hgd : Region.wanted o (yielded ops a.tmps) = true)
    {s x : Operand} (ho : o.op = .call { callee := .builtin .append, args := #[s, x], argTypes := #[t, t] }) {i j : Nat} (hs : a.eval s = cutV n v 0 i) (hx : a.eval x = cutV n v j xs.length) (hij : i ≤ j) (hj : j ≤ xs.length) (hf : Flat xs)
    (hk : ∀ w', SepL R base w' (.own e n (resz v (i + (xs.length - j))) (xs.take i ++ xs.drop j) :: L) → wpList P ops Q rest (a.put o.dst (resz v (i + (xs.length - j)))) w') : wpList P ops Q (o :: rest) a w := by
  have own := hS.getOwn
  have o1 := own.cutV (l := 0) (h := i) (Nat.zero_le _) (by omega)
  have r1 := own.rd.cutV (l := j) (h := xs.length) hj (Nat.le_refl _)
  rw [List.drop_zero, Nat.sub_zero] at o1
  rw [List.take_of_length_le (by simp)] at r1
  have hl1 : (xs.take i).length = i := by simp; omega
  have hl2 : (xs.drop j).length = xs.length - j := by simp
  obtain ⟨w', h1, h2, h3⟩ := run_appendRoom T o.type o1 r1 (fun q hq => hf q (List.mem_of_mem_drop hq)) (by rw [hl1, hl2, capV_cut0]; have := capV_le own.rd; omega)
  rw [hl1, hl2, resz_cut0 own.rd] at h1 h2
  refine wpList_val hgd ?_ (hk w' (hS.updOwn h2 (h3.mono fun k _ hk => sblk_cutV k hk) fun k hk => .inl ?_))
  · unfold execOp
    simp [ho, resolve, invoke, builtin, hs, hx, h1]
  · rw [sblk_resz] at hk
    exact hk
/-- clear of the places behind a slice's end -/
theorem wpS_clearSpare {t e n bytes : Nat} (T : SlTy P t e n bytes) {z : Value} (hz : ∀ w, (zeroValue e).run P w = .ok z w) {v : Value} {xs : List (List Value)} (hS : SepL R base w (.own e n v xs :: L)) (hgd : Region.wanted o (yielded ops a.tmps) = true)
    {x : Operand} {ts : Array TypeId} (ho : o.op = .call { callee := .builtin .clear, args := #[x], argTypes := ts }) (hts : ts[0]? = some t) {h : Nat} (hx : a.eval x = cutV n v xs.length h) (h1 : xs.length ≤ h) (h2 : h ≤ capV v)
    (hk : ∀ w', SepL R base w' (.own e n v xs :: L) → wpList P ops Q rest (a.put o.dst (.tuple #[])) w') : wpList P ops Q (o :: rest) a w := by
  obtain ⟨i, z', hi, hz', hn1, hz1, hby, hz2⟩ := T.info
  have hzz : z' = z := by
    have e1 := hz w
    unfold zeroValue at e1
    simp [typeInfo, hi, hz'] at e1
    exact e1
  subst hzz
  have own := hS.getOwn
  have triv : (Builtin.clear_ ts o.type #[cutV n v xs.length h]).run P w = .ok (.tuple #[]) w → wpList P ops Q (o :: rest) a w := fun hr => by
    refine wpList_val hgd ?_ (hk w hS)
    unfold execOp
    simp [ho, resolve, invoke, builtin, hx, hr]
  rcases own.2 with ⟨rfl, rfl⟩ | ⟨b, off, cap, C, rfl, h3, h4, h5, h6, h7⟩
  · refine triv ?_
    have : h = 0 := by simp [capV] at h2; exact h2
    subst this
    simp [Builtin.clear_, hts, cutV, run_underlying T.ty, cutAddr]
  · have h2' : h ≤ cap := h2
    rcases Nat.eq_or_lt_of_le h1 with he | hlt
    · refine triv ?_
      subst he
      simp [Builtin.clear_, hts, cutV, run_underlying T.ty]
      cases cutAddr (some ⟨b, off, none⟩) cap xs.length n <;> rfl
    · have hca : cutAddr (some ⟨b, off, none⟩) cap xs.length n = some ⟨b, off + xs.length * n, none⟩ := by
        unfold cutAddr
        rw [if_neg (by omega), Option.map_some, Addr.add_lit]
      have hzs : (Builtin.zeroCells z'.cells (h - xs.length)).toList.length = (h - xs.length) * n := by
        rw [Array.length_toList, size_zeroCells, hz1]
      have hzo : ∀ u ∈ (Builtin.zeroCells z'.cells (h - xs.length)).toList, u.oneCell' = true := by
        intro u hu
        obtain ⟨k, hk, rfl⟩ := List.mem_iff_getElem.1 hu
        simp only [Builtin.zeroCells, Array.getElem_toList, Array.getElem_map, Array.getElem_range] at *
        rw [getElem!_pos z'.cells _ (Nat.mod_lt _ (by rw [hz1]; exact T.pos))]
        exact hz2 _ (by simp)
      have hroom : off + xs.length * n + (h - xs.length) * n ≤ C.size := by
        have e : xs.length * n + (h - xs.length) * n = h * n := by rw [← Nat.add_mul]; congr 1; omega
        have := Nat.mul_le_mul_right n h2'
        omega
      have hst := run_storeCells_at P b (off + xs.length * n) e (Builtin.zeroCells z'.cells (h - xs.length)).toList 0 C w h5 (by rw [hzs]; omega) hzo
      simp only [Nat.add_zero] at hst
      have hne : h - xs.length ≠ 0 := by omega
      refine wpList_val hgd (v := .tuple #[]) (w' := w.setRow b (C.toList.take (off + xs.length * n) ++ (Builtin.zeroCells z'.cells (h - xs.length)).toList ++ C.toList.drop (off + xs.length * n + (Builtin.zeroCells z'.cells (h - xs.length)).toList.length)).toArray) ?_ (hk _ (hS.updOwn ?_ (Chg.setRow (S := sblk (.slice (some ⟨b, off, none⟩) xs.length cap)) (Chg.refl _ w) (g := b) (fun _ => (rfl : b = b)) _) fun k hk => .inl hk))
      · have hcv : cutV n (.slice (some ⟨b, off, none⟩) xs.length cap) xs.length h = .slice (some ⟨b, off + xs.length * n, none⟩) (h - xs.length) (cap - xs.length) := by
          show Value.slice (cutAddr (some ⟨b, off, none⟩) cap xs.length n) _ _ = _
          rw [hca]
        rw [hcv] at hx
        obtain ⟨q, hq⟩ : ∃ q, h - xs.length = q + 1 := ⟨h - xs.length - 1, by omega⟩
        rw [hq] at hx hst ⊢
        unfold execOp
        simp [ho, resolve, invoke, builtin, hx, Builtin.clear_, hts, run_underlying T.ty, hz, hst]
      · refine ⟨own.1, .inr ⟨b, off, cap, _, rfl, h3, h4, setRow_heap w b C _ e _ h5, ?_, ?_⟩⟩
        · simp only [List.size_toArray, List.length_append, List.length_take, List.length_drop, Array.length_toList]
          omega
        · have hsz : off + xs.length * n ≤ C.size := by omega
          rw [List.append_assoc, List.drop_append_of_le_length (by simp; omega), List.drop_take, List.take_append_of_le_length (by simp; omega), List.take_take, ← h7]
          congr 1
          omega

/-! ### a contract that only makes memory, beside a list of parts -/
theorem SepL.frameNew {w' : World} {M : List Hp} (hS : SepL R base w L) (h : SepL All w w' M) : SepL R base w' (M ++ L) :=
  SepL.step (A := []) (B := M) hS fun F hF => by
    obtain ⟨G, h1, h2⟩ := h.ex
    refine ⟨G, h1, h.chg.mono (fun _ _ h => h.elim), fun k hk => ⟨(h2 k hk).1, .inr ?_⟩⟩
    rcases Nat.lt_or_ge k w.heap.size with hlt | hge
    · exact absurd trivial ((h2 k hk).2 hlt)
    · exact hge
theorem SepL.callNew {f : FuncId} {args : Array Value} {V : Value → List Hp → Prop} (hS : SepL R base w L) (h : Calls P f args w (Ret fun r w' => ∃ M, V r M ∧ SepL All w w' M)) : Calls P f args w (Ret fun r w' => ∃ M, V r M ∧ SepL R base w' (M ++ L)) :=
  Ret.calls h fun _ _ ⟨M, h1, h2⟩ => ⟨M, h1, hS.frameNew h2⟩

/-! ### facts without memory -/
def hPure (p : Prop) : Hp := ⟨fun _ F => p ∧ ∀ k, ¬ F k, fun ⟨h, hf⟩ _ => ⟨h, hf⟩⟩
theorem SepL.getPure {p : Prop} (h : SepL R base w (hPure p :: L)) : p := let ⟨_, h1⟩ := h.head; h1.1
theorem SepL.putPure {p : Prop} (h : SepL R base w L) (hp : p) : SepL R base w (hPure p :: L) :=
  h.mk1 (Chg.refl No w) (F' := fun _ => False) ⟨hp, fun _ h => h⟩ (fun _ h => h.elim)
end
attribute [irreducible] resz hPure
end Go.Px
