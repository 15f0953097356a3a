/- A field of an element of a slice of structs: its address, what is read there, one cell written there. Conditions: those that stand ahead of each theorem. -/
import Derived.Test.YtieobcaegegboaaDoorCell
namespace Go.Px
open Go Go.RowKit
/-- the address of cell j of a slice's place k (elements of n cells) -/
def fldAt (n : Nat) (v : Value) (k j : Nat) : Value := match v with
  | .slice (some x) _ _ => .pointer (some (x.add (k * n + j)))
  | _ => undef
/-- field f of struct s begins at cell j -/
def fldB (P : Program) (s : TypeId) (f j : Nat) : Bool := match P.underlying s with
  | some (.struct fs) => (match fs[f]? with | some fd => (match P.info? fd.type with | some i => i.size != 0 && fd.offset == j | none => false) | none => false)
  | _ => false
theorem flatten_set1 {n : Nat} (u : Value) : ∀ {xs : List (List Value)} (k j : Nat), (∀ x ∈ xs, x.length = n) → (hk : k < xs.length) → j < n → (xs.set k (xs[k].set j u)).flatten = xs.flatten.set (k * n + j) u
  | [], k, _, _, hk, _ => by simp at hk
  | y :: r, 0, j, h, _, hj => by
    have hy : y.length = n := h y (by simp)
    simp only [List.set_cons_zero, List.flatten_cons, List.getElem_cons_zero, Nat.zero_mul, Nat.zero_add]
    rw [List.set_append_left _ _ (by omega)]
  | y :: r, k + 1, j, h, hk, hj => by
    have hy : y.length = n := h y (by simp)
    have hk' : k < r.length := by simpa using hk
    simp only [List.set_cons_succ, List.flatten_cons, List.getElem_cons_succ]
    rw [flatten_set1 u k j (fun x hx => h x (by simp [hx])) hk' hj, List.set_append_right _ _ (by rw [hy, Nat.add_mul]; omega), hy, Nat.add_mul]
    congr 2
    omega
section
variable {P : Program} {R : Nat → Prop} {base w : World} {L : List Hp} {ops : Array Oper} {Q : Exit → Act → World → Prop} {rest : List Oper} {a : Act} {o : Oper}
theorem op_fieldAddrE {s : TypeId} {f j : Nat} (hf : fldB P s f j = true) {ρ : Operand → Value} {x : Operand} (ho : o.op = .fieldAddr s x f) {n k : Nat} {v : Value} (hx : ρ x = elAt n v k) {xs : List (List Value)} (hr : Rd n w v xs) (hk : k < xs.length) :
    (execOp ρ o).run P w = .ok (.value (fldAt n v k j)) w := by
  obtain ⟨A, c, rfl, _⟩ := hr.form
  obtain ⟨b, off, rfl, _⟩ := hr.at (List.getElem?_eq_getElem hk)
  replace hx : ρ x = Value.pointer (some ((⟨b, off, none⟩ : Addr).add (k * n))) := hx
  show (execOp ρ o).run P w = .ok (.value (.pointer (some ((⟨b, off, none⟩ : Addr).add (k * n + j))))) w
  unfold fldB at hf
  split at hf
  · rename_i fs hfs
    split at hf
    · rename_i fd hfd
      split at hf
      · rename_i i hi
        simp only [Bool.and_eq_true, bne_iff_ne, ne_eq, beq_iff_eq] at hf
        obtain ⟨hne, hoff⟩ := hf
        have hs : (sizeOf fd.type).run P w = .ok i.size w := by simp [sizeOf, typeInfo, hi]
        rw [Addr.add_lit] at hx
        rw [Addr.add_lit]
        unfold execOp
        simp only [ho]
        rw [hx]
        unfold Instr.fieldAt
        simp [Sem.run_bind, run_underlying hfs, hfd, Instr.sureAddr, fieldPlace, hs, hne, hoff, Addr.add_lit, Nat.add_assoc]
      · cases hf
    · cases hf
  · cases hf
theorem Rd.fld {n : Nat} {v : Value} {xs : List (List Value)} (hr : Rd n w v xs) {k : Nat} (hk : k < xs.length) (j m : Nat) : ∃ b off, fldAt n v k j = .pointer (some ⟨b, off, none⟩) ∧ Cells w b off ((xs[k].drop j).take m) := by
  obtain ⟨A, c, rfl, _⟩ := hr.form
  obtain ⟨b, off, rfl, hc⟩ := hr.at (List.getElem?_eq_getElem hk)
  refine ⟨b, off + k * n + j, ?_, hc.sub j m⟩
  show Value.pointer (some ((⟨b, off, none⟩ : Addr).add (k * n + j))) = _
  rw [Addr.add_lit, Nat.add_assoc]
theorem op_loadF1 {ρ : Operand → Value} {t : TypeId} (A : One P t) {x : Operand} (ho : o.op = .load t x) {n k j : Nat} {v : Value} (hx : ρ x = fldAt n v k j) {xs : List (List Value)} (hr : Rd n w v xs) (hk : k < xs.length) {u : Value} (hu : xs[k][j]? = some u) :
    (execOp ρ o).run P w = .ok (.value u) w := by
  obtain ⟨b, off, he, hc⟩ := hr.fld hk j 1
  have := hc.at (j := 0) (v := u) (by rw [List.getElem?_take_of_lt (by omega), List.getElem?_drop, Nat.add_zero]; exact hu)
  exact op_load1 A ho (hx.trans he) this
theorem op_loadFA {ρ : Operand → Value} {t : TypeId} {m : Nat} (A : Agg P t m) {x : Operand} (ho : o.op = .load t x) {n k j : Nat} {v : Value} (hx : ρ x = fldAt n v k j) {xs : List (List Value)} (hr : Rd n w v xs) (hk : k < xs.length) {cs : List Value} (hu : (xs[k].drop j).take m = cs) (hm : cs.length = m) :
    (execOp ρ o).run P w = .ok (.value (.agg cs.toArray)) w := by
  obtain ⟨b, off, he, hc⟩ := hr.fld hk j m
  rw [hu] at hc
  exact op_load A ho (hx.trans he) hc hm
theorem wpS_storeF1 {t : TypeId} (h1 : (P.info? t).map (·.size) = some 1) {e n k j : Nat} {v : Value} {xs : List (List Value)} (hS : SepL R base w (.own e n v xs :: L)) (hgd : Region.wanted o (yielded ops a.tmps) = true) {x y : Operand} (ho : o.op = .store t x y) (hx : a.eval x = fldAt n v k j) {u : Value} (hy : rdOp a y = some u) (hv : u.cells = #[u]) (hone : u.oneCell' = true)
    (hk1 : k < xs.length) (hj : j < n) (hk : ∀ w', SepL R base w' (.own e n v (xs.set k (xs[k].set j u)) :: L) → wpList P ops Q rest (a.put o.dst undef) w') : wpList P ops Q (o :: rest) a w := by
  have own := hS.getOwn
  obtain ⟨hl, h2⟩ := own
  rcases h2 with ⟨_, h2⟩ | ⟨b, off, cap, C, rfl, h3, h4, h5, h6, h7⟩
  · subst h2
    simp at hk1
  · replace hx : a.eval x = Value.pointer (some ((⟨b, off, none⟩ : Addr).add (k * n + j))) := hx
    rw [Addr.add_lit] at hx
    have hb : Blk w b e C.toList := by unfold Blk; simpa using h5
    have hf := flatten_length (n := n) hl
    have hkn : k * n + j < xs.length * n := by
      have := Nat.mul_le_mul_right n (show k + 1 ≤ xs.length by omega)
      rw [Nat.add_mul, Nat.one_mul] at this
      omega
    have hcap : xs.length * n ≤ cap * n := Nat.mul_le_mul_right n h3
    refine wpList_store1 h1 hgd ho hx (rdOp_eval hy) hv hone hb (by simp; omega) fun w' hB hC => hk w' (hS.updOwn ⟨fun q hq => ?_, .inr ⟨b, off, cap, _, by simp, by simpa using h3, h4, hB, ?_, ?_⟩⟩ (hC.mono (fun j _ e => e ▸ rfl)) fun j hj => .inl hj)
    · rcases List.mem_or_eq_of_mem_set hq with h | h
      · exact hl q h
      · rw [h, List.length_set]
        exact hl _ (List.getElem_mem hk1)
    · simp
      omega
    · show ((C.toList.set (off + (k * n + j)) u).drop off).take ((xs.set k (xs[k].set j u)).length * n) = (xs.set k (xs[k].set j u)).flatten
      rw [List.drop_set, if_neg (by omega), show off + (k * n + j) - off = k * n + j by omega, List.take_set, List.length_set, h7, flatten_set1 u k j hl hk1 hj]
end
end Go.Px
