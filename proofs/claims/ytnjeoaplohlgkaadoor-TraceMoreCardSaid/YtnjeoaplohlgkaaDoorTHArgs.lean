/- The arguments that a caller hands in: notes, an act, and ends with sights and an act. Conditions: those that stand ahead of each theorem. -/
import Derived.Test.YtnjeoaplohlgkaaDoorGTd
import Derived.Test.YtnjeoaplohlgkaaDoorTHid
namespace Go.Proofs.YtnjeoaplohlgkaaDoor
open Go.ChangeShapes Go.WideShapes Go.ChangeAt Go.RowKit Go.Px Go.Sha Go.Joins Go.WideMaps
theorem undNotes : Tryd.prog.underlying 58 = some (.slice 60) := by kernel_rfl
theorem cellsNote : Tryd.prog.cellsOf 60 = 35 := by kernel_rfl
theorem cellsAct : Tryd.prog.cellsOf 52 = 46 := by kernel_rfl
theorem cellsMore : Tryd.prog.cellsOf 54 = 49 := by kernel_rfl
theorem cellsInts : Tryd.prog.cellsOf 22 = 1 := by kernel_rfl
theorem cellsSights : Tryd.prog.cellsOf 23 = 1 := by kernel_rfl
theorem cellsHash : Tryd.prog.cellsOf 33 = 32 := by kernel_rfl
theorem map_of {α : Type} {f : α → Value} : ∀ {l : List Value}, (∀ v ∈ l, ∃ x, v = f x) → ∃ us : List α, l = us.map f
  | [], _ => ⟨[], rfl⟩
  | v :: l, h => by
    obtain ⟨x, rfl⟩ := h v (by simp)
    obtain ⟨us, rfl⟩ := map_of (l := l) fun w hw => h w (by simp [hw])
    exact ⟨x :: us, rfl⟩
theorem cut3 {cs : List Value} {m : Nat} (h : cs.length = m + 3) {a b c : Value} {us : List Value} (h0 : (cs.drop 0).take 1 = [a]) (h1 : (cs.drop 1).take 1 = [b]) (h2 : (cs.drop 2).take 1 = [c]) (h3 : (cs.drop 3).take m = us) : cs = a :: b :: c :: us := by
  match cs, h with
  | x :: y :: z :: r, h =>
    simp only [List.drop_zero, List.take_succ_cons, List.take_zero, List.drop_succ_cons, List.cons.injEq, and_true] at h0 h1 h2 h3
    simp only [List.length_cons] at h
    rw [List.take_of_length_le (by omega)] at h3
    rw [h0, h1, h2, h3]
theorem head4 {cs : List Value} {n : Nat} (h : cs.length = n + 4) {a b c d : Value} (h0 : (cs.drop 0).take 1 = [a]) (h1 : (cs.drop 1).take 1 = [b]) (h2 : (cs.drop 2).take 1 = [c]) (h3 : (cs.drop 3).take 1 = [d]) : ∃ r, r.length = n ∧ cs = a :: b :: c :: d :: r := by
  match cs, h with
  | x :: y :: z :: t :: r, h =>
    simp only [List.drop_zero, List.take_succ_cons, List.take_zero, List.drop_succ_cons, List.cons.injEq, and_true] at h0 h1 h2 h3
    simp only [List.length_cons] at h
    exact ⟨r, by omega, by rw [h0, h1, h2, h3]⟩
section
variable {H : Type} {enc : TypeId × Value → H} {W : World} {base b0 : Nat} {sp : Nat → Bool} {held : Bool} {r : Reach} {v : Value} {d : DataW H} {ps : List MemPlace}
theorem arr_bytes {w : World} {fuel : Nat} {cs : List Value} {x : DataW H × List MemPlace} (h : DataW.trod enc Tryd.prog w base sp held fuel 33 cs = some x) : ∃ us : List Byte, us.length = 32 ∧ cs = us.map B8 := by
  obtain ⟨xs, m, rfl, _, hlen, hnn, hel⟩ := DataW.trod_array arrHash.hu h
  rw [arrHash.one] at hel
  rw [arrHash.size] at hlen
  have hcell : ∀ v ∈ cs, ∃ x, v = B8 x := by
    intro v hv
    obtain ⟨i, hi, rfl⟩ := List.mem_iff_getElem.1 hv
    have h3 := hel i (by omega)
    rw [List.getElem?_eq_getElem (show i < xs.length by omega)] at h3
    obtain ⟨z, e1, _, hw⟩ := DataW.trod_int undU8 h3
    obtain ⟨x, hx⟩ := u8_byte z hw
    rw [Nat.mul_one, List.drop_eq_getElem_cons hi, List.take_succ_cons, List.take_zero] at e1
    injection e1 with e1
    exact ⟨x, e1.trans hx⟩
  obtain ⟨us, rfl⟩ := map_of hcell
  exact ⟨us, by simpa using hlen, rfl⟩
set_option maxRecDepth 100000 in
theorem note_cells {w : World} {fuel : Nat} {cs : List Value} {x : DataW H × List MemPlace} (h : DataW.trod enc Tryd.prog w base sp held fuel 60 cs = some x) : ∃ n, NOk n ∧ cs = nC n := by
  obtain ⟨y0, y1, y2, y3, n, _, hl, h0, h1, h2, h3⟩ := trod_struct4 Tryd.underlying60 h
  rw [cellsNote] at hl
  obtain ⟨z0, e0, _, w0⟩ := DataW.trod_int undInt h0
  obtain ⟨z1, e1, _, w1⟩ := DataW.trod_int undInt h1
  obtain ⟨z2, e2, _, w2⟩ := DataW.trod_int undInt h2
  obtain ⟨us, hus, e3⟩ := arr_bytes h3
  refine ⟨⟨z0, z1, z2, us⟩, ⟨int_in w0, int_in w1, int_in w2, hus⟩, ?_⟩
  rw [cut3 (m := 32) hl (by simpa [cellsInt] using e0) (by simpa [cellsInt] using e1) (by simpa [cellsInt] using e2) (by simpa [cellsHash] using e3)]
  rfl
theorem notes_of : ∀ {l : List (List Value)}, (∀ c ∈ l, ∃ n, NOk n ∧ c = nC n) → ∃ L : List PN, l = L.map nC ∧ ∀ n ∈ L, NOk n
  | [], _ => ⟨[], rfl, by simp⟩
  | c :: l, h => by
    obtain ⟨u, hu, rfl⟩ := h c (by simp)
    obtain ⟨L, rfl, hL⟩ := notes_of (l := l) fun x hx => h x (by simp [hx])
    refine ⟨u :: L, rfl, ?_⟩
    intro a ha
    rcases List.mem_cons.1 ha with h | h
    · rw [h]; exact hu
    · exact hL a h
set_option maxRecDepth 100000 in
theorem open_notes (hval : Value.okWide Tryd.prog W r b0 58 v) (h : DataW.Trod enc Tryd.prog W base sp held 58 v d ps) : ∃ L : List PN, Rd 35 W v (L.map nC) ∧ ∀ n ∈ L, NOk n := by
  obtain ⟨l, h1, h2, _⟩ := open_rd (Q := fun c => ∃ n, NOk n ∧ c = nC n) undNotes cellsNote hval h fun _ _ _ hh => note_cells hh
  obtain ⟨L, rfl, hL⟩ := notes_of h2
  exact ⟨L, h1, hL⟩
set_option maxRecDepth 100000 in
theorem int_field {w : World} {n i : Nat} {cs : List Value} {xs : List (DataW H × List MemPlace)} (hi : i < xs.length) (h : DataW.trod enc Tryd.prog w base sp held n 3 cs = xs[i]?) : ∃ z, In64 z ∧ cs = [I64 z] := by
  rw [List.getElem?_eq_getElem hi] at h
  obtain ⟨z, e, _, hw⟩ := DataW.trod_int undInt h
  exact ⟨z, int_in hw, e⟩
set_option maxRecDepth 100000 in
theorem act_cells {w : World} {fuel : Nat} {cs : List Value} {x : DataW H × List MemPlace} (h : DataW.trod enc Tryd.prog w base sp held fuel 52 cs = some x) : ∃ k a b l c, (In64 a ∧ In64 b ∧ List.length c = 42) ∧ cs = actC k a b l c := by
  obtain ⟨xs, n, _, _, hl, hlen, hf⟩ := DataW.trod_struct Tryd.underlying52 h
  rw [cellsAct] at hl
  replace hlen : xs.length = 11 := hlen
  obtain ⟨k, _, e0⟩ := int_field (i := 0) (by omega) (hf 0 _ rfl)
  obtain ⟨a, ha, e1⟩ := int_field (i := 1) (by omega) (hf 1 _ rfl)
  obtain ⟨b, hb, e2⟩ := int_field (i := 2) (by omega) (hf 2 _ rfl)
  obtain ⟨l, _, e3⟩ := int_field (i := 3) (by omega) (hf 3 _ rfl)
  obtain ⟨c, hc, e⟩ := head4 (n := 42) hl (by simpa [cellsInt] using e0) (by simpa [cellsInt] using e1) (by simpa [cellsInt] using e2) (by simpa [cellsInt] using e3)
  exact ⟨k, a, b, l, c, ⟨ha, hb, hc⟩, e⟩
set_option maxRecDepth 100000 in
theorem cell_one {P : Program} {w : World} {r : Reach} {base : Nat} {t : TypeId} {v : Value} (h : Cell.okWide P w r base t v) : v.oneCell' = true := by
  cases v with
  | agg _ =>
    unfold Cell.okWide at h
    split at h <;> first | (rename_i h2; cases h2) | skip
    unfold Cell.ok at h
    split at h <;> first | (rename_i h2; cases h2) | skip
    exact h.elim
  | tuple _ =>
    unfold Cell.okWide at h
    split at h <;> first | (rename_i h2; cases h2) | skip
    unfold Cell.ok at h
    split at h <;> first | (rename_i h2; cases h2) | skip
    exact h.elim
  | _ => rfl
theorem row_one {P : Program} {w : World} {r : Reach} {base : Nat} {t : TypeId} {cs : Array Value} (h : Row.okWide P w r base t cs) : ∀ v ∈ cs.toList, v.oneCell' = true := by
  obtain ⟨ts, _, _, h⟩ := h
  intro v hv
  obtain ⟨i, hi, rfl⟩ := List.mem_iff_getElem.1 hv
  rw [Array.length_toList] at hi
  obtain ⟨u, _, h2⟩ := h i cs[i] (by simp [hi])
  rw [Array.getElem_toList]
  exact cell_one h2
set_option maxRecDepth 100000 in
theorem len_small {w : World} {t e n fuel : Nat} {cs : List Value} {y : DataW H × List MemPlace} (ht : Tryd.prog.underlying t = some (.slice e)) (hb : Tryd.prog.bytesOf e = 8) (h : DataW.trod enc Tryd.prog w base sp held fuel t cs = some y) {u : Value} {l : List (List Value)} (hc : cs = [u]) (hr : Rd n w u l) (hw : (y.1.weights Tryd.prog t).all (· ≤ reachBytes) = true) : l.length ≤ 17592186044416 := by
  obtain ⟨A, c, rfl, _⟩ := hr.form
  subst hc
  obtain ⟨d, ps⟩ := y
  have hs := sliceLen_trod ht h
  cases d with
  | slice el sp =>
    simp only [DataW.weights, ht, List.all_cons, Bool.and_eq_true, decide_eq_true_eq, hb] at hw
    have h1 := hw.1
    unfold reachBytes at h1
    have hs2 : el.length = l.length := hs
    omega
  | _ =>
    have hs2 : 0 = l.length := hs
    omega
theorem bytesInt : Tryd.prog.bytesOf 3 = 8 := by kernel_rfl
set_option maxRecDepth 100000 in
theorem open_more (hval : Value.okWide Tryd.prog W r b0 54 v) (h : DataW.Trod enc Tryd.prog W base sp held 54 v d ps) (hw : (d.weights Tryd.prog 54).all (· ≤ reachBytes) = true) :
    ∃ (u0 u1 u2 : Value) (E M : List Int) (L : List (Value × PS)) (k a b l : Int) (c : List Value), (Rd 1 W u0 (E.map fun z => [I64 z]) ∧ Rd 1 W u1 (M.map fun z => [I64 z]) ∧ SRd W u2 L) ∧ ((∀ z ∈ E, In64 z) ∧ (∀ z ∈ M, In64 z) ∧ (∀ x ∈ L, AIn x.2) ∧ E.length ≤ 17592186044416 ∧ M.length ≤ 17592186044416) ∧ (In64 a ∧ In64 b ∧ List.length c = 42 ∧ ∀ x ∈ actC k a b l c, x.oneCell' = true) ∧ v = .agg (u0 :: u1 :: u2 :: actC k a b l c).toArray := by
  have hu := Tryd.underlying54
  simp only [Value.okWide, hu] at hval
  obtain ⟨cs, rfl, hn, hrow⟩ := hval
  obtain ⟨fuel, hf⟩ := h
  obtain ⟨y0, y1, y2, y3, n, hd, hl, h0, h1, h2, h3⟩ := trod_struct4 hu hf
  rw [cellsMore] at hl
  have hd1 : d = .agg [y0.1, y1.1, y2.1, y3.1] := congrArg Prod.fst hd
  rw [hd1] at hw
  simp only [DataW.weights, hu, DataW.weightsEach, List.map_cons, List.map_nil, List.all_append, Bool.and_eq_true] at hw
  obtain ⟨u0, l0, e0, r0, q0⟩ := trod_rd (Q := fun c => ∃ z, In64 z ∧ c = [I64 z]) undInts cellsInt (by omega) h0 fun _ _ _ hh => by
    obtain ⟨n, rfl, _, hw⟩ := DataW.trod_int undInt hh
    exact ⟨n, int_in hw, rfl⟩
  obtain ⟨u1, l1, e1, r1, q1⟩ := trod_rd (Q := fun c => ∃ z, In64 z ∧ c = [I64 z]) undInts cellsInt (by omega) h1 fun _ _ _ hh => by
    obtain ⟨n, rfl, _, hw⟩ := DataW.trod_int undInt hh
    exact ⟨n, int_in hw, rfl⟩
  obtain ⟨u2, l2, e2, r2, q2⟩ := trod_rd (Q := fun c => ∃ u s, AIn s ∧ c = sC (u, s) ∧ Rd 1 W u (bytes s.bytes)) undSights cellsSight (by omega) h2 fun _ _ _ hh => sight_cells hh
  obtain ⟨E, hE, rfl⟩ := ints_of q0
  obtain ⟨M, hM, rfl⟩ := ints_of q1
  obtain ⟨L, rfl, hL, hLr⟩ := sights_of q2
  have s0 := len_small undInts bytesInt h0 e0 r0 hw.1
  have s1 := len_small undInts bytesInt h1 e1 r1 hw.2.1
  rw [List.length_map] at s0 s1
  obtain ⟨k, a, b, l, c, hc, e3⟩ := act_cells h3
  have hcut := cut3 (m := 46) hl (by simpa [cellsInts] using e0) (by simpa [cellsInts] using e1) (by simpa [cellsSights] using e2) (by simpa [cellsAct] using e3)
  have hone := row_one hrow
  refine ⟨u0, u1, u2, E, M, L, k, a, b, l, c, ⟨r0, r1, ⟨r2, hLr⟩⟩, ⟨hE, hM, hL, s0, s1⟩, ⟨hc.1, hc.2.1, hc.2.2, fun x hx => hone x ?_⟩, ?_⟩
  · have h4 : cs.toList = u0 :: u1 :: u2 :: actC k a b l c := hcut
    rw [h4]
    exact List.mem_cons_of_mem _ (List.mem_cons_of_mem _ (List.mem_cons_of_mem _ hx))
  · rw [← hcut]
    rfl
set_option maxRecDepth 100000 in
theorem open_act (hval : Value.okWide Tryd.prog W r b0 52 v) (h : DataW.Trod enc Tryd.prog W base sp held 52 v d ps) : ∃ k a b l c, (In64 a ∧ In64 b ∧ List.length c = 42) ∧ v = .agg (actC k a b l c).toArray := by
  have hu := Tryd.underlying52
  simp only [Value.okWide, hu] at hval
  obtain ⟨cs, rfl, hn, _⟩ := hval
  obtain ⟨fuel, hf⟩ := h
  obtain ⟨k, a, b, l, c, ha, he⟩ := act_cells hf
  refine ⟨k, a, b, l, c, ha, ?_⟩
  rw [← he]
  rfl
end
end Go.Proofs.YtnjeoaplohlgkaaDoor
