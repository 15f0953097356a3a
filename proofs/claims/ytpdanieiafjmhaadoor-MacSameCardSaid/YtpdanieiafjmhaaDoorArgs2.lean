/- Arrays of words, of bytes, and pieces that a caller hands in read as such. Conditions: those that stand ahead of each theorem. -/
import Derived.Test.YtpdanieiafjmhaaDoorArgs
import Derived.Test.YtpdanieiafjmhaaDoorWrite
import Derived.WideKeyArr2
namespace Go.Proofs.YtpdanieiafjmhaaDoor
open Go.ChangeShapes Go.WideShapes Go.ChangeAt Go.RowKit Go.Px Go.Sha Go.WideMaps
theorem map_of {α : Type} {f : α → Value} : ∀ {l : List Value}, (∀ v ∈ l, ∃ x, v = f x) → ∃ us : List α, l = us.map f
  | [], _ => ⟨[], rfl⟩
  | v :: l, h => by
    obtain ⟨x, rfl⟩ := h v (by simp)
    obtain ⟨us, rfl⟩ := map_of (l := l) fun w hw => h w (by simp [hw])
    exact ⟨x :: us, rfl⟩
theorem open_arrF {H : Type} {enc : TypeId × Value → H} {P : Program} {W : World} {base : Nat} {sp : Nat → Bool} {held : Bool} {r : Reach} {b0 : Nat} {k e n : Nat} (A : ArrKey P k e n) {q : IntKind} (he : P.underlying e = some (.int q)) {α : Type} {f : α → Value} (hf : ∀ z : Int, (Lit.int q z).wf = true → ∃ x, Value.int q z = f x)
    {v : Value} {d : DataW H} {ps : List MemPlace} (hval : Value.okWide P W r b0 k v) (h : DataW.Trod enc P W base sp held k v d ps) : ∃ us : List α, us.length = n ∧ v = .agg (us.map f).toArray := by
  obtain ⟨cs, rfl, hn⟩ := okWide_arr A hval
  obtain ⟨fuel, hfu⟩ := h
  obtain ⟨xs, m, rfl, _, hlen, hnn, hel⟩ := DataW.trod_array A.hu hfu
  rw [A.one] at hel
  have hcell : ∀ v ∈ cs.toList, ∃ x, v = f x := by
    intro v hv
    obtain ⟨i, hi, rfl⟩ := List.mem_iff_getElem.1 hv
    have hi2 : i < n := by
      rw [Array.length_toList] at hi
      omega
    have h3 := hel i hi2
    rw [List.getElem?_eq_getElem (show i < xs.length by omega)] at h3
    obtain ⟨z, e1, _, hw⟩ := DataW.trod_int he h3
    obtain ⟨x, hx⟩ := hf z hw
    have hi3 : i < (Value.agg cs).cells.toList.length := hi
    rw [Nat.mul_one, List.drop_eq_getElem_cons hi3, List.take_succ_cons, List.take_zero] at e1
    injection e1 with e1
    exact ⟨x, e1.trans hx⟩
  obtain ⟨us, hus⟩ := map_of hcell
  refine ⟨us, ?_, ?_⟩
  · have := congrArg List.length hus
    rw [Array.length_toList, List.length_map] at this
    omega
  · rw [← hus]
theorem u32_word (z : Int) (hw : (Lit.int .u32 z).wf = true) : ∃ x : Word, Value.int .u32 z = W32 x := by
  have hr : IntKind.u32.min ≤ z ∧ z ≤ IntKind.u32.max := by simpa [Lit.wf] using hw
  rw [show IntKind.u32.min = 0 from rfl, show IntKind.u32.max = 4294967295 from rfl] at hr
  refine ⟨BitVec.ofNat 32 z.toNat, ?_⟩
  unfold W32
  rw [BitVec.toNat_ofNat, Nat.mod_eq_of_lt (by omega)]
  congr 1
  omega
theorem u8_byte (z : Int) (hw : (Lit.int .u8 z).wf = true) : ∃ x : Byte, Value.int .u8 z = B8 x := by
  have hr : IntKind.u8.min ≤ z ∧ z ≤ IntKind.u8.max := by simpa [Lit.wf] using hw
  rw [show IntKind.u8.min = 0 from rfl, show IntKind.u8.max = 255 from rfl] at hr
  refine ⟨BitVec.ofNat 8 z.toNat, ?_⟩
  unfold B8
  rw [BitVec.toNat_ofNat, Nat.mod_eq_of_lt (by omega)]
  congr 1
  omega
theorem keyArr8w : ArrKey Tryd.prog 23 22 8 := ⟨by kernel_rfl, by kernel_rfl, by kernel_rfl, by kernel_rfl⟩
theorem keyArr64b : ArrKey Tryd.prog 24 5 64 := ⟨by kernel_rfl, by kernel_rfl, by kernel_rfl, by kernel_rfl⟩
theorem st_of {us : List Word} (h : us.length = 8) : ∃ s : St, us = s.list := by
  match us, h with
  | [a, b, c, d, e, f, g, k], _ => exact ⟨⟨a, b, c, d, e, f, g, k⟩, rfl⟩
theorem open_st {H : Type} {enc : TypeId × Value → H} {W : World} {base b0 : Nat} {sp : Nat → Bool} {held : Bool} {r : Reach} {v : Value} {d : DataW H} {ps : List MemPlace} (hval : Value.okWide Tryd.prog W r b0 23 v) (h : DataW.Trod enc Tryd.prog W base sp held 23 v d ps) : ∃ s : St, v = .agg (s.list.map W32).toArray := by
  obtain ⟨us, hl, rfl⟩ := open_arrF keyArr8w undU32 u32_word hval h
  obtain ⟨s, rfl⟩ := st_of hl
  exact ⟨s, rfl⟩
theorem open_blk {H : Type} {enc : TypeId × Value → H} {W : World} {base b0 : Nat} {sp : Nat → Bool} {held : Bool} {r : Reach} {v : Value} {d : DataW H} {ps : List MemPlace} (hval : Value.okWide Tryd.prog W r b0 24 v) (h : DataW.Trod enc Tryd.prog W base sp held 24 v d ps) : ∃ bs : List Byte, bs.length = 64 ∧ v = .agg (bs.map B8).toArray :=
  open_arrF keyArr64b undU8 u8_byte hval h
theorem open_pieces {H : Type} {enc : TypeId × Value → H} {W : World} {base b0 : Nat} {sp : Nat → Bool} {held : Bool} {r : Reach} {v : Value} {d : DataW H} {ps : List MemPlace} (hval : Value.okWide Tryd.prog W r b0 44 v) (h : DataW.Trod enc Tryd.prog W base sp held 44 v d ps) : ∃ (us : List Value) (qs : List (List Byte)), Pieces All W v us qs := by
  obtain ⟨l, h1, h2, _⟩ := open_rd (n := 1) (Q := fun cs => ∃ u bs, cs = [u] ∧ Rd 1 W u (bytes bs)) undPieces cellsBytes hval h fun _ _ _ hh => by
    obtain ⟨u, l, rfl, h3, h4⟩ := trod_rd (Q := IsB) undBytes cellsU8 (by omega) hh fun _ _ _ hq => trod_isB hq
    obtain ⟨bs, rfl⟩ := bytes_of h4
    exact ⟨u, bs, rfl, h3⟩
  have h5 : ∀ c ∈ l, ∃ u x, c = [u] ∧ (∃ bs, x = bytes bs ∧ Rd 1 W u x) := fun c hc => by
    obtain ⟨u, bs, e, h6⟩ := h2 c hc
    exact ⟨u, bytes bs, e, bs, rfl, h6⟩
  obtain ⟨us, ls, e, hl, hat⟩ := rows_split (R := fun u x => ∃ bs, x = bytes bs ∧ Rd 1 W u x) h5
  have h7 : ∀ x ∈ ls, ∃ bs, x = bytes bs := fun x hx => by
    obtain ⟨i, hi, rfl⟩ := List.mem_iff_getElem.1 hx
    obtain ⟨bs, e2, _⟩ := hat i (by omega) hi
    exact ⟨bs, e2⟩
  obtain ⟨qs, hqs⟩ : ∃ qs : List (List Byte), ls = qs.map bytes := by
    clear h1 h2 h5 hat e hl
    induction ls with
    | nil => exact ⟨[], rfl⟩
    | cons x ls ih =>
      obtain ⟨bs, rfl⟩ := h7 x (by simp)
      obtain ⟨qs, rfl⟩ := ih fun y hy => h7 y (by simp [hy])
      exact ⟨bs :: qs, rfl⟩
  subst hqs
  rw [List.length_map] at hl
  subst e
  refine ⟨us, qs, ⟨RdIn.of h1, hl, fun i g1 g2 => ?_⟩⟩
  obtain ⟨bs, e2, h8⟩ := hat i g1 (by rw [List.length_map]; exact g2)
  rw [List.getElem_map] at e2 h8
  exact RdIn.of h8
end Go.Proofs.YtpdanieiafjmhaaDoor
