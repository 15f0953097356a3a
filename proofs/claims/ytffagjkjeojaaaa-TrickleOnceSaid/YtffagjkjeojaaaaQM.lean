/- A set of known ids, and a queue, in memory. Conditions: those that stand ahead of each theorem. -/
import Derived.Test.YtffagjkjeojaaaaSl
namespace Go.Proofs.Ytffagjkjeojaaaa
open Go.RowKit Go.Px
def ents (L : List Id) : List (Value × Value) := L.map fun x => (HV x, I64 1)
structure Kinv (ring : List Id) (f : Nat) (L : List Id) : Prop where
  len : ring.length ≤ 64
  few : ring.length < 64 → f = 0
  lt : f < 64
  eq : L = ring.drop f ++ ring.take f
  nd : L.Nodup
  k32 : Is32 L
theorem Kinv.nil : Kinv [] 0 [] := ⟨by simp, fun _ => rfl, by omega, rfl, by simp, by simp [Is32]⟩
theorem Kinv.same {ring L : List Id} {f : Nat} (h : Kinv ring f L) : L.length = ring.length := by
  rw [h.eq, List.length_append, List.length_drop, List.length_take]
  omega
theorem Kinv.ring32 {ring L : List Id} {f : Nat} (h : Kinv ring f L) : Is32 ring := fun x hx => h.k32 x (by
  rw [h.eq, List.mem_append]
  rw [← List.take_append_drop f ring, List.mem_append] at hx
  exact hx.symm)
theorem Kinv.room {ring L : List Id} {f : Nat} {x : Id} (h : Kinv ring f L) (hx : x ∉ L) (h32 : x.length = 32) (hr : ring.length < 64) : add1 L x = L ++ [x] ∧ gone1 L x = [] ∧ Kinv (ring ++ [x]) f (L ++ [x]) := by
  have hf := h.few hr
  subst hf
  have hl := h.same
  have he : L = ring := by rw [h.eq]; simp
  refine ⟨?_, ?_, ⟨by simp; omega, fun _ => rfl, by omega, by rw [he]; simp, ?_, h.k32.app (by simpa [Is32] using h32)⟩⟩
  · unfold add1
    rw [if_neg hx, if_pos (by omega)]
  · unfold gone1
    rw [if_neg hx, if_pos (by omega)]
  · have h1 := add1_nd (x := x) h.nd
    unfold add1 at h1
    rwa [if_neg hx, if_pos (by omega)] at h1
theorem Kinv.full {ring L : List Id} {f : Nat} {x : Id} (h : Kinv ring f L) (hx : x ∉ L) (h32 : x.length = 32) (hr : ¬ ring.length < 64) : ∃ (hf : f < ring.length), L = ring[f] :: L.drop 1 ∧ add1 L x = L.drop 1 ++ [x] ∧ gone1 L x = [ring[f]] ∧ Kinv (ring.set f x) ((f + 1) % 64) (L.drop 1 ++ [x]) := by
  have hl := h.len
  have h64 : ring.length = 64 := by omega
  have hlt := h.lt
  have hf : f < ring.length := by omega
  have hL : L.length = 64 := h.same.trans h64
  have he : L = ring[f] :: (ring.drop (f + 1) ++ ring.take f) := by
    rw [h.eq, List.drop_eq_getElem_cons hf]
    rfl
  have hd : L.drop 1 = ring.drop (f + 1) ++ ring.take f := by rw [he]; rfl
  have ha : add1 L x = L.drop 1 ++ [x] := by
    unfold add1
    rw [if_neg hx, if_neg (by omega)]
  refine ⟨hf, by rw [hd]; exact he, ha, ?_, ⟨by simp; omega, fun h1 => by rw [List.length_set] at h1; omega, by omega, ?_, ?_, ?_⟩⟩
  · unfold gone1
    rw [if_neg hx, if_neg (by omega), he]
    rfl
  · rw [hd]
    by_cases h63 : f + 1 < 64
    · rw [Nat.mod_eq_of_lt h63, List.drop_set_of_lt (by omega), List.take_succ_eq_append_getElem (by rw [List.length_set]; omega), List.take_set_of_le (by omega), List.getElem_set_self, List.append_assoc]
    · have h1 : f = 63 := by omega
      subst h1
      rw [show (63 + 1) % 64 = 0 from rfl, List.drop_zero, List.take_zero, List.append_nil, List.drop_eq_nil_of_le (by omega), List.nil_append]
      have h2 : (ring.set 63 x).take (63 + 1) = ring.set 63 x := List.take_of_length_le (by rw [List.length_set]; omega)
      have h3 : (ring.set 63 x).take (63 + 1) = ring.take 63 ++ [x] := by
        rw [List.take_succ_eq_append_getElem (i := 63) (by rw [List.length_set]; omega), List.take_set_of_le (by omega), List.getElem_set_self]
      exact h3.symm.trans h2
  · have h1 := add1_nd (x := x) h.nd
    rwa [ha] at h1
  · have h1 := h.k32.add1 h32
    rwa [ha] at h1
theorem HV_inj {x y : Id} (h : HV x = HV y) : x = y := by
  have h1 := HV_eqv x y
  rw [h, eqv_self] at h1
  exact of_decide_eq_true h1.symm
theorem mget_entsN {L : List Id} {x : Id} (h : x ∉ L) : mget (ents L) (HV x) = none := by
  refine mget_none fun p hp e => ?_
  obtain ⟨y, hy, rfl⟩ := List.mem_map.1 hp
  exact h (HV_inj e ▸ hy)
theorem mget_ents {L : List Id} (hn : L.Nodup) (x : Id) : (mget (ents L) (HV x)).getD (I64 0) = if x ∈ L then I64 1 else I64 0 := by
  have hnd : ((ents L).map (·.1)).Nodup := by
    unfold ents
    rw [List.map_map]
    exact List.pairwise_map.2 (hn.imp fun h e => h (HV_inj e))
  split
  · rename_i h
    rw [mget_some hnd (v := I64 1) (List.mem_map.2 ⟨x, h, rfl⟩)]
    rfl
  · rename_i h
    rw [mget_entsN h]
    rfl
theorem mput_ents {L : List Id} {x : Id} (h : x ∉ L) : mput (ents L) (HV x) (I64 1) = ents (L ++ [x]) := by
  unfold mput
  rw [mget_entsN h]
  simp [ents]
theorem mdel_ents {L : List Id} {x : Id} (h : x ∉ L) : mdel (ents (x :: L)) (HV x) = ents L := by
  unfold mdel ents
  rw [List.map_cons, List.filter_cons]
  simp only [eqv_self, Bool.not_true, Bool.false_eq_true, if_false]
  refine List.filter_eq_self.2 fun p hp => ?_
  obtain ⟨y, hy, rfl⟩ := List.mem_map.1 hp
  have : eqv (HV y) (HV x) = false := eqv_false.2 fun e => h (HV_inj e ▸ hy)
  simp [this]
/-- ids that are known -/
def hK (s : Nat) (L : List Id) : Hp := hEx fun x : Nat × Value × List Id × Nat => [hPure (Kinv x.2.2.1 x.2.2.2 L), .blk s 61 [x.2.1, I64 x.2.2.2, .map (some x.1), I64 64], .own 24 32 x.2.1 (bys x.2.2.1), .map Try.prog 24 x.1 (ents L)]
/-- a queue -/
def hQ (p : Nat) (q : Qu) : Hp := hEx fun x : Nat × Value => [.blk p 53 [.pointer (some ⟨x.1, 0, none⟩), x.2], hK x.1 q.known, .own 24 32 x.2 (bys q.waits)]
/-- the document's set, of whatever type it lies in, ahead of other cells -/
def hR (p : Nat) (q : Qu) : Hp := hEx fun x : Value × Value => [.blk p 42 [I64 64, x.1, x.2], .own 24 32 x.1 (bys q.known), .own 24 32 x.2 (bys q.waits)]
section
variable {R : Nat → Prop} {base w : World} {F : List Hp}
theorem hK_open {s : Nat} {L : List Id} (hS : SepL R base w (hK s L :: F)) : ∃ m rv ring f, Kinv ring f L ∧ SepL R base w (.blk s 61 [rv, I64 (f : Nat), .map (some m), I64 64] :: .own 24 32 rv (bys ring) :: .map Try.prog 24 m (ents L) :: F) := by
  unfold hK at hS
  obtain ⟨⟨m, rv, ring, f⟩, h⟩ := hS.unpack
  exact ⟨m, rv, ring, f, SepL.getPure h, SepL.tail h⟩
theorem hK_close {s m f : Nat} {rv : Value} {ring L : List Id} (hS : SepL R base w (.blk s 61 [rv, I64 (f : Nat), .map (some m), I64 64] :: .own 24 32 rv (bys ring) :: .map Try.prog 24 m (ents L) :: F)) (h : Kinv ring f L) : SepL R base w (hK s L :: F) := by
  unfold hK
  exact SepL.pack (l := fun x : Nat × Value × List Id × Nat => [hPure (Kinv x.2.2.1 x.2.2.2 L), .blk s 61 [x.2.1, I64 x.2.2.2, .map (some x.1), I64 64], .own 24 32 x.2.1 (bys x.2.2.1), .map Try.prog 24 x.1 (ents L)]) (m, rv, ring, f) (SepL.putPure hS h)
theorem hQ_open {p : Nat} {q : Qu} (hS : SepL R base w (hQ p q :: F)) : ∃ s wv, SepL R base w (.blk p 53 [.pointer (some ⟨s, 0, none⟩), wv] :: hK s q.known :: .own 24 32 wv (bys q.waits) :: F) := by
  unfold hQ at hS
  obtain ⟨⟨s, wv⟩, h⟩ := hS.unpack
  exact ⟨s, wv, h⟩
theorem hQ_close {p s : Nat} {wv : Value} {q : Qu} (hS : SepL R base w (.blk p 53 [.pointer (some ⟨s, 0, none⟩), wv] :: hK s q.known :: .own 24 32 wv (bys q.waits) :: F)) : SepL R base w (hQ p q :: F) := by
  unfold hQ
  exact SepL.pack (l := fun x : Nat × Value => [.blk p 53 [.pointer (some ⟨x.1, 0, none⟩), x.2], hK x.1 q.known, .own 24 32 x.2 (bys q.waits)]) (s, wv) hS
theorem hR_open {p : Nat} {q : Qu} (hS : SepL R base w (hR p q :: F)) : ∃ lv wv, SepL R base w (.blk p 42 [I64 64, lv, wv] :: .own 24 32 lv (bys q.known) :: .own 24 32 wv (bys q.waits) :: F) := by
  unfold hR at hS
  obtain ⟨⟨lv, wv⟩, h⟩ := hS.unpack
  exact ⟨lv, wv, h⟩
theorem hR_close {p : Nat} {lv wv : Value} {q : Qu} (hS : SepL R base w (.blk p 42 [I64 64, lv, wv] :: .own 24 32 lv (bys q.known) :: .own 24 32 wv (bys q.waits) :: F)) : SepL R base w (hR p q :: F) := by
  unfold hR
  exact SepL.pack (l := fun x : Value × Value => [.blk p 42 [I64 64, x.1, x.2], .own 24 32 x.1 (bys q.known), .own 24 32 x.2 (bys q.waits)]) (lv, wv) hS
end
attribute [irreducible] hK hQ hR
end Go.Proofs.Ytffagjkjeojaaaa
