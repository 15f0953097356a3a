/- The contracts of the set of known ids, said of a list of separate parts of memory. Conditions: those that stand ahead of each theorem. -/
import Derived.Test.YtkddaombdahodaaPlain
import Derived.Test.YtkddaombdahodaaSepOps
namespace Go.Proofs.Ytkddaombdahodaa
open Go.RowKit Go.Px
theorem KSet.stab {p most : Nat} {L : List (List Value)} (w w' : World) (F : Nat → Prop) (h : KSet w p most L F) (he : ∀ k, F k → w'.heap[k]? = w.heap[k]?) : KSet w' p most L F := by
  obtain ⟨m, rv, ring, first, h1, h2, h3⟩ := h
  exact ⟨m, rv, ring, first, ⟨h1.blk.keep (he p ((h3 p).2 (.inl rfl))), h1.own.keep (fun k _ hk => he k ((h3 k).2 (.inr (.inr hk)))), h1.map.keep (he m ((h3 m).2 (.inr (.inl rfl))))⟩, h2, h3⟩
def hK (p most : Nat) (L : List (List Value)) : Hp := ⟨fun w F => KSet w p most L F, fun h he => KSet.stab _ _ _ h he⟩
theorem hK_P {p most : Nat} {L : List (List Value)} {w : World} {F : Nat → Prop} (h : KSet w p most L F) : (hK p most L).P w F := h
section
variable {R : Nat → Prop} {base w : World} {F : List Hp} {p most : Nat} {L : List (List Value)}
theorem sepK (hS : SepL R base w (hK p most L :: F)) : ∃ S, KSet w p most L S := hS.head
theorem alive_s (hS : SepL R base w F) : Calls Try.prog 9 #[] w (Ret fun r w' => r = .bool true ∧ SepL R base w' F) := hS.callNo (alive_any w)
theorem made_s (hS : SepL R base w F) (m : Nat) (hm : m < 256) {v : Value} {l : List (List Value)} (hl : RdIn R base 32 v l) (kl : IsHs l) (hlen : l.length ≤ 1000000) :
    Calls Try.prog 20 #[.int .u8 m, v] w (Ret fun r w' => ∃ p, r = .pointer (some ⟨p, 0, none⟩) ∧ SepL R base w' (hK p (1 + m % 64) (adds (1 + m % 64) [] l) :: F)) :=
  Ret.calls (made_any' m hm v l w (hS.rd hl) kl (fun hn j hj => Nat.lt_of_lt_of_le (hl.rd.lt hn j hj) hS.size) hlen) fun _ _ ⟨p, _, h1, h2, h3, h4⟩ => ⟨p, h1, hS.mk1 h3 (b := hK p _ _) h2 fun k hk => ⟨h2.lt k hk, h4 k hk⟩⟩
theorem made_t (hS : SepL R base w F) (m : Nat) (hm : m < 256) {v : Value} {l L : List (List Value)} (hl : RdIn R base 32 v l) (kl : IsHs l) (hlen : l.length ≤ 1000000) (hL : Hid (adds (1 + m % 64) [] l = L)) :
    Calls Try.prog 20 #[.int .u8 m, v] w (Ret fun r w' => ∃ p, r = .pointer (some ⟨p, 0, none⟩) ∧ SepL R base w' (hK p (1 + m % 64) L :: F)) := by
  rw [← hL.out]
  exact made_s hS m hm hl kl hlen
theorem has_s (hS : SepL R base w (hK p most L :: F)) (x : List Value) (kx : IsH x) {b : Bool} (hb : Hid (mem x L = b)) : Calls Try.prog 17 #[.pointer (some ⟨p, 0, none⟩), H x] w (Ret fun r w' => r = .bool b ∧ SepL R base w' (hK p most L :: F)) := by
  obtain ⟨S, h⟩ := sepK hS
  rw [← hb.out]
  exact hS.callNo (has_any p most L S x w h kx)
theorem IsH.len {x : List Value} (h : IsH x) : x.length = 32 := h.1.1
theorem IsH.flat {x : List Value} (h : IsH x) : ∀ v ∈ x, v.oneCell' = true := h.1.2
theorem same_s (hS : SepL R base w F) {x y : Value} {xs ys : List (List Value)} (hx : Rd 32 w x xs) (hy : Rd 32 w y ys) (kx : IsHs xs) (ky : IsHs ys) {b : Bool} (hb : Hid (eqL xs ys = b)) :
    Calls Try.prog 12 #[x, y] w (Ret fun r w' => r = .bool b ∧ SepL R base w' F) := by
  rw [← hb.out]
  exact hS.callNo (sameIds x y xs ys w hx hy kx ky)
theorem has11_s (hS : SepL R base w F) {x : Value} {xs : List (List Value)} {y : List Value} (hx : Rd 32 w x xs) (kx : IsHs xs) (ky : IsH y) {b : Bool} (hb : Hid (mem y xs = b)) :
    Calls Try.prog 19 #[x, H y] w (Ret fun r w' => r = .bool b ∧ SepL R base w' F) := by
  rw [← hb.out]
  exact hS.callNo (has11_any x xs y w hx kx ky)
theorem len_s (hS : SepL R base w (hK p most L :: F)) : Calls Try.prog 16 #[.pointer (some ⟨p, 0, none⟩)] w (Ret fun r w' => r = .int .i64 L.length ∧ SepL R base w' (hK p most L :: F)) := by
  obtain ⟨S, h⟩ := sepK hS
  exact Ret.calls (len_any p most L S w h) fun _ _ ⟨h1, h2⟩ => ⟨h1, h2 ▸ hS⟩
theorem all_s (hS : SepL R base w (hK p most L :: F)) : Calls Try.prog 15 #[.pointer (some ⟨p, 0, none⟩)] w (Ret fun r w' => SepL R base w' (.own 24 32 r L :: hK p most L :: F)) := by
  obtain ⟨S, h⟩ := sepK hS
  exact Ret.calls (all_any p most L S w h) fun _ _ ⟨h1, h2, h3⟩ => hS.newOwn h1 h3 h2
theorem add_step {w' : World} {r : Value} {l : List (List Value)} (hS : SepL R base w (hK p most L :: F)) (hex : ∀ S, KSet w p most L S → ∃ S', KSet w' p most (adds most L l) S' ∧ Own 24 32 w' r (gones most L l) ∧ Chg S w w' ∧ (∀ j, S' j → S j ∨ w.heap.size ≤ j) ∧ (∀ j, sblk r j → w.heap.size ≤ j ∧ ¬ S' j)) :
    SepL R base w' (.own 24 32 r (gones most L l) :: hK p most (adds most L l) :: F) :=
  SepL.step (A := [hK p most L]) (B := [.own 24 32 r (gones most L l), hK p most (adds most L l)]) hS fun G hG => by
    obtain ⟨S', h1, h2, h3, h4, h5⟩ := hex G (star_one.1 hG)
    refine ⟨fun k => sblk r k ∨ S' k, ⟨sblk r, S', ownP h2, star_one.2 h1, fun k hk => (h5 k hk).2, fun _ => Iff.rfl⟩, h3, ?_⟩
    rintro k (hk | hk)
    · exact ⟨h2.lt k hk, .inr (h5 k hk).1⟩
    · exact ⟨h1.lt k hk, h4 k hk⟩
theorem KSet.unique {w : World} {p most : Nat} {L : List (List Value)} {S T : Nat → Prop} (h : KSet w p most L S) (k : KSet w p most L T) : S = T := by
  obtain ⟨m, rv, ring, first, h1, _, h3⟩ := h
  obtain ⟨m', rv', ring', first', k1, _, k3⟩ := k
  have e : w.heap[p]? = w.heap[p]? := rfl
  have a1 := h1.blk
  have a2 := k1.blk
  unfold Blk at a1 a2
  rw [a1] at a2
  simp at a2
  obtain ⟨rfl, _, rfl⟩ := a2
  exact funext fun j => propext ((h3 j).trans (k3 j).symm)
/-- adding ids out of what is only read -/
theorem add_s (hS : SepL R base w (hK p most L :: F)) {v : Value} {l : List (List Value)} (hl : RdIn R base 32 v l) (kl : IsHs l) (hlen : l.length ≤ 1000000) :
    Calls Try.prog 13 #[.pointer (some ⟨p, 0, none⟩), v] w (Ret fun r w' => SepL R base w' (.own 24 32 r (gones most L l) :: hK p most (adds most L l) :: F)) := by
  obtain ⟨G, ⟨S, H, g1, g2, g3, g4⟩, g5⟩ := hS.ex
  have hd : l ≠ [] → ∀ j, sblk v j → ¬ S j := fun hn j hj hs => (g5 j ((g4 j).2 (.inl hs))).2 (hl.rd.lt hn j hj) (hl.ro hn j hj)
  exact Ret.calls (add_any' p most L S v l w g1 (hS.rd hl) kl hd hlen) fun _ _ hh => add_step hS (fun T hT => (KSet.unique g1 hT) ▸ hh)
/-- adding ids out of a slice of one's own -/
theorem add_o (hS : SepL R base w (hK p most L :: F)) {T : TypeId} {v : Value} {l : List (List Value)} {F' : List Hp} (t : Take1 F (.own T 32 v l) F') (kl : IsHs l) (hlen : l.length ≤ 1000000) :
    Calls Try.prog 13 #[.pointer (some ⟨p, 0, none⟩), v] w (Ret fun r w' => SepL R base w' (.own 24 32 r (gones most L l) :: hK p most (adds most L l) :: F)) := by
  have hS1 : SepL R base w (.own T 32 v l :: hK p most L :: F') := hS.perm ((t.perm.cons _).trans (.swap _ _ _))
  obtain ⟨R', h2, hr, h4, h5⟩ := hS1.freezeOwn
  exact Ret.calls (add_s h2 hr kl hlen) fun _ w' hh => (h5 w' _ hh).perm ((List.perm_middle (a := Hp.own T 32 v l) (l₁ := [_, _]) (l₂ := F')).symm.trans ((t.perm.symm.cons _).cons _))
end
attribute [irreducible] hK
end Go.Proofs.Ytkddaombdahodaa
