/- Facts on separate parts of memory held in one list: proved is how such a list carries over when one part is changed, read, made, or handed to a call. Conditions: those that stand ahead of each theorem. -/
import Derived.Test.YtieobcaegegboaaDoorNew
namespace Go.Px
open Go Go.RowKit

/-! ### a part of memory, and what is known of it -/
structure Hp where
  P : World → (Nat → Prop) → Prop
  stab : ∀ {w w' : World} {F : Nat → Prop}, P w F → (∀ k, F k → w'.heap[k]? = w.heap[k]?) → P w' F
def Hp.blk (b : Nat) (T : TypeId) (cs : List Value) : Hp := ⟨fun w F => Blk w b T cs ∧ ∀ k, F k ↔ k = b, fun ⟨h, hf⟩ he => ⟨h.keep (he _ ((hf _).2 rfl)), hf⟩⟩
def Hp.own (T : TypeId) (n : Nat) (v : Value) (xs : List (List Value)) : Hp := ⟨fun w F => Own T n w v xs ∧ ∀ k, F k ↔ sblk v k, fun ⟨h, hf⟩ he => ⟨h.keep (fun k _ hk => he k ((hf k).2 hk)), hf⟩⟩
def Hp.map (P : Program) (k : TypeId) (b : Nat) (M : List (Value × Value)) : Hp := ⟨fun w F => MapAt P k w b M ∧ ∀ k, F k ↔ k = b, fun ⟨h, hf⟩ he => ⟨h.keep (he _ ((hf _).2 rfl)), hf⟩⟩

def star : List Hp → World → (Nat → Prop) → Prop
  | [], _, F => ∀ k, ¬ F k
  | h :: t, w, F => ∃ G H, h.P w G ∧ star t w H ∧ (∀ k, G k → ¬ H k) ∧ ∀ k, F k ↔ G k ∨ H k
theorem star_stab : ∀ (L : List Hp) {w w' : World} {F : Nat → Prop}, star L w F → (∀ k, F k → w'.heap[k]? = w.heap[k]?) → star L w' F
  | [], _, _, _, h, _ => h
  | h :: t, _, _, _, ⟨G, H, h1, h2, h3, h4⟩, he => ⟨G, H, h.stab h1 (fun k hk => he k ((h4 k).2 (.inl hk))), star_stab t h2 (fun k hk => he k ((h4 k).2 (.inr hk))), h3, h4⟩
theorem star_ext : ∀ {L : List Hp} {w : World} {F G : Nat → Prop}, star L w F → (∀ k, F k ↔ G k) → star L w G
  | [], _, _, _, h, e => fun k hk => h k ((e k).2 hk)
  | _ :: _, _, _, _, ⟨A, B, h1, h2, h3, h4⟩, e => ⟨A, B, h1, h2, h3, fun k => (e k).symm.trans (h4 k)⟩
theorem star_swap {a b : Hp} {L : List Hp} {w : World} {F : Nat → Prop} : star (a :: b :: L) w F → star (b :: a :: L) w F := by
  rintro ⟨A, H, h1, ⟨B, C, h2, h3, h4, h5⟩, h6, h7⟩
  refine ⟨B, fun k => A k ∨ C k, h2, ⟨A, C, h1, h3, fun k hk hc => h6 k hk ((h5 k).2 (.inr hc)), fun _ => Iff.rfl⟩, ?_, ?_⟩
  · rintro k hb (ha | hc)
    · exact h6 k ha ((h5 k).2 (.inl hb))
    · exact h4 k hb hc
  · intro k
    rw [h7 k, h5 k]
    constructor
    · rintro (h | h | h)
      · exact .inr (.inl h)
      · exact .inl h
      · exact .inr (.inr h)
    · rintro (h | h | h)
      · exact .inr (.inl h)
      · exact .inl h
      · exact .inr (.inr h)
theorem star_perm {L M : List Hp} (h : L.Perm M) : ∀ {w : World} {F : Nat → Prop}, star L w F → star M w F := by
  induction h with
  | nil => exact fun h => h
  | cons x _ ih => exact fun ⟨G, H, h1, h2, h3, h4⟩ => ⟨G, H, h1, ih h2, h3, h4⟩
  | swap x y l => exact star_swap
  | trans _ _ ih1 ih2 => exact fun h => ih2 (ih1 h)
theorem star_app : ∀ {L M : List Hp} {w : World} {F G : Nat → Prop}, star L w F → star M w G → (∀ k, F k → ¬ G k) → star (L ++ M) w fun k => F k ∨ G k
  | [], M, w, F, G, h1, h2, _ => star_ext (L := M) h2 fun k => ⟨.inr, fun h => h.elim (fun h => (h1 k h).elim) id⟩
  | a :: L, M, w, F, G, ⟨A, B, h1, h2, h3, h4⟩, hM, hd => ⟨A, fun k => B k ∨ G k, h1, star_app h2 hM (fun k hk => hd k ((h4 k).2 (.inr hk))), fun k ha hbg => hbg.elim (h3 k ha) (hd k ((h4 k).2 (.inl ha))), fun k => by show (F k ∨ G k) ↔ (A k ∨ (B k ∨ G k)); rw [h4 k, or_assoc]⟩
theorem star_split : ∀ {L M : List Hp} {w : World} {F : Nat → Prop}, star (L ++ M) w F → ∃ G H, star L w G ∧ star M w H ∧ (∀ k, G k → ¬ H k) ∧ ∀ k, F k ↔ G k ∨ H k
  | [], M, w, F, h => ⟨fun _ => False, F, fun _ h => h, h, fun _ h => h.elim, fun k => ⟨.inr, fun h => h.elim False.elim id⟩⟩
  | a :: L, M, w, F, ⟨A, B, h1, h2, h3, h4⟩ => by
    obtain ⟨G, H, g1, g2, g3, g4⟩ := star_split (L := L) h2
    refine ⟨fun k => A k ∨ G k, H, ⟨A, G, h1, g1, fun k ha hg => h3 k ha ((g4 k).2 (.inl hg)), fun _ => Iff.rfl⟩, g2, ?_, fun k => by show F k ↔ ((A k ∨ G k) ∨ H k); rw [h4 k, g4 k, or_assoc]⟩
    rintro k (ha | hg) hh
    · exact h3 k ha ((g4 k).2 (.inr hh))
    · exact g3 k hg hh

/-! ### a world, of which some blocks are as they were, and separate parts are known -/
structure SepL (R : Nat → Prop) (base w : World) (L : List Hp) : Prop where
  os : w.os = base.os
  tape : w.tape = base.tape
  output : w.output = base.output
  size : base.heap.size ≤ w.heap.size
  ro : ∀ k, k < base.heap.size → R k → w.heap[k]? = base.heap[k]?
  ex : ∃ F, star L w F ∧ ∀ k, F k → k < w.heap.size ∧ (k < base.heap.size → ¬ R k)
def All : Nat → Prop := fun _ => True

section
variable {R : Nat → Prop} {base w w' : World} {L : List Hp}
theorem SepL.start (w : World) : SepL All w w [] := ⟨rfl, rfl, rfl, Nat.le_refl _, fun _ _ _ => rfl, fun _ => False, fun _ h => h, fun _ h => h.elim⟩
theorem SepL.chg (h : SepL All base w L) : Chg No base w := ⟨h.os, h.tape, h.output, h.size, fun k hk _ => h.ro k hk trivial⟩
theorem SepL.perm {M : List Hp} (h : SepL R base w L) (p : L.Perm M) : SepL R base w M :=
  ⟨h.os, h.tape, h.output, h.size, h.ro, let ⟨F, h1, h2⟩ := h.ex; ⟨F, star_perm p h1, h2⟩⟩
theorem SepL.tail {a : Hp} (h : SepL R base w (a :: L)) : SepL R base w L :=
  ⟨h.os, h.tape, h.output, h.size, h.ro, let ⟨_, ⟨_, H, _, h2, _, h4⟩, h5⟩ := h.ex; ⟨H, h2, fun k hk => h5 k ((h4 k).2 (.inr hk))⟩⟩
theorem SepL.drew (h : SepL R base w L) : SepL R base w.drew L := ⟨h.os, h.tape, h.output, h.size, h.ro, let ⟨F, h1, h2⟩ := h.ex; ⟨F, star_stab L h1 (fun _ _ => rfl), h2⟩⟩
theorem SepL.undrew (h : SepL R base w.drew L) : SepL R base w L := ⟨h.os, h.tape, h.output, h.size, h.ro, let ⟨F, h1, h2⟩ := h.ex; ⟨F, star_stab L h1 (fun _ _ => rfl), h2⟩⟩
/-- the general step: what is at the head of the list is changed, made, or both -/
theorem SepL.step {A B : List Hp} (h : SepL R base w (A ++ L)) (f : ∀ F, star A w F → ∃ F', star B w' F' ∧ Chg F w w' ∧ ∀ k, F' k → k < w'.heap.size ∧ (F k ∨ w.heap.size ≤ k)) : SepL R base w' (B ++ L) := by
  obtain ⟨F, h1, h2⟩ := h.ex
  obtain ⟨G, H, g1, g2, g3, g4⟩ := star_split h1
  obtain ⟨G', k1, k2, k3⟩ := f G g1
  have hH : ∀ k, H k → k < w.heap.size := fun k hk => (h2 k ((g4 k).2 (.inr hk))).1
  have hkeep : ∀ k, H k → w'.heap[k]? = w.heap[k]? := fun k hk => k2.block k (hH k hk) (fun hg => g3 k hg hk)
  refine ⟨k2.os.trans h.os, k2.tape.trans h.tape, k2.output.trans h.output, Nat.le_trans h.size k2.size, fun k hk hr => ?_, fun k => G' k ∨ H k, star_app k1 (star_stab L g2 hkeep) ?_, ?_⟩
  · have hn : ¬ G k := fun hg => (h2 k ((g4 k).2 (.inl hg))).2 hk hr
    exact (k2.block k (Nat.lt_of_lt_of_le hk h.size) hn).trans (h.ro k hk hr)
  · intro k hk hh
    rcases (k3 k hk).2 with hg | hg
    · exact g3 k hg hh
    · exact absurd (hH k hh) (by omega)
  · rintro k (hk | hk)
    · refine ⟨(k3 k hk).1, fun hb => ?_⟩
      rcases (k3 k hk).2 with hg | hg
      · exact (h2 k ((g4 k).2 (.inl hg))).2 hb
      · have := h.size
        omega
    · exact ⟨Nat.lt_of_lt_of_le (hH k hk) k2.size, (h2 k ((g4 k).2 (.inr hk))).2⟩
theorem star_one {a : Hp} {w : World} {F : Nat → Prop} : star [a] w F ↔ a.P w F := by
  constructor
  · rintro ⟨G, H, h1, h2, h3, h4⟩
    have : F = G := funext fun k => propext ((h4 k).trans ⟨fun h => h.elim id (fun h => (h2 k h).elim), .inl⟩)
    subst this
    exact h1
  · intro h
    exact ⟨F, fun _ => False, h, fun _ h => h, fun _ _ h => h, fun k => ⟨.inl, fun h => h.elim id False.elim⟩⟩
/-- one part is changed -/
theorem SepL.upd {a b : Hp} (h : SepL R base w (a :: L)) (f : ∀ F, a.P w F → ∃ F', b.P w' F' ∧ Chg F w w' ∧ ∀ k, F' k → k < w'.heap.size ∧ (F k ∨ w.heap.size ≤ k)) : SepL R base w' (b :: L) :=
  SepL.step (A := [a]) (B := [b]) h fun F hF => by
    obtain ⟨F', h1, h2, h3⟩ := f F (star_one.1 hF)
    exact ⟨F', star_one.2 h1, h2, h3⟩
/-- a part is made -/
theorem SepL.mk1 {b : Hp} (h : SepL R base w L) (hc : Chg No w w') {F' : Nat → Prop} (hb : b.P w' F') (hf : ∀ k, F' k → k < w'.heap.size ∧ w.heap.size ≤ k) : SepL R base w' (b :: L) :=
  SepL.step (A := []) (B := [b]) h fun _ _ => ⟨F', star_one.2 hb, hc.mono (fun _ _ h => h.elim), fun k hk => ⟨(hf k hk).1, .inr (hf k hk).2⟩⟩
theorem SepL.chgNo (h : SepL R base w L) (hc : Chg No w w') : SepL R base w' L :=
  SepL.step (A := []) (B := []) h fun F hF => ⟨F, hF, hc.mono (fun _ _ h => h.elim), fun k hk => (hF k hk).elim⟩
theorem SepL.newBlk (h : SepL R base w L) {b : Nat} {T : TypeId} {cs : List Value} (hb : Blk w' b T cs) (hn : w.heap.size ≤ b) (hc : Chg No w w') : SepL R base w' (.blk b T cs :: L) :=
  h.mk1 hc (F' := fun k => k = b) ⟨hb, fun _ => Iff.rfl⟩ (by rintro k rfl; exact ⟨hb.lt, hn⟩)
theorem SepL.newOwn (h : SepL R base w L) {T n : Nat} {v : Value} {xs : List (List Value)} (ho : Own T n w' v xs) (hn : ∀ k, sblk v k → w.heap.size ≤ k) (hc : Chg No w w') : SepL R base w' (.own T n v xs :: L) :=
  h.mk1 hc (F' := sblk v) ⟨ho, fun _ => Iff.rfl⟩ (fun k hk => ⟨ho.lt k hk, hn k hk⟩)
theorem SepL.newMap (h : SepL R base w L) {P : Program} {k b : Nat} {M : List (Value × Value)} (hb : MapAt P k w' b M) (hn : w.heap.size ≤ b) (hc : Chg No w w') : SepL R base w' (.map P k b M :: L) :=
  h.mk1 hc (F' := fun k => k = b) ⟨hb, fun _ => Iff.rfl⟩ (by rintro k rfl; exact ⟨hb.lt, hn⟩)
theorem SepL.nilOwn (h : SepL R base w L) (T n : Nat) : SepL R base w (.own T n (.slice none 0 0) [] :: L) := h.newOwn Own.nil (fun _ hk => hk.elim) (Chg.refl No w)
theorem SepL.updBlk {b : Nat} {T : TypeId} {cs ds : List Value} (h : SepL R base w (.blk b T cs :: L)) (hb : Blk w' b T ds) (hc : Chg (fun k => k = b) w w') : SepL R base w' (.blk b T ds :: L) :=
  h.upd fun F ⟨_, hf⟩ => ⟨fun k => k = b, ⟨hb, fun _ => Iff.rfl⟩, hc.mono (fun k _ e => (hf k).2 e), by rintro k rfl; exact ⟨hb.lt, .inl ((hf _).2 rfl)⟩⟩
theorem SepL.updMap {P : Program} {t b : Nat} {M N : List (Value × Value)} (h : SepL R base w (.map P t b M :: L)) (hb : MapAt P t w' b N) (hc : Chg (fun k => k = b) w w') : SepL R base w' (.map P t b N :: L) :=
  h.upd fun F ⟨_, hf⟩ => ⟨fun k => k = b, ⟨hb, fun _ => Iff.rfl⟩, hc.mono (fun k _ e => (hf k).2 e), by rintro k rfl; exact ⟨hb.lt, .inl ((hf _).2 rfl)⟩⟩
theorem SepL.updOwn {T n : Nat} {v v' : Value} {xs ys : List (List Value)} (h : SepL R base w (.own T n v xs :: L)) (hb : Own T n w' v' ys) (hc : Chg (sblk v) w w') (hn : ∀ k, sblk v' k → sblk v k ∨ w.heap.size ≤ k) : SepL R base w' (.own T n v' ys :: L) :=
  h.upd fun _ ⟨_, hf⟩ => ⟨sblk v', ⟨hb, fun _ => Iff.rfl⟩, hc.mono (fun k _ e => (hf k).2 e), fun k hk => ⟨hb.lt k hk, (hn k hk).imp (fun h => (hf k).2 h) id⟩⟩
/-- reading the head -/
theorem SepL.head {a : Hp} (h : SepL R base w (a :: L)) : ∃ F, a.P w F := let ⟨_, ⟨G, _, h1, _⟩, _⟩ := h.ex; ⟨G, h1⟩
theorem SepL.getBlk {b : Nat} {T : TypeId} {cs : List Value} (h : SepL R base w (.blk b T cs :: L)) : Blk w b T cs := let ⟨_, h1⟩ := h.head; h1.1
theorem SepL.getOwn {T n : Nat} {v : Value} {xs : List (List Value)} (h : SepL R base w (.own T n v xs :: L)) : Own T n w v xs := let ⟨_, h1⟩ := h.head; h1.1
theorem SepL.getMap {P : Program} {k b : Nat} {M : List (Value × Value)} (h : SepL R base w (.map P k b M :: L)) : MapAt P k w b M := let ⟨_, h1⟩ := h.head; h1.1
end

/-- several parts, under a thing that is not named outside -/
def hEx {α : Type} (l : α → List Hp) : Hp := ⟨fun w F => ∃ x, star (l x) w F, fun ⟨x, h⟩ he => ⟨x, star_stab _ h he⟩⟩
theorem star_cons_app : ∀ {A L : List Hp} {w : World} {F : Nat → Prop}, star (A ++ L) w F ↔ ∃ G H, star A w G ∧ star L w H ∧ (∀ k, G k → ¬ H k) ∧ ∀ k, F k ↔ G k ∨ H k := by
  intro A L w F
  constructor
  · exact star_split
  · rintro ⟨G, H, h1, h2, h3, h4⟩
    exact star_ext (star_app h1 h2 h3) fun k => (h4 k).symm
theorem SepL.unpack {R : Nat → Prop} {base w : World} {L : List Hp} {α : Type} {l : α → List Hp} (h : SepL R base w (hEx l :: L)) : ∃ x, SepL R base w (l x ++ L) := by
  obtain ⟨F, ⟨G, H, ⟨x, g1⟩, g2, g3, g4⟩, h2⟩ := h.ex
  exact ⟨x, h.os, h.tape, h.output, h.size, h.ro, F, star_cons_app.2 ⟨G, H, g1, g2, g3, g4⟩, h2⟩
theorem SepL.pack {R : Nat → Prop} {base w : World} {L : List Hp} {α : Type} {l : α → List Hp} (x : α) (h : SepL R base w (l x ++ L)) : SepL R base w (hEx l :: L) := by
  obtain ⟨F, h1, h2⟩ := h.ex
  obtain ⟨G, H, g1, g2, g3, g4⟩ := star_cons_app.1 h1
  exact ⟨h.os, h.tape, h.output, h.size, h.ro, F, ⟨G, H, ⟨x, g1⟩, g2, g3, g4⟩, h2⟩

/-! ### what is read of the blocks that stay as they were -/
theorem Rd.keepN {n : Nat} {w w' : World} {v : Value} {xs : List (List Value)} (h : Rd n w v xs) (he : xs ≠ [] → ∀ k, k < w.heap.size → sblk v k → w'.heap[k]? = w.heap[k]?) : Rd n w' v xs := by
  obtain ⟨A, cap, rfl, h1, h2, h3, h4⟩ := h
  refine ⟨A, cap, rfl, h1, h2, h3, fun hn => ?_⟩
  obtain ⟨b, off, rfl, hc⟩ := h4 hn
  exact ⟨b, off, rfl, hc.keep (he hn b hc.lt rfl)⟩
theorem Rd.lt {n : Nat} {w : World} {v : Value} {xs : List (List Value)} (h : Rd n w v xs) (hn : xs ≠ []) : ∀ k, sblk v k → k < w.heap.size := by
  obtain ⟨A, cap, rfl, h1, h2, h3, h4⟩ := h
  obtain ⟨b, off, rfl, hc⟩ := h4 hn
  rintro k rfl
  exact hc.lt
structure RdIn (R : Nat → Prop) (base : World) (n : Nat) (v : Value) (xs : List (List Value)) : Prop where
  rd : Rd n base v xs
  ro : xs ≠ [] → ∀ k, sblk v k → R k
section
variable {R : Nat → Prop} {base w w' : World} {L : List Hp}
theorem SepL.rd (h : SepL R base w L) {n : Nat} {v : Value} {xs : List (List Value)} (hr : RdIn R base n v xs) : Rd n w v xs := hr.rd.keepN fun hn k hk hv => h.ro k hk (hr.ro hn k hv)
theorem RdIn.of {n : Nat} {v : Value} {xs : List (List Value)} (h : Rd n w v xs) : RdIn All w n v xs := ⟨h, fun _ _ _ => trivial⟩
theorem RdIn.all {n : Nat} {v : Value} {xs : List (List Value)} (h : Rd n w v xs) (_ : ∀ k, sblk v k → k < w.heap.size) : RdIn All w n v xs := .of h
theorem RdIn.nil (n : Nat) : RdIn R base n (.slice none 0 0) [] := ⟨Rd.nil, fun _ _ h => h.elim⟩
theorem cut_ne {α : Type} {xs : List α} {l m : Nat} (h : (xs.drop l).take m ≠ []) : xs ≠ [] := by
  rintro rfl
  simp at h
theorem RdIn.cut {n : Nat} {A : Option Addr} {len cap : Nat} {xs : List (List Value)} (hr : RdIn R base n (.slice A len cap) xs) {l h : Nat} (h1 : l ≤ h) (h2 : h ≤ xs.length) :
    RdIn R base n (.slice (cutAddr A cap l n) (h - l) (cap - l)) ((xs.drop l).take (h - l)) := ⟨hr.rd.cut h1 h2, fun hn k hk => hr.ro (cut_ne hn) k (sblk_cut k hk)⟩
/-- what is at the head of the list, while it is only read -/
theorem SepL.freeze {a : Hp} (h : SepL R base w (a :: L)) : ∃ R' F, a.P w F ∧ SepL R' w w L ∧ (∀ k, F k → k < w.heap.size ∧ R' k) ∧ (∀ n v xs, RdIn R base n v xs → RdIn R' w n v xs) ∧ ∀ w' M, SepL R' w w' M → SepL R base w' (a :: M) := by
  obtain ⟨F, ⟨G, H, g1, g2, g3, g4⟩, h2⟩ := h.ex
  refine ⟨fun k => (k < base.heap.size ∧ R k) ∨ G k, G, g1, ⟨rfl, rfl, rfl, Nat.le_refl _, fun _ _ _ => rfl, H, g2, fun k hk => ⟨(h2 k ((g4 k).2 (.inr hk))).1, fun _ hr => ?_⟩⟩, fun k hk => ⟨(h2 k ((g4 k).2 (.inl hk))).1, .inr hk⟩, fun n v xs hr => ⟨h.rd hr, fun hn k hk => .inl ⟨hr.rd.lt hn k hk, hr.ro hn k hk⟩⟩, fun w' M hS => ?_⟩
  · rcases hr with ⟨hb, hr⟩ | hr
    · exact (h2 k ((g4 k).2 (.inr hk))).2 hb hr
    · exact g3 k hr hk
  · obtain ⟨K, k1, k2⟩ := hS.ex
    refine ⟨hS.os.trans h.os, hS.tape.trans h.tape, hS.output.trans h.output, Nat.le_trans h.size hS.size, fun k hk hr => (hS.ro k (Nat.lt_of_lt_of_le hk h.size) (.inl ⟨hk, hr⟩)).trans (h.ro k hk hr), fun k => G k ∨ K k, ⟨G, K, a.stab g1 fun k hk => hS.ro k (h2 k ((g4 k).2 (.inl hk))).1 (.inr hk), k1, fun k hg hk => (k2 k hk).2 (h2 k ((g4 k).2 (.inl hg))).1 (.inr hg), fun _ => Iff.rfl⟩, ?_⟩
    rintro k (hk | hk)
    · exact ⟨Nat.lt_of_lt_of_le (h2 k ((g4 k).2 (.inl hk))).1 hS.size, (h2 k ((g4 k).2 (.inl hk))).2⟩
    · exact ⟨(k2 k hk).1, fun hb hr => (k2 k hk).2 (Nat.lt_of_lt_of_le hb h.size) (.inl ⟨hb, hr⟩)⟩
end

section
variable {R : Nat → Prop} {base w w' : World} {L : List Hp}
theorem SepL.fromOwn {T n : Nat} {v : Value} {xs : List (List Value)} {b : Hp} (h : SepL R base w (.own T n v xs :: L)) {F' : Nat → Prop} (hb : b.P w' F') (hc : Chg (sblk v) w w') (hn : ∀ k, F' k → k < w'.heap.size ∧ (sblk v k ∨ w.heap.size ≤ k)) : SepL R base w' (b :: L) :=
  h.upd fun _ ⟨_, hf⟩ => ⟨F', hb, hc.mono (fun k _ e => (hf k).2 e), fun k hk => ⟨(hn k hk).1, (hn k hk).2.imp (fun h => (hf k).2 h) id⟩⟩
theorem SepL.freezeOwn {T n : Nat} {v : Value} {xs : List (List Value)} (h : SepL R base w (.own T n v xs :: L)) : ∃ R', SepL R' w w L ∧ RdIn R' w n v xs ∧ (∀ n v xs, RdIn R base n v xs → RdIn R' w n v xs) ∧ ∀ w' M, SepL R' w w' M → SepL R base w' (.own T n v xs :: M) := by
  obtain ⟨R', G, h1, h2, h3, h4, h5⟩ := h.freeze
  exact ⟨R', h2, ⟨h1.1.rd, fun _ k hk => (h3 k ((h1.2 k).2 hk)).2⟩, h4, h5⟩
theorem SepL.freezeBlk {b : Nat} {T : TypeId} {cs : List Value} (h : SepL R base w (.blk b T cs :: L)) : ∃ R', SepL R' w w L ∧ Blk w b T cs ∧ R' b ∧ (∀ n v xs, RdIn R base n v xs → RdIn R' w n v xs) ∧ ∀ w' M, SepL R' w w' M → SepL R base w' (.blk b T cs :: M) := by
  obtain ⟨R', G, h1, h2, h3, h4, h5⟩ := h.freeze
  exact ⟨R', h2, h1.1, (h3 b ((h1.2 b).2 rfl)).2, h4, h5⟩
end

/-! ### the order of the list -/
/-- one out of a list -/
def Take1 (L : List Hp) (x : Hp) (M : List Hp) : Prop := L.Perm (x :: M)
theorem t0 {a : Hp} {L : List Hp} : Take1 (a :: L) a L := List.Perm.refl _
theorem tS {a x : Hp} {L M : List Hp} (h : Take1 L x M) : Take1 (a :: L) x (a :: M) := (List.Perm.cons a h).trans (.swap _ _ _)
theorem Take1.perm {L M : List Hp} {x : Hp} (h : Take1 L x M) : L.Perm (x :: M) := h
theorem SepL.bring {R : Nat → Prop} {base w : World} {L M : List Hp} {x : Hp} (h : SepL R base w L) (t : Take1 L x M) : SepL R base w (x :: M) := h.perm t
/-- some of a list, in another order -/
def Sel (L M : List Hp) : Prop := ∀ (w : World) (F : Nat → Prop), star L w F → ∃ G, star M w G ∧ ∀ k, G k → F k
theorem Sel.refl {L : List Hp} : Sel L L := fun _ F h => ⟨F, h, fun _ h => h⟩
theorem Sel.drop {a : Hp} {L M : List Hp} (s : Sel L M) : Sel (a :: L) M := by
  rintro w F ⟨G, H, h1, h2, h3, h4⟩
  obtain ⟨K, k1, k2⟩ := s w H h2
  exact ⟨K, k1, fun k hk => (h4 k).2 (.inr (k2 k hk))⟩
theorem Sel.take {x : Hp} {L M N : List Hp} (t : Take1 L x M) (s : Sel M N) : Sel L (x :: N) := by
  intro w F h
  obtain ⟨G, H, h1, h2, h3, h4⟩ := star_perm t.perm h
  obtain ⟨K, k1, k2⟩ := s w H h2
  refine ⟨fun k => G k ∨ K k, ⟨G, K, h1, k1, fun k hg hk => h3 k hg (k2 k hk), fun _ => Iff.rfl⟩, ?_⟩
  rintro k (hk | hk)
  · exact (h4 k).2 (.inl hk)
  · exact (h4 k).2 (.inr (k2 k hk))
theorem SepL.sel {R : Nat → Prop} {base w : World} {L M : List Hp} (h : SepL R base w L) (s : Sel L M) : SepL R base w M := by
  obtain ⟨F, h1, h2⟩ := h.ex
  obtain ⟨G, g1, g2⟩ := s w F h1
  exact ⟨h.os, h.tape, h.output, h.size, h.ro, G, g1, fun k hk => h2 k (g2 k hk)⟩
theorem ownP {T n : Nat} {w : World} {v : Value} {xs : List (List Value)} (h : Own T n w v xs) : (Hp.own T n v xs).P w (sblk v) := ⟨h, fun _ => Iff.rfl⟩
theorem blkP {b : Nat} {T : TypeId} {w : World} {cs : List Value} (h : Blk w b T cs) : (Hp.blk b T cs).P w (fun k => k = b) := ⟨h, fun _ => Iff.rfl⟩
attribute [irreducible] Hp.blk Hp.own Hp.map hEx Take1 Sel
end Go.Px
