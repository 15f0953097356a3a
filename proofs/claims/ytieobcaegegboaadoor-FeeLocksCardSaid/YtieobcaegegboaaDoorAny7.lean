/- Third part of the proof that a region with loads or new memory beside calls may be walked in a few orders: the region's theorem for one order. Conditions: those that stand ahead of each theorem. -/
/-
  Loads from blocks that stay; a region cut at places. Over any program. No condition is added to any statement here.
-/
import Derived.Test.YtieobcaegegboaaDoorAny6
import Derived.Test.YtieobcaegegboaaDoorRet
namespace Go.Px
open Go Go.RowKit
section
variable {P : Program} {C : World → Prop}
def StayC {α : Type} (P : Program) (C : World → Prop) (s : Sem α) : Prop := ∀ w1 w2 v w', C w1 → C w2 → s.run P w1 = .ok v w' → w' = w1 ∧ s.run P w2 = .ok v w2
theorem StayC.bind {α β : Type} {s : Sem α} {f : α → Sem β} (hs : StayC P C s) (hf : ∀ x, StayC P C (f x)) : StayC P C (s >>= f) := fun w1 w2 v w' h1 h2 h => by
  obtain ⟨x, w3, g1, g2⟩ := run_bind_ok h
  obtain ⟨rfl, e1⟩ := hs w1 w2 x w3 h1 h2 g1
  obtain ⟨rfl, e2⟩ := hf x w3 w2 v w' h1 h2 g2
  exact ⟨rfl, by rw [Sem.run_bind, e1]; exact e2⟩
theorem StayC.still {α : Type} {s : Sem α} (h : Still P s) : StayC P C s := fun w1 w2 v w' _ _ hr => ⟨(h w1 v w' hr).1, (h w1 v w' hr).2 w2⟩
theorem stayC_load {b : Nat} {cs : Array Value} {T : TypeId} {fr : Nat × Nat} (hb : ∀ w, C w → w.heap[b]? = some (.cells cs T fr)) (a : Addr) (ha : a.block = b) (m : Mode) : StayC P C (load a m) := by
  intro w1 w2 v w' h1 h2 h
  unfold load at h ⊢
  simp only [Sem.run] at h ⊢
  have e1 := hb w1 h1
  have e2 := hb w2 h2
  rw [← ha] at e1 e2
  have ec : w2.cell? a = w1.cell? a := World.cell?_of_block (by rw [e1, e2])
  rw [ec]
  split at h
  · rename_i u hu
    injection h with g1 g2
    subst g1; subst g2
    exact ⟨rfl, rfl⟩
  · exfalso
    unfold World.farLoad at h
    rw [e1] at h
    cases h
theorem stayC_loadCellsFrom {b : Nat} {cs : Array Value} {T : TypeId} {fr : Nat × Nat} (hb : ∀ w, C w → w.heap[b]? = some (.cells cs T fr)) (a : Addr) (ha : a.block = b) : ∀ (n i : Nat) (acc : Array Value), StayC P C (loadCellsFrom a i n acc)
  | 0, i, acc => StayC.still (Still.pure _)
  | n + 1, i, acc => by
    unfold loadCellsFrom
    exact (stayC_load hb _ (by unfold Addr.add; split <;> exact ha) _).bind fun v => stayC_loadCellsFrom hb a ha n (i + 1) _
theorem stab_blk {b : Nat} {cs : Array Value} {T : TypeId} {fr : Nat × Nat} (hb : ∀ w, C w → w.heap[b]? = some (.cells cs T fr)) (off : Nat) (sp : Option Nat) : Stab P C (.pointer (some ⟨b, off, sp⟩)) := by
  intro t w1 w2 v h1 h2 hr
  have : StayC P C (Instr.loadAt t (.pointer (some ⟨b, off, sp⟩))) := by
    show StayC P C (loadVar t ⟨b, off, sp⟩)
    unfold loadVar
    refine (StayC.still (still_isAgg t)).bind fun q => ?_
    split
    · exact (StayC.still (still_sizeOf t)).bind fun n => (stayC_loadCellsFrom hb _ rfl _ _ _).bind fun _ => StayC.still (Still.pure _)
    · exact stayC_load hb _ rfl _
  exact (this w1 w2 v w1 h1 h2 hr).2
def cutAt : List Nat → List Oper → List (List Oper)
  | [], l => [l]
  | n :: ns, l => l.take n :: cutAt ns (l.drop n)
theorem cutAt_flatten : ∀ (ns : List Nat) (l : List Oper), (cutAt ns l).flatten = l
  | [], l => by simp [cutAt]
  | n :: ns, l => by simp [cutAt, cutAt_flatten ns]
theorem Up.blk {b : Nat} {T : TypeId} {cs : List Value} : Up (fun w => Blk w b T cs) := fun _ _ h he => h.keep (he b h.lt)
theorem Up.and {C D : World → Prop} (h : Up C) (k : Up D) : Up (fun w => C w ∧ D w) := fun _ _ hh he => ⟨h _ _ hh.1 he, k _ _ hh.2 he⟩
theorem wp_region_cuts {Q : Exit → Act → World → Prop} {id : Nat} {l : List Oper} {a : Act} {w : World} (hm : P.follows .mixedOrders = true) (ls : List Tmp) (hB : ordOkC P l.toArray (Region.before l.toArray) ls = true) (C : World → Prop) (hUp : Up C) (hC : C w.drew) (ns : List Nat) (hok : segsOk P (cutAt ns l) = true) (hQ : Clean Q)
    (h : wpSegs P l.toArray C (FinC P (dyns P l) C ls Q) (cutAt ns l) a w.drew) : (Code.region id l.toArray true).wp P Q a w :=
  wp_region_segs hm ls hB C hUp hC (cutAt ns l) (cutAt_flatten ns l) hok hQ h
theorem segs_go {ops : Array Oper} {Q : Exit → Act → World → Prop} {s : List Oper} {ss : List (List Oper)} {a : Act} {w : World}
    (h : wpList P ops (fun e a' w' => match e with | .normal => C w' ∧ wpSegs P ops C Q ss a' w' | e => Q e a' w') s a w) : wpSegs P ops C Q (s :: ss) a w := h
end
end Go.Px
