/- An element of one cell of a slice of one's own is written. Conditions: those that stand ahead of each theorem. -/
import Derived.Test.YtieobcaegegboaaDoorSepOps
namespace Go.Px
open Go Go.RowKit
section
variable {P : Program} {R : Nat → Prop} {base w : World} {L : List Hp} {ops : Array Oper} {Q : Exit → Act → World → Prop} {rest : List Oper} {a : Act} {o : Oper}
theorem wpS_storeE1 {t : TypeId} (h1 : (P.info? t).map (·.size) = some 1) {e k : Nat} {v : Value} {xs : List (List Value)} (hS : SepL R base w (.own e 1 v xs :: L)) (hgd : Region.wanted o (yielded ops a.tmps) = true) {x y : Operand} (ho : o.op = .store t x y) (hx : a.eval x = elAt 1 v k) {u : Value} (hy : rdOp a y = some u) (hv : u.cells = #[u]) (hone : u.oneCell' = true)
    (hk1 : k < xs.length) (hk : ∀ w', SepL R base w' (.own e 1 v (xs.set k [u]) :: L) → wpList P ops Q rest (a.put o.dst undef) w') : wpList P ops Q (o :: rest) a w := by
  have own := hS.getOwn
  obtain ⟨hl, h2⟩ := own
  rcases h2 with ⟨_, h2⟩ | ⟨b, off, cap, C, rfl, h3, h4, h5, h6, h7⟩
  · subst h2
    simp at hk1
  · replace hx : a.eval x = Value.pointer (some ((⟨b, off, none⟩ : Addr).add (k * 1))) := hx
    rw [Addr.add_lit, Nat.mul_one] at hx
    have hb : Blk w b e C.toList := by unfold Blk; simpa using h5
    refine wpList_store1 h1 hgd ho hx (rdOp_eval hy) hv hone hb (by simp; omega) fun w' hB hC => hk w' (hS.updOwn ⟨fun q hq => ?_, .inr ⟨b, off, cap, _, by simp, by simpa using h3, h4, hB, ?_, ?_⟩⟩ (hC.mono (fun j _ e => e ▸ rfl)) fun j hj => .inl hj)
    · rcases List.mem_or_eq_of_mem_set hq with h | h
      · exact hl q h
      · rw [h]; rfl
    · simp
      omega
    · show ((C.toList.set (off + k) u).drop off).take ((xs.set k [u]).length * 1) = (xs.set k [u]).flatten
      rw [List.drop_set, if_neg (by omega), show off + k - off = k by omega, List.take_set, List.length_set, h7, flatten_set (n := 1) k [u] hl rfl hk1, Nat.mul_one]
      have hf := flatten_length (n := 1) hl
      rw [List.set_eq_take_append_cons_drop, if_pos (by omega)]
      simp
end
end Go.Px
