/- What further laws of this seat share: a watch is shown a list of one's own; sums that are alike. Conditions: those that stand ahead of each theorem. -/
import Derived.Test.YtnjeoaplohlgkaaDoorGTc
namespace Go.Proofs.YtnjeoaplohlgkaaDoor
open Go.RowKit Go.Px Go.Sha
section
variable {R : Nat → Prop} {base w : World} {F : List Hp}
theorem see_list {p : Nat} {E : List Int} {S0 : List PS} {v : Value} {l : List (Value × PS)} (hS : SepL R base w (.own 39 4 v (l.map sC) :: hW p E S0 :: F)) (hK : CIn R base 1 (kTab.map W32)) (hF : CIn R base 0 (first.map W32)) (hat : ∀ x ∈ l, RdIn R base 1 x.1 (bytes x.2.bytes)) (hL : LOk (l.map (·.2))) (h0 : S0.length + l.length ≤ 10000) :
    Calls Tryd.prog 12 #[.pointer (some ⟨p, 0, none⟩), v] w (Ret fun _ w' => SepL R base w' (.own 39 4 v (l.map sC) :: hW p E (S0 ++ seesP E (l.map (·.2))) :: F)) := by
  obtain ⟨R', h1, h2, h3, h4⟩ := hS.freezeOwn
  refine Ret.calls (see_s h1 (kTab_mv hK h3) (first_mv hF h3) ⟨h2, fun x hx => h3 _ _ _ (hat x hx)⟩ hL h0) ?_
  intro r w' h5
  exact h4 w' _ h5
end
theorem op_neHash {o : Oper} {ρ : Operand → Value} {w : World} {x y : Operand} {t : TypeId} (ho : o.op = .binOp .neq 33 x y t) {a b : List Byte} (hx : ρ x = .agg (a.map B8).toArray) (hy : ρ y = .agg (b.map B8).toArray) (ha : a.length = 32) (hb : a = b) : (execOp ρ o).run Tryd.prog w = .ok (.value (.bool false)) w := by
  subst hb
  rw [op_neq keyHash ho hx hy (isKey_bytes arrHash undU8 sizeT ha) (isKey_bytes arrHash undU8 sizeT ha), eqv_self]
  rfl
theorem mem_take_next {P : List Int} {k : Nat} (hk : k < P.length) (q : Int) : decide (q ∈ P.take (k + 1)) = (decide (q ∈ P.take k) || (P[k] == q)) := by
  rw [List.take_succ_eq_append_getElem hk, Bool.eq_iff_iff]
  simp only [List.mem_append, List.mem_singleton, decide_eq_true_eq, Bool.or_eq_true, beq_iff_eq]
  constructor
  · rintro (h | h)
    · exact .inl h
    · exact .inr h.symm
  · rintro (h | h)
    · exact .inl h
    · exact .inr h.symm
end Go.Proofs.YtnjeoaplohlgkaaDoor
