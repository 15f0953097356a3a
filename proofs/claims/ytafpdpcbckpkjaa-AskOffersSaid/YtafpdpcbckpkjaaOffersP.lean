/- What an offer makes of whom a book has, and of all it has. Conditions: those that stand ahead of each theorem. -/
import Derived.Test.YtafpdpcbckpkjaaOnceP
namespace Go.Proofs.Ytafpdpcbckpkjaa
open Go.RowKit Go.Px
theorem off_full {i : List Byte} {q : Int} {t : Nat} {B : List Ent} (h : i ∉ ids B) (hf : ¬ B.length < 32) : offerA i B = false ∧ offerB i q t B = B := by
  unfold offerA offerB
  rw [if_neg h, if_neg hf]
  simp [hf]
theorem off_new {i : List Byte} {q : Int} {t : Nat} {B : List Ent} (h : i ∉ ids B) (hf : B.length < 32) : offerA i B = true ∧ offerB i q t B = B ++ [⟨i, q, t, []⟩] ∧ peersL i (B ++ [⟨i, q, t, []⟩]) = [q] ∧ allB (B ++ [⟨i, q, t, []⟩]) = allB B ++ [(i, q)] := by
  refine ⟨?_, ?_, ?_, ?_⟩
  · simp [offerA, h, hf]
  · unfold offerB
    rw [if_neg h, if_pos hf]
  · unfold peersL
    rw [show entOf i (B ++ [⟨i, q, t, []⟩]) = some ⟨i, q, t, []⟩ from entOf_mid (e := ⟨i, q, t, []⟩) h]
  · simp [allB]
/-- with one more who may be asked -/
def more (q : Int) (P : List Int) : List Int := if q ∉ P ∧ P.length < 4 then P ++ [q] else P
theorem off_in {i : List Byte} {q : Int} {t : Nat} {B : List Ent} (ok : BOk B) (h : i ∈ ids B) : offerA i B = false ∧ allB (offerB i q t B) = allB B ∧ peersL i (offerB i q t B) = more q (peersL i B) := by
  obtain ⟨A, e, C, rfl, rfl, h1, h2⟩ := split_at ok.nodup h
  have hb : offerB e.id q t (A ++ e :: C) = A ++ joinE q e :: C := by
    unfold offerB
    rw [if_pos h, turn_at h1 h2]
    simp
  have hp : (joinE q e).peer = e.peer := by
    unfold joinE
    split <;> rfl
  refine ⟨by simp [offerA, h], ?_, ?_⟩
  · rw [hb]
    simp [allB, joinE_id, hp]
  · rw [hb]
    have e1 : entOf e.id (A ++ joinE q e :: C) = some (joinE q e) := by
      rw [← joinE_id q e]
      exact entOf_mid (by rw [joinE_id]; exact h1)
    unfold peersL
    rw [e1, entOf_mid h1]
    unfold more joinE
    by_cases hc : e.peer ≠ q ∧ q ∉ e.waits ∧ 1 + e.waits.length < 4
    · rw [if_pos hc, if_pos]
      · rfl
      · refine ⟨?_, by simp; omega⟩
        intro hm
        rcases List.mem_cons.1 hm with hm | hm
        · exact hc.1 hm.symm
        · exact hc.2.1 hm
    · rw [if_neg hc, if_neg]
      rintro ⟨c1, c2⟩
      apply hc
      refine ⟨?_, ?_, by simp at c2; omega⟩
      · rintro rfl
        exact c1 (by simp)
      · intro hm
        exact c1 (by simp [hm])
theorem mem_take_next {P : List Int} {k : Nat} (hk : k < P.length) (q : Int) : decide (q ∈ P.take (k + 1)) = (decide (q ∈ P.take k) || (P[k] == q)) := by
  rw [List.take_succ_eq_append_getElem hk, Bool.eq_iff_iff]
  simp only [List.mem_append, List.mem_singleton, decide_eq_true_eq, Bool.or_eq_true, beq_iff_eq]
  constructor
  · rintro (h | h)
    · exact .inl h
    · exact .inr h.symm
  · rintro (h | h)
    · exact .inl h
    · exact .inr h.symm
end Go.Proofs.Ytafpdpcbckpkjaa
