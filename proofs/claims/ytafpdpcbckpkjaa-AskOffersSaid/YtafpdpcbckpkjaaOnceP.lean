/- Each id is asked for once: what the law says, in plain numbers. Conditions: those that stand ahead of each theorem. -/
import Derived.Test.YtafpdpcbckpkjaaGActs
namespace Go.Proofs.Ytafpdpcbckpkjaa
open Go.RowKit Go.Px
theorem entOf_at {B : List Ent} (h : (ids B).Nodup) {e : Ent} (he : e ∈ B) : entOf e.id B = some e := by
  obtain ⟨A, C, rfl⟩ := List.append_of_mem he
  refine entOf_mid fun hA => ?_
  unfold ids at h hA
  rw [List.map_append, List.map_cons, List.nodup_append] at h
  exact h.2.2 _ hA _ (by simp) rfl
theorem peersL_at {B : List Ent} (h : (ids B).Nodup) {e : Ent} (he : e ∈ B) : peersL e.id B = e.peer :: e.waits := by
  unfold peersL
  rw [entOf_at h he]
theorem peersL_out {B : List Ent} {i : List Byte} (h : i ∉ ids B) : peersL i B = [] := by
  unfold peersL
  rw [entOf_none h]
theorem peersL_pos {B : List Ent} {i : List Byte} : 0 < (peersL i B).length ↔ i ∈ ids B := by
  constructor
  · intro h
    by_cases hi : i ∈ ids B
    · exact hi
    · rw [peersL_out hi] at h
      simp at h
  · intro h
    obtain ⟨e, he, hei⟩ := List.mem_map.1 h
    unfold peersL entOf
    cases hf : B.find? (fun e => decide (e.id = i)) with
    | some x => simp
    | none =>
      rw [List.find?_eq_none] at hf
      exact absurd (decide_eq_true hei) (by simpa using hf e he)
theorem ids_apart {B : List Ent} (h : (ids B).Nodup) {j k : Nat} (hjk : j < k) (hk : k < B.length) : B[j].id ≠ B[k].id := by
  have h2 := List.pairwise_iff_getElem.1 h j k (by simp [ids]; omega) (by simpa [ids] using hk) hjk
  simpa [ids] using h2
theorem ids_take {B : List Ent} {k : Nat} (hk : k < B.length) (i : List Byte) : decide (i ∈ ids (B.take (k + 1))) = (decide (i ∈ ids (B.take k)) || decide (B[k].id = i)) := by
  rw [List.take_succ_eq_append_getElem hk]
  unfold ids
  rw [List.map_append, List.map_singleton, Bool.eq_iff_iff]
  simp only [List.mem_append, List.mem_singleton, decide_eq_true_eq, Bool.or_eq_true]
  constructor
  · rintro (h | h)
    · exact .inl h
    · exact .inr h.symm
  · rintro (h | h)
    · exact .inl h
    · exact .inr h.symm
theorem nodup_apart {P : List Int} (h : P.Nodup) {j k : Nat} (hjk : j < k) (hk : k < P.length) : P[j] ≠ P[k] := List.pairwise_iff_getElem.1 h j k (by omega) hk hjk
theorem peersL_len {B : List Ent} (ok : BOk B) (i : List Byte) : (peersL i B).length ≤ 4 := by
  unfold peersL
  cases hf : entOf i B with
  | none => simp
  | some e =>
    have hm : e ∈ B := List.mem_of_find?_eq_some hf
    have := (ok.wait e hm).2
    simp
    omega
end Go.Proofs.Ytafpdpcbckpkjaa
