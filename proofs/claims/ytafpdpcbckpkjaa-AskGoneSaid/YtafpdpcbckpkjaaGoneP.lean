/- What the law about who is gone says, in plain numbers; the rows of peers in memory. Conditions: those that stand ahead of each theorem. -/
import Derived.Test.YtafpdpcbckpkjaaGoesP
namespace Go.Proofs.Ytafpdpcbckpkjaa
open Go.RowKit Go.Px
/-- whom an entry may be asked of -/
def rowE (e : Ent) : List Int := e.peer :: e.waits
theorem rowE_len {B : List Ent} (ok : BOk B) {e : Ent} (he : e ∈ B) : (rowE e).length ≤ 4 := by
  have := (ok.wait e he).2
  unfold rowE
  simp
  omega
theorem wout_row (q : Int) (e : Ent) : wout q (rowE e) = (if e.peer = q then [] else [e.peer]) ++ wout q e.waits := by
  unfold wout rowE
  rw [List.filter_cons]
  by_cases h : e.peer = q
  · simp [h]
  · simp [h]
theorem id_one {B : List Ent} (h : (ids B).Nodup) {e x : Ent} (he : e ∈ B) (hx : x ∈ B) (hi : x.id = e.id) : x = e := by
  have h1 := entOf_at h he
  have h2 := entOf_at h hx
  rw [hi, h1] at h2
  injection h2 with h2
  exact h2.symm
/-- whom may be asked when one is gone -/
theorem gone_row {B : List Ent} (ok : BOk B) {q : Int} {t : Nat} (ht : t < 18446744073709551616) {e : Ent} (he : e ∈ B) : peersL e.id (eachB (goneOn q) t B) = wout q (rowE e) := by
  have ok2 := gone_ok (p := q) (now := t) ok ht
  rw [wout_row]
  cases hE : eachE (goneOn q) t e with
  | none =>
    have h0 : e.id ∉ ids (eachB (goneOn q) t B) := by
      intro h
      obtain ⟨x, hx, hxi⟩ := List.mem_map.1 h
      obtain ⟨y, hy, hyx⟩ := List.mem_filterMap.1 hx
      have hyi : y.id = e.id := by
        rw [← hxi]
        unfold eachE at hyx
        split at hyx
        · rw [goE_id hyx]; rfl
        · injection hyx with hyx; rw [← hyx]; rfl
      rw [id_one ok.nodup he hy hyi, hE] at hyx
      cases hyx
    rw [peersL_out h0]
    unfold eachE goneOn at hE
    split at hE
    · rename_i hp
      have hp2 : e.peer = q := of_decide_eq_true hp
      rw [if_pos hp2]
      unfold goE at hE
      split at hE
      · rename_i hw
        exact hw.symm
      · cases hE
    · cases hE
  | some x =>
    have hx : x ∈ eachB (goneOn q) t B := List.mem_filterMap.2 ⟨e, he, hE⟩
    have hxi : x.id = e.id := by
      unfold eachE at hE
      split at hE
      · rw [goE_id hE]; rfl
      · injection hE with hE; rw [← hE]; rfl
    rw [← hxi, peersL_at ok2.nodup hx]
    unfold eachE goneOn at hE
    split at hE
    · rename_i hp
      have hp2 : e.peer = q := of_decide_eq_true hp
      rw [if_pos hp2]
      unfold goE at hE
      split at hE
      · cases hE
      · rename_i a r hw
        injection hE with hE
        rw [← hE]
        exact hw.symm
    · rename_i hp
      have hp2 : ¬ e.peer = q := fun h => hp (decide_eq_true h)
      rw [if_neg hp2]
      injection hE with hE
      rw [← hE]
      rfl
theorem gone_want (q : Int) (e : Ent) : wantE (goneOn q) e = if e.peer = q then (wout q (rowE e)).head?.map (fun h => (e.id, h)) else none := by
  unfold wantE
  by_cases h : e.peer = q
  · rw [if_pos h, if_pos (show (goneOn q e).2 = true from decide_eq_true h), wout_row, if_pos h]
    rfl
  · rw [if_neg h, if_neg (show ¬ (goneOn q e).2 = true from fun hd => h (of_decide_eq_true hd))]
theorem wout_next {P : List Int} {k : Nat} (hk : k < P.length) (q : Int) : wout q (P.take (k + 1)) = wout q (P.take k) ++ (if P[k] = q then [] else [P[k]]) := by
  rw [List.take_succ_eq_append_getElem hk]
  unfold wout
  rw [List.filter_append]
  congr 1
  by_cases h : P[k] = q
  · simp [h]
  · simp [h]
/-- the cell of a row -/
def rowC (y : Value × List Int) : List Value := [y.1]
/-- rows of peers, each in a slice of its own -/
def rowsP (l : List (Value × List Int)) : List Hp := l.map fun x => .own 3 1 x.1 (x.2.map fun z => [I64 z])
theorem slRows : SlTy Try.prog 63 50 1 24 where
  ty := by kernel_rfl
  info := by
    obtain ⟨i, h1, h2, h3, h4⟩ := info_parts (show (Try.prog.info? 50).map (fun i => (i.zero, i.size, i.bytes)) = some (some (.slice none 0 0), 1, 24) by kernel_rfl)
    exact ⟨i, _, h1, h2, h3, by simp [Value.cells], h4, by simp [Value.cells]; rfl⟩
  pos := by omega
section
variable {R : Nat → Prop} {base w : World} {F : List Hp}
theorem rows_more {a b c : Hp} {l : List (Value × List Int)} {v : Value} {P : List Int} (hS : SepL R base w (.own 3 1 v (P.map fun z => [I64 z]) :: a :: b :: c :: rowsP l)) : SepL R base w (a :: b :: c :: rowsP (l ++ [(v, P)])) := by
  refine hS.perm ?_
  unfold rowsP
  rw [List.map_append, List.map_singleton]
  exact (List.perm_append_singleton _ (a :: b :: c :: l.map fun x => .own 3 1 x.1 (x.2.map fun z => [I64 z]))).symm
theorem rows_at {l : List (Value × List Int)} {k : Nat} (hS : SepL R base w (rowsP l)) (hk : k < l.length) : Rd 1 w l[k].1 (l[k].2.map fun z => [I64 z]) := by
  have h2 : (rowsP l).Perm (.own 3 1 l[k].1 (l[k].2.map fun z => [I64 z]) :: (rowsP (l.take k) ++ rowsP (l.drop (k + 1)))) := by
    have h1 : l = l.take k ++ l[k] :: l.drop (k + 1) := by rw [← List.drop_eq_getElem_cons hk, List.take_append_drop]
    have h3 : rowsP l = rowsP (l.take k) ++ rowsP (l[k] :: l.drop (k + 1)) := by
      conv => lhs; rw [h1]
      simp only [rowsP, List.map_append]
    rw [h3]
    exact List.perm_middle
  exact (hS.perm h2).getOwn.rd
end
theorem rowsP_nil : rowsP [] = [] := rfl
attribute [irreducible] rowsP
end Go.Proofs.Ytafpdpcbckpkjaa
