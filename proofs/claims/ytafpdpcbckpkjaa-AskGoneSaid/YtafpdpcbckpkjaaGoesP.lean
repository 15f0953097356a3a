/- What the law about who is asked next says, in plain numbers. Conditions: those that stand ahead of each theorem. -/
import Derived.Test.YtafpdpcbckpkjaaOffersP
namespace Go.Proofs.Ytafpdpcbckpkjaa
open Go.RowKit Go.Px
/-- who is asked has it not: the next one is -/
theorem lack_first {B : List Ent} {i : List Byte} {t : Nat} (ok : BOk B) (h : i ∈ ids B) : ∃ e : Ent, peersL i B = e.peer :: e.waits ∧ lackV e.peer i B = .tuple #[I64 ((e.waits.head?).getD 0), .bool (decide (1 < (peersL i B).length))] ∧ peersL i (lackB i e.peer t B) = e.waits ∧ (i ∈ ids (lackB i e.peer t B) ↔ 1 < (peersL i B).length) := by
  obtain ⟨A, e, C, rfl, rfl, h1, h2⟩ := split_at ok.nodup h
  have hb : lackB e.id e.peer t (A ++ e :: C) = A ++ (goE t e).toList ++ C := by
    unfold lackB
    rw [turn_at h1 h2]
    unfold lackE
    simp
  have hp : peersL e.id (A ++ e :: C) = e.peer :: e.waits := by
    unfold peersL
    rw [entOf_mid h1]
  refine ⟨e, hp, ?_, ?_, ?_⟩
  · rw [lackV_eq, hp]
    unfold lackQ
    rw [entOf_mid h1]
    cases hw : e.waits <;> simp [hw]
  · rw [hb]
    unfold goE
    split
    · rename_i hw
      rw [hw]
      refine peersL_out ?_
      simp only [Option.toList_none, List.append_nil]
      rw [ids_app, List.mem_append]
      rintro (h3 | h3)
      · exact h1 h3
      · exact h2 h3
    · rename_i q r hw
      rw [hw]
      unfold peersL
      rw [Option.toList_some, List.append_assoc, List.singleton_append, show entOf e.id (A ++ { e with peer := q, since := t, waits := r } :: C) = _ from entOf_mid (e := { e with peer := q, since := t, waits := r }) h1]
  · rw [hb, hp]
    unfold goE
    split
    · rename_i hw
      rw [hw]
      simp only [Option.toList_none, List.append_nil]
      rw [ids_app, List.mem_append]
      constructor
      · rintro (h3 | h3)
        · exact absurd h3 h1
        · exact absurd h3 h2
      · intro h3
        simp at h3
    · rename_i q r hw
      rw [hw]
      simp [ids]
theorem got_gone {B : List Ent} {i : List Byte} : i ∉ ids (gotB i B) := by
  intro h
  obtain ⟨x, hx, rfl⟩ := List.mem_map.1 h
  obtain ⟨e, _, h2⟩ := mem_turn hx
  rcases h2 with ⟨_, h2⟩ | ⟨h2, rfl⟩
  · cases h2
  · exact h2 rfl
/-- the book when all are late -/
def endB (B : List Ent) : List Ent := eachB (lateOn 18446744073709551615) 18446744073709551615 B
def endW (B : List Ent) : List (List Byte × Int) := eachW (lateOn 18446744073709551615) B
theorem end_late (e : Ent) : (lateOn 18446744073709551615 e).2 = true := decide_eq_true (by unfold laterN; omega)
theorem end_ok {B : List Ent} (ok : BOk B) : BOk (endB B) := late_ok ok (by omega)
theorem endB_eq (B : List Ent) : endB B = B.filterMap (goE 18446744073709551615) := by
  unfold endB eachB
  refine fm_congr fun e _ => ?_
  unfold eachE
  rw [if_pos (end_late e)]
  rfl
/-- of whom is asked anew the first peer is the one who is asked -/
theorem end_first {B : List Ent} (ok : BOk B) {x : List Byte × Int} (hx : x ∈ endW B) : x.1.length = 32 ∧ ∃ r, peersL x.1 (endB B) = x.2 :: r := by
  unfold endW eachW at hx
  obtain ⟨e, he, hx⟩ := List.mem_filterMap.1 hx
  unfold wantE at hx
  rw [if_pos (end_late e)] at hx
  obtain ⟨q, hq, rfl⟩ := Option.map_eq_some_iff.1 hx
  refine ⟨ok.len e he, ?_⟩
  have hw : ∃ r, e.waits = q :: r := by
    have hq2 : e.waits.head? = some q := hq
    cases hr : e.waits with
    | nil => rw [hr] at hq2; cases hq2
    | cons a r => rw [hr] at hq2; injection hq2 with hq2; exact ⟨r, by rw [hq2]⟩
  obtain ⟨r, hr⟩ := hw
  refine ⟨r, ?_⟩
  have hm : ({ e with peer := q, since := 18446744073709551615, waits := r } : Ent) ∈ endB B := by
    rw [endB_eq]
    refine List.mem_filterMap.2 ⟨e, he, ?_⟩
    unfold goE
    rw [hr]
  exact peersL_at (end_ok ok).nodup hm
/-- so many rounds at most are left -/
def Left (n : Nat) (B : List Ent) : Prop := ∀ e ∈ B, e.waits.length < n
theorem left_four {B : List Ent} (ok : BOk B) : Left 4 B := fun e he => by have := (ok.wait e he).2; omega
theorem left_next {n : Nat} {B : List Ent} (h : Left (n + 1) B) : Left n (endB B) := by
  intro x hx
  rw [endB_eq] at hx
  obtain ⟨e, he, hg⟩ := List.mem_filterMap.1 hx
  have h2 := h e he
  unfold goE at hg
  split at hg
  · cases hg
  · rename_i q r hr
    injection hg with hg
    rw [← hg]
    rw [hr] at h2
    simp at h2 ⊢
    omega
theorem left_none {B : List Ent} (h : Left 0 B) : B = [] := List.eq_nil_iff_forall_not_mem.2 fun e he => absurd (h e he) (by omega)
theorem endW_len {B : List Ent} (ok : BOk B) : (endW B).length ≤ 32 := Nat.le_trans (eachW_len _) ok.few
section
variable {R : Nat → Prop} {base w : World} {F : List Hp} {p : Nat} {B : List Ent}
theorem end_s (hS : SepL R base w (hB p B :: F)) (ok : BOk B) :
    Calls Try.prog 13 #[.pointer (some ⟨p, 0, none⟩), U 18446744073709551615] w (Ret fun r w' => SepL R base w' (.own 55 33 r ((endW B).map wC) :: hB p (endB B) :: F)) := late_s hS ok (by omega)
end
attribute [irreducible] endW endB
end Go.Proofs.Ytafpdpcbckpkjaa
