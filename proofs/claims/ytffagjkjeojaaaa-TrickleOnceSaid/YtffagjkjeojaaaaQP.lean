/- What a peer knows and what it is to be told, in plain lists. Conditions: those that stand ahead of each theorem. -/
import Derived.Test.YtffagjkjeojaaaaT
namespace Go.Proofs.Ytffagjkjeojaaaa
open Go.RowKit Go.Px
abbrev Id := List Byte
/-- one more is known -/
def add1 (L : List Id) (x : Id) : List Id := if x ∈ L then L else if L.length < 64 then L ++ [x] else L.drop 1 ++ [x]
def gone1 (L : List Id) (x : Id) : List Id := if x ∈ L then [] else if L.length < 64 then [] else L.take 1
def adds (L l : List Id) : List Id := l.foldl add1 L
def gones : List Id → List Id → List Id
  | _, [] => []
  | L, x :: l => gone1 L x ++ gones (add1 L x) l
/-- a list without an id -/
def outId (x : Id) (l : List Id) : List Id := l.filter fun y => decide (y ≠ x)
/-- a list without some ids -/
def outIds (r l : List Id) : List Id := l.filter fun y => decide (y ∉ r)
structure Qu where
  known : List Id
  waits : List Id
def learnQ (q : Qu) (l : List Id) : Qu := ⟨adds q.known l, outIds l q.waits⟩
def last64 (l : List Id) : List Id := if 64 < l.length then l.drop 1 else l
def put1 (q : Qu) (x : Id) : Qu := if x ∈ q.known then q else ⟨q.known, last64 (outId x q.waits ++ [x])⟩
def putQ (q : Qu) (l : List Id) : Qu := l.foldl put1 q
/-- what is told of those that wait, of what is there, when so many are told already; and what waits still -/
def tells (live : List Id) : Nat → List Id → List Id × List Id
  | _, [] => ([], [])
  | n, x :: l => if 32 ≤ n then ([], x :: l) else if x ∈ live then (x :: (tells live (n + 1) l).1, (tells live (n + 1) l).2) else tells live n l
def told (q : Qu) (live : List Id) : List Id := (tells live 0 q.waits).1
def flushQ (q : Qu) (live : List Id) : Qu := ⟨adds q.known (told q live), (tells live 0 q.waits).2⟩
theorem adds_app (L l m : List Id) : adds L (l ++ m) = adds (adds L l) m := List.foldl_append ..
theorem adds_nil (L : List Id) : adds L [] = L := rfl
theorem adds_one (L : List Id) (x : Id) : adds L [x] = add1 L x := rfl
theorem adds_cons (L l : List Id) (x : Id) : adds L (x :: l) = adds (add1 L x) l := rfl
theorem gones_app : ∀ (L l m : List Id), gones L (l ++ m) = gones L l ++ gones (adds L l) m
  | L, [], m => rfl
  | L, x :: l, m => by
    show gone1 L x ++ gones (add1 L x) (l ++ m) = (gone1 L x ++ gones (add1 L x) l) ++ gones (adds (add1 L x) l) m
    rw [gones_app, List.append_assoc]
theorem mem_add1 {L : List Id} {x y : Id} (h : y ∈ add1 L x) : y ∈ L ∨ y = x := by
  unfold add1 at h
  split at h
  · exact .inl h
  · split at h
    · simpa using h
    · rcases List.mem_append.1 h with h | h
      · exact .inl (List.mem_of_mem_drop h)
      · exact .inr (by simpa using h)
theorem mem_adds : ∀ {l L : List Id} {y : Id}, y ∈ adds L l → y ∈ L ∨ y ∈ l
  | [], _, _, h => .inl h
  | x :: l, L, y, h => by
    rcases mem_adds (l := l) (L := add1 L x) h with h | h
    · rcases mem_add1 h with h | h
      · exact .inl h
      · exact .inr (by simp [h])
    · exact .inr (by simp [h])
theorem add1_len {L : List Id} {x : Id} (h : L.length ≤ 64) : (add1 L x).length ≤ 64 := by
  unfold add1
  split
  · exact h
  · split
    · simp; omega
    · simp; omega
theorem adds_len : ∀ {l L : List Id}, L.length ≤ 64 → (adds L l).length ≤ 64
  | [], _, h => h
  | _ :: l, _, h => adds_len (l := l) (add1_len h)
theorem add1_nd {L : List Id} {x : Id} (h : L.Nodup) : (add1 L x).Nodup := by
  unfold add1
  split
  · exact h
  · rename_i hx
    split
    · exact List.nodup_append.2 ⟨h, by simp, fun a ha b hb => by rw [List.mem_singleton.1 hb]; rintro rfl; exact hx ha⟩
    · exact List.nodup_append.2 ⟨h.sublist (List.drop_sublist 1 L), by simp, fun a ha b hb => by rw [List.mem_singleton.1 hb]; rintro rfl; exact hx (List.mem_of_mem_drop ha)⟩
theorem adds_nd : ∀ {l L : List Id}, L.Nodup → (adds L l).Nodup
  | [], _, h => h
  | _ :: l, _, h => adds_nd (l := l) (add1_nd h)
theorem gone1_len (L : List Id) (x : Id) : (gone1 L x).length ≤ 1 := by
  unfold gone1
  split
  · simp
  · split
    · simp
    · simp; omega
theorem gones_len : ∀ (l L : List Id), (gones L l).length ≤ l.length
  | [], _ => by simp [gones]
  | x :: l, L => by
    have h1 := gone1_len L x
    have h2 := gones_len l (add1 L x)
    simp only [gones, List.length_append, List.length_cons]
    omega
/-- ids of 32 bytes -/
def Is32 (l : List Id) : Prop := ∀ x ∈ l, x.length = 32
theorem Is32.add1 {L : List Id} {x : Id} (h : Is32 L) (hx : x.length = 32) : Is32 (add1 L x) := fun y hy => (mem_add1 hy).elim (h y) fun e => by rw [e]; exact hx
theorem Is32.adds {L l : List Id} (h : Is32 L) (hl : Is32 l) : Is32 (adds L l) := fun y hy => (mem_adds hy).elim (h y) (hl y)
theorem Is32.app {L l : List Id} (h : Is32 L) (hl : Is32 l) : Is32 (L ++ l) := fun y hy => (List.mem_append.1 hy).elim (h y) (hl y)
theorem Is32.sub {L l : List Id} (h : Is32 L) (hl : List.Sublist l L) : Is32 l := fun y hy => h y (hl.subset hy)
theorem outId_sub (x : Id) (l : List Id) : List.Sublist (outId x l) l := List.filter_sublist
theorem outIds_sub (r l : List Id) : List.Sublist (outIds r l) l := List.filter_sublist
theorem last64_sub (l : List Id) : List.Sublist (last64 l) l := by
  unfold last64
  split
  · exact List.drop_sublist 1 l
  · exact List.Sublist.refl l
theorem not_mem_outId (x : Id) (l : List Id) : x ∉ outId x l := by
  unfold outId
  simp [List.mem_filter]
theorem mem_outId {x y : Id} {l : List Id} : y ∈ outId x l ↔ y ∈ l ∧ y ≠ x := by
  unfold outId
  simp [List.mem_filter]
theorem mem_outIds {r l : List Id} {y : Id} : y ∈ outIds r l ↔ y ∈ l ∧ y ∉ r := by
  unfold outIds
  simp [List.mem_filter]
theorem tells_parts (live : List Id) : ∀ (l : List Id) (n : Nat), (tells live n l).1.length + n ≤ max n 32 ∧ List.Sublist ((tells live n l).1 ++ (tells live n l).2) l ∧ (∀ x ∈ (tells live n l).1, x ∈ live)
  | [], n => by simp [tells]; omega
  | x :: l, n => by
    unfold tells
    split
    · exact ⟨by simp; omega, by simp, by simp⟩
    · rename_i hn
      split
      · rename_i hx
        obtain ⟨h1, h2, h3⟩ := tells_parts live l (n + 1)
        refine ⟨by simp only [List.length_cons]; omega, by simpa using h2, fun y hy => ?_⟩
        rcases List.mem_cons.1 hy with rfl | hy
        · exact hx
        · exact h3 y hy
      · obtain ⟨h1, h2, h3⟩ := tells_parts live l n
        exact ⟨h1, h2.trans (List.sublist_cons_self x l), h3⟩
/-- what holds of a queue -/
structure QOk (q : Qu) : Prop where
  kn : q.known.Nodup
  kl : q.known.length ≤ 64
  k32 : Is32 q.known
  wn : q.waits.Nodup
  wl : q.waits.length ≤ 64
  w32 : Is32 q.waits
  apart : ∀ x ∈ q.waits, x ∉ q.known
theorem QOk.nil : QOk ⟨[], []⟩ := ⟨by simp, by simp, by simp [Is32], by simp, by simp, by simp [Is32], by simp⟩
theorem QOk.learn {q : Qu} {l : List Id} (h : QOk q) (hl : Is32 l) : QOk (learnQ q l) where
  kn := adds_nd h.kn
  kl := adds_len h.kl
  k32 := h.k32.adds hl
  wn := h.wn.sublist (outIds_sub l q.waits)
  wl := Nat.le_trans (outIds_sub l q.waits).length_le h.wl
  w32 := h.w32.sub (outIds_sub l q.waits)
  apart := fun x hx hk => by
    have h1 := mem_outIds.1 hx
    rcases mem_adds hk with h2 | h2
    · exact h.apart x h1.1 h2
    · exact h1.2 h2
theorem last64_len {l : List Id} (h : l.length ≤ 65) : (last64 l).length ≤ 64 := by
  unfold last64
  split
  · rw [List.length_drop]; omega
  · omega
theorem QOk.put1 {q : Qu} {x : Id} (h : QOk q) (hx : x.length = 32) : QOk (put1 q x) := by
  unfold Go.Proofs.Ytffagjkjeojaaaa.put1
  split
  · exact h
  · rename_i hk
    have hs := outId_sub x q.waits
    have hn : (outId x q.waits ++ [x]).Nodup := List.nodup_append.2 ⟨h.wn.sublist hs, by simp, fun a ha b hb => by rw [List.mem_singleton.1 hb]; rintro rfl; exact not_mem_outId a q.waits ha⟩
    refine ⟨h.kn, h.kl, h.k32, hn.sublist (last64_sub _), last64_len (by have := hs.length_le; have := h.wl; simp; omega), ?_, fun y hy => ?_⟩
    · exact ((h.w32.sub hs).app (by simpa [Is32] using hx)).sub (last64_sub _)
    · rcases List.mem_append.1 ((last64_sub _).subset hy) with h1 | h1
      · exact h.apart y (hs.subset h1)
      · rw [List.mem_singleton.1 h1]
        exact hk
theorem QOk.put : ∀ {l : List Id} {q : Qu}, QOk q → Is32 l → QOk (putQ q l)
  | [], _, h, _ => h
  | x :: l, _, h, hl => QOk.put (l := l) (h.put1 (hl x (by simp))) fun y hy => hl y (by simp [hy])
theorem told_sub (q : Qu) (live : List Id) : List.Sublist (told q live ++ (flushQ q live).waits) q.waits := (tells_parts live q.waits 0).2.1
theorem told_len (q : Qu) (live : List Id) : (told q live).length ≤ 32 := by
  have h := (tells_parts live q.waits 0).1
  unfold told
  omega
theorem told_live {q : Qu} {live : List Id} {x : Id} (h : x ∈ told q live) : x ∈ live := (tells_parts live q.waits 0).2.2 x h
theorem QOk.told {q : Qu} {live : List Id} (h : QOk q) : Is32 (told q live) := h.w32.sub ((List.sublist_append_left _ _).trans (told_sub q live))
theorem QOk.flush {q : Qu} {live : List Id} (h : QOk q) : QOk (flushQ q live) := by
  have hs := told_sub q live
  have hn := List.nodup_append.1 (h.wn.sublist hs)
  have hr := (List.sublist_append_right _ _).trans hs
  have hl := (List.sublist_append_left _ _).trans hs
  refine ⟨adds_nd h.kn, adds_len h.kl, h.k32.adds (h.w32.sub hl), hn.2.1, Nat.le_trans hr.length_le h.wl, h.w32.sub hr, fun x hx hk => ?_⟩
  rcases mem_adds hk with h1 | h1
  · exact h.apart x (hr.subset hx) h1
  · exact hn.2.2 x h1 x hx rfl
end Go.Proofs.Ytffagjkjeojaaaa
