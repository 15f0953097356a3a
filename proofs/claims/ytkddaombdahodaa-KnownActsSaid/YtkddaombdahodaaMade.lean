/- A set that is made of room for one to sixty-four, behind some ids, holds the list that the plain law says. Conditions: those that stand ahead of each theorem. -/
import Derived.Test.YtkddaombdahodaaAlive
namespace Go.Proofs.Ytkddaombdahodaa
open Go.RowKit Go.Px
set_option maxHeartbeats 400000 in
theorem made_any' (m : Nat) (hm : m < 256) (v : Value) (l : List (List Value)) (w : World) (hl : Rd 32 w v l) (kl : IsHs l) (hb : l ≠ [] → ∀ j, sblk v j → j < w.heap.size) (hlen : l.length ≤ 1000000) :
    Calls Try.prog 20 #[.int .u8 m, v] w (Ret fun r w' => ∃ p S, r = .pointer (some ⟨p, 0, none⟩) ∧ KSet w' p (1 + m % 64) (adds (1 + m % 64) [] l) S ∧ Chg No w w' ∧ ∀ k, S k → w.heap.size ≤ k) := by
  have hn := new_yes (1 + m % 64) w (by omega) (by omega)
  rw [show ((1 + m % 64 : Nat) : Int) = 1 + (m : Int) % 64 from by omega] at hn
  have HN := hide hn
  clear hn
  go_enter Try.func20, Try.ntmps20
  go_wp2_with fail
  refine Ret.calls (unhide HN) ?_
  rintro r w1 ⟨p, S, hv, hS1, hc1, hf1⟩
  rw [hv]
  clear hv HN
  go_wp2_with fail
  refine Ret.calls (add_any' p (1 + m % 64) [] S v l w1 hS1 (hl.chgNo hc1) kl (fun hne j hj hSj => by
    have := hf1 j hSj
    have := hb hne j hj
    omega) hlen) ?_
  rintro r2 w2 ⟨S5, hS5, hO5, hc5, hn5, ha5⟩
  go_wp2_with fail
  go_ret
  refine ⟨p, S5, rfl, hS5, hc1.trans hc5 (fun _ _ h => h) (fun j hj hSj => by have := hf1 j hSj; omega), fun k hk => ?_⟩
  rcases hn5 k hk with h | h
  · exact hf1 k h
  · have := hc1.size
    omega
theorem made_any (m : Nat) (hm : m < 256) (v : Value) (l : List (List Value)) (w : World) (hl : Rd 32 w v l) (kl : IsHs l) (hb : ∀ j, sblk v j → j < w.heap.size) (hlen : l.length ≤ 1000000) :
    Calls Try.prog 20 #[.int .u8 m, v] w (Ret fun r w' => ∃ p S, r = .pointer (some ⟨p, 0, none⟩) ∧ KSet w' p (1 + m % 64) (adds (1 + m % 64) [] l) S ∧ Chg No w w' ∧ ∀ k, S k → w.heap.size ≤ k) := made_any' m hm v l w hl kl (fun _ => hb) hlen
/-- what is known or forgotten are ids -/
theorem isHs_append {L l : List (List Value)} (h : IsHs L) (k : IsHs l) : IsHs (L ++ l) := fun x hx => (List.mem_append.1 hx).elim (h x) (k x)
theorem isHs_add1 {most : Nat} {L : List (List Value)} {x : List Value} (h : IsHs L) (k : IsH x) : IsHs (add1 most L x) := by
  unfold add1
  split
  · exact h
  · split
    · exact isHs_append h (isHs1 k)
    · exact isHs_append (fun y hy => h y (List.mem_of_mem_drop hy)) (isHs1 k)
theorem isHs_gone1 {most : Nat} {L : List (List Value)} {x : List Value} (h : IsHs L) : IsHs (gone1 most L x) := by
  unfold gone1
  split
  · intro y hy; cases hy
  · split
    · intro y hy; cases hy
    · exact fun y hy => h y (List.mem_of_mem_take hy)
theorem isHs_adds {most : Nat} : ∀ {l L : List (List Value)}, IsHs L → IsHs l → IsHs (adds most L l)
  | [], _, h, _ => h
  | x :: l, L, h, k => show IsHs (adds most (add1 most L x) l) from isHs_adds (isHs_add1 h (k x (by simp))) (fun y hy => k y (by simp [hy]))
theorem isHs_gones {most : Nat} : ∀ {l L : List (List Value)}, IsHs L → IsHs l → IsHs (gones most L l)
  | [], _, _, _ => by intro y hy; cases hy
  | x :: l, L, h, k => show IsHs (gone1 most L x ++ gones most (add1 most L x) l) from isHs_append (isHs_gone1 h) (isHs_gones (isHs_add1 h (k x (by simp))) (fun y hy => k y (by simp [hy])))
theorem isHs_nil : IsHs [] := by intro y hy; cases hy
theorem IsHs.flat {l : List (List Value)} (h : IsHs l) : Flat l := fun x hx v hv => (h x hx).1.2 v hv
theorem IsHs.take {l : List (List Value)} (h : IsHs l) (n : Nat) : IsHs (l.take n) := fun x hx => h x (List.mem_of_mem_take hx)
theorem IsHs.drop {l : List (List Value)} (h : IsHs l) (n : Nat) : IsHs (l.drop n) := fun x hx => h x (List.mem_of_mem_drop hx)
theorem KSet.isHs {w : World} {p most : Nat} {L : List (List Value)} {S : Nat → Prop} (h : KSet w p most L S) : IsHs L := by
  obtain ⟨m, rv, ring, first, h1, h2, h3⟩ := h
  exact h2.keys
end Go.Proofs.Ytkddaombdahodaa
