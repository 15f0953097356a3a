/- A router in plain numbers and in memory; what it is asked; a source's place. Conditions: those that stand ahead of each theorem. -/
import Derived.Test.YtlplgobkidpgkaaDoorGShaA
import Derived.Test.YtlplgobkidpgkaaDoorU
import Derived.Test.YtlplgobkidpgkaaDoorKeys
import Derived.Test.YtlplgobkidpgkaaDoorRetC
import Derived.Test.YtlplgobkidpgkaaDoorAny9
import Derived.ProofKit
import Derived.Test.YtlplgobkidpgkaaDoorArr
import Derived.Test.YtlplgobkidpgkaaDoorInts2
import Derived.Test.YtlplgobkidpgkaaDoorField
namespace Go.Proofs.YtlplgobkidpgkaaDoor
open Go.RowKit Go.Px Go.Sha
/-- of peers those that are no less than 0 and not among some, each at its first place -/
def cnt (but : List Int) : List Int → List Int → List Int
  | l, [] => l
  | l, p :: r => if 0 ≤ p ∧ p ∉ l ∧ p ∉ but then cnt but (l ++ [p]) r else cnt but l r
def cntP (peers but : List Int) : List Int := cnt but [] peers
/-- one of them, or none -/
def pickI (l : List Int) (d : Nat) : Int := if l = [] then -1 else (l[d % l.length]?).getD (-1)
def chooseP (peers : List Int) (but : Int) (d : Nat) : Int := pickI (cntP peers [but]) d
/-- a router: its epoch's number and end, whether it stems, the two successors, each source's misses and whether its way is turned -/
structure Rt where
  epoch : Nat
  fin : Nat
  stems : Bool
  s0 : Int
  s1 : Int
  ms : List Nat
  ts : List Bool
def rt0 : Rt := ⟨0, 0, false, -1, -1, List.replicate 65 0, List.replicate 65 false⟩
def capU (n : Nat) : Nat := min n 18446744073709551615
def tickR (r : Rt) (now : Nat) (peers : List Int) (d0 d1 d2 : Nat) : Rt :=
  if now < r.fin then r else ⟨capU (r.epoch + 1), capU (now + 600), decide (0 < d0 % 10), chooseP peers (-1) d1, chooseP peers (chooseP peers (-1) d1) d2, List.replicate 65 0, List.replicate 65 false⟩
def joinR (r : Rt) (p : Int) : Rt :=
  if p < 0 ∨ r.s0 = p ∨ r.s1 = p then r else if r.s0 = -1 then { r with s0 := p } else if r.s1 = -1 then { r with s1 := p } else r
def leftR (r : Rt) (p : Int) (peers : List Int) (d : Nat) : Rt :=
  if p < 0 then r else if r.s0 = p then { r with s0 := pickI (cntP peers [p, r.s1]) d } else if r.s1 = p then { r with s1 := pickI (cntP peers [p, r.s0]) d } else r
def isSrc (s : Int) : Bool := decide (0 ≤ s) && decide (s ≤ 64)
def missN (r : Rt) (s : Int) : Nat := if isSrc s then (r.ms[s.toNat]?).getD 0 else 0
def turnB (r : Rt) (s : Int) : Bool := if isSrc s then (r.ts[s.toNat]?).getD false else false
/-- one more is missed: a way is turned at MM of them -/
def missR (MM : Nat) (r : Rt) (s : Int) : Rt := if isSrc s then (if missN r s + 1 < MM then { r with ms := r.ms.set s.toNat (missN r s + 1) } else { r with ms := r.ms.set s.toNat 0, ts := r.ts.set s.toNat (!turnB r s) }) else r
def missB (MM : Nat) (r : Rt) (s : Int) : Bool := isSrc s && !decide (missN r s + 1 < MM)
def hitR (r : Rt) (s : Int) : Rt := if isSrc s then { r with ms := r.ms.set s.toNat 0 } else r
/-- which of two successors is the first that is there and isn't the source; k: whose turn it is -/
def way2 (a b s : Int) : Int := if a ≠ -1 ∧ a ≠ s then a else if b ≠ -1 ∧ b ≠ s then b else -1
def wayR (k : Nat) (r : Rt) (s : Int) : Int := if isSrc s then (if (k = 0) = (turnB r s = false) then way2 r.s0 r.s1 s else way2 r.s1 r.s0 s) else -1
theorem cnt_mem {but : List Int} : ∀ {r l : List Int} {x : Int}, x ∈ cnt but l r ↔ x ∈ l ∨ (x ∈ r ∧ 0 ≤ x ∧ x ∉ but)
  | [], l, x => by simp [cnt]
  | p :: r, l, x => by
    unfold cnt
    split
    · rename_i h
      rw [cnt_mem (r := r), List.mem_append, List.mem_singleton, List.mem_cons]
      constructor
      · rintro ((h1 | rfl) | h1)
        · exact .inl h1
        · exact .inr ⟨.inl rfl, h.1, h.2.2⟩
        · exact .inr ⟨.inr h1.1, h1.2⟩
      · rintro (h1 | ⟨rfl | h1, h2⟩)
        · exact .inl (.inl h1)
        · exact .inl (.inr rfl)
        · exact .inr ⟨h1, h2⟩
    · rename_i h
      rw [cnt_mem (r := r), List.mem_cons]
      constructor
      · rintro (h1 | h1)
        · exact .inl h1
        · exact .inr ⟨.inr h1.1, h1.2⟩
      · rintro (h1 | ⟨rfl | h1, h2⟩)
        · exact .inl h1
        · refine .inl (Classical.byContradiction fun h3 => h ⟨h2.1, h3, h2.2⟩)
        · exact .inr ⟨h1, h2⟩
theorem cntP_mem {peers but : List Int} {x : Int} : x ∈ cntP peers but ↔ x ∈ peers ∧ 0 ≤ x ∧ x ∉ but := by
  unfold cntP
  rw [cnt_mem]
  simp
theorem pickI_in {l : List Int} {d : Nat} (h : l ≠ []) : pickI l d ∈ l := by
  unfold pickI
  rw [if_neg h]
  have hp : 0 < l.length := List.length_pos_iff.2 h
  have hlt : d % l.length < l.length := Nat.mod_lt _ hp
  rw [List.getElem?_eq_getElem hlt]
  exact List.getElem_mem hlt
/-- what is picked is none, where there is none, or one of them -/
theorem pick_cases (peers but : List Int) (d : Nat) : (pickI (cntP peers but) d = -1 ∧ ∀ x ∈ peers, 0 ≤ x → x ∈ but) ∨ (pickI (cntP peers but) d ∈ peers ∧ 0 ≤ pickI (cntP peers but) d ∧ pickI (cntP peers but) d ∉ but) := by
  by_cases h : cntP peers but = []
  · refine .inl ⟨by unfold pickI; rw [if_pos h], fun x hx h0 => Classical.byContradiction fun hb => ?_⟩
    have h1 := cntP_mem.2 ⟨hx, h0, hb⟩
    rw [h] at h1
    cases h1
  · exact .inr (cntP_mem.1 (pickI_in h))
/-- what is left out ahead may as well be left out in choosing -/
theorem cnt_filter {p o : Int} : ∀ (r l : List Int), cnt [o] l (r.filter fun y => decide (y ≠ p)) = cnt [p, o] l r
  | [], l => rfl
  | x :: r, l => by
    rw [List.filter_cons]
    by_cases hx : x = p
    · subst hx
      simp only [ne_eq, not_true_eq_false, decide_false, Bool.false_eq_true, if_false]
      rw [cnt_filter r l]
      conv => rhs; unfold cnt
      rw [if_neg (by simp)]
    · simp only [ne_eq, hx, not_false_eq_true, decide_true, if_true]
      unfold cnt
      by_cases hc : 0 ≤ x ∧ x ∉ l ∧ x ∉ [o]
      · rw [if_pos hc, if_pos ⟨hc.1, hc.2.1, by simpa [hx] using hc.2.2⟩, cnt_filter r]
      · rw [if_neg hc, if_neg (fun h => hc ⟨h.1, h.2.1, by simpa [hx] using h.2.2⟩), cnt_filter r]
/-- what none is left out of: -1 is no peer -/
theorem cnt_none : ∀ (r l : List Int), cnt [-1] l r = cnt [] l r
  | [], l => rfl
  | x :: r, l => by
    unfold cnt
    by_cases hc : 0 ≤ x ∧ x ∉ l
    · rw [if_pos ⟨hc.1, hc.2, by simp; omega⟩, if_pos ⟨hc.1, hc.2, by simp⟩, cnt_none r]
    · rw [if_neg (fun h => hc ⟨h.1, h.2.1⟩), if_neg (fun h => hc ⟨h.1, h.2.1⟩), cnt_none r]
/-- what holds of a router -/
structure ROk (MM : Nat) (r : Rt) : Prop where
  lo0 : -1 ≤ r.s0
  lo1 : -1 ≤ r.s1
  ne : r.s0 = r.s1 → r.s0 = -1
  ml : r.ms.length = 65
  tl : r.ts.length = 65
  mm : ∀ m ∈ r.ms, m < MM
  ep : r.epoch < 18446744073709551616
  fi : r.fin < 18446744073709551616
theorem pick_lo (peers but : List Int) (d : Nat) : -1 ≤ pickI (cntP peers but) d := by
  rcases pick_cases peers but d with h | h
  · omega
  · omega
theorem pick_ne {peers but : List Int} {d : Nat} {o : Int} (ho : o ∈ but) : pickI (cntP peers but) d = o → o = -1 := by
  intro h
  rcases pick_cases peers but d with h1 | h1
  · omega
  · rw [h] at h1
    exact absurd ho h1.2.2
theorem ROk.zero {MM : Nat} (h : 0 < MM) : ROk MM rt0 := ⟨by simp [rt0], by simp [rt0], fun _ => rfl, by simp [rt0], by simp [rt0], by simp [rt0]; omega, by simp [rt0], by simp [rt0]⟩
theorem ROk.tick {MM : Nat} (h0 : 0 < MM) {r : Rt} (h : ROk MM r) (now : Nat) (peers : List Int) (d0 d1 d2 : Nat) : ROk MM (tickR r now peers d0 d1 d2) := by
  unfold tickR
  split
  · exact h
  · refine ⟨pick_lo _ _ _, pick_lo _ _ _, fun e => ?_, by simp, by simp, by simp; omega, ?_, ?_⟩
    · exact pick_ne (o := chooseP peers (-1) d1) (by simp) e.symm
    · show capU _ < _
      unfold capU
      omega
    · show capU _ < _
      unfold capU
      omega
theorem ROk.join {MM : Nat} {r : Rt} (h : ROk MM r) (p : Int) : ROk MM (joinR r p) := by
  unfold joinR
  split
  · exact h
  · rename_i hp
    rw [not_or, not_or] at hp
    split
    · exact ⟨by show -1 ≤ p; omega, h.lo1, fun e => absurd e.symm hp.2.2, h.ml, h.tl, h.mm, h.ep, h.fi⟩
    · split
      · exact ⟨h.lo0, by show -1 ≤ p; omega, fun e => absurd e hp.2.1, h.ml, h.tl, h.mm, h.ep, h.fi⟩
      · exact h
theorem ROk.left {MM : Nat} {r : Rt} (h : ROk MM r) (p : Int) (peers : List Int) (d : Nat) : ROk MM (leftR r p peers d) := by
  unfold leftR
  split
  · exact h
  · split
    · refine ⟨pick_lo _ _ _, h.lo1, fun e => ?_, h.ml, h.tl, h.mm, h.ep, h.fi⟩
      have e2 : pickI (cntP peers [p, r.s1]) d = r.s1 := e
      show pickI (cntP peers [p, r.s1]) d = -1
      rw [e2]
      exact pick_ne (o := r.s1) (by simp) e2
    · split
      · refine ⟨h.lo0, pick_lo _ _ _, fun e => ?_, h.ml, h.tl, h.mm, h.ep, h.fi⟩
        have e2 : pickI (cntP peers [p, r.s0]) d = r.s0 := Eq.symm e
        show r.s0 = -1
        exact pick_ne (o := r.s0) (by simp) e2
      · exact h
theorem ROk.miss {MM : Nat} (h0 : 0 < MM) {r : Rt} (h : ROk MM r) (s : Int) : ROk MM (missR MM r s) := by
  unfold missR
  split
  · split
    · rename_i hm
      refine ⟨h.lo0, h.lo1, h.ne, by simp [h.ml], h.tl, fun m hx => ?_, h.ep, h.fi⟩
      rcases List.mem_or_eq_of_mem_set hx with h1 | h1
      · exact h.mm m h1
      · omega
    · refine ⟨h.lo0, h.lo1, h.ne, by simp [h.ml], by simp [h.tl], fun m hx => ?_, h.ep, h.fi⟩
      rcases List.mem_or_eq_of_mem_set hx with h1 | h1
      · exact h.mm m h1
      · omega
  · exact h
theorem ROk.hit {MM : Nat} (h0 : 0 < MM) {r : Rt} (h : ROk MM r) (s : Int) : ROk MM (hitR r s) := by
  unfold hitR
  split
  · refine ⟨h.lo0, h.lo1, h.ne, by simp [h.ml], h.tl, fun m hx => ?_, h.ep, h.fi⟩
    rcases List.mem_or_eq_of_mem_set hx with h1 | h1
    · exact h.mm m h1
    · omega
  · exact h
/-- RouteAmong's heart: a way is a successor and not the source; none only where there is no other -/
theorem way2_cases (a b s : Int) : way2 a b s ≠ s ∨ way2 a b s = -1 := by
  unfold way2
  split
  · rename_i h; exact .inl h.2
  · split
    · rename_i h; exact .inl h.2
    · exact .inr rfl
theorem way2_in (a b s : Int) : way2 a b s = -1 ∨ way2 a b s = a ∨ way2 a b s = b := by
  unfold way2
  split
  · exact .inr (.inl rfl)
  · split
    · exact .inr (.inr rfl)
    · exact .inl rfl
theorem way2_none {a b s : Int} (h : way2 a b s = -1) : (a = -1 ∨ a = s) ∧ (b = -1 ∨ b = s) := by
  unfold way2 at h
  split at h
  · rename_i h1; exact absurd h h1.1
  · rename_i h1
    split at h
    · rename_i h2; exact absurd h h2.1
    · rename_i h2
      constructor
      · by_cases ha : a = -1
        · exact .inl ha
        · exact .inr (Classical.byContradiction fun c => h1 ⟨ha, c⟩)
      · by_cases hb : b = -1
        · exact .inl hb
        · exact .inr (Classical.byContradiction fun c => h2 ⟨hb, c⟩)
end Go.Proofs.YtlplgobkidpgkaaDoor
namespace Go.Proofs.YtlplgobkidpgkaaDoor
open Go.RowKit Go.Px Go.Sha
theorem way2_flip {a b s : Int} (h : a ≠ -1 ∧ b ≠ -1 ∧ a ≠ s ∧ b ≠ s) : way2 b a s = a + b - way2 a b s := by
  unfold way2
  rw [if_pos ⟨h.2.1, h.2.2.2⟩, if_pos ⟨h.1, h.2.2.1⟩]
  omega
theorem way2_stay {a b s : Int} (h : ¬ (a ≠ -1 ∧ b ≠ -1 ∧ a ≠ s ∧ b ≠ s)) : way2 b a s = way2 a b s := by
  unfold way2
  by_cases ha : a ≠ -1 ∧ a ≠ s
  · have hb : ¬ (b ≠ -1 ∧ b ≠ s) := fun c => h ⟨ha.1, c.1, ha.2, c.2⟩
    rw [if_neg hb, if_pos ha, if_pos ha]
  · by_cases hb : b ≠ -1 ∧ b ≠ s
    · rw [if_pos hb, if_neg ha, if_pos hb]
    · rw [if_neg hb, if_neg ha, if_neg ha, if_neg hb]
/-- a source's index -/
theorem src_lt {s : Int} (h : isSrc s = true) : s.toNat < 65 ∧ (s.toNat : Int) = s := by
  unfold isSrc at h
  simp only [Bool.and_eq_true, decide_eq_true_eq] at h
  omega
theorem missN_of {r : Rt} {s : Int} (hs : isSrc s = true) : missN r s = (r.ms[s.toNat]?).getD 0 := if_pos hs
theorem turnB_of {r : Rt} {s : Int} (hs : isSrc s = true) : turnB r s = (r.ts[s.toNat]?).getD false := if_pos hs
theorem missN_hit {MM : Nat} {r : Rt} (h : ROk MM r) (s : Int) : missN (hitR r s) s = 0 := by
  unfold missN hitR
  by_cases hs : isSrc s = true
  · have h1 := (src_lt hs).1
    rw [if_pos hs, if_pos hs]
    show ((r.ms.set s.toNat 0)[s.toNat]?).getD 0 = 0
    rw [List.getElem?_set_self (by rw [h.ml]; exact h1)]
    rfl
  · rw [if_neg hs]
theorem turn_hit (r : Rt) (s t : Int) : turnB (hitR r s) t = turnB r t := by
  unfold turnB hitR
  split
  · split <;> rfl
  · rfl
/-- one more is missed, and it isn't the last -/
theorem miss_more {MM : Nat} {r : Rt} (h : ROk MM r) {s : Int} (hs : isSrc s = true) (hm : missN r s + 1 < MM) : missB MM r s = false ∧ missN (missR MM r s) s = missN r s + 1 ∧ (∀ t, turnB (missR MM r s) t = turnB r t) ∧ (missR MM r s).s0 = r.s0 ∧ (missR MM r s).s1 = r.s1 := by
  have h1 := (src_lt hs).1
  have he : missR MM r s = { r with ms := r.ms.set s.toNat (missN r s + 1) } := by
    unfold missR
    rw [if_pos hs, if_pos hm]
  rw [he]
  refine ⟨?_, ?_, fun t => rfl, rfl, rfl⟩
  · unfold missB
    rw [decide_eq_true hm]
    simp
  · rw [missN_of (r := { r with ms := r.ms.set s.toNat (missN r s + 1) }) hs]
    show ((r.ms.set s.toNat (missN r s + 1))[s.toNat]?).getD 0 = _
    rw [List.getElem?_set_self (by rw [h.ml]; exact h1)]
    rfl
/-- the last of so many in a row turns the way -/
theorem miss_last {MM : Nat} {r : Rt} (h : ROk MM r) {s : Int} (hs : isSrc s = true) (hm : ¬ missN r s + 1 < MM) : missB MM r s = true ∧ missN (missR MM r s) s = 0 ∧ turnB (missR MM r s) s = !turnB r s ∧ (missR MM r s).s0 = r.s0 ∧ (missR MM r s).s1 = r.s1 := by
  have h1 := (src_lt hs).1
  have he : missR MM r s = { r with ms := r.ms.set s.toNat 0, ts := r.ts.set s.toNat (!turnB r s) } := by
    unfold missR
    rw [if_pos hs, if_neg hm]
  rw [he]
  refine ⟨?_, ?_, ?_, rfl, rfl⟩
  · unfold missB
    rw [hs, decide_eq_false hm]
    rfl
  · rw [missN_of (r := { r with ms := r.ms.set s.toNat 0, ts := r.ts.set s.toNat (!turnB r s) }) hs]
    show ((r.ms.set s.toNat 0)[s.toNat]?).getD 0 = _
    rw [List.getElem?_set_self (by rw [h.ml]; exact h1)]
    rfl
  · rw [turnB_of (r := { r with ms := r.ms.set s.toNat 0, ts := r.ts.set s.toNat (!turnB r s) }) hs]
    show ((r.ts.set s.toNat (!turnB r s))[s.toNat]?).getD false = _
    rw [List.getElem?_set_self (by rw [h.tl]; exact h1)]
    rfl
/-- alike for one source -/
structure Alike (s : Int) (r q : Rt) : Prop where
  epoch : r.epoch = q.epoch
  fin : r.fin = q.fin
  stems : r.stems = q.stems
  s0 : r.s0 = q.s0
  s1 : r.s1 = q.s1
  m : missN r s = missN q s
  t : turnB r s = turnB q s
theorem Alike.way {s : Int} {r q : Rt} (h : Alike s r q) (k : Nat) : wayR k r s = wayR k q s := by
  unfold wayR
  rw [h.t, h.s0, h.s1]
theorem Alike.tick {s : Int} {r q : Rt} (h : Alike s r q) (now : Nat) (peers : List Int) (d0 d1 d2 : Nat) : Alike s (tickR r now peers d0 d1 d2) (tickR q now peers d0 d1 d2) := by
  unfold tickR
  rw [h.fin]
  split
  · exact h
  · exact ⟨by show capU _ = capU _; rw [h.epoch], rfl, rfl, rfl, rfl, rfl, rfl⟩
theorem Alike.join {s : Int} {r q : Rt} (h : Alike s r q) (p : Int) : Alike s (joinR r p) (joinR q p) := by
  unfold joinR
  rw [h.s0, h.s1]
  split
  · exact h
  · split
    · exact ⟨h.epoch, h.fin, h.stems, rfl, rfl, h.m, h.t⟩
    · split
      · exact ⟨h.epoch, h.fin, h.stems, rfl, rfl, h.m, h.t⟩
      · exact h
theorem Alike.left {s : Int} {r q : Rt} (h : Alike s r q) (p : Int) (peers : List Int) (d : Nat) : Alike s (leftR r p peers d) (leftR q p peers d) := by
  unfold leftR
  rw [h.s0, h.s1]
  split
  · exact h
  · split
    · exact ⟨h.epoch, h.fin, h.stems, rfl, rfl, h.m, h.t⟩
    · split
      · exact ⟨h.epoch, h.fin, h.stems, rfl, rfl, h.m, h.t⟩
      · exact h
/-- what another source misses -/
theorem Alike.other {MM : Nat} {s t : Int} {r q : Rt} (h : Alike s r q) (hne : t ≠ s) : Alike s (missR MM r t) q ∧ Alike s (hitR r t) q := by
  have hix : isSrc t = true → isSrc s = true → t.toNat ≠ s.toNat := fun h1 h2 e => hne (by
    have e1 := (src_lt h1).2
    have e2 := (src_lt h2).2
    omega)
  constructor
  · unfold missR
    split
    · rename_i ht
      split
      · refine ⟨h.epoch, h.fin, h.stems, h.s0, h.s1, ?_, h.t⟩
        rw [← h.m]
        unfold missN
        split
        · rename_i hs
          rw [List.getElem?_set_ne (hix ht hs)]
        · rfl
      · refine ⟨h.epoch, h.fin, h.stems, h.s0, h.s1, ?_, ?_⟩
        · rw [← h.m]
          unfold missN
          split
          · rename_i hs
            rw [List.getElem?_set_ne (hix ht hs)]
          · rfl
        · rw [← h.t]
          unfold turnB
          split
          · rename_i hs
            rw [List.getElem?_set_ne (hix ht hs)]
          · rfl
    · exact h
  · unfold hitR
    split
    · rename_i ht
      refine ⟨h.epoch, h.fin, h.stems, h.s0, h.s1, ?_, h.t⟩
      rw [← h.m]
      unfold missN
      split
      · rename_i hs
        rw [List.getElem?_set_ne (hix ht hs)]
      · rfl
    · exact h
/-- RouteStays: what a tick changes -/
theorem tick_stays {r : Rt} {now : Nat} (h : now < r.fin) (peers : List Int) (d0 d1 d2 : Nat) : tickR r now peers d0 d1 d2 = r := if_pos h
theorem tick_new {MM : Nat} {r : Rt} (ok : ROk MM r) {now : Nat} (hn : now < 18446744073709551616) (h : ¬ now < r.fin) (peers : List Int) (d0 d1 d2 : Nat) :
    (∀ s, missN (tickR r now peers d0 d1 d2) s = 0) ∧ now ≤ (tickR r now peers d0 d1 d2).fin ∧ ((tickR r now peers d0 d1 d2).epoch = r.epoch + 1 ∨ r.epoch = 18446744073709551615) ∧ (tickR r now peers d0 d1 d2).stems = decide (0 < d0 % 10) := by
  have he : tickR r now peers d0 d1 d2 = ⟨capU (r.epoch + 1), capU (now + 600), decide (0 < d0 % 10), chooseP peers (-1) d1, chooseP peers (chooseP peers (-1) d1) d2, List.replicate 65 0, List.replicate 65 false⟩ := if_neg h
  rw [he]
  refine ⟨fun s => ?_, ?_, ?_, rfl⟩
  · unfold missN
    split
    · rename_i hs
      show ((List.replicate 65 0)[s.toNat]?).getD 0 = 0
      rw [List.getElem?_replicate, if_pos (src_lt hs).1]
      rfl
    · rfl
  · show now ≤ capU _
    unfold capU
    omega
  · show capU _ = _ ∨ _
    unfold capU
    have := ok.ep
    omega
end Go.Proofs.YtlplgobkidpgkaaDoor
namespace Go.Proofs.YtlplgobkidpgkaaDoor
open Go.RowKit Go.Px Go.Sha
/-- the cells ahead of the sources: both routers' alike -/
def headC (sa : List Byte) (r : Rt) : List Value := sa.map B8 ++ [U r.epoch, U r.fin, .bool r.stems, I64 r.s0, I64 r.s1]
def turnI (t : Bool) : Int := if t then 1 else 0
def stC (x : Nat × Bool) : List Value := [I64 x.1, I64 (turnI x.2)]
/-- the program's router -/
def rtC (sa : List Byte) (r : Rt) : List Value := headC sa r ++ ((r.ms.zip r.ts).map stC).flatten
/-- the document's router -/
def rrC (sa : List Byte) (r : Rt) : List Value := headC sa r ++ (r.ms.map (fun (m : Nat) => I64 m) ++ r.ts.map Value.bool)
theorem headC_len {sa : List Byte} (h : sa.length = 32) (r : Rt) : (headC sa r).length = 37 := by simp [headC, h]
theorem head_at {sa : List Byte} (h : sa.length = 32) (r : Rt) (X : List Value) {k : Nat} (hk : k < 5) : (headC sa r ++ X)[32 + k]? = [U r.epoch, U r.fin, .bool r.stems, I64 r.s0, I64 r.s1][k]? := by
  rw [List.getElem?_append_left (by rw [headC_len h]; omega)]
  unfold headC
  rw [List.getElem?_append_right (by rw [List.length_map]; omega), List.length_map, h, Nat.add_sub_cancel_left]
theorem head_salt {sa : List Byte} (h : sa.length = 32) (r : Rt) (X : List Value) : ((headC sa r ++ X).drop 0).take 32 = sa.map B8 := by
  unfold headC
  rw [List.drop_zero, List.append_assoc, List.take_append_of_le_length (by rw [List.length_map]; omega), List.take_of_length_le (by rw [List.length_map]; omega)]
theorem head_succ {sa : List Byte} (h : sa.length = 32) (r : Rt) (X : List Value) : ((headC sa r ++ X).drop 35).take 2 = [I64 r.s0, I64 r.s1] := by
  unfold headC
  rw [List.append_assoc, List.drop_append, List.drop_eq_nil_of_le (by rw [List.length_map]; omega), List.length_map, h]
  rfl
end Go.Proofs.YtlplgobkidpgkaaDoor
namespace Go.Proofs.YtlplgobkidpgkaaDoor
open Go.RowKit Go.Px Go.Sha
theorem oneBoo : One Tryd.prog 4 := One.of Tryd.underlying4 rfl (by kernel_rfl)
theorem agg2 : Agg Tryd.prog 29 2 := Agg.of Tryd.underlying29 rfl (by kernel_rfl)
section
variable {R : Nat → Prop} {base w : World} {F : List Hp}
set_option maxRecDepth 100000 in
theorem epoch_s {p : Nat} {sa : List Byte} {r : Rt} (hS : SepL R base w (.blk p 58 (rtC sa r) :: F)) (hsa : sa.length = 32) :
    Calls Tryd.prog 26 #[.pointer (some ⟨p, 0, none⟩)] w (Ret fun y w' => y = U r.epoch ∧ SepL R base w' (.blk p 58 (rtC sa r) :: F)) := by
  have HE : Hid ((rtC sa r)[32]? = some (U r.epoch)) := head_at hsa r _ (k := 0) (by omega)
  go_enter Tryd.func26, Tryd.ntmps26
  go_wp2_with (first
    | (show wpList _ _ _ (⟨_, .load 33 _, _, _, _, _⟩ :: _) _ _; refine wpList_val rfl (op_load1S (b := p) (T := 58) oneU64 ((hS.bring (by repeat (first | exact t0 | apply tS)))) rfl rfl HE.out) ?_; go_frame)
    )
  go_ret
  exact ⟨rfl, hS⟩
set_option maxRecDepth 100000 in
theorem end_s {p : Nat} {sa : List Byte} {r : Rt} (hS : SepL R base w (.blk p 58 (rtC sa r) :: F)) (hsa : sa.length = 32) :
    Calls Tryd.prog 27 #[.pointer (some ⟨p, 0, none⟩)] w (Ret fun y w' => y = U r.fin ∧ SepL R base w' (.blk p 58 (rtC sa r) :: F)) := by
  have HE : Hid ((rtC sa r)[33]? = some (U r.fin)) := head_at hsa r _ (k := 1) (by omega)
  go_enter Tryd.func27, Tryd.ntmps27
  go_wp2_with (first
    | (show wpList _ _ _ (⟨_, .load 33 _, _, _, _, _⟩ :: _) _ _; refine wpList_val rfl (op_load1S (b := p) (T := 58) oneU64 ((hS.bring (by repeat (first | exact t0 | apply tS)))) rfl rfl HE.out) ?_; go_frame)
    )
  go_ret
  exact ⟨rfl, hS⟩
set_option maxRecDepth 100000 in
theorem stems_s {p : Nat} {sa : List Byte} {r : Rt} (hS : SepL R base w (.blk p 58 (rtC sa r) :: F)) (hsa : sa.length = 32) :
    Calls Tryd.prog 25 #[.pointer (some ⟨p, 0, none⟩)] w (Ret fun y w' => y = .bool r.stems ∧ SepL R base w' (.blk p 58 (rtC sa r) :: F)) := by
  have HE : Hid ((rtC sa r)[34]? = some (.bool r.stems)) := head_at hsa r _ (k := 2) (by omega)
  go_enter Tryd.func25, Tryd.ntmps25
  go_wp2_with (first
    | go_big_skip
    | (show wpList _ _ _ (⟨_, .load 4 _, _, _, _, _⟩ :: _) _ _; refine wpList_val rfl (op_load1S (b := p) (T := 58) oneBoo ((hS.bring (by repeat (first | exact t0 | apply tS)))) rfl rfl HE.out) ?_; go_frame)
    )
  go_ret
  exact ⟨rfl, hS⟩
set_option maxRecDepth 100000 in
theorem succ_s {p : Nat} {sa : List Byte} {r : Rt} (hS : SepL R base w (.blk p 58 (rtC sa r) :: F)) (hsa : sa.length = 32) :
    Calls Tryd.prog 13 #[.pointer (some ⟨p, 0, none⟩)] w (Ret fun y w' => y = .agg #[I64 r.s0, I64 r.s1] ∧ SepL R base w' (.blk p 58 (rtC sa r) :: F)) := by
  have HD : Hid (((rtC sa r).drop 35).take 2 = [I64 r.s0, I64 r.s1]) := head_succ hsa r _
  have HO : Hid (∀ v ∈ [I64 r.s0, I64 r.s1], v.oneCell' = true) := by
    intro v hv
    simp only [List.mem_cons, List.not_mem_nil, or_false] at hv
    rcases hv with rfl | rfl <;> rfl
  go_enter Tryd.func13, Tryd.ntmps13
  go_wp2_with (first
    | (show wpList _ _ _ (⟨_, .alloc _, _, _, _, _⟩ :: _) _ _; refine wpS_alloc hS rfl rfl Tryd.zeroValue29 (zs := [.int .i64 0, .int .i64 0]) rfl ?_; clear hS; intro nb w hS; go_frame)
    | (show wpList _ _ _ (⟨_, .load 29 _, _, _, _, _⟩ :: _) _ _; refine wpList_val rfl (op_load agg2 rfl rfl ((SepL.getBlk (b := p) (T := 58) ((hS.bring (by repeat (first | exact t0 | apply tS))))).cells.subN 35 2 HD.out) rfl) ?_; go_frame)
    | (show wpList _ _ _ (⟨_, .store 29 _ _, _, _, _, _⟩ :: _) _ _; (refine wpS_storeAll (b := nb) agg2 (hS.bring (by repeat (first | exact t0 | apply tS))) rfl rfl rfl (vs := [I64 r.s0, I64 r.s1]) rfl rfl HO.out rfl ?_); clear hS; intro w hS; go_frame)
    )
  exact ret_cell (b := nb) agg2 rfl rfl rfl ((hS.bring (by repeat (first | exact t0 | apply tS))).getBlk) rfl ⟨rfl, hS.sel (by repeat (first | exact Sel.refl | refine Sel.take (by repeat (first | exact t0 | apply tS)) ?_ | apply Sel.drop))⟩
end
end Go.Proofs.YtlplgobkidpgkaaDoor
namespace Go.Proofs.YtlplgobkidpgkaaDoor
open Go Go.RowKit Go.Px Go.Sha
theorem op_indexArrN {P : Program} {o : Oper} {w : World} {t e n m : Nat} (ht : P.underlying t = some (.array n e)) (hs : ∀ w, (sizeOf e).run P w = .ok m w) {ρ : Operand → Value} {x i : Operand} (ho : o.op = .indexAddr t x i) {b off : Nat} (hx : ρ x = .pointer (some ⟨b, off, none⟩)) {kk : IntKind} {k : Nat} (hi : ρ i = .int kk k) (hk : k < n) :
    (execOp ρ o).run P w = .ok (.value (.pointer (some ⟨b, off + k * m, none⟩))) w := by
  have h2 : (0 : Int) ≤ k ∧ (k : Int) < n := by omega
  unfold execOp
  simp [ho, hx, hi, Instr.indexAt, asIntOf, Sem.run_bind, run_underlying ht, hs, h2, Instr.sureAddr, Addr.add_lit, hk]
theorem sizeState (w : World) : (sizeOf 55).run Tryd.prog w = .ok 2 w := by kernel_rfl
theorem undStates : Tryd.prog.underlying 56 = some (.array 65 55) := by kernel_rfl
theorem decTr {p : Prop} [Decidable p] (h : p) : Hid (decide p = true) := decide_eq_true h
theorem decFa {p : Prop} [Decidable p] (h : ¬ p) : Hid (decide p = false) := decide_eq_false h
section
variable {R : Nat → Prop} {base w : World} {F : List Hp}
set_option maxRecDepth 100000 in
theorem at_no {p : Nat} {s : Int} (hS : SepL R base w F) (hs : isSrc s = false) :
    Calls Tryd.prog 34 #[.pointer (some ⟨p, 0, none⟩), I64 s] w (Ret fun y w' => y = .pointer none ∧ SepL R base w' F) := by
  by_cases h0 : s < 0
  · have H0 := decTr h0
    clear h0 hs
    go_enter Tryd.func34, Tryd.ntmps34
    go_wp2_with (first
      | go_big_skip
      | (show wpList _ _ _ (⟨some 9, .binOp _ _ _ _ _, _, _, _, _⟩ :: _) _ _; refine wpList_val rfl (op_ilss rfl rfl rfl H0.out) ?_; go_frame)
      )
    go_ret
    exact ⟨rfl, hS⟩
  · have H0 := decFa h0
    have H1 : Hid (decide ((64 : Int) < s) = true) := by
      refine decide_eq_true ?_
      unfold isSrc at hs
      by_cases h1 : s ≤ 64
      · rw [decide_eq_true h1, decide_eq_true (show 0 ≤ s by omega)] at hs
        cases hs
      · omega
    clear h0 hs
    go_enter Tryd.func34, Tryd.ntmps34
    go_wp2_with (first
      | go_big_skip
      | (show wpList _ _ _ (⟨some 9, .binOp _ _ _ _ _, _, _, _, _⟩ :: _) _ _; refine wpList_val rfl (op_ilss rfl rfl rfl H0.out) ?_; go_frame)
      | (show wpList _ _ _ (⟨some 13, .binOp _ _ _ _ _, _, _, _, _⟩ :: _) _ _; refine wpList_val rfl (op_igtr rfl rfl rfl H1.out) ?_; go_frame)
      )
    go_ret
    exact ⟨rfl, hS⟩
set_option maxRecDepth 100000 in
theorem at_yes {p k : Nat} (hS : SepL R base w F) (hk : k ≤ 64) :
    Calls Tryd.prog 34 #[.pointer (some ⟨p, 0, none⟩), I64 k] w (Ret fun y w' => y = .pointer (some ⟨p, 37 + k * 2, none⟩) ∧ SepL R base w' F) := by
  have H0 : Hid (decide ((k : Int) < 0) = false) := decide_eq_false (by omega)
  have H1 : Hid (decide ((64 : Int) < (k : Int)) = false) := decide_eq_false (by omega)
  go_enter Tryd.func34, Tryd.ntmps34
  go_wp2_with (first
    | go_big_skip
    | (show wpList _ _ _ (⟨some 9, .binOp _ _ _ _ _, _, _, _, _⟩ :: _) _ _; refine wpList_val rfl (op_ilss rfl rfl rfl H0.out) ?_; go_frame)
    | (show wpList _ _ _ (⟨some 13, .binOp _ _ _ _ _, _, _, _, _⟩ :: _) _ _; refine wpList_val rfl (op_igtr rfl rfl rfl H1.out) ?_; go_frame)
    | (show wpList _ _ _ (⟨_, .indexAddr _ _ _, _, _, _, _⟩ :: _) _ _; refine wpList_val rfl (op_indexArrN undStates sizeState rfl (b := p) (off := 37) rfl (k := k) rfl (by omega)) ?_; go_frame)
    )
  go_ret
  exact ⟨rfl, hS⟩
end
end Go.Proofs.YtlplgobkidpgkaaDoor
namespace Go.Proofs.YtlplgobkidpgkaaDoor
open Go Go.RowKit Go.Px Go.Sha
theorem rt_st {sa : List Byte} (hsa : sa.length = 32) {r : Rt} {k m : Nat} {t : Bool} (hm : r.ms[k]? = some m) (ht : r.ts[k]? = some t) : ((rtC sa r).drop (37 + k * 2)).take 2 = [I64 m, I64 (turnI t)] := by
  unfold rtC
  rw [List.drop_append, List.drop_eq_nil_of_le (by rw [headC_len hsa]; omega), headC_len hsa, List.nil_append, Nat.add_sub_cancel_left]
  refine flatten_at (n := 2) (fun x hx => ?_) ?_
  · obtain ⟨y, _, rfl⟩ := List.mem_map.1 hx
    rfl
  · rw [List.getElem?_map, (List.getElem?_zip_eq_some (z := (m, t))).2 ⟨hm, ht⟩]
    rfl
theorem oneIn : One Tryd.prog 3 := One.of Tryd.underlying3 rfl (by kernel_rfl)
theorem rt_ms {sa : List Byte} (hsa : sa.length = 32) {r : Rt} {k m : Nat} {t : Bool} (hm : r.ms[k]? = some m) (ht : r.ts[k]? = some t) : (rtC sa r)[37 + k * 2]? = some (I64 m) := by
  have h := congrArg (fun l => l[0]?) (rt_st hsa hm ht)
  simp only [List.getElem?_cons_zero] at h
  rwa [List.getElem?_take_of_lt (by omega), List.getElem?_drop, Nat.add_zero] at h
section
variable {R : Nat → Prop} {base w : World} {F : List Hp}
set_option maxRecDepth 100000 in
theorem misses_s {MM p : Nat} {sa : List Byte} {r : Rt} {s : Int} (hS : SepL R base w (.blk p 58 (rtC sa r) :: F)) (hsa : sa.length = 32) (hok : ROk MM r) :
    Calls Tryd.prog 28 #[.pointer (some ⟨p, 0, none⟩), I64 s] w (Ret fun y w' => y = I64 (missN r s) ∧ SepL R base w' (.blk p 58 (rtC sa r) :: F)) := by
  cases hs : isSrc s with
  | false =>
    have HE : Hid (missN r s = 0) := by
      unfold Hid missN
      rw [hs]
      rfl
    go_enter Tryd.func28, Tryd.ntmps28
    go_wp2_with (first
      | (go_at_call 34; refine Ret.calls (at_no hS hs) ?_; clear hS; rintro r1 w ⟨rfl, hS⟩)
      )
    go_ret
    exact ⟨by rw [HE.out]; rfl, hS⟩
  | true =>
    obtain ⟨hk, he⟩ := src_lt hs
    obtain ⟨k, hk0⟩ : ∃ k, s.toNat = k := ⟨_, rfl⟩
    rw [hk0] at hk he
    subst he
    have hm := List.getElem?_eq_getElem (show k < r.ms.length by rw [hok.ml]; exact hk)
    have ht := List.getElem?_eq_getElem (show k < r.ts.length by rw [hok.tl]; exact hk)
    obtain ⟨m, hm1⟩ : ∃ m, r.ms[k]'(by rw [hok.ml]; exact hk) = m := ⟨_, rfl⟩
    rw [hm1] at hm
    have HM := hide (rt_ms hsa hm ht)
    have HE : Hid (missN r k = m) := by
      unfold Hid
      rw [missN_of hs, hk0, hm]
      rfl
    clear hm ht hm1 hk0 hs
    go_enter Tryd.func28, Tryd.ntmps28
    go_wp2_with (first
      | (go_at_call 34; refine Ret.calls (at_yes (k := k) hS (by omega)) ?_; clear hS; rintro r1 w ⟨rfl, hS⟩)
      | (show wpList _ _ _ (⟨_, .load 3 _, _, _, _, _⟩ :: _) _ _; refine wpList_val rfl (op_load1S (b := p) (T := 58) oneIn ((hS.bring (by repeat (first | exact t0 | apply tS)))) rfl rfl HM.out) ?_; go_frame)
      )
    go_ret
    exact ⟨by rw [HE.out]; rfl, hS⟩
end
end Go.Proofs.YtlplgobkidpgkaaDoor
namespace Go.Proofs.YtlplgobkidpgkaaDoor
open Go Go.RowKit Go.Px Go.Sha
theorem zip_set {ms : List Nat} {ts : List Bool} {k m : Nat} {t : Bool} (ht : ts[k]? = some t) : ((ms.set k m).zip ts).map stC = ((ms.zip ts).map stC).set k (stC (m, t)) := by
  apply List.ext_getElem?
  intro i
  rw [List.getElem?_map, List.getElem?_set, List.getElem?_map]
  by_cases hi : k = i
  · subst hi
    rw [if_pos rfl]
    simp only [List.zip, List.getElem?_zipWith, List.getElem?_set_self', List.length_map, List.length_zipWith, ht]
    have hlt := (List.getElem?_eq_some_iff.1 ht).1
    by_cases hk : k < ms.length
    · rw [if_pos (by omega), List.getElem?_eq_getElem hk]
      rfl
    · rw [if_neg (by omega), List.getElem?_eq_none (by omega)]
      rfl
  · rw [if_neg hi]
    simp only [List.zip, List.getElem?_zipWith, List.getElem?_set_ne hi]
theorem rt_set {sa : List Byte} (hsa : sa.length = 32) {r : Rt} {k m0 m : Nat} {t : Bool} (hm : r.ms[k]? = some m0) (ht : r.ts[k]? = some t) : (rtC sa r).set (37 + k * 2) (I64 m) = rtC sa { r with ms := r.ms.set k m } := by
  unfold rtC
  rw [List.set_append_right _ _ (by rw [headC_len hsa]; omega), headC_len hsa, Nat.add_sub_cancel_left]
  have hl : ∀ x ∈ (r.ms.zip r.ts).map stC, x.length = 2 := fun x hx => by
    obtain ⟨y, _, rfl⟩ := List.mem_map.1 hx
    rfl
  have hk : k < ((r.ms.zip r.ts).map stC).length := by
    have h1 := (List.getElem?_eq_some_iff.1 hm).1
    have h2 := (List.getElem?_eq_some_iff.1 ht).1
    rw [List.length_map, List.length_zip]
    omega
  have h := flatten_set1 (n := 2) (I64 m) k 0 hl hk (by omega)
  rw [Nat.add_zero] at h
  rw [← h]
  have hg : ((r.ms.zip r.ts).map stC)[k] = stC (m0, t) := by
    have h1 : ((r.ms.zip r.ts).map stC)[k]? = some (stC (m0, t)) := by
      rw [List.getElem?_map, (List.getElem?_zip_eq_some (z := (m0, t))).2 ⟨hm, ht⟩]
      rfl
    exact (List.getElem?_eq_some_iff.1 h1).2
  rw [hg]
  show headC sa r ++ (((r.ms.zip r.ts).map stC).set k (stC (m, t))).flatten = headC sa r ++ (((r.ms.set k m).zip r.ts).map stC).flatten
  rw [zip_set ht]
theorem rtC_len {sa : List Byte} (hsa : sa.length = 32) {MM : Nat} {r : Rt} (h : ROk MM r) : (rtC sa r).length = 167 := by
  unfold rtC
  rw [List.length_append, headC_len hsa, flatten_length (n := 2) (fun x hx => by
    obtain ⟨y, _, rfl⟩ := List.mem_map.1 hx
    rfl), List.length_map, List.length_zip, h.ml, h.tl]
  rfl
section
variable {R : Nat → Prop} {base w : World} {F : List Hp}
set_option maxRecDepth 100000 in
theorem hit_s {MM p : Nat} {sa : List Byte} {r : Rt} {s : Int} (hS : SepL R base w (.blk p 58 (rtC sa r) :: F)) (hsa : sa.length = 32) (hok : ROk MM r) :
    Calls Tryd.prog 31 #[.pointer (some ⟨p, 0, none⟩), I64 s] w (Ret fun _ w' => SepL R base w' (.blk p 58 (rtC sa (hitR r s)) :: F)) := by
  cases hs : isSrc s with
  | false =>
    have HE : Hid (hitR r s = r) := by
      unfold Hid hitR
      rw [hs]
      rfl
    go_enter Tryd.func31, Tryd.ntmps31
    go_wp2_with (first
      | (go_at_call 34; refine Ret.calls (at_no hS hs) ?_; clear hS; rintro r1 w ⟨rfl, hS⟩)
      )
    refine bodyPost_end (results_none rfl _ _ _) rfl ?_
    rw [HE.out]
    exact hS
  | true =>
    obtain ⟨hk, he⟩ := src_lt hs
    obtain ⟨k, hk0⟩ : ∃ k, s.toNat = k := ⟨_, rfl⟩
    rw [hk0] at hk he
    subst he
    have hm := List.getElem?_eq_getElem (show k < r.ms.length by rw [hok.ml]; exact hk)
    have ht := List.getElem?_eq_getElem (show k < r.ts.length by rw [hok.tl]; exact hk)
    have HST := hide (rt_set hsa (m := 0) hm ht)
    have HLN := hide (rtC_len hsa hok)
    have HE : Hid (hitR r k = { r with ms := r.ms.set k 0 }) := by
      unfold Hid hitR
      rw [hs, hk0]
      rfl
    clear hm ht hk0 hs
    go_enter Tryd.func31, Tryd.ntmps31
    go_wp2_with (first
      | (go_at_call 34; refine Ret.calls (at_yes (k := k) hS (by omega)) ?_; clear hS; rintro r1 w ⟨rfl, hS⟩)
      | (show wpList _ _ _ (⟨_, .store 3 _ _, _, _, _, _⟩ :: _) _ _; refine wpS_store1 (b := p) (i := 37 + k * 2) (T := 58) (by kernel_rfl) hS rfl rfl rfl (v := I64 0) rfl rfl rfl (by rw [HLN.out]; omega) ?_; clear hS; intro w hS; go_frame)
      )
    refine bodyPost_end (results_none rfl _ _ _) rfl ?_
    rw [HE.out, ← HST.out]
    exact hS
end
end Go.Proofs.YtlplgobkidpgkaaDoor
namespace Go.Proofs.YtlplgobkidpgkaaDoor
open Go Go.RowKit Go.Px Go.Sha
theorem oneInt : One Tryd.prog 3 := oneIn
theorem oneBool : One Tryd.prog 4 := oneBoo
theorem oneU : One Tryd.prog 33 := oneU64
theorem iInt : (Tryd.prog.info? 3).map (fun i => (i.zero, i.size, i.bytes)) = some (some (Value.int .i64 0), 1, 8) := by kernel_rfl
theorem iU : (Tryd.prog.info? 33).map (fun i => (i.zero, i.size, i.bytes)) = some (some (Value.int .u64 0), 1, 8) := by kernel_rfl
theorem slInt : SlTy Tryd.prog 34 3 1 8 where
  ty := by kernel_rfl
  info := by
    obtain ⟨i, h1, h2, h3, h4⟩ := info_parts iInt
    exact ⟨i, _, h1, h2, h3, by simp [Value.cells], h4, by simp [Value.cells]; rfl⟩
  pos := by omega
theorem slU : SlTy Tryd.prog 70 33 1 8 where
  ty := by kernel_rfl
  info := by
    obtain ⟨i, h1, h2, h3, h4⟩ := info_parts iU
    exact ⟨i, _, h1, h2, h3, by simp [Value.cells], h4, by simp [Value.cells]; rfl⟩
  pos := by omega
theorem eqT {z : Int} {j : Int} (h : z = j) : Hid ((z == j) = true) := by unfold Hid; simp [h]
theorem eqF {z : Int} {j : Int} (h : z ≠ j) : Hid ((z == j) = false) := by unfold Hid; simp [h]
theorem neT {z : Int} {j : Int} (h : z ≠ j) : Hid ((z != j) = true) := by unfold Hid; simp [h]
theorem neF {z : Int} {j : Int} (h : z = j) : Hid ((z != j) = false) := by unfold Hid; simp [h]
def ints (l : List Int) : List (List Value) := l.map fun z => [I64 z]
end Go.Proofs.YtlplgobkidpgkaaDoor
