/- Words, blocks, and a block taken into a state. Conditions: those that stand ahead of each theorem. -/
import Derived.Test.YtieobcaegegboaaDoorRows
import Derived.Test.YtieobcaegegboaaDoorN64
import Derived.Test.YtieobcaegegboaaDoorArr
import Derived.Test.YtieobcaegegboaaDoorAny9
/-
  No program in sight: words are bit vectors, blocks and states are lists.
-/
namespace Go.Sha
abbrev Word := BitVec 32
abbrev Byte := BitVec 8
def kTab : List Word := [
  0x428a2f98#32, 0x71374491#32, 0xb5c0fbcf#32, 0xe9b5dba5#32, 0x3956c25b#32, 0x59f111f1#32, 0x923f82a4#32, 0xab1c5ed5#32,
  0xd807aa98#32, 0x12835b01#32, 0x243185be#32, 0x550c7dc3#32, 0x72be5d74#32, 0x80deb1fe#32, 0x9bdc06a7#32, 0xc19bf174#32,
  0xe49b69c1#32, 0xefbe4786#32, 0x0fc19dc6#32, 0x240ca1cc#32, 0x2de92c6f#32, 0x4a7484aa#32, 0x5cb0a9dc#32, 0x76f988da#32,
  0x983e5152#32, 0xa831c66d#32, 0xb00327c8#32, 0xbf597fc7#32, 0xc6e00bf3#32, 0xd5a79147#32, 0x06ca6351#32, 0x14292967#32,
  0x27b70a85#32, 0x2e1b2138#32, 0x4d2c6dfc#32, 0x53380d13#32, 0x650a7354#32, 0x766a0abb#32, 0x81c2c92e#32, 0x92722c85#32,
  0xa2bfe8a1#32, 0xa81a664b#32, 0xc24b8b70#32, 0xc76c51a3#32, 0xd192e819#32, 0xd6990624#32, 0xf40e3585#32, 0x106aa070#32,
  0x19a4c116#32, 0x1e376c08#32, 0x2748774c#32, 0x34b0bcb5#32, 0x391c0cb3#32, 0x4ed8aa4a#32, 0x5b9cca4f#32, 0x682e6ff3#32,
  0x748f82ee#32, 0x78a5636f#32, 0x84c87814#32, 0x8cc70208#32, 0x90befffa#32, 0xa4506ceb#32, 0xbef9a3f7#32, 0xc67178f2#32]
def first : List Word := [0x6a09e667#32, 0xbb67ae85#32, 0x3c6ef372#32, 0xa54ff53a#32, 0x510e527f#32, 0x9b05688c#32, 0x1f83d9ab#32, 0x5be0cd19#32]
def ror (x : Word) (c : Nat) : Word := (x >>> c) ||| (x <<< (32 - c))
def sig1 (x : Word) : Word := ror x 17 ^^^ ror x 19 ^^^ x >>> 10
def sig0 (x : Word) : Word := ror x 7 ^^^ ror x 18 ^^^ x >>> 3
def big1 (e : Word) : Word := ror e 6 ^^^ ror e 11 ^^^ ror e 25
def big0 (a : Word) : Word := ror a 2 ^^^ ror a 13 ^^^ ror a 22
def nextW (l : List Word) : Word := sig1 (l.getD (l.length - 2) 0) + l.getD (l.length - 7) 0 + sig0 (l.getD (l.length - 15) 0) + l.getD (l.length - 16) 0
/-- sixteen words, and so many more -/
def schedL (m : List Word) : Nat → List Word
  | 0 => m
  | n + 1 => schedL m n ++ [nextW (schedL m n)]
def word4 (b : List Byte) (t : Nat) : Word :=
  (b.getD (4 * t) 0).setWidth 32 <<< 24 ||| (b.getD (4 * t + 1) 0).setWidth 32 <<< 16 ||| (b.getD (4 * t + 2) 0).setWidth 32 <<< 8 ||| (b.getD (4 * t + 3) 0).setWidth 32
def words (b : List Byte) : List Word := (List.range 16).map (word4 b)
structure St where
  a : Word
  b : Word
  c : Word
  d : Word
  e : Word
  f : Word
  g : Word
  h : Word
def St.list (s : St) : List Word := [s.a, s.b, s.c, s.d, s.e, s.f, s.g, s.h]
/-- one round, as the document has it -/
def round (s : St) (k w : Word) : St :=
  let p := s.h + big1 s.e + (s.e &&& s.f ^^^ ~~~ s.e &&& s.g) + k + w
  let q := big0 s.a + (s.a &&& s.b ^^^ s.a &&& s.c ^^^ s.b &&& s.c)
  ⟨p + q, s.a, s.b, s.c, s.d + p, s.e, s.f, s.g⟩
/-- one round, as the program has it -/
def roundP (s : St) (k w : Word) : St :=
  let p := s.h + big1 s.e + ((s.g ^^^ s.e &&& (s.f ^^^ s.g)) + k + w)
  let q := big0 s.a + (s.a &&& s.b ||| s.c &&& (s.a ||| s.b))
  ⟨p + q, s.a, s.b, s.c, s.d + p, s.e, s.f, s.g⟩
theorem ch_eq (e f g : Word) : g ^^^ e &&& (f ^^^ g) = e &&& f ^^^ ~~~ e &&& g := by
  apply BitVec.eq_of_getLsbD_eq
  intro i hi
  simp only [BitVec.getLsbD_xor, BitVec.getLsbD_and, BitVec.getLsbD_not, hi, decide_true, Bool.true_and]
  cases e.getLsbD i <;> cases f.getLsbD i <;> cases g.getLsbD i <;> rfl
theorem maj_eq (a b c : Word) : a &&& b ||| c &&& (a ||| b) = a &&& b ^^^ a &&& c ^^^ b &&& c := by
  apply BitVec.eq_of_getLsbD_eq
  intro i _
  simp only [BitVec.getLsbD_xor, BitVec.getLsbD_and, BitVec.getLsbD_or]
  cases a.getLsbD i <;> cases b.getLsbD i <;> cases c.getLsbD i <;> rfl
theorem roundP_eq (s : St) (k w : Word) : roundP s k w = round s k w := by
  unfold roundP round
  rw [ch_eq, maj_eq]
  simp only [BitVec.add_assoc]
/-- the state behind the first n rounds -/
def rounds (ws : List Word) (s : St) : Nat → St
  | 0 => s
  | n + 1 => round (rounds ws s n) (kTab.getD n 0) (ws.getD n 0)
def addSt (s v : St) : St := ⟨s.a + v.a, s.b + v.b, s.c + v.c, s.d + v.d, s.e + v.e, s.f + v.f, s.g + v.g, s.h + v.h⟩
def compress (s : St) (b : List Byte) : St := addSt s (rounds (schedL (words b) 48) s 64)

theorem getD_app {α : Type} (l r : List α) (i : Nat) (d : α) (h : i < l.length) : (l ++ r).getD i d = l.getD i d := by
  rw [List.getD_eq_getElem?_getD, List.getElem?_append_left h, List.getD_eq_getElem?_getD]
theorem getD_last {α : Type} (l : List α) (x d : α) (i : Nat) (h : i = l.length) : (l ++ [x]).getD i d = x := by
  subst h
  simp [List.getD_eq_getElem?_getD]
theorem schedL_length (m : List Word) : ∀ n, (schedL m n).length = m.length + n
  | 0 => rfl
  | n + 1 => by simp [schedL, schedL_length m n]; omega
theorem schedL_get (m : List Word) : ∀ (n k i : Nat), i < m.length + n → (schedL m (n + k)).getD i 0 = (schedL m n).getD i 0
  | n, 0, i, _ => rfl
  | n, k + 1, i, h => by
    have h2 := schedL_length m (n + k)
    show (schedL m (n + k) ++ [_]).getD i 0 = _
    rw [getD_app _ _ _ _ (by omega)]
    exact schedL_get m n k i h
theorem schedL_next (m : List Word) (n : Nat) (hm : m.length = 16) (N : Nat) (hn : n < N) :
    (schedL m N).getD (16 + n) 0 = sig1 ((schedL m N).getD (14 + n) 0) + (schedL m N).getD (9 + n) 0 + sig0 ((schedL m N).getD (1 + n) 0) + (schedL m N).getD n 0 := by
  obtain ⟨k, rfl⟩ : ∃ k, N = (n + 1) + k := ⟨N - (n + 1), by omega⟩
  have hl := schedL_length m n
  have e : ∀ i, i < 16 + n → (schedL m (n + 1 + k)).getD i 0 = (schedL m n).getD i 0 := fun i hi => by
    rw [Nat.add_assoc]
    exact schedL_get m n (1 + k) i (by omega)
  rw [e (14 + n) (by omega), e (9 + n) (by omega), e (1 + n) (by omega), e n (by omega), schedL_get m (n + 1) k (16 + n) (by omega)]
  show (schedL m n ++ [nextW (schedL m n)]).getD (16 + n) 0 = _
  rw [getD_last _ _ _ _ (by omega)]
  unfold nextW
  rw [hl, hm, show 16 + n - 2 = 14 + n by omega, show 16 + n - 7 = 9 + n by omega, show 16 + n - 15 = 1 + n by omega, show 16 + n - 16 = n by omega]

/-! ### the program's ring of the last sixteen words -/
def ringIx (T j : Nat) : Nat := T - 16 + (j + 16 - T % 16) % 16
def ringOf (S : List Word) (T : Nat) : List Word := (List.range 16).map fun j => S.getD (ringIx T j) 0
theorem ringOf_at {S : List Word} {T j : Nat} (h : j < (ringOf S T).length) : (ringOf S T)[j] = S.getD (ringIx T j) 0 := by simp [ringOf]
theorem ringIx_mod {T i : Nat} (h1 : T - 16 ≤ i) (h2 : i < T) (h3 : 16 ≤ T) : ringIx T (i % 16) = i := by
  unfold ringIx
  omega
theorem ringOf_get {S : List Word} {T i : Nat} (h1 : T - 16 ≤ i) (h2 : i < T) (h3 : 16 ≤ T) (hl : i % 16 < (ringOf S T).length) : (ringOf S T)[i % 16] = S.getD i 0 := by
  rw [ringOf_at, ringIx_mod h1 h2 h3]
theorem ringOf_length (S : List Word) (T : Nat) : (ringOf S T).length = 16 := by simp [ringOf]
theorem ringOf_succ {S : List Word} {T : Nat} (h : 16 ≤ T) : ringOf S (T + 1) = (ringOf S T).set (T % 16) (S.getD T 0) := by
  apply List.ext_getElem
  · simp [ringOf_length]
  · intro j h1 h2
    rw [ringOf_length] at h1
    rw [List.getElem_set, ringOf_at]
    split
    · rename_i e
      subst e
      rw [ringIx_mod (by omega) (by omega) (by omega)]
    · rename_i e
      rw [ringOf_at]
      congr 1
      unfold ringIx
      omega
theorem ringOf_first {S : List Word} (h : 16 ≤ S.length) : ringOf S 16 = S.take 16 := by
  apply List.ext_getElem
  · simp [ringOf_length]; omega
  · intro j h1 h2
    rw [ringOf_length] at h1
    rw [ringOf_at, List.getElem_take]
    have e : ringIx 16 j = j := by
      unfold ringIx
      omega
    rw [e, List.getD_eq_getElem?_getD, List.getElem?_eq_getElem (by omega)]
    rfl

/-! ### the program's words of a block -/
def wpart (b : List Byte) (i j : Nat) : Word := (((b.take i).drop (4 * j)).take 4).foldl (fun acc c => acc <<< 8 ||| c.setWidth 32) 0
theorem wpart_step (b : List Byte) (i j : Nat) (hi : i < b.length) : wpart b (i + 1) j = if j = i / 4 then wpart b i j <<< 8 ||| b[i].setWidth 32 else wpart b i j := by
  unfold wpart
  rw [List.take_succ_eq_append_getElem hi]
  by_cases h : j = i / 4
  · subst h
    rw [if_pos rfl, List.drop_append_of_le_length (by simp; omega), List.take_append, List.foldl_append]
    have e : (4 - (List.drop (4 * (i / 4)) (List.take i b)).length) = 1 + (3 - i % 4) := by
      rw [List.length_drop, List.length_take]
      omega
    rw [e]
    simp [List.take_succ_cons, Nat.add_comm 1]
  · rw [if_neg h]
    by_cases h2 : j < i / 4
    · rw [List.drop_append_of_le_length (by simp; omega), List.take_append_of_le_length (by simp; omega)]
    · rw [List.drop_eq_nil_of_le (by simp; omega), List.drop_eq_nil_of_le (by simp; omega)]
theorem take4 (b : List Byte) (j : Nat) (h : 4 * j + 4 ≤ b.length) : (b.drop (4 * j)).take 4 = [b.getD (4 * j) 0, b.getD (4 * j + 1) 0, b.getD (4 * j + 2) 0, b.getD (4 * j + 3) 0] := by
  apply List.ext_getElem
  · simp; omega
  · intro i h1 h2
    simp at h2
    rw [List.getElem_take, List.getElem_drop]
    match i, h2 with
    | 0, _ => simp [List.getD_eq_getElem?_getD, List.getElem?_eq_getElem (show 4 * j < b.length by omega)]
    | 1, _ => simp [List.getD_eq_getElem?_getD, List.getElem?_eq_getElem (show 4 * j + 1 < b.length by omega)]
    | 2, _ => simp [List.getD_eq_getElem?_getD, List.getElem?_eq_getElem (show 4 * j + 2 < b.length by omega)]
    | 3, _ => simp [List.getD_eq_getElem?_getD, List.getElem?_eq_getElem (show 4 * j + 3 < b.length by omega)]
theorem wpart_whole (b : List Byte) (j : Nat) (h : 4 * j + 4 ≤ b.length) : wpart b b.length j = word4 b j := by
  unfold wpart word4
  rw [List.take_length, take4 b j h]
  simp only [List.foldl_cons, List.foldl_nil, BitVec.shiftLeft_or_distrib, ← BitVec.shiftLeft_add]
  have e : (0 : Word) <<< (8 + 8 + 8 + 8) = 0#32 := by decide
  rw [e, BitVec.zero_or]

theorem wparts_step (b : List Byte) (k : Nat) (hk : k < b.length) (_ : k < 64) (hl : k / 4 < ((List.range 16).map (wpart b k)).length) :
    ((List.range 16).map (wpart b k)).set (k / 4) (((List.range 16).map (wpart b k))[k / 4] <<< 8 ||| b[k].setWidth 32) = (List.range 16).map (wpart b (k + 1)) := by
  apply List.ext_getElem
  · simp
  · intro j h1 h2
    have hj : j < 16 := by simpa using h2
    rw [List.getElem_set]
    simp only [List.getElem_map, List.getElem_range]
    rw [wpart_step b k j hk]
    by_cases e : k / 4 = j
    · subst e
      simp
    · rw [if_neg e, if_neg (fun h => e h.symm)]
theorem wparts_zero (b : List Byte) : (List.range 16).map (wpart b 0) = List.replicate 16 0 := by
  apply List.ext_getElem
  · simp
  · intro j h1 h2
    rw [List.getElem_replicate, List.getElem_map]
    simp [wpart]
theorem wparts_all (b : List Byte) (h : b.length = 64) : (List.range 16).map (wpart b 64) = words b := by
  unfold words
  apply List.map_congr_left
  intro j hj
  have hj' : j < 16 := List.mem_range.1 hj
  have := wpart_whole b j (by omega)
  rwa [h] at this
theorem words_length (b : List Byte) : (words b).length = 16 := by simp [words]
/-- the ring's new number at t -/
def newW (ring : List Word) (t : Nat) : Word := ring.getD (t % 16) 0 + (sig1 (ring.getD ((t - 2) % 16) 0) + ring.getD ((t - 7) % 16) 0 + sig0 (ring.getD ((t - 15) % 16) 0))
theorem getD_in {l : List Word} {i : Nat} (h : i < l.length) : l.getD i 0 = l[i] := by
  rw [List.getD_eq_getElem?_getD, List.getElem?_eq_getElem h]
  rfl
theorem ring_getD {S : List Word} {T i : Nat} (h1 : T - 16 ≤ i) (h2 : i < T) (h3 : 16 ≤ T) : (ringOf S T).getD (i % 16) 0 = S.getD i 0 := by
  rw [getD_in (by rw [ringOf_length]; omega)]
  exact ringOf_get h1 h2 h3 _
theorem ring_hi {m : List Word} (hm : m.length = 16) {t : Nat} (h1 : 16 ≤ t) (h2 : t < 64) : newW (ringOf (schedL m 48) t) t = (schedL m 48).getD t 0 := by
  obtain ⟨n, rfl⟩ : ∃ n, t = 16 + n := ⟨t - 16, by omega⟩
  have h := schedL_next m n hm 48 (by omega)
  unfold newW
  rw [show (16 + n) % 16 = n % 16 by omega, ring_getD (i := n) (by omega) (by omega) (by omega), ring_getD (i := 16 + n - 2) (by omega) (by omega) (by omega), ring_getD (i := 16 + n - 7) (by omega) (by omega) (by omega), ring_getD (i := 16 + n - 15) (by omega) (by omega) (by omega), h,
    show 16 + n - 2 = 14 + n by omega, show 16 + n - 7 = 9 + n by omega, show 16 + n - 15 = 1 + n by omega, BitVec.add_comm]
theorem ring_lo {m : List Word} (_ : m.length = 16) {t : Nat} (h : t < 16) : (ringOf (schedL m 48) 16).getD t 0 = (schedL m 48).getD t 0 := by
  have := ring_getD (S := schedL m 48) (T := 16) (i := t) (by omega) h (by omega)
  rwa [Nat.mod_eq_of_lt h] at this
theorem ring_first {m : List Word} (hm : m.length = 16) : ringOf (schedL m 48) 16 = m := by
  rw [ringOf_first (by rw [schedL_length]; omega)]
  apply List.ext_getElem
  · rw [List.length_take, schedL_length]; omega
  · intro j h1 h2
    rw [List.getElem_take, ← getD_in, ← getD_in]
    exact schedL_get m 0 48 j (by omega)

/-! ### bytes, piece by piece -/
structure Hs where
  st : St
  op : List Byte
  n : Nat
def step1 (h : Hs) (c : Byte) : Hs := ⟨if (h.n + 1) % 64 = 0 then compress h.st (h.op.set (h.n % 64) c) else h.st, h.op.set (h.n % 64) c, h.n + 1⟩
def absorb (h : Hs) (l : List Byte) : Hs := l.foldl step1 h
def firstSt : St := ⟨0x6a09e667#32, 0xbb67ae85#32, 0x3c6ef372#32, 0xa54ff53a#32, 0x510e527f#32, 0x9b05688c#32, 0x1f83d9ab#32, 0x5be0cd19#32⟩
def new : Hs := ⟨firstSt, List.replicate 64 0, 0⟩
theorem absorb_append (h : Hs) (l r : List Byte) : absorb h (l ++ r) = absorb (absorb h l) r := List.foldl_append
theorem absorb_n (l : List Byte) : ∀ h : Hs, (absorb h l).n = h.n + l.length := by
  induction l with
  | nil => intro h; rfl
  | cons c l ih =>
    intro h
    show (absorb (step1 h c) l).n = _
    rw [ih]
    simp [step1]
    omega
theorem absorb_op (l : List Byte) : ∀ h : Hs, (absorb h l).op.length = h.op.length := by
  induction l with
  | nil => intro h; rfl
  | cons c l ih =>
    intro h
    show (absorb (step1 h c) l).op.length = _
    rw [ih]
    simp [step1]
/-- bytes that stay within a block -/
theorem absorb_chunk : ∀ (l : List Byte) (h : Hs), h.op.length = 64 → h.n % 64 + l.length ≤ 64 → l ≠ [] →
    absorb h l = ⟨if (h.n + l.length) % 64 = 0 then compress h.st (h.op.take (h.n % 64) ++ l ++ h.op.drop (h.n % 64 + l.length)) else h.st, h.op.take (h.n % 64) ++ l ++ h.op.drop (h.n % 64 + l.length), h.n + l.length⟩
  | [], _, _, _, hne => absurd rfl hne
  | [c], h, h1, h2, _ => by
    have e : h.op.set (h.n % 64) c = h.op.take (h.n % 64) ++ [c] ++ h.op.drop (h.n % 64 + 1) := by
      simp at h2
      rw [List.set_eq_take_append_cons_drop, if_pos (by omega)]
      simp
    show step1 h c = _
    unfold step1
    rw [e]
    rfl
  | c :: d :: l, h, h1, h2, _ => by
    simp only [List.length_cons] at h2
    have hm : (h.n + 1) % 64 = h.n % 64 + 1 := by omega
    have hne : ¬ (h.n + 1) % 64 = 0 := by omega
    have hs : step1 h c = ⟨h.st, h.op.set (h.n % 64) c, h.n + 1⟩ := by
      unfold step1
      rw [if_neg hne]
    show absorb (step1 h c) (d :: l) = _
    rw [hs, absorb_chunk (d :: l) _ (by simpa using h1) (by simp only [List.length_cons]; omega) (by simp)]
    simp only [List.length_cons, hm]
    have e : (h.op.set (h.n % 64) c).take (h.n % 64 + 1) = h.op.take (h.n % 64) ++ [c] := by
      have hA : (h.op.take (h.n % 64)).length = h.n % 64 := by
        rw [List.length_take]
        omega
      rw [List.set_eq_take_append_cons_drop, if_pos (by omega), List.take_append, List.take_of_length_le (by omega), hA, show h.n % 64 + 1 - h.n % 64 = 1 by omega]
      rfl
    have e2 : (h.op.set (h.n % 64) c).drop (h.n % 64 + 1 + (l.length + 1)) = h.op.drop (h.n % 64 + (l.length + 1 + 1)) := by
      rw [List.drop_set_of_lt (by omega)]
      congr 1
      omega
    rw [e, e2, show h.n + 1 + (l.length + 1) = h.n + (l.length + 1 + 1) by omega]
    simp
/-- blocks, one behind the other -/
def blocks (s : St) (b : List Byte) : Nat → St
  | 0 => s
  | k + 1 => compress (blocks s b k) ((b.drop (64 * k)).take 64)
theorem absorb_blocks (h : Hs) (h1 : h.op.length = 64) (h2 : h.n % 64 = 0) (b : List Byte) : ∀ k, 64 * k ≤ b.length → (absorb h (b.take (64 * k))).st = blocks h.st b k
  | 0, _ => by simp [absorb, blocks]
  | k + 1, hk => by
    have e : b.take (64 * (k + 1)) = b.take (64 * k) ++ (b.drop (64 * k)).take 64 := by
      rw [show 64 * (k + 1) = 64 * k + 64 by omega, List.take_add]
    have hl : ((b.drop (64 * k)).take 64).length = 64 := by simp; omega
    have hn := absorb_n (b.take (64 * k)) h
    have ho := absorb_op (b.take (64 * k)) h
    have hi := absorb_blocks h h1 h2 b k (by omega)
    rw [List.length_take, Nat.min_eq_left (by omega)] at hn
    rw [e, absorb_append]
    generalize absorb h (b.take (64 * k)) = g at *
    rw [absorb_chunk _ g (by omega) (by rw [hl]; omega) (by intro h0; rw [h0] at hl; simp at hl)]
    show (if _ then _ else _) = _
    rw [hl, if_pos (by omega), show g.n % 64 = 0 by omega, hi]
    show _ = compress (blocks h.st b k) _
    have e3 : g.op.drop (0 + 64) = [] := List.drop_eq_nil_of_le (by omega)
    rw [List.take_zero, List.nil_append, e3, List.append_nil]
/-- the bytes of a number, the greatest first -/
def be8 (x : BitVec 64) : List Byte := (List.range 8).map fun i => (x >>> (56 - 8 * i)).setWidth 8
def be4 (x : Word) : List Byte := (List.range 4).map fun k => (x >>> (24 - 8 * k)).setWidth 8
def digest (s : St) : List Byte := s.list.flatMap be4
/-- so many noughts are missing till eight bytes ahead of a block's end -/
def lack (n : Nat) : Nat := (56 + 64 - n % 64) % 64
def bitsOf (n : Nat) : BitVec 64 := BitVec.ofNat 64 n <<< 3
def padding (n : Nat) : List Byte := 0x80#8 :: List.replicate (lack (n + 1)) 0 ++ be8 (bitsOf n)
def sumH (h : Hs) : List Byte := digest (absorb h (padding h.n)).st
def padded (m : List Byte) : List Byte := m ++ padding m.length
def sum (m : List Byte) : List Byte := sumH (absorb new m)
theorem be8_length (x : BitVec 64) : (be8 x).length = 8 := by simp [be8]
theorem padded_length (m : List Byte) : (padded m).length % 64 = 0 := by
  simp [padded, padding, be8_length, lack]
  omega
/-- the sum is that of the padded bytes' blocks -/
theorem sum_blocks (m : List Byte) : sum m = digest (blocks firstSt (padded m) ((padded m).length / 64)) := by
  have hl := padded_length m
  have e : (padded m).take (64 * ((padded m).length / 64)) = padded m := List.take_of_length_le (by omega)
  have h := absorb_blocks new (by simp [new]) (by simp [new]) (padded m) ((padded m).length / 64) (by omega)
  rw [e] at h
  unfold sum sumH
  rw [absorb_n, show new.n + m.length = m.length by simp [new], ← absorb_append]
  show digest (absorb new (padded m)).st = _
  rw [h]
  rfl
/-- the whole schedule of a block; not to be opened by a walk -/
def sched (b : List Byte) : List Word := schedL (words b) 48
theorem sched_eq (b : List Byte) : schedL (words b) 48 = sched b := rfl
theorem compress_eq (s : St) (b : List Byte) : compress s b = addSt s (rounds (sched b) s 64) := rfl
theorem sched_first (b : List Byte) : words b = ringOf (sched b) 16 := (ring_first (words_length b)).symm
theorem sched_lo (b : List Byte) {t : Nat} (h : t < 16) : (ringOf (sched b) 16).getD t 0 = (sched b).getD t 0 := ring_lo (words_length b) h
theorem sched_hi (b : List Byte) {t : Nat} (h1 : 16 ≤ t) (h2 : t < 64) : newW (ringOf (sched b) t) t = (sched b).getD t 0 := ring_hi (words_length b) h1 h2
theorem sum_len (m : List Byte) : (sum m).length = 32 := rfl
theorem new_op : new.op.length = 64 := rfl
theorem new_n : new.n = 0 := rfl
theorem sumH_len (h : Hs) : (sumH h).length = 32 := rfl
theorem sum_eq (m : List Byte) : sumH (absorb new m) = sum m := rfl
theorem sumH_eq (h : Hs) : sumH h = digest (absorb h (padding h.n)).st := rfl
def twice (m : List Byte) : List Byte := sum (sum m)
theorem twice_eq (m : List Byte) : twice m = sum (sum m) := rfl
theorem twice_len (m : List Byte) : (twice m).length = 32 := rfl
def le4 (l : List Byte) : Word := (l.getD 0 0).setWidth 32 ||| (l.getD 1 0).setWidth 32 <<< 8 ||| (l.getD 2 0).setWidth 32 <<< 16 ||| (l.getD 3 0).setWidth 32 <<< 24
attribute [irreducible] sched compress sum sumH twice
end Go.Sha
namespace Go.Proofs.YtieobcaegegboaaDoor
open Go.RowKit Go.Px Go.Sha
theorem Tryd.laidOut : laidOutB Tryd.prog = true := by kernel_rfl
theorem oneU32 : One Tryd.prog 22 := One.of (d := .int .u32) (by kernel_rfl) rfl (by kernel_rfl)
theorem oneU64 : One Tryd.prog 29 := One.of (d := .int .u64) (by kernel_rfl) rfl (by kernel_rfl)
theorem oneU8 : One Tryd.prog 5 := One.of (d := .int .u8) (by kernel_rfl) rfl (by kernel_rfl)
theorem oneBytes : One Tryd.prog 37 := One.of (d := .slice 5) (by kernel_rfl) rfl (by kernel_rfl)
theorem sizeU32 : (Tryd.prog.info? 22).map (·.size) = some 1 := by kernel_rfl
theorem sizeU64 : (Tryd.prog.info? 29).map (·.size) = some 1 := by kernel_rfl
theorem sizeU8 : (Tryd.prog.info? 5).map (·.size) = some 1 := by kernel_rfl
theorem undInt : Tryd.prog.underlying 3 = some (.int .i64) := by kernel_rfl
theorem undU8 : Tryd.prog.underlying 5 = some (.int .u8) := by kernel_rfl
theorem undU32 : Tryd.prog.underlying 22 = some (.int .u32) := by kernel_rfl
theorem undU64 : Tryd.prog.underlying 29 = some (.int .u64) := by kernel_rfl
theorem undUint : Tryd.prog.underlying 73 = some (.int .u64) := by kernel_rfl
theorem undBytes : Tryd.prog.underlying 37 = some (.slice 5) := by kernel_rfl
theorem arr8w : ArrTy Tryd.prog 74 22 8 := ArrTy.of (d := .int .u32) (by kernel_rfl) (by kernel_rfl) rfl (by kernel_rfl)
theorem arr16w : ArrTy Tryd.prog 119 22 16 := ArrTy.of (d := .int .u32) (by kernel_rfl) (by kernel_rfl) rfl (by kernel_rfl)
theorem arr64w : ArrTy Tryd.prog 95 22 64 := ArrTy.of (d := .int .u32) (by kernel_rfl) (by kernel_rfl) rfl (by kernel_rfl)
theorem arr64b : ArrTy Tryd.prog 76 5 64 := ArrTy.of (d := .int .u8) (by kernel_rfl) (by kernel_rfl) rfl (by kernel_rfl)
theorem arr8b : ArrTy Tryd.prog 111 5 8 := ArrTy.of (d := .int .u8) (by kernel_rfl) (by kernel_rfl) rfl (by kernel_rfl)
theorem arr32b : ArrTy Tryd.prog 34 5 32 := ArrTy.of (d := .int .u8) (by kernel_rfl) (by kernel_rfl) rfl (by kernel_rfl)
theorem agg8w : Agg Tryd.prog 74 8 := Agg.of (d := .array 8 22) (by kernel_rfl) rfl (by kernel_rfl)
theorem agg16w : Agg Tryd.prog 119 16 := Agg.of (d := .array 16 22) (by kernel_rfl) rfl (by kernel_rfl)
theorem agg64w : Agg Tryd.prog 95 64 := Agg.of (d := .array 64 22) (by kernel_rfl) rfl (by kernel_rfl)
theorem agg64b : Agg Tryd.prog 76 64 := Agg.of (d := .array 64 5) (by kernel_rfl) rfl (by kernel_rfl)
theorem agg32b : Agg Tryd.prog 34 32 := Agg.of (d := .array 32 5) (by kernel_rfl) rfl (by kernel_rfl)
theorem zero8w (w : World) : (zeroValue 74).run Tryd.prog w = .ok (.agg (List.replicate 8 (.int .u32 0)).toArray) w := by kernel_rfl
theorem zero16w (w : World) : (zeroValue 119).run Tryd.prog w = .ok (.agg (List.replicate 16 (.int .u32 0)).toArray) w := by kernel_rfl
theorem zero64w (w : World) : (zeroValue 95).run Tryd.prog w = .ok (.agg (List.replicate 64 (.int .u32 0)).toArray) w := by kernel_rfl
theorem zero64b (w : World) : (zeroValue 76).run Tryd.prog w = .ok (.agg (List.replicate 64 (.int .u8 0)).toArray) w := by kernel_rfl
theorem zero8b (w : World) : (zeroValue 111).run Tryd.prog w = .ok (.agg (List.replicate 8 (.int .u8 0)).toArray) w := by kernel_rfl
theorem zero32b (w : World) : (zeroValue 34).run Tryd.prog w = .ok (.agg (List.replicate 32 (.int .u8 0)).toArray) w := by kernel_rfl
theorem infoU8 : (Tryd.prog.info? 5).map (fun i => (i.zero, i.size, i.bytes)) = some (some (.int .u8 0), 1, 1) := by kernel_rfl
theorem slBytes : SlTy Tryd.prog 37 5 1 1 where
  ty := by kernel_rfl
  info := by
    obtain ⟨i, h1, h2, h3, h4⟩ := info_parts infoU8
    exact ⟨i, _, h1, h2, h3, by simp [Value.cells], h4, by simp [Value.cells]; rfl⟩
  pos := by omega
theorem infoBytes : (Tryd.prog.info? 37).map (fun i => (i.zero, i.size, i.bytes)) = some (some (.slice none 0 0), 1, 24) := by kernel_rfl
theorem slPieces : SlTy Tryd.prog 89 37 1 24 where
  ty := by kernel_rfl
  info := by
    obtain ⟨i, h1, h2, h3, h4⟩ := info_parts infoBytes
    exact ⟨i, _, h1, h2, h3, by simp [Value.cells], h4, by simp [Value.cells]; rfl⟩
  pos := by omega
end Go.Proofs.YtieobcaegegboaaDoor
namespace Go.Proofs.YtieobcaegegboaaDoor
open Go.RowKit Go.Px Go.Sha
theorem ror_comm (x : Word) (c : Nat) : x <<< (32 - c) ||| x >>> c = ror x c := BitVec.or_comm _ _
section
variable {R : Nat → Prop} {base w : World} {F : List Hp}
set_option maxHeartbeats 400000 in
theorem rot_17 (x : Word) (w : World) : Calls Tryd.prog 69 #[W32 x, .int .i64 (-17)] w (Ret fun r w' => r = W32 (ror x 17) ∧ w' = w) := by
  go_enter Tryd.func69, Tryd.ntmps69
  go_wp2_with (first
    | (show wpList _ _ _ (⟨_, .binOp .shl _ _ _ _, _, _, _, _⟩ :: _) _ _; refine wpList_val rfl (op_shl32 rfl rfl (c := 15) rfl) ?_; go_frame)
    | (show wpList _ _ _ (⟨_, .binOp .shr _ _ _ _, _, _, _, _⟩ :: _) _ _; refine wpList_val rfl (op_shr32 rfl rfl (c := 17) rfl) ?_; go_frame)
    | (show wpList _ _ _ (⟨_, .binOp .or _ _ _ _, _, _, _, _⟩ :: _) _ _; refine wpList_val rfl (op_bin32 rfl rfl rfl rfl) ?_; go_frame)
    )
  go_ret
  exact ⟨congrArg W32 (ror_comm x 17), rfl⟩
set_option maxHeartbeats 400000 in
theorem rot_19 (x : Word) (w : World) : Calls Tryd.prog 69 #[W32 x, .int .i64 (-19)] w (Ret fun r w' => r = W32 (ror x 19) ∧ w' = w) := by
  go_enter Tryd.func69, Tryd.ntmps69
  go_wp2_with (first
    | (show wpList _ _ _ (⟨_, .binOp .shl _ _ _ _, _, _, _, _⟩ :: _) _ _; refine wpList_val rfl (op_shl32 rfl rfl (c := 13) rfl) ?_; go_frame)
    | (show wpList _ _ _ (⟨_, .binOp .shr _ _ _ _, _, _, _, _⟩ :: _) _ _; refine wpList_val rfl (op_shr32 rfl rfl (c := 19) rfl) ?_; go_frame)
    | (show wpList _ _ _ (⟨_, .binOp .or _ _ _ _, _, _, _, _⟩ :: _) _ _; refine wpList_val rfl (op_bin32 rfl rfl rfl rfl) ?_; go_frame)
    )
  go_ret
  exact ⟨congrArg W32 (ror_comm x 19), rfl⟩
set_option maxHeartbeats 400000 in
theorem rot_7 (x : Word) (w : World) : Calls Tryd.prog 69 #[W32 x, .int .i64 (-7)] w (Ret fun r w' => r = W32 (ror x 7) ∧ w' = w) := by
  go_enter Tryd.func69, Tryd.ntmps69
  go_wp2_with (first
    | (show wpList _ _ _ (⟨_, .binOp .shl _ _ _ _, _, _, _, _⟩ :: _) _ _; refine wpList_val rfl (op_shl32 rfl rfl (c := 25) rfl) ?_; go_frame)
    | (show wpList _ _ _ (⟨_, .binOp .shr _ _ _ _, _, _, _, _⟩ :: _) _ _; refine wpList_val rfl (op_shr32 rfl rfl (c := 7) rfl) ?_; go_frame)
    | (show wpList _ _ _ (⟨_, .binOp .or _ _ _ _, _, _, _, _⟩ :: _) _ _; refine wpList_val rfl (op_bin32 rfl rfl rfl rfl) ?_; go_frame)
    )
  go_ret
  exact ⟨congrArg W32 (ror_comm x 7), rfl⟩
set_option maxHeartbeats 400000 in
theorem rot_18 (x : Word) (w : World) : Calls Tryd.prog 69 #[W32 x, .int .i64 (-18)] w (Ret fun r w' => r = W32 (ror x 18) ∧ w' = w) := by
  go_enter Tryd.func69, Tryd.ntmps69
  go_wp2_with (first
    | (show wpList _ _ _ (⟨_, .binOp .shl _ _ _ _, _, _, _, _⟩ :: _) _ _; refine wpList_val rfl (op_shl32 rfl rfl (c := 14) rfl) ?_; go_frame)
    | (show wpList _ _ _ (⟨_, .binOp .shr _ _ _ _, _, _, _, _⟩ :: _) _ _; refine wpList_val rfl (op_shr32 rfl rfl (c := 18) rfl) ?_; go_frame)
    | (show wpList _ _ _ (⟨_, .binOp .or _ _ _ _, _, _, _, _⟩ :: _) _ _; refine wpList_val rfl (op_bin32 rfl rfl rfl rfl) ?_; go_frame)
    )
  go_ret
  exact ⟨congrArg W32 (ror_comm x 18), rfl⟩
set_option maxHeartbeats 400000 in
theorem rot_6 (x : Word) (w : World) : Calls Tryd.prog 69 #[W32 x, .int .i64 (-6)] w (Ret fun r w' => r = W32 (ror x 6) ∧ w' = w) := by
  go_enter Tryd.func69, Tryd.ntmps69
  go_wp2_with (first
    | (show wpList _ _ _ (⟨_, .binOp .shl _ _ _ _, _, _, _, _⟩ :: _) _ _; refine wpList_val rfl (op_shl32 rfl rfl (c := 26) rfl) ?_; go_frame)
    | (show wpList _ _ _ (⟨_, .binOp .shr _ _ _ _, _, _, _, _⟩ :: _) _ _; refine wpList_val rfl (op_shr32 rfl rfl (c := 6) rfl) ?_; go_frame)
    | (show wpList _ _ _ (⟨_, .binOp .or _ _ _ _, _, _, _, _⟩ :: _) _ _; refine wpList_val rfl (op_bin32 rfl rfl rfl rfl) ?_; go_frame)
    )
  go_ret
  exact ⟨congrArg W32 (ror_comm x 6), rfl⟩
set_option maxHeartbeats 400000 in
theorem rot_11 (x : Word) (w : World) : Calls Tryd.prog 69 #[W32 x, .int .i64 (-11)] w (Ret fun r w' => r = W32 (ror x 11) ∧ w' = w) := by
  go_enter Tryd.func69, Tryd.ntmps69
  go_wp2_with (first
    | (show wpList _ _ _ (⟨_, .binOp .shl _ _ _ _, _, _, _, _⟩ :: _) _ _; refine wpList_val rfl (op_shl32 rfl rfl (c := 21) rfl) ?_; go_frame)
    | (show wpList _ _ _ (⟨_, .binOp .shr _ _ _ _, _, _, _, _⟩ :: _) _ _; refine wpList_val rfl (op_shr32 rfl rfl (c := 11) rfl) ?_; go_frame)
    | (show wpList _ _ _ (⟨_, .binOp .or _ _ _ _, _, _, _, _⟩ :: _) _ _; refine wpList_val rfl (op_bin32 rfl rfl rfl rfl) ?_; go_frame)
    )
  go_ret
  exact ⟨congrArg W32 (ror_comm x 11), rfl⟩
set_option maxHeartbeats 400000 in
theorem rot_25 (x : Word) (w : World) : Calls Tryd.prog 69 #[W32 x, .int .i64 (-25)] w (Ret fun r w' => r = W32 (ror x 25) ∧ w' = w) := by
  go_enter Tryd.func69, Tryd.ntmps69
  go_wp2_with (first
    | (show wpList _ _ _ (⟨_, .binOp .shl _ _ _ _, _, _, _, _⟩ :: _) _ _; refine wpList_val rfl (op_shl32 rfl rfl (c := 7) rfl) ?_; go_frame)
    | (show wpList _ _ _ (⟨_, .binOp .shr _ _ _ _, _, _, _, _⟩ :: _) _ _; refine wpList_val rfl (op_shr32 rfl rfl (c := 25) rfl) ?_; go_frame)
    | (show wpList _ _ _ (⟨_, .binOp .or _ _ _ _, _, _, _, _⟩ :: _) _ _; refine wpList_val rfl (op_bin32 rfl rfl rfl rfl) ?_; go_frame)
    )
  go_ret
  exact ⟨congrArg W32 (ror_comm x 25), rfl⟩
set_option maxHeartbeats 400000 in
theorem rot_2 (x : Word) (w : World) : Calls Tryd.prog 69 #[W32 x, .int .i64 (-2)] w (Ret fun r w' => r = W32 (ror x 2) ∧ w' = w) := by
  go_enter Tryd.func69, Tryd.ntmps69
  go_wp2_with (first
    | (show wpList _ _ _ (⟨_, .binOp .shl _ _ _ _, _, _, _, _⟩ :: _) _ _; refine wpList_val rfl (op_shl32 rfl rfl (c := 30) rfl) ?_; go_frame)
    | (show wpList _ _ _ (⟨_, .binOp .shr _ _ _ _, _, _, _, _⟩ :: _) _ _; refine wpList_val rfl (op_shr32 rfl rfl (c := 2) rfl) ?_; go_frame)
    | (show wpList _ _ _ (⟨_, .binOp .or _ _ _ _, _, _, _, _⟩ :: _) _ _; refine wpList_val rfl (op_bin32 rfl rfl rfl rfl) ?_; go_frame)
    )
  go_ret
  exact ⟨congrArg W32 (ror_comm x 2), rfl⟩
set_option maxHeartbeats 400000 in
theorem rot_13 (x : Word) (w : World) : Calls Tryd.prog 69 #[W32 x, .int .i64 (-13)] w (Ret fun r w' => r = W32 (ror x 13) ∧ w' = w) := by
  go_enter Tryd.func69, Tryd.ntmps69
  go_wp2_with (first
    | (show wpList _ _ _ (⟨_, .binOp .shl _ _ _ _, _, _, _, _⟩ :: _) _ _; refine wpList_val rfl (op_shl32 rfl rfl (c := 19) rfl) ?_; go_frame)
    | (show wpList _ _ _ (⟨_, .binOp .shr _ _ _ _, _, _, _, _⟩ :: _) _ _; refine wpList_val rfl (op_shr32 rfl rfl (c := 13) rfl) ?_; go_frame)
    | (show wpList _ _ _ (⟨_, .binOp .or _ _ _ _, _, _, _, _⟩ :: _) _ _; refine wpList_val rfl (op_bin32 rfl rfl rfl rfl) ?_; go_frame)
    )
  go_ret
  exact ⟨congrArg W32 (ror_comm x 13), rfl⟩
set_option maxHeartbeats 400000 in
theorem rot_22 (x : Word) (w : World) : Calls Tryd.prog 69 #[W32 x, .int .i64 (-22)] w (Ret fun r w' => r = W32 (ror x 22) ∧ w' = w) := by
  go_enter Tryd.func69, Tryd.ntmps69
  go_wp2_with (first
    | (show wpList _ _ _ (⟨_, .binOp .shl _ _ _ _, _, _, _, _⟩ :: _) _ _; refine wpList_val rfl (op_shl32 rfl rfl (c := 10) rfl) ?_; go_frame)
    | (show wpList _ _ _ (⟨_, .binOp .shr _ _ _ _, _, _, _, _⟩ :: _) _ _; refine wpList_val rfl (op_shr32 rfl rfl (c := 22) rfl) ?_; go_frame)
    | (show wpList _ _ _ (⟨_, .binOp .or _ _ _ _, _, _, _, _⟩ :: _) _ _; refine wpList_val rfl (op_bin32 rfl rfl rfl rfl) ?_; go_frame)
    )
  go_ret
  exact ⟨congrArg W32 (ror_comm x 22), rfl⟩
set_option maxHeartbeats 400000 in
theorem turn_s (x : Word) (c : Nat) (h : 1 ≤ c ∧ c ≤ 31) (w : World) : Calls Tryd.prog 49 #[W32 x, .int .u64 c] w (Ret fun r w' => r = W32 (ror x c) ∧ w' = w) := by
  go_enter Tryd.func49, Tryd.ntmps49
  go_wp2_with (first
    | (show wpList _ _ _ (⟨_, .binOp .shl _ _ _ _, _, _, _, _⟩ :: _) _ _; refine wpList_val rfl (op_shl32Z rfl rfl rfl (32 - c) (by omega)) ?_; go_frame)
    | (show wpList _ _ _ (⟨_, .binOp .shr _ _ _ _, _, _, _, _⟩ :: _) _ _; refine wpList_val rfl (op_shr32 rfl rfl (c := c) rfl) ?_; go_frame)
    | (show wpList _ _ _ (⟨_, .binOp .or _ _ _ _, _, _, _, _⟩ :: _) _ _; refine wpList_val rfl (op_bin32 rfl rfl rfl rfl) ?_; go_frame)
    )
  go_ret
  exact ⟨rfl, rfl⟩
end
end Go.Proofs.YtieobcaegegboaaDoor
namespace Go.Proofs.YtieobcaegegboaaDoor
open Go.RowKit Go.Px Go.Sha
section
variable {R : Nat → Prop} {base w : World} {F : List Hp}
set_option maxHeartbeats 1000000 in
theorem word_lo {b : Nat} {T : TypeId} {ring : List Word} (hS : SepL R base w (.blk b T (ring.map W32) :: F)) (hl : ring.length = 16) (t : Nat) (ht : t < 16) :
    Calls Tryd.prog 70 #[.pointer (some ⟨b, 0, none⟩), .int .i64 t] w (Ret fun r w' => r = W32 (ring.getD t 0) ∧ SepL R base w' (.blk b T (ring.map W32) :: F)) := by
  have h1 : t < ring.length := by omega
  have e := hide (getD_in h1)
  have HL := hide hl
  clear hl
  go_enter Tryd.func70, Tryd.ntmps70
  go_wp2_with (first
    | (show wpList _ _ _ (⟨_, .binOp .and _ _ _ _, _, _, _, _⟩ :: _) _ _; refine wpList_val rfl (op_iand15 rfl rfl rfl t (by omega) (by omega)) ?_; rw [Nat.mod_eq_of_lt ht]; go_frame)
    | (show wpList _ _ _ (⟨_, .indexAddr 119 _ _, _, _, _, _⟩ :: _) _ _; refine wpList_val rfl (op_indexArr arr16w rfl rfl (k := t) rfl (by omega)) ?_; rw [Nat.zero_add]; go_frame)
    | (show wpList _ _ _ (⟨_, .load 22 _, _, _, _, _⟩ :: _) _ _; refine wpList_val rfl (op_loadF (f := W32) oneU32 ((hS.bring (by repeat (first | exact t0 | apply tS)))) rfl rfl (by omega)) ?_; go_frame)
    )
  go_ret
  exact ⟨congrArg W32 e.out.symm, hS⟩
set_option maxHeartbeats 2000000 in
theorem word_hi {b : Nat} {T : TypeId} {ring : List Word} (hS : SepL R base w (.blk b T (ring.map W32) :: F)) (hl : ring.length = 16) (t : Nat) (ht : 16 ≤ t) (ht2 : t < 64) :
    Calls Tryd.prog 70 #[.pointer (some ⟨b, 0, none⟩), .int .i64 t] w (Ret fun r w' => r = W32 (newW ring t) ∧ SepL R base w' (.blk b T ((ring.set (t % 16) (newW ring t)).map W32) :: F)) := by
  have h0 : t % 16 < ring.length := by omega
  have h2 : (t - 2) % 16 < ring.length := by omega
  have h7 : (t - 7) % 16 < ring.length := by omega
  have h15 : (t - 15) % 16 < ring.length := by omega
  have e : Hid (newW ring t = ring[t % 16] + (sig1 ring[(t - 2) % 16] + ring[(t - 7) % 16] + sig0 ring[(t - 15) % 16])) := by
    unfold Hid newW
    rw [getD_in h0, getD_in h2, getD_in h7, getD_in h15]
  have HL := hide hl
  clear hl
  go_enter Tryd.func70, Tryd.ntmps70
  go_wp2_with (first
    | (refine wp_region_text (by kernel_rfl) (by kernel_rfl) (by repeat (first | exact Clean.body | refine Clean.then ?_ | refine Clean.inBlock ?_)) ?_; replace hS := hS.drew)
    | (refine fin_mk (by kernel_rfl) ?_)
    | (show wpList _ _ _ (⟨_, .binOp .and 3 _ _ _, _, _, _, _⟩ :: _) _ _; refine wpList_val rfl (op_iand15 rfl rfl rfl t (by omega) (by omega)) ?_; go_frame)
    | (show wpList _ _ _ (⟨_, .binOp .and 3 _ _ _, _, _, _, _⟩ :: _) _ _; refine wpList_val rfl (op_iand15 rfl rfl rfl (t - 2) (by omega) (by omega)) ?_; go_frame)
    | (show wpList _ _ _ (⟨_, .binOp .and 3 _ _ _, _, _, _, _⟩ :: _) _ _; refine wpList_val rfl (op_iand15 rfl rfl rfl (t - 7) (by omega) (by omega)) ?_; go_frame)
    | (show wpList _ _ _ (⟨_, .binOp .and 3 _ _ _, _, _, _, _⟩ :: _) _ _; refine wpList_val rfl (op_iand15 rfl rfl rfl (t - 15) (by omega) (by omega)) ?_; go_frame)
    | (show wpList _ _ _ (⟨_, .indexAddr 119 _ _, _, _, _, _⟩ :: _) _ _; refine wpList_val rfl (op_indexArr arr16w rfl rfl rfl (by omega)) ?_; rw [Nat.zero_add]; go_frame)
    | (show wpList _ _ _ (⟨_, .load 22 _, _, _, _, _⟩ :: _) _ _; refine wpList_val rfl (op_loadF (f := W32) oneU32 ((hS.bring (by repeat (first | exact t0 | apply tS)))) rfl rfl (by simpa using by omega)) ?_; go_frame)
    | (show wpList _ _ _ (⟨_, .binOp .shr _ _ _ _, _, _, _, _⟩ :: _) _ _; refine wpList_val rfl (op_shr32 rfl rfl (c := 10) rfl) ?_; go_frame)
    | (show wpList _ _ _ (⟨_, .binOp .shr _ _ _ _, _, _, _, _⟩ :: _) _ _; refine wpList_val rfl (op_shr32 rfl rfl (c := 3) rfl) ?_; go_frame)
    | (show wpList _ _ _ (⟨_, .binOp .xor _ _ _ _, _, _, _, _⟩ :: _) _ _; refine wpList_val rfl (op_bin32 rfl rfl rfl rfl) ?_; go_frame)
    | (show wpList _ _ _ (⟨_, .binOp .add 22 _ _ _, _, _, _, _⟩ :: _) _ _; refine wpList_val rfl (op_bin32 rfl rfl rfl rfl) ?_; go_frame)
    | (show wpList _ _ _ (⟨_, .store 22 _ _, _, _, _, _⟩ :: _) _ _; (refine wpS_storeF (f := W32) sizeU32 (hS.bring (by repeat (first | exact t0 | apply tS))) rfl rfl rfl rfl rfl rfl (by omega) ?_); clear hS; intro w hS; go_frame)
    | (go_at_call 69; (first | (with_reducible refine Ret.calls (rot_17 _ _) ?_) | (with_reducible refine Ret.calls (rot_19 _ _) ?_) | (with_reducible refine Ret.calls (rot_7 _ _) ?_) | (with_reducible refine Ret.calls (rot_18 _ _) ?_)); rintro r w' ⟨rfl, rfl⟩)
    )
  go_ret
  exact ⟨congrArg W32 ((List.getElem_set_self (by simpa using h0)).trans e.out.symm), by rw [e.out]; exact hS⟩
end
end Go.Proofs.YtieobcaegegboaaDoor
namespace Go.Proofs.YtieobcaegegboaaDoor
open Go.RowKit Go.Px Go.Sha
def ST (s : St) : Value := .agg (s.list.map W32).toArray
theorem op_ishr2 {P : Program} {o : Oper} {w : World} {ρ : Operand → Value} {t t' : TypeId} {x y : Operand} (ho : o.op = .binOp .shr t x y t') {n : Nat} (hx : ρ x = .int .i64 n) (hy : ρ y = .int .u64 2) : (execOp ρ o).run P w = .ok (.value (.int .i64 (n / 4 : Nat))) w := by
  unfold execOp
  simp only [ho, hx, hy, Sem.run_bind, run_eqGuard_int, Result.andThen_ok, binOp, Op.shift, show ¬ ((2 : Int) < 0) by omega, if_false, Sem.run_pure]
  congr 3
  show Int.fdiv (n : Int) 4 = _
  rw [Int.fdiv_eq_ediv_of_nonneg _ (by omega)]
  omega
theorem build8w (x0 x1 x2 x3 x4 x5 x6 x7 : Word) (w : World) : (Instr.build 74 #[(0, W32 x0), (1, W32 x1), (2, W32 x2), (3, W32 x3), (4, W32 x4), (5, W32 x5), (6, W32 x6), (7, W32 x7)]).run Tryd.prog w = .ok (.agg ([x0, x1, x2, x3, x4, x5, x6, x7].map W32).toArray) w := by kernel_rfl
theorem oneW (us : List Word) : ∀ v ∈ us.map W32, v.oneCell' = true := by
  intro v hv
  obtain ⟨x, _, rfl⟩ := List.mem_map.1 hv
  rfl
theorem oneB (us : List Byte) : ∀ v ∈ us.map B8, v.oneCell' = true := by
  intro v hv
  obtain ⟨x, _, rfl⟩ := List.mem_map.1 hv
  rfl
/-- a result that lies in memory -/
theorem ret_cell {P : Program} {fn : Func} {R : Value → World → Prop} {a : Act} {w : World} {t T T' : Nat} {n b : Nat} {cs : List Value} (A : Agg P T n) (hr : fn.results = #[.cell t T]) (hd : a.defers = []) (ha : a.tmps.getD t undef = .pointer (some ⟨b, 0, none⟩)) (hB : Blk w b T' cs) (hn : cs.length = n) (h : R (.agg cs.toArray) w) : bodyPost P fn (Ret R) .ret a w := by
  refine bodyPost_ret (v := .agg cs.toArray) ?_ hd h
  have hl := run_loadVar_cells A hB.cells hn
  have ha' : a.tmps[t]?.getD undef = .pointer (some ⟨b, 0, none⟩) := by simpa using ha
  simp [results, hr, asAddr, ha', hl]
section
variable {R : Nat → Prop} {base w : World} {F : List Hp}
theorem word_any {b : Nat} {T : TypeId} (bs : List Byte) {t : Nat} (ht : t < 64) (hS : SepL R base w (.blk b T ((ringOf (sched bs) (max t 16)).map W32) :: F)) :
    Calls Tryd.prog 70 #[.pointer (some ⟨b, 0, none⟩), .int .i64 t] w (Ret fun r w' => r = W32 ((sched bs).getD t 0) ∧ SepL R base w' (.blk b T ((ringOf (sched bs) (max (t + 1) 16)).map W32) :: F)) := by
  by_cases h : t < 16
  · rw [show max t 16 = 16 by omega] at hS
    rw [show max (t + 1) 16 = 16 by omega, ← sched_lo bs h]
    exact word_lo hS (ringOf_length _ _) t h
  · rw [show max t 16 = t by omega] at hS
    rw [show max (t + 1) 16 = t + 1 by omega, ringOf_succ (by omega), ← sched_hi bs (by omega) ht]
    exact word_hi hS (ringOf_length _ _) t (by omega) ht
set_option maxRecDepth 100000 in
set_option maxHeartbeats 4000000 in
theorem block_s (hS : SepL R base w F) (hK : CIn R base 3 (kTab.map W32)) (s : St) (bs : List Byte) (hb : bs.length = 64) :
    Calls Tryd.prog 66 #[ST s, .agg (bs.map B8).toArray] w (Ret fun r w' => r = ST (compress s bs) ∧ SepL R base w' F) := by
  have HB := hide hb
  clear hb
  unfold ST
  go_enter Tryd.func66, Tryd.ntmps66
  go_wp2_with (first
    | (show wpList _ _ _ (⟨_, .box 74 _, _, _, _, _⟩ :: _) _ _; refine wpS_boxA (cs := s.list.map W32) hS rfl rfl rfl ?_; clear hS; intro ns w hS; go_frame)
    | (show wpList _ _ _ (⟨_, .box 76 _, _, _, _, _⟩ :: _) _ _; refine wpS_boxA (cs := bs.map B8) hS rfl rfl rfl ?_; clear hS; intro nb w hS; go_frame)
    | (show wpList _ _ _ (⟨_, .alloc 74, _, _, _, _⟩ :: _) _ _; refine wpS_alloc hS rfl rfl zero8w (zs := (List.replicate 8 (0 : Word)).map W32) rfl ?_; clear hS; intro nr w hS; go_frame)
    | (show wpList _ _ _ (⟨_, .alloc 119, _, _, _, _⟩ :: _) _ _; refine wpS_alloc hS rfl rfl zero16w (zs := (List.replicate 16 (0 : Word)).map W32) rfl ?_; clear hS; intro nw w hS; go_frame)
    | (show wpList _ _ _ (⟨_, .load 76 _, _, _, _, _⟩ :: _) _ _; refine wpList_val rfl (op_load agg64b rfl rfl ((hS.bring (by repeat (first | exact t0 | apply tS))).getBlk.cells) (by rw [List.length_map]; exact HB.out)) ?_; go_frame)
    )
  have hz : (List.replicate 16 (0 : Word)) = (List.range 16).map (wpart bs 0) := (wparts_zero bs).symm
  rw [hz] at hS
  clear hz
  go_loopw [20] (fun i wr => ∃ k : Nat, i = .int .i64 k ∧ k ≤ 64 ∧ SepL R base wr (.blk nw 119 (((List.range 16).map (wpart bs k)).map W32) :: .blk nr 74 ((List.replicate 8 (0 : Word)).map W32) :: .blk ns 74 (s.list.map W32) :: F)) (fun i _ => 64 - (intOf i).toNat)
  case atStart => exact ⟨0, rfl, by omega, hS.sel (by repeat (first | exact Sel.refl | refine Sel.take (by repeat (first | exact t0 | apply tS)) ?_ | apply Sel.drop))⟩
  case round =>
    clear hS
    obtain ⟨k, rfl, hk, hS⟩ := hrel
    by_cases hlt : k < 64
    · have hkb : k < bs.length := by rw [HB.out]; exact hlt
      have hl4 : k / 4 < ((List.range 16).map (wpart bs k)).length := by simp; omega
      have hst := hide (wparts_step bs k hkb hlt hl4)
      go_wp2_with (first
        | (show wpList _ _ _ (⟨_, .index 76 _ _, _, _, _, _⟩ :: _) _ _; refine wpList_val rfl (op_indexV arr64b rfl (f := B8) (us := bs) rfl HB.out rfl hkb) ?_; go_frame)
        | (show wpList _ _ _ (⟨_, .binOp .shr 3 _ _ _, _, _, _, _⟩ :: _) _ _; refine wpList_val rfl (op_ishr2 rfl rfl rfl) ?_; go_frame)
        | (show wpList _ _ _ (⟨_, .indexAddr 119 _ _, _, _, _, _⟩ :: _) _ _; refine wpList_val rfl (op_indexArr arr16w rfl rfl (k := k / 4) rfl (by omega)) ?_; rw [Nat.zero_add]; go_frame)
        | (show wpList _ _ _ (⟨_, .load 22 _, _, _, _, _⟩ :: _) _ _; refine wpList_val rfl (op_loadF (f := W32) (us := (List.range 16).map (wpart bs k)) oneU32 ((hS.bring (by repeat (first | exact t0 | apply tS)))) rfl rfl hl4) ?_; go_frame)
        | (show wpList _ _ _ (⟨_, .binOp .shl 22 _ _ _, _, _, _, _⟩ :: _) _ _; refine wpList_val rfl (op_shl32 rfl rfl (c := 8) rfl) ?_; go_frame)
        | (show wpList _ _ _ (⟨_, .convert 5 22 _, _, _, _, _⟩ :: _) _ _; refine wpList_val rfl (op_8to32 undU8 undU32 rfl rfl) ?_; go_frame)
        | (show wpList _ _ _ (⟨_, .binOp .or 22 _ _ _, _, _, _, _⟩ :: _) _ _; refine wpList_val rfl (op_bin32 rfl rfl rfl rfl) ?_; go_frame)
        | (show wpList _ _ _ (⟨_, .store 22 _ _, _, _, _, _⟩ :: _) _ _; (refine wpS_storeF (f := W32) sizeU32 (hS.bring (by repeat (first | exact t0 | apply tS))) rfl rfl rfl rfl rfl rfl hl4 ?_); clear hS; intro w hS; go_frame)
        )
      go_roundw
      case rel => exact ⟨k + 1, by go_num, by omega, by rw [← hst.out]; exact hS⟩
      case measure => simp [intOf]; omega
    · have hk2 : k = 64 := by omega
      subst hk2
      rw [show ((64 : Nat) : Int) = 64 from rfl]
      rw [wparts_all bs HB.out, sched_first bs] at hS
      go_wp2_with (first
        | (refine wp_region_text (by kernel_rfl) (by kernel_rfl) (by repeat (first | exact Clean.body | refine Clean.then ?_ | refine Clean.inBlock ?_)) ?_; replace hS := hS.drew)
        | (refine fin_mk (by kernel_rfl) ?_)
        | (show wpList _ _ _ (⟨_, .indexAddr 74 _ _, _, _, _, _⟩ :: _) _ _; (first | (refine wpList_val rfl (op_indexArrZ arr8w rfl rfl rfl 0 rfl (by omega)) ?_) | (refine wpList_val rfl (op_indexArrZ arr8w rfl rfl rfl 1 rfl (by omega)) ?_) | (refine wpList_val rfl (op_indexArrZ arr8w rfl rfl rfl 2 rfl (by omega)) ?_) | (refine wpList_val rfl (op_indexArrZ arr8w rfl rfl rfl 3 rfl (by omega)) ?_) | (refine wpList_val rfl (op_indexArrZ arr8w rfl rfl rfl 4 rfl (by omega)) ?_) | (refine wpList_val rfl (op_indexArrZ arr8w rfl rfl rfl 5 rfl (by omega)) ?_) | (refine wpList_val rfl (op_indexArrZ arr8w rfl rfl rfl 6 rfl (by omega)) ?_) | (refine wpList_val rfl (op_indexArrZ arr8w rfl rfl rfl 7 rfl (by omega)) ?_)); rw [Nat.zero_add]; go_frame)
        | (show wpList _ _ _ (⟨_, .load 22 _, _, _, _, _⟩ :: _) _ _; refine wpList_val rfl (op_load1S oneU32 ((hS.bring (by repeat (first | exact t0 | apply tS)))) rfl rfl rfl) ?_; go_frame)
        )
      go_loopw [8, 9, 10, 11, 12, 13, 14, 15, 52] (fun a b c d e f g h i wr => ∃ k : Nat, i = .int .i64 k ∧ k ≤ 64 ∧ a = W32 (rounds (sched bs) s k).a ∧ b = W32 (rounds (sched bs) s k).b ∧ c = W32 (rounds (sched bs) s k).c ∧ d = W32 (rounds (sched bs) s k).d ∧ e = W32 (rounds (sched bs) s k).e ∧ f = W32 (rounds (sched bs) s k).f ∧ g = W32 (rounds (sched bs) s k).g ∧ h = W32 (rounds (sched bs) s k).h ∧ SepL R base wr (.blk nw 119 ((ringOf (sched bs) (max k 16)).map W32) :: .blk nr 74 ((List.replicate 8 (0 : Word)).map W32) :: .blk ns 74 (s.list.map W32) :: F)) (fun _ _ _ _ _ _ _ _ i _ => 64 - (intOf i).toNat)
      case atStart => exact ⟨0, rfl, by omega, rfl, rfl, rfl, rfl, rfl, rfl, rfl, rfl, hS⟩
      case round =>
        clear hS
        obtain ⟨k, rfl, hk, rfl, rfl, rfl, rfl, rfl, rfl, rfl, rfl, hS⟩ := hrel
        by_cases hlt : k < 64
        · have hr : Hid (rounds (sched bs) s (k + 1) = roundP (rounds (sched bs) s k) (kTab.getD k 0) ((sched bs).getD k 0)) := (roundP_eq _ _ _).symm
          have hkt : Hid (k < kTab.length) := hlt
          have hkk : Hid (kTab.getD k 0 = kTab[k]'hkt.out) := getD_in hkt.out
          generalize rounds (sched bs) s k = v at *
          obtain ⟨C0, T0, fr0, hob, hdr⟩ := hK.c
          clear hdr
          have HOB := hide hob
          clear hob
          go_wp2_with (first
            | (show wpList _ _ _ (⟨_, .binOp .xor 22 _ _ _, _, _, _, _⟩ :: _) _ _; refine wpList_val rfl (op_bin32 rfl rfl rfl rfl) ?_; go_frame)
            | (show wpList _ _ _ (⟨_, .binOp .and 22 _ _ _, _, _, _, _⟩ :: _) _ _; refine wpList_val rfl (op_bin32 rfl rfl rfl rfl) ?_; go_frame)
            | (show wpList _ _ _ (⟨_, .binOp .or 22 _ _ _, _, _, _, _⟩ :: _) _ _; refine wpList_val rfl (op_bin32 rfl rfl rfl rfl) ?_; go_frame)
            | (show wpList _ _ _ (⟨_, .binOp .add 22 _ _ _, _, _, _, _⟩ :: _) _ _; refine wpList_val rfl (op_bin32 rfl rfl rfl rfl) ?_; go_frame)
            | (go_at_call 69; (first | (with_reducible refine Ret.calls (rot_6 _ _) ?_) | (with_reducible refine Ret.calls (rot_11 _ _) ?_) | (with_reducible refine Ret.calls (rot_25 _ _) ?_) | (with_reducible refine Ret.calls (rot_2 _ _) ?_) | (with_reducible refine Ret.calls (rot_13 _ _) ?_) | (with_reducible refine Ret.calls (rot_22 _ _) ?_)); rintro r w' ⟨rfl, rfl⟩)
            )
          refine wp_region_ord (by kernel_rfl) [74] [[0, 1, 2, 3, 4, 5, 6, 7, 8, 9, 10, 11, 12, 13, 14, 15, 16]] (by kernel_rfl) (by kernel_rfl) (fun w' => w'.heap[3]? = some (.cells C0 T0 fr0)) Up.obj ((hS.same hK).trans HOB.out) (by repeat (first | exact Clean.body | refine Clean.then ?_ | refine Clean.inBlock ?_ | refine SegQ.clean ?_ | refine FinC.clean ?_)) ?_
          replace hS := hS.drew
          refine ord_seg (by repeat (first | exact Clean.body | refine Clean.then ?_ | refine Clean.inBlock ?_ | refine SegQ.clean ?_ | refine FinC.clean ?_)) (n := 3) (rest := [[14, 15, 16]]) [0, 1, 2, 3, 4, 5, 6, 7, 8, 9, 10, 11, 12, 13] [⟨_, _, _, _, _, _⟩, ⟨_, _, _, _, _, _⟩, ⟨_, _, _, _, _, _⟩, ⟨_, _, _, _, _, _⟩, ⟨_, _, _, _, _, _⟩, ⟨_, _, _, _, _, _⟩, ⟨_, _, _, _, _, _⟩, ⟨_, _, _, _, _, _⟩, ⟨_, _, _, _, _, _⟩, ⟨_, _, _, _, _, _⟩, ⟨_, _, _, _, _, _⟩, ⟨_, _, _, _, _, _⟩, ⟨_, _, _, _, _, _⟩, ⟨_, _, _, _, _, _⟩] rfl (by kernel_rfl) (by simp) _ _ ?_
          go_wp2_with (first
            | (show wpList _ _ _ (⟨_, .binOp .xor 22 _ _ _, _, _, _, _⟩ :: _) _ _; refine wpList_val rfl (op_bin32 rfl rfl rfl rfl) ?_; go_frame)
            | (show wpList _ _ _ (⟨_, .binOp .and 22 _ _ _, _, _, _, _⟩ :: _) _ _; refine wpList_val rfl (op_bin32 rfl rfl rfl rfl) ?_; go_frame)
            | (show wpList _ _ _ (⟨_, .binOp .or 22 _ _ _, _, _, _, _⟩ :: _) _ _; refine wpList_val rfl (op_bin32 rfl rfl rfl rfl) ?_; go_frame)
            | (show wpList _ _ _ (⟨_, .binOp .add 22 _ _ _, _, _, _, _⟩ :: _) _ _; refine wpList_val rfl (op_bin32 rfl rfl rfl rfl) ?_; go_frame)
            | (show wpList _ _ _ (⟨_, .indexAddr 95 _ _, _, _, _, _⟩ :: _) _ _; refine wpList_val rfl (op_indexArr arr64w rfl rfl (k := k) rfl (by omega)) ?_; rw [Nat.zero_add]; go_frame)
            | (show wpList _ _ _ (⟨_, .load 22 _, _, _, _, _⟩ :: _) _ _; refine wpList_val rfl (op_loadC (f := W32) oneU32 hS hK rfl rfl hkt.out) ?_; go_frame)
            | (go_at_call 70; refine Ret.calls (word_any bs hlt hS) ?_; clear hS; rintro r w ⟨rfl, hS⟩)
            )
          refine segQ_mk ((hS.same hK).trans HOB.out) ?_
          refine ord_seg (by repeat (first | exact Clean.body | refine Clean.then ?_ | refine Clean.inBlock ?_ | refine SegQ.clean ?_ | refine FinC.clean ?_)) (n := 0) (rest := [[]]) [14, 15, 16] [⟨_, _, _, _, _, _⟩, ⟨_, _, _, _, _, _⟩, ⟨_, _, _, _, _, _⟩] rfl (by kernel_rfl) (by simp) _ _ ?_
          go_wp2_with (first
            | (show wpList _ _ _ (⟨_, .binOp .xor 22 _ _ _, _, _, _, _⟩ :: _) _ _; refine wpList_val rfl (op_bin32 rfl rfl rfl rfl) ?_; go_frame)
            | (show wpList _ _ _ (⟨_, .binOp .and 22 _ _ _, _, _, _, _⟩ :: _) _ _; refine wpList_val rfl (op_bin32 rfl rfl rfl rfl) ?_; go_frame)
            | (show wpList _ _ _ (⟨_, .binOp .or 22 _ _ _, _, _, _, _⟩ :: _) _ _; refine wpList_val rfl (op_bin32 rfl rfl rfl rfl) ?_; go_frame)
            | (show wpList _ _ _ (⟨_, .binOp .add 22 _ _ _, _, _, _, _⟩ :: _) _ _; refine wpList_val rfl (op_bin32 rfl rfl rfl rfl) ?_; go_frame)
            )
          refine segQ_mk ((hS.same hK).trans HOB.out) ?_
          refine finC_mk (by kernel_rfl) (by
            intro t ht
            simp only [List.mem_cons, List.not_mem_nil, or_false] at ht
            subst ht
            exact stab_blk (b := 3) (fun _ h => h) k none) ?_
          go_wp2_with (first
            | (show wpList _ _ _ (⟨_, .binOp .xor 22 _ _ _, _, _, _, _⟩ :: _) _ _; refine wpList_val rfl (op_bin32 rfl rfl rfl rfl) ?_; go_frame)
            | (show wpList _ _ _ (⟨_, .binOp .and 22 _ _ _, _, _, _, _⟩ :: _) _ _; refine wpList_val rfl (op_bin32 rfl rfl rfl rfl) ?_; go_frame)
            | (show wpList _ _ _ (⟨_, .binOp .or 22 _ _ _, _, _, _, _⟩ :: _) _ _; refine wpList_val rfl (op_bin32 rfl rfl rfl rfl) ?_; go_frame)
            | (show wpList _ _ _ (⟨_, .binOp .add 22 _ _ _, _, _, _, _⟩ :: _) _ _; refine wpList_val rfl (op_bin32 rfl rfl rfl rfl) ?_; go_frame)
            | (go_at_call 69; (first | (with_reducible refine Ret.calls (rot_6 _ _) ?_) | (with_reducible refine Ret.calls (rot_11 _ _) ?_) | (with_reducible refine Ret.calls (rot_25 _ _) ?_) | (with_reducible refine Ret.calls (rot_2 _ _) ?_) | (with_reducible refine Ret.calls (rot_13 _ _) ?_) | (with_reducible refine Ret.calls (rot_22 _ _) ?_)); rintro r w' ⟨rfl, rfl⟩)
            )
          go_roundw
          case rel => exact ⟨k + 1, by go_num, by omega, by rw [hr.out, hkk.out]; rfl, by rw [hr.out]; rfl, by rw [hr.out]; rfl, by rw [hr.out]; rfl, by rw [hr.out, hkk.out]; rfl, by rw [hr.out]; rfl, by rw [hr.out]; rfl, by rw [hr.out]; rfl, hS⟩
          case measure => simp [intOf]; omega
        · generalize hv : rounds (sched bs) s k = v
          have hk2 : k = 64 := by omega
          have HV : Hid (addSt s v = compress s bs) := by
            unfold Hid
            rw [compress_eq, ← hv, hk2]
          clear hv
          go_wp2_with (first
            | (show wpList _ _ _ (⟨_, .indexAddr 74 _ _, _, _, _, _⟩ :: _) _ _; (first | (refine wpList_val rfl (op_indexArrZ arr8w rfl rfl rfl 0 rfl (by omega)) ?_) | (refine wpList_val rfl (op_indexArrZ arr8w rfl rfl rfl 1 rfl (by omega)) ?_) | (refine wpList_val rfl (op_indexArrZ arr8w rfl rfl rfl 2 rfl (by omega)) ?_) | (refine wpList_val rfl (op_indexArrZ arr8w rfl rfl rfl 3 rfl (by omega)) ?_) | (refine wpList_val rfl (op_indexArrZ arr8w rfl rfl rfl 4 rfl (by omega)) ?_) | (refine wpList_val rfl (op_indexArrZ arr8w rfl rfl rfl 5 rfl (by omega)) ?_) | (refine wpList_val rfl (op_indexArrZ arr8w rfl rfl rfl 6 rfl (by omega)) ?_) | (refine wpList_val rfl (op_indexArrZ arr8w rfl rfl rfl 7 rfl (by omega)) ?_)); rw [Nat.zero_add]; go_frame)
            | (show wpList _ _ _ (⟨_, .load 22 _, _, _, _, _⟩ :: _) _ _; refine wpList_val rfl (op_load1S oneU32 ((hS.bring (by repeat (first | exact t0 | apply tS)))) rfl rfl rfl) ?_; go_frame)
            | (show wpList _ _ _ (⟨_, .binOp .xor 22 _ _ _, _, _, _, _⟩ :: _) _ _; refine wpList_val rfl (op_bin32 rfl rfl rfl rfl) ?_; go_frame)
            | (show wpList _ _ _ (⟨_, .binOp .and 22 _ _ _, _, _, _, _⟩ :: _) _ _; refine wpList_val rfl (op_bin32 rfl rfl rfl rfl) ?_; go_frame)
            | (show wpList _ _ _ (⟨_, .binOp .or 22 _ _ _, _, _, _, _⟩ :: _) _ _; refine wpList_val rfl (op_bin32 rfl rfl rfl rfl) ?_; go_frame)
            | (show wpList _ _ _ (⟨_, .binOp .add 22 _ _ _, _, _, _, _⟩ :: _) _ _; refine wpList_val rfl (op_bin32 rfl rfl rfl rfl) ?_; go_frame)
            | (show wpList _ _ _ (⟨_, .build _ _, _, _, _, _⟩ :: _) _ _; refine wpList_val rfl (op_build (ps := #[(0, W32 (s.a + v.a)), (1, W32 (s.b + v.b)), (2, W32 (s.c + v.c)), (3, W32 (s.d + v.d)), (4, W32 (s.e + v.e)), (5, W32 (s.f + v.f)), (6, W32 (s.g + v.g)), (7, W32 (s.h + v.h))]) rfl rfl (build8w _ _ _ _ _ _ _ _) _) ?_; go_frame)
            | (show wpList _ _ _ (⟨_, .store 74 _ _, _, _, _, _⟩ :: _) _ _; refine wpS_storeAll (b := nr) agg8w (hS.bring (by repeat (first | exact t0 | apply tS))) rfl rfl rfl (vs := (addSt s v).list.map W32) rfl rfl (oneW _) rfl ?_; clear hS; intro w hS; go_frame)
            )
          exact ret_cell (b := nr) agg8w rfl rfl rfl ((hS.bring (by repeat (first | exact t0 | apply tS))).getBlk) rfl ⟨by rw [HV.out], hS.sel (by repeat (first | exact Sel.refl | refine Sel.take (by repeat (first | exact t0 | apply tS)) ?_ | apply Sel.drop))⟩
end
end Go.Proofs.YtieobcaegegboaaDoor
