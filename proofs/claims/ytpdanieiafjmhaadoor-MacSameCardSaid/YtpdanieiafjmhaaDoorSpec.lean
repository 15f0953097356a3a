/- The plain law of the sums: the compression of a block as the document has it and as the program has it are one; pieces do not matter. Conditions: those that stand ahead of each theorem. -/
/-
  No program in sight: words are bit vectors, blocks and states are lists.
-/
namespace Go.Sha
abbrev Word := BitVec 32
abbrev Byte := BitVec 8
def kTab : List Word := [
  0x428a2f98#32, 0x71374491#32, 0xb5c0fbcf#32, 0xe9b5dba5#32, 0x3956c25b#32, 0x59f111f1#32, 0x923f82a4#32, 0xab1c5ed5#32,
  0xd807aa98#32, 0x12835b01#32, 0x243185be#32, 0x550c7dc3#32, 0x72be5d74#32, 0x80deb1fe#32, 0x9bdc06a7#32, 0xc19bf174#32,
  0xe49b69c1#32, 0xefbe4786#32, 0x0fc19dc6#32, 0x240ca1cc#32, 0x2de92c6f#32, 0x4a7484aa#32, 0x5cb0a9dc#32, 0x76f988da#32,
  0x983e5152#32, 0xa831c66d#32, 0xb00327c8#32, 0xbf597fc7#32, 0xc6e00bf3#32, 0xd5a79147#32, 0x06ca6351#32, 0x14292967#32,
  0x27b70a85#32, 0x2e1b2138#32, 0x4d2c6dfc#32, 0x53380d13#32, 0x650a7354#32, 0x766a0abb#32, 0x81c2c92e#32, 0x92722c85#32,
  0xa2bfe8a1#32, 0xa81a664b#32, 0xc24b8b70#32, 0xc76c51a3#32, 0xd192e819#32, 0xd6990624#32, 0xf40e3585#32, 0x106aa070#32,
  0x19a4c116#32, 0x1e376c08#32, 0x2748774c#32, 0x34b0bcb5#32, 0x391c0cb3#32, 0x4ed8aa4a#32, 0x5b9cca4f#32, 0x682e6ff3#32,
  0x748f82ee#32, 0x78a5636f#32, 0x84c87814#32, 0x8cc70208#32, 0x90befffa#32, 0xa4506ceb#32, 0xbef9a3f7#32, 0xc67178f2#32]
def first : List Word := [0x6a09e667#32, 0xbb67ae85#32, 0x3c6ef372#32, 0xa54ff53a#32, 0x510e527f#32, 0x9b05688c#32, 0x1f83d9ab#32, 0x5be0cd19#32]
def ror (x : Word) (c : Nat) : Word := (x >>> c) ||| (x <<< (32 - c))
def sig1 (x : Word) : Word := ror x 17 ^^^ ror x 19 ^^^ x >>> 10
def sig0 (x : Word) : Word := ror x 7 ^^^ ror x 18 ^^^ x >>> 3
def big1 (e : Word) : Word := ror e 6 ^^^ ror e 11 ^^^ ror e 25
def big0 (a : Word) : Word := ror a 2 ^^^ ror a 13 ^^^ ror a 22
def nextW (l : List Word) : Word := sig1 (l.getD (l.length - 2) 0) + l.getD (l.length - 7) 0 + sig0 (l.getD (l.length - 15) 0) + l.getD (l.length - 16) 0
/-- sixteen words, and so many more -/
def schedL (m : List Word) : Nat → List Word
  | 0 => m
  | n + 1 => schedL m n ++ [nextW (schedL m n)]
def word4 (b : List Byte) (t : Nat) : Word :=
  (b.getD (4 * t) 0).setWidth 32 <<< 24 ||| (b.getD (4 * t + 1) 0).setWidth 32 <<< 16 ||| (b.getD (4 * t + 2) 0).setWidth 32 <<< 8 ||| (b.getD (4 * t + 3) 0).setWidth 32
def words (b : List Byte) : List Word := (List.range 16).map (word4 b)
structure St where
  a : Word
  b : Word
  c : Word
  d : Word
  e : Word
  f : Word
  g : Word
  h : Word
def St.list (s : St) : List Word := [s.a, s.b, s.c, s.d, s.e, s.f, s.g, s.h]
/-- one round, as the document has it -/
def round (s : St) (k w : Word) : St :=
  let p := s.h + big1 s.e + (s.e &&& s.f ^^^ ~~~ s.e &&& s.g) + k + w
  let q := big0 s.a + (s.a &&& s.b ^^^ s.a &&& s.c ^^^ s.b &&& s.c)
  ⟨p + q, s.a, s.b, s.c, s.d + p, s.e, s.f, s.g⟩
/-- one round, as the program has it -/
def roundP (s : St) (k w : Word) : St :=
  let p := s.h + big1 s.e + ((s.g ^^^ s.e &&& (s.f ^^^ s.g)) + k + w)
  let q := big0 s.a + (s.a &&& s.b ||| s.c &&& (s.a ||| s.b))
  ⟨p + q, s.a, s.b, s.c, s.d + p, s.e, s.f, s.g⟩
theorem ch_eq (e f g : Word) : g ^^^ e &&& (f ^^^ g) = e &&& f ^^^ ~~~ e &&& g := by
  apply BitVec.eq_of_getLsbD_eq
  intro i hi
  simp only [BitVec.getLsbD_xor, BitVec.getLsbD_and, BitVec.getLsbD_not, hi, decide_true, Bool.true_and]
  cases e.getLsbD i <;> cases f.getLsbD i <;> cases g.getLsbD i <;> rfl
theorem maj_eq (a b c : Word) : a &&& b ||| c &&& (a ||| b) = a &&& b ^^^ a &&& c ^^^ b &&& c := by
  apply BitVec.eq_of_getLsbD_eq
  intro i _
  simp only [BitVec.getLsbD_xor, BitVec.getLsbD_and, BitVec.getLsbD_or]
  cases a.getLsbD i <;> cases b.getLsbD i <;> cases c.getLsbD i <;> rfl
theorem roundP_eq (s : St) (k w : Word) : roundP s k w = round s k w := by
  unfold roundP round
  rw [ch_eq, maj_eq]
  simp only [BitVec.add_assoc]
/-- the state behind the first n rounds -/
def rounds (ws : List Word) (s : St) : Nat → St
  | 0 => s
  | n + 1 => round (rounds ws s n) (kTab.getD n 0) (ws.getD n 0)
def addSt (s v : St) : St := ⟨s.a + v.a, s.b + v.b, s.c + v.c, s.d + v.d, s.e + v.e, s.f + v.f, s.g + v.g, s.h + v.h⟩
def compress (s : St) (b : List Byte) : St := addSt s (rounds (schedL (words b) 48) s 64)

theorem getD_app {α : Type} (l r : List α) (i : Nat) (d : α) (h : i < l.length) : (l ++ r).getD i d = l.getD i d := by
  rw [List.getD_eq_getElem?_getD, List.getElem?_append_left h, List.getD_eq_getElem?_getD]
theorem getD_last {α : Type} (l : List α) (x d : α) (i : Nat) (h : i = l.length) : (l ++ [x]).getD i d = x := by
  subst h
  simp [List.getD_eq_getElem?_getD]
theorem schedL_length (m : List Word) : ∀ n, (schedL m n).length = m.length + n
  | 0 => rfl
  | n + 1 => by simp [schedL, schedL_length m n]; omega
theorem schedL_get (m : List Word) : ∀ (n k i : Nat), i < m.length + n → (schedL m (n + k)).getD i 0 = (schedL m n).getD i 0
  | n, 0, i, _ => rfl
  | n, k + 1, i, h => by
    have h2 := schedL_length m (n + k)
    show (schedL m (n + k) ++ [_]).getD i 0 = _
    rw [getD_app _ _ _ _ (by omega)]
    exact schedL_get m n k i h
theorem schedL_next (m : List Word) (n : Nat) (hm : m.length = 16) (N : Nat) (hn : n < N) :
    (schedL m N).getD (16 + n) 0 = sig1 ((schedL m N).getD (14 + n) 0) + (schedL m N).getD (9 + n) 0 + sig0 ((schedL m N).getD (1 + n) 0) + (schedL m N).getD n 0 := by
  obtain ⟨k, rfl⟩ : ∃ k, N = (n + 1) + k := ⟨N - (n + 1), by omega⟩
  have hl := schedL_length m n
  have e : ∀ i, i < 16 + n → (schedL m (n + 1 + k)).getD i 0 = (schedL m n).getD i 0 := fun i hi => by
    rw [Nat.add_assoc]
    exact schedL_get m n (1 + k) i (by omega)
  rw [e (14 + n) (by omega), e (9 + n) (by omega), e (1 + n) (by omega), e n (by omega), schedL_get m (n + 1) k (16 + n) (by omega)]
  show (schedL m n ++ [nextW (schedL m n)]).getD (16 + n) 0 = _
  rw [getD_last _ _ _ _ (by omega)]
  unfold nextW
  rw [hl, hm, show 16 + n - 2 = 14 + n by omega, show 16 + n - 7 = 9 + n by omega, show 16 + n - 15 = 1 + n by omega, show 16 + n - 16 = n by omega]

/-! ### the program's ring of the last sixteen words -/
def ringIx (T j : Nat) : Nat := T - 16 + (j + 16 - T % 16) % 16
def ringOf (S : List Word) (T : Nat) : List Word := (List.range 16).map fun j => S.getD (ringIx T j) 0
theorem ringOf_at {S : List Word} {T j : Nat} (h : j < (ringOf S T).length) : (ringOf S T)[j] = S.getD (ringIx T j) 0 := by simp [ringOf]
theorem ringIx_mod {T i : Nat} (h1 : T - 16 ≤ i) (h2 : i < T) (h3 : 16 ≤ T) : ringIx T (i % 16) = i := by
  unfold ringIx
  omega
theorem ringOf_get {S : List Word} {T i : Nat} (h1 : T - 16 ≤ i) (h2 : i < T) (h3 : 16 ≤ T) (hl : i % 16 < (ringOf S T).length) : (ringOf S T)[i % 16] = S.getD i 0 := by
  rw [ringOf_at, ringIx_mod h1 h2 h3]
theorem ringOf_length (S : List Word) (T : Nat) : (ringOf S T).length = 16 := by simp [ringOf]
theorem ringOf_succ {S : List Word} {T : Nat} (h : 16 ≤ T) : ringOf S (T + 1) = (ringOf S T).set (T % 16) (S.getD T 0) := by
  apply List.ext_getElem
  · simp [ringOf_length]
  · intro j h1 h2
    rw [ringOf_length] at h1
    rw [List.getElem_set, ringOf_at]
    split
    · rename_i e
      subst e
      rw [ringIx_mod (by omega) (by omega) (by omega)]
    · rename_i e
      rw [ringOf_at]
      congr 1
      unfold ringIx
      omega
theorem ringOf_first {S : List Word} (h : 16 ≤ S.length) : ringOf S 16 = S.take 16 := by
  apply List.ext_getElem
  · simp [ringOf_length]; omega
  · intro j h1 h2
    rw [ringOf_length] at h1
    rw [ringOf_at, List.getElem_take]
    have e : ringIx 16 j = j := by
      unfold ringIx
      omega
    rw [e, List.getD_eq_getElem?_getD, List.getElem?_eq_getElem (by omega)]
    rfl

/-! ### the program's words of a block -/
def wpart (b : List Byte) (i j : Nat) : Word := (((b.take i).drop (4 * j)).take 4).foldl (fun acc c => acc <<< 8 ||| c.setWidth 32) 0
theorem wpart_step (b : List Byte) (i j : Nat) (hi : i < b.length) : wpart b (i + 1) j = if j = i / 4 then wpart b i j <<< 8 ||| b[i].setWidth 32 else wpart b i j := by
  unfold wpart
  rw [List.take_succ_eq_append_getElem hi]
  by_cases h : j = i / 4
  · subst h
    rw [if_pos rfl, List.drop_append_of_le_length (by simp; omega), List.take_append, List.foldl_append]
    have e : (4 - (List.drop (4 * (i / 4)) (List.take i b)).length) = 1 + (3 - i % 4) := by
      rw [List.length_drop, List.length_take]
      omega
    rw [e]
    simp [List.take_succ_cons, Nat.add_comm 1]
  · rw [if_neg h]
    by_cases h2 : j < i / 4
    · rw [List.drop_append_of_le_length (by simp; omega), List.take_append_of_le_length (by simp; omega)]
    · rw [List.drop_eq_nil_of_le (by simp; omega), List.drop_eq_nil_of_le (by simp; omega)]
theorem take4 (b : List Byte) (j : Nat) (h : 4 * j + 4 ≤ b.length) : (b.drop (4 * j)).take 4 = [b.getD (4 * j) 0, b.getD (4 * j + 1) 0, b.getD (4 * j + 2) 0, b.getD (4 * j + 3) 0] := by
  apply List.ext_getElem
  · simp; omega
  · intro i h1 h2
    simp at h2
    rw [List.getElem_take, List.getElem_drop]
    match i, h2 with
    | 0, _ => simp [List.getD_eq_getElem?_getD, List.getElem?_eq_getElem (show 4 * j < b.length by omega)]
    | 1, _ => simp [List.getD_eq_getElem?_getD, List.getElem?_eq_getElem (show 4 * j + 1 < b.length by omega)]
    | 2, _ => simp [List.getD_eq_getElem?_getD, List.getElem?_eq_getElem (show 4 * j + 2 < b.length by omega)]
    | 3, _ => simp [List.getD_eq_getElem?_getD, List.getElem?_eq_getElem (show 4 * j + 3 < b.length by omega)]
theorem wpart_whole (b : List Byte) (j : Nat) (h : 4 * j + 4 ≤ b.length) : wpart b b.length j = word4 b j := by
  unfold wpart word4
  rw [List.take_length, take4 b j h]
  simp only [List.foldl_cons, List.foldl_nil, BitVec.shiftLeft_or_distrib, ← BitVec.shiftLeft_add]
  have e : (0 : Word) <<< (8 + 8 + 8 + 8) = 0#32 := by decide
  rw [e, BitVec.zero_or]

theorem wparts_step (b : List Byte) (k : Nat) (hk : k < b.length) (_ : k < 64) (hl : k / 4 < ((List.range 16).map (wpart b k)).length) :
    ((List.range 16).map (wpart b k)).set (k / 4) (((List.range 16).map (wpart b k))[k / 4] <<< 8 ||| b[k].setWidth 32) = (List.range 16).map (wpart b (k + 1)) := by
  apply List.ext_getElem
  · simp
  · intro j h1 h2
    have hj : j < 16 := by simpa using h2
    rw [List.getElem_set]
    simp only [List.getElem_map, List.getElem_range]
    rw [wpart_step b k j hk]
    by_cases e : k / 4 = j
    · subst e
      simp
    · rw [if_neg e, if_neg (fun h => e h.symm)]
theorem wparts_zero (b : List Byte) : (List.range 16).map (wpart b 0) = List.replicate 16 0 := by
  apply List.ext_getElem
  · simp
  · intro j h1 h2
    rw [List.getElem_replicate, List.getElem_map]
    simp [wpart]
theorem wparts_all (b : List Byte) (h : b.length = 64) : (List.range 16).map (wpart b 64) = words b := by
  unfold words
  apply List.map_congr_left
  intro j hj
  have hj' : j < 16 := List.mem_range.1 hj
  have := wpart_whole b j (by omega)
  rwa [h] at this
theorem words_length (b : List Byte) : (words b).length = 16 := by simp [words]
/-- the ring's new number at t -/
def newW (ring : List Word) (t : Nat) : Word := ring.getD (t % 16) 0 + (sig1 (ring.getD ((t - 2) % 16) 0) + ring.getD ((t - 7) % 16) 0 + sig0 (ring.getD ((t - 15) % 16) 0))
theorem getD_in {l : List Word} {i : Nat} (h : i < l.length) : l.getD i 0 = l[i] := by
  rw [List.getD_eq_getElem?_getD, List.getElem?_eq_getElem h]
  rfl
theorem ring_getD {S : List Word} {T i : Nat} (h1 : T - 16 ≤ i) (h2 : i < T) (h3 : 16 ≤ T) : (ringOf S T).getD (i % 16) 0 = S.getD i 0 := by
  rw [getD_in (by rw [ringOf_length]; omega)]
  exact ringOf_get h1 h2 h3 _
theorem ring_hi {m : List Word} (hm : m.length = 16) {t : Nat} (h1 : 16 ≤ t) (h2 : t < 64) : newW (ringOf (schedL m 48) t) t = (schedL m 48).getD t 0 := by
  obtain ⟨n, rfl⟩ : ∃ n, t = 16 + n := ⟨t - 16, by omega⟩
  have h := schedL_next m n hm 48 (by omega)
  unfold newW
  rw [show (16 + n) % 16 = n % 16 by omega, ring_getD (i := n) (by omega) (by omega) (by omega), ring_getD (i := 16 + n - 2) (by omega) (by omega) (by omega), ring_getD (i := 16 + n - 7) (by omega) (by omega) (by omega), ring_getD (i := 16 + n - 15) (by omega) (by omega) (by omega), h,
    show 16 + n - 2 = 14 + n by omega, show 16 + n - 7 = 9 + n by omega, show 16 + n - 15 = 1 + n by omega, BitVec.add_comm]
theorem ring_lo {m : List Word} (_ : m.length = 16) {t : Nat} (h : t < 16) : (ringOf (schedL m 48) 16).getD t 0 = (schedL m 48).getD t 0 := by
  have := ring_getD (S := schedL m 48) (T := 16) (i := t) (by omega) h (by omega)
  rwa [Nat.mod_eq_of_lt h] at this
theorem ring_first {m : List Word} (hm : m.length = 16) : ringOf (schedL m 48) 16 = m := by
  rw [ringOf_first (by rw [schedL_length]; omega)]
  apply List.ext_getElem
  · rw [List.length_take, schedL_length]; omega
  · intro j h1 h2
    rw [List.getElem_take, ← getD_in, ← getD_in]
    exact schedL_get m 0 48 j (by omega)

/-! ### bytes, piece by piece -/
structure Hs where
  st : St
  op : List Byte
  n : Nat
def step1 (h : Hs) (c : Byte) : Hs := ⟨if (h.n + 1) % 64 = 0 then compress h.st (h.op.set (h.n % 64) c) else h.st, h.op.set (h.n % 64) c, h.n + 1⟩
def absorb (h : Hs) (l : List Byte) : Hs := l.foldl step1 h
def firstSt : St := ⟨0x6a09e667#32, 0xbb67ae85#32, 0x3c6ef372#32, 0xa54ff53a#32, 0x510e527f#32, 0x9b05688c#32, 0x1f83d9ab#32, 0x5be0cd19#32⟩
def new : Hs := ⟨firstSt, List.replicate 64 0, 0⟩
theorem absorb_append (h : Hs) (l r : List Byte) : absorb h (l ++ r) = absorb (absorb h l) r := List.foldl_append
theorem absorb_n (l : List Byte) : ∀ h : Hs, (absorb h l).n = h.n + l.length := by
  induction l with
  | nil => intro h; rfl
  | cons c l ih =>
    intro h
    show (absorb (step1 h c) l).n = _
    rw [ih]
    simp [step1]
    omega
theorem absorb_op (l : List Byte) : ∀ h : Hs, (absorb h l).op.length = h.op.length := by
  induction l with
  | nil => intro h; rfl
  | cons c l ih =>
    intro h
    show (absorb (step1 h c) l).op.length = _
    rw [ih]
    simp [step1]
/-- bytes that stay within a block -/
theorem absorb_chunk : ∀ (l : List Byte) (h : Hs), h.op.length = 64 → h.n % 64 + l.length ≤ 64 → l ≠ [] →
    absorb h l = ⟨if (h.n + l.length) % 64 = 0 then compress h.st (h.op.take (h.n % 64) ++ l ++ h.op.drop (h.n % 64 + l.length)) else h.st, h.op.take (h.n % 64) ++ l ++ h.op.drop (h.n % 64 + l.length), h.n + l.length⟩
  | [], _, _, _, hne => absurd rfl hne
  | [c], h, h1, h2, _ => by
    have e : h.op.set (h.n % 64) c = h.op.take (h.n % 64) ++ [c] ++ h.op.drop (h.n % 64 + 1) := by
      simp at h2
      rw [List.set_eq_take_append_cons_drop, if_pos (by omega)]
      simp
    show step1 h c = _
    unfold step1
    rw [e]
    rfl
  | c :: d :: l, h, h1, h2, _ => by
    simp only [List.length_cons] at h2
    have hm : (h.n + 1) % 64 = h.n % 64 + 1 := by omega
    have hne : ¬ (h.n + 1) % 64 = 0 := by omega
    have hs : step1 h c = ⟨h.st, h.op.set (h.n % 64) c, h.n + 1⟩ := by
      unfold step1
      rw [if_neg hne]
    show absorb (step1 h c) (d :: l) = _
    rw [hs, absorb_chunk (d :: l) _ (by simpa using h1) (by simp only [List.length_cons]; omega) (by simp)]
    simp only [List.length_cons, hm]
    have e : (h.op.set (h.n % 64) c).take (h.n % 64 + 1) = h.op.take (h.n % 64) ++ [c] := by
      have hA : (h.op.take (h.n % 64)).length = h.n % 64 := by
        rw [List.length_take]
        omega
      rw [List.set_eq_take_append_cons_drop, if_pos (by omega), List.take_append, List.take_of_length_le (by omega), hA, show h.n % 64 + 1 - h.n % 64 = 1 by omega]
      rfl
    have e2 : (h.op.set (h.n % 64) c).drop (h.n % 64 + 1 + (l.length + 1)) = h.op.drop (h.n % 64 + (l.length + 1 + 1)) := by
      rw [List.drop_set_of_lt (by omega)]
      congr 1
      omega
    rw [e, e2, show h.n + 1 + (l.length + 1) = h.n + (l.length + 1 + 1) by omega]
    simp
/-- blocks, one behind the other -/
def blocks (s : St) (b : List Byte) : Nat → St
  | 0 => s
  | k + 1 => compress (blocks s b k) ((b.drop (64 * k)).take 64)
theorem absorb_blocks (h : Hs) (h1 : h.op.length = 64) (h2 : h.n % 64 = 0) (b : List Byte) : ∀ k, 64 * k ≤ b.length → (absorb h (b.take (64 * k))).st = blocks h.st b k
  | 0, _ => by simp [absorb, blocks]
  | k + 1, hk => by
    have e : b.take (64 * (k + 1)) = b.take (64 * k) ++ (b.drop (64 * k)).take 64 := by
      rw [show 64 * (k + 1) = 64 * k + 64 by omega, List.take_add]
    have hl : ((b.drop (64 * k)).take 64).length = 64 := by simp; omega
    have hn := absorb_n (b.take (64 * k)) h
    have ho := absorb_op (b.take (64 * k)) h
    have hi := absorb_blocks h h1 h2 b k (by omega)
    rw [List.length_take, Nat.min_eq_left (by omega)] at hn
    rw [e, absorb_append]
    generalize absorb h (b.take (64 * k)) = g at *
    rw [absorb_chunk _ g (by omega) (by rw [hl]; omega) (by intro h0; rw [h0] at hl; simp at hl)]
    show (if _ then _ else _) = _
    rw [hl, if_pos (by omega), show g.n % 64 = 0 by omega, hi]
    show _ = compress (blocks h.st b k) _
    have e3 : g.op.drop (0 + 64) = [] := List.drop_eq_nil_of_le (by omega)
    rw [List.take_zero, List.nil_append, e3, List.append_nil]
/-- the bytes of a number, the greatest first -/
def be8 (x : BitVec 64) : List Byte := (List.range 8).map fun i => (x >>> (56 - 8 * i)).setWidth 8
def be4 (x : Word) : List Byte := (List.range 4).map fun k => (x >>> (24 - 8 * k)).setWidth 8
def digest (s : St) : List Byte := s.list.flatMap be4
/-- so many noughts are missing till eight bytes ahead of a block's end -/
def lack (n : Nat) : Nat := (56 + 64 - n % 64) % 64
def bitsOf (n : Nat) : BitVec 64 := BitVec.ofNat 64 n <<< 3
def padding (n : Nat) : List Byte := 0x80#8 :: List.replicate (lack (n + 1)) 0 ++ be8 (bitsOf n)
def sumH (h : Hs) : List Byte := digest (absorb h (padding h.n)).st
def padded (m : List Byte) : List Byte := m ++ padding m.length
def sum (m : List Byte) : List Byte := sumH (absorb new m)
theorem be8_length (x : BitVec 64) : (be8 x).length = 8 := by simp [be8]
theorem padded_length (m : List Byte) : (padded m).length % 64 = 0 := by
  simp [padded, padding, be8_length, lack]
  omega
/-- the sum is that of the padded bytes' blocks -/
theorem sum_blocks (m : List Byte) : sum m = digest (blocks firstSt (padded m) ((padded m).length / 64)) := by
  have hl := padded_length m
  have e : (padded m).take (64 * ((padded m).length / 64)) = padded m := List.take_of_length_le (by omega)
  have h := absorb_blocks new (by simp [new]) (by simp [new]) (padded m) ((padded m).length / 64) (by omega)
  rw [e] at h
  unfold sum sumH
  rw [absorb_n, show new.n + m.length = m.length by simp [new], ← absorb_append]
  show digest (absorb new (padded m)).st = _
  rw [h]
  rfl
/-- the whole schedule of a block; not to be opened by a walk -/
def sched (b : List Byte) : List Word := schedL (words b) 48
theorem sched_eq (b : List Byte) : schedL (words b) 48 = sched b := rfl
theorem compress_eq (s : St) (b : List Byte) : compress s b = addSt s (rounds (sched b) s 64) := rfl
theorem sched_first (b : List Byte) : words b = ringOf (sched b) 16 := (ring_first (words_length b)).symm
theorem sched_lo (b : List Byte) {t : Nat} (h : t < 16) : (ringOf (sched b) 16).getD t 0 = (sched b).getD t 0 := ring_lo (words_length b) h
theorem sched_hi (b : List Byte) {t : Nat} (h1 : 16 ≤ t) (h2 : t < 64) : newW (ringOf (sched b) t) t = (sched b).getD t 0 := ring_hi (words_length b) h1 h2
theorem sum_len (m : List Byte) : (sum m).length = 32 := rfl
theorem new_op : new.op.length = 64 := rfl
theorem new_n : new.n = 0 := rfl
theorem sumH_len (h : Hs) : (sumH h).length = 32 := rfl
theorem sum_eq (m : List Byte) : sumH (absorb new m) = sum m := rfl
theorem sumH_eq (h : Hs) : sumH h = digest (absorb h (padding h.n)).st := rfl
def twice (m : List Byte) : List Byte := sum (sum m)
theorem twice_eq (m : List Byte) : twice m = sum (sum m) := rfl
theorem twice_len (m : List Byte) : (twice m).length = 32 := rfl
def le4 (l : List Byte) : Word := (l.getD 0 0).setWidth 32 ||| (l.getD 1 0).setWidth 32 <<< 8 ||| (l.getD 2 0).setWidth 32 <<< 16 ||| (l.getD 3 0).setWidth 32 <<< 24
attribute [irreducible] sched compress sum sumH twice
end Go.Sha
