/- Lists of numbers in place: merged, and sorted. Conditions: those that stand ahead of each theorem. -/
import Derived.Test.YtieobcaegegboaaDoorGSwA
import Derived.Test.YtieobcaegegboaaDoorGSo
import Derived.Deep.DeepCutAuto
namespace Go.Proofs.YtieobcaegegboaaDoor
open Go Go.RowKit Go.Px Go.Sha Go.Calc
def firstReg : Code → Option Nat
  | .region n _ _ => some n
  | .seq a _ => firstReg a
  | .block _ c => firstReg c
  | .scope c => firstReg c
  | .loop c => firstReg c
  | _ => none
/-- a function's code from a region on -/
def codeFrom (n : Nat) : Code → Option Code
  | .seq a b => if firstReg a = some n then some (.seq a b) else (match codeFrom n a with | some c => some c | none => if firstReg b = some n then some b else codeFrom n b)
  | .block _ c => codeFrom n c
  | .scope c => codeFrom n c
  | .loop c => codeFrom n c
  | .cond _ a b => (match codeFrom n a with | some c => some c | none => codeFrom n b)
  | _ => none
noncomputable def symT (n : Nat) : Code := ((Tryd.f62.body.bind (codeFrom n)).getD .skip)
section
variable {R : Nat → Prop} {base : World} {F : List Hp}
def SymIH (R : Nat → Prop) (base : World) (F : List Hp) (v lv : Value) (c : Nat) (l : List Wt) (len : Nat) : Prop := ∀ (w : World) (M : List Int) (a2 m2 b2 : Nat), b2 - a2 < len → SepL R base w (.own 3 1 v (ints M) :: .blk c 44 [lv] :: F) → Pl l M → M.Nodup → a2 < m2 → m2 < b2 → b2 ≤ M.length → M.length ≤ 1000000 → Runs (ltP l) (lf M) a2 m2 b2 →
      Calls Tryd.prog 62 #[v, I64 a2, I64 m2, I64 b2, .func (.func 38) #[] #[.pointer (some ⟨c, 0, none⟩)]] w (Ret fun _ w' => ∃ N : List Int, N.Perm M ∧ (∀ i, i < a2 ∨ b2 ≤ i → lf N i = lf M i) ∧ Srt (ltP l) (lf N) a2 b2 ∧ SepL R base w' (.own 3 1 v (ints N) :: .blk c 44 [lv] :: F))
set_option maxRecDepth 100000 in
set_option maxHeartbeats 8000000 in
theorem tail_s {w : World} {v lv : Value} {c : Nat} {l : List Wt} {M N : List Int} {a m b mid s1 en : Nat} (hm : Pl l M) (hnd : M.Nodup) (hb : b ≤ M.length) (hlen : M.length ≤ 1000000) (HP : Hid (N.Perm M)) (HO : Hid (∀ i, i < a ∨ b ≤ i → lf N i = lf M i)) (HK1 : Hid (Runs (ltP l) (lf N) a s1 mid)) (HK2 : Hid (Runs (ltP l) (lf N) mid en b)) (HK3 : Hid (∀ p q, a ≤ p → p < mid → mid ≤ q → q < b → ltP l (lf N p) (lf N q))) (c1 : a ≤ s1) (c3 : s1 ≤ mid) (c5 : en ≤ b) (ga : a < mid) (gb : mid < b) (ge : mid ≤ en)
    (HIH : Hid (SymIH R base F v lv c l (b - a))) (hS : SepL R base w (.own 3 1 v (ints N) :: .blk c 44 [lv] :: F)) {x5 x6 x7 x8 x9 x10 x11 x12 x13 x14 x15 x16 x17 x19 x21 x22 x23 x25 x26 x27 x28 x29 x30 x31 x32 x33 x34 x35 x36 x37 x38 x39 x40 x41 x42 x43 x44 x45 x46 x47 x48 x49 x50 x51 x52 x53 x54 x55 x56 x57 x58 x59 x60 x61 x62 x63 x64 x65 x66 x67 x68 x69 x70 x71 x72 x73 x74 x75 x76 x77 x78 x79 x80 x81 x82 x83 x84 x85 x86 x87 x88 x89 x90 x91 x92 x93 x94 x95 x96 x97 x98 x99 x100 x101 x102 x103 x104 x105 x106 x107 x108 x109 x110 x111 x112 x113 x114 x115 x116 x117 x118 x119 x120 x121 x122 x123 x124 x125 x126 x127 x128 x129 x130 x131 x132 x133 x134 x135 x136 x137 x138 x139 x140 x141 x142 x143 x144 x145 x146 x147 x148 x149 x150 x151 x152 x153 x154 x155 x156 x157 x158 x159 x160 x161 x162 x163 x164 x165 x166 x167 x168 x169 x170 x171 x172 x173 x174 x175 x176 x177 x178 x179 x180 x181 x182 x183 x184 x185 x186 x187 x188 x189 x190 x191 x192 x193 x194 x195 x196 x197 x198 x199 x200 x201 x202 x203 x204 x205 x206 x207 x208 x209 x210 x211 x212 x213 x214 x215 x216 x217 x218 x219 : Value} :
    Code.wp Tryd.prog (symT 41) (bodyPost Tryd.prog Tryd.f62 (Ret fun _ w' => ∃ N : List Int, N.Perm M ∧ (∀ i, i < a ∨ b ≤ i → lf N i = lf M i) ∧ Srt (ltP l) (lf N) a b ∧ SepL R base w' (.own 3 1 v (ints N) :: .blk c 44 [lv] :: F))) ⟨List.toArray (v :: I64 a :: I64 m :: I64 b :: (Value.func (.func 38) #[] #[.pointer (some ⟨c, 0, none⟩)]) :: x5 :: x6 :: x7 :: x8 :: x9 :: x10 :: x11 :: x12 :: x13 :: x14 :: x15 :: x16 :: x17 :: I64 mid :: x19 :: I64 s1 :: x21 :: x22 :: x23 :: I64 en :: x25 :: x26 :: x27 :: x28 :: x29 :: x30 :: x31 :: x32 :: x33 :: x34 :: x35 :: x36 :: x37 :: x38 :: x39 :: x40 :: x41 :: x42 :: x43 :: x44 :: x45 :: x46 :: x47 :: x48 :: x49 :: x50 :: x51 :: x52 :: x53 :: x54 :: x55 :: x56 :: x57 :: x58 :: x59 :: x60 :: x61 :: x62 :: x63 :: x64 :: x65 :: x66 :: x67 :: x68 :: x69 :: x70 :: x71 :: x72 :: x73 :: x74 :: x75 :: x76 :: x77 :: x78 :: x79 :: x80 :: x81 :: x82 :: x83 :: x84 :: x85 :: x86 :: x87 :: x88 :: x89 :: x90 :: x91 :: x92 :: x93 :: x94 :: x95 :: x96 :: x97 :: x98 :: x99 :: x100 :: x101 :: x102 :: x103 :: x104 :: x105 :: x106 :: x107 :: x108 :: x109 :: x110 :: x111 :: x112 :: x113 :: x114 :: x115 :: x116 :: x117 :: x118 :: x119 :: x120 :: x121 :: x122 :: x123 :: x124 :: x125 :: x126 :: x127 :: x128 :: x129 :: x130 :: x131 :: x132 :: x133 :: x134 :: x135 :: x136 :: x137 :: x138 :: x139 :: x140 :: x141 :: x142 :: x143 :: x144 :: x145 :: x146 :: x147 :: x148 :: x149 :: x150 :: x151 :: x152 :: x153 :: x154 :: x155 :: x156 :: x157 :: x158 :: x159 :: x160 :: x161 :: x162 :: x163 :: x164 :: x165 :: x166 :: x167 :: x168 :: x169 :: x170 :: x171 :: x172 :: x173 :: x174 :: x175 :: x176 :: x177 :: x178 :: x179 :: x180 :: x181 :: x182 :: x183 :: x184 :: x185 :: x186 :: x187 :: x188 :: x189 :: x190 :: x191 :: x192 :: x193 :: x194 :: x195 :: x196 :: x197 :: x198 :: x199 :: x200 :: x201 :: x202 :: x203 :: x204 :: x205 :: x206 :: x207 :: x208 :: x209 :: x210 :: x211 :: x212 :: x213 :: x214 :: x215 :: x216 :: x217 :: x218 :: x219 :: []), []⟩ w := by
  have hNl : N.length = M.length := HP.out.length_eq
  have HNP := hide (hm.perm HP.out)
  have HND := hide (HP.out.nodup_iff.2 hnd)
  obtain ⟨b1, hb1⟩ : ∃ x, (decide (a < s1) && decide (s1 < mid)) = x := ⟨_, rfl⟩
  have HB1 := hide hb1
  clear hb1
  conv => arg 2; whnf
  go_upto_region 41 with fail
  go_cut [199] from 192 (fun sb wx => sb = .bool b1 ∧ SepL R base wx (.own 3 1 v (ints N) :: .blk c 44 [lv] :: F))
  case first =>
    by_cases h1 : a < s1
    · have HC1 : Hid (decide ((a : Int) < (s1 : Int)) = true) := decide_eq_true (by omega)
      have HC2 : Hid (decide ((s1 : Int) < (mid : Int)) = b1) := by
        unfold Hid
        rw [← HB1.out, decide_eq_true h1, Bool.true_and, decide_eq_decide]
        omega
      go_wp2_with (first
        | (show wpList _ _ _ (⟨some 194, .binOp _ _ _ _ _, _, _, _, _⟩ :: _) _ _; refine wpList_val rfl (op_ilss rfl rfl rfl HC1.out) ?_; go_frame)
        | (show wpList _ _ _ (⟨some 198, .binOp _ _ _ _ _, _, _, _, _⟩ :: _) _ _; refine wpList_val rfl (op_ilss rfl rfl rfl HC2.out) ?_; go_frame)
        )
      go_meet
      exact ⟨rfl, hS⟩
    · have HC1 : Hid (decide ((a : Int) < (s1 : Int)) = false) := decide_eq_false (by omega)
      have e : b1 = false := by rw [← HB1.out, decide_eq_false h1, Bool.false_and]
      subst e
      go_wp2_with (first
        | (show wpList _ _ _ (⟨some 194, .binOp _ _ _ _ _, _, _, _, _⟩ :: _) _ _; refine wpList_val rfl (op_ilss rfl rfl rfl HC1.out) ?_; go_frame)
        )
      go_meet
      exact ⟨rfl, hS⟩
  case rest =>
    obtain ⟨rfl, hS⟩ := hcut
    go_upto_if 199 with fail
    go_cut [] from 200 (fun wx => ∃ N2 : List Int, Hid (N2.Perm N) ∧ Hid (∀ i, i < a ∨ mid ≤ i → lf N2 i = lf N i) ∧ Hid (Srt (ltP l) (lf N2) a mid) ∧ SepL R base wx (.own 3 1 v (ints N2) :: .blk c 44 [lv] :: F))
    case first =>
      cases b1
      · have hno : s1 = a ∨ s1 = mid := by
          have g := HB1.out
          rw [Bool.and_eq_false_iff, decide_eq_false_iff_not, decide_eq_false_iff_not] at g
          omega
        have HSRT : Hid (Srt (ltP l) (lf N) a mid) := Runs.empty (s := s1) HK1.out hno
        clear hno
        go_wp2_with fail
        go_meet
        exact ⟨N, List.Perm.refl _, fun _ _ => rfl, HSRT, hS⟩
      · have g := HB1.out
        rw [Bool.and_eq_true, decide_eq_true_eq, decide_eq_true_eq] at g
        have g1 := g.1
        have g2 := g.2
        clear g
        go_wp2_with (first
          | (go_at_call 62; refine Ret.calls (HIH.out _ N a s1 mid (by omega) hS HNP.out HND.out g1 g2 (by omega) (by omega) HK1.out) ?_; clear hS; rintro r1 w ⟨N2, p2, q2, t2, hS⟩)
          )
        go_meet
        exact ⟨N2, p2, q2, t2, hS⟩
    case rest =>
      obtain ⟨N2, HP2, HO2, HT2, hS⟩ := hcut
      have HNP2 := hide (HNP.out.perm HP2.out)
      have HND2 := hide (HP2.out.nodup_iff.2 HND.out)
      have hNl2 : N2.length = N.length := HP2.out.length_eq
      have HKB : Hid (Runs (ltP l) (lf N2) mid en b) := HK2.out.ext (fun i h1 h2 => HO2.out i (.inr h1)) (by omega) (by omega)
      have HDONE : Hid (∀ N3 : List Int, N3.Perm N2 → (∀ i, i < mid ∨ b ≤ i → lf N3 i = lf N2 i) → Srt (ltP l) (lf N3) mid b → N3.Perm M ∧ (∀ i, i < a ∨ b ≤ i → lf N3 i = lf M i) ∧ Srt (ltP l) (lf N3) a b) := fun N3 p3 o3 t3 =>
        ⟨p3.trans (HP2.out.trans HP.out), fun i hi => by rw [o3 i (by omega), HO2.out i (by omega), HO.out i hi], merged HK3.out (Seg.of HND.out HP2.out (by omega) HO2.out) (Seg.of HND2.out p3 (by omega) o3) HT2.out t3⟩
      clear HK1 HK2 HK3 HO HT2 HO2
      by_cases h1 : mid < en
      · have HC1 : Hid (decide ((mid : Int) < (en : Int)) = true) := decide_eq_true (by omega)
        by_cases h2 : en < b
        · have HC2 : Hid (decide ((en : Int) < (b : Int)) = true) := decide_eq_true (by omega)
          go_wp2_with (first
            | (show wpList _ _ _ (⟨some 208, .binOp _ _ _ _ _, _, _, _, _⟩ :: _) _ _; refine wpList_val rfl (op_ilss rfl rfl rfl HC1.out) ?_; go_frame)
            | (show wpList _ _ _ (⟨some 212, .binOp _ _ _ _ _, _, _, _, _⟩ :: _) _ _; refine wpList_val rfl (op_ilss rfl rfl rfl HC2.out) ?_; go_frame)
            | (go_at_call 62; refine Ret.calls (HIH.out _ N2 mid en b (by omega) hS HNP2.out HND2.out h1 h2 (by omega) (by omega) HKB.out) ?_; clear hS; rintro r1 w ⟨N3, p2, q2, t2, hS⟩)
            )
          refine bodyPost_end (results_none rfl _ _ _) rfl ?_
          obtain ⟨d1, d2, d3⟩ := HDONE.out N3 p2 q2 t2
          exact ⟨N3, d1, d2, d3, hS⟩
        · have HC2 : Hid (decide ((en : Int) < (b : Int)) = false) := decide_eq_false (by omega)
          have hno : en = mid ∨ en = b := by omega
          have HSRT : Hid (Srt (ltP l) (lf N2) mid b) := Runs.empty (s := en) HKB.out hno
          clear hno
          go_wp2_with (first
            | (show wpList _ _ _ (⟨some 208, .binOp _ _ _ _ _, _, _, _, _⟩ :: _) _ _; refine wpList_val rfl (op_ilss rfl rfl rfl HC1.out) ?_; go_frame)
            | (show wpList _ _ _ (⟨some 212, .binOp _ _ _ _ _, _, _, _, _⟩ :: _) _ _; refine wpList_val rfl (op_ilss rfl rfl rfl HC2.out) ?_; go_frame)
            )
          refine bodyPost_end (results_none rfl _ _ _) rfl ?_
          obtain ⟨d1, d2, d3⟩ := HDONE.out N2 (List.Perm.refl _) (fun _ _ => rfl) HSRT.out
          exact ⟨N2, d1, d2, d3, hS⟩
      · have HC1 : Hid (decide ((mid : Int) < (en : Int)) = false) := decide_eq_false (by omega)
        have hno : en = mid ∨ en = b := by omega
        have HSRT : Hid (Srt (ltP l) (lf N2) mid b) := Runs.empty (s := en) HKB.out hno
        clear hno
        go_wp2_with (first
          | go_big_skip
          | (show wpList _ _ _ (⟨some 208, .binOp _ _ _ _ _, _, _, _, _⟩ :: _) _ _; refine wpList_val rfl (op_ilss rfl rfl rfl HC1.out) ?_; go_frame)
          )
        refine bodyPost_end (results_none rfl _ _ _) rfl ?_
        obtain ⟨d1, d2, d3⟩ := HDONE.out N2 (List.Perm.refl _) (fun _ _ => rfl) HSRT.out
        exact ⟨N2, d1, d2, d3, hS⟩
end
end Go.Proofs.YtieobcaegegboaaDoor
namespace Go.Proofs.YtieobcaegegboaaDoor
open Go Go.RowKit Go.Px Go.Sha Go.Calc
section
variable {R : Nat → Prop} {base w : World} {F : List Hp}
set_option maxRecDepth 100000 in
set_option maxHeartbeats 8000000 in
theorem symMany_s {v lv : Value} {c : Nat} {l : List Wt} {M : List Int} {a m b : Nat} (hS : SepL R base w (.own 3 1 v (ints M) :: .blk c 44 [lv] :: F)) (hl : LIn R base lv l) (hm : Pl l M) (hnd : M.Nodup) (hne1 : m ≠ a + 1) (hne2 : b ≠ m + 1) (ham : a < m) (hmb : m < b) (hb : b ≤ M.length) (hlen : M.length ≤ 1000000) (hr : Runs (ltP l) (lf M) a m b)
    (IH : SymIH R base F v lv c l (b - a)) :
    Calls Tryd.prog 62 #[v, I64 a, I64 m, I64 b, fnC c] w (Ret fun _ w' => ∃ N : List Int, N.Perm M ∧ (∀ i, i < a ∨ b ≤ i → lf N i = lf M i) ∧ Srt (ltP l) (lf N) a b ∧ SepL R base w' (.own 3 1 v (ints N) :: .blk c 44 [lv] :: F)) := by
  have HIH := hide IH
  clear IH
  have HRUN := hide hr
  obtain ⟨d, hd⟩ : ∃ d, m - a = d := ⟨_, rfl⟩
  have HD1 : Hid (((d : Int) == 1) = false) := eqF (by omega)
  have HSD : Hid ((m : Int) - (a : Int) = (d : Nat)) := by unfold Hid; omega
  obtain ⟨e, he⟩ : ∃ e, b - m = e := ⟨_, rfl⟩
  have HE1 : Hid (((e : Int) == 1) = false) := eqF (by omega)
  have HSE : Hid ((b : Int) - (m : Int) = (e : Nat)) := by unfold Hid; omega
  have hd6 : d ≤ 1000000 := by omega
  have he6 : e ≤ 1000000 := by omega
  obtain ⟨sab, hsab⟩ : ∃ s, a + b = s := ⟨_, rfl⟩
  have HAB : Hid ((a : Int) + (b : Int) = (sab : Nat)) := by unfold Hid; omega
  obtain ⟨mid, hmid⟩ : ∃ x, sab / 2 = x := ⟨_, rfl⟩
  have HMID : Hid (sab / 2 ^ 1 = mid) := by unfold Hid; omega
  have HMD : Hid ((a + b) / 2 = mid) := by unfold Hid; omega
  obtain ⟨n, hn⟩ : ∃ x, mid + m = x := ⟨_, rfl⟩
  have HN : Hid ((mid : Int) + (m : Int) = (n : Nat)) := by unfold Hid; omega
  have HNN : Hid (n = mid + m) := hn.symm
  have hsab6 : sab ≤ 2000000 := by omega
  have hmid6 : mid ≤ 1000000 := by omega
  have hn6 : n ≤ 2000000 := by omega
  obtain ⟨s0, hs0⟩ : ∃ x, cutLo a m b mid = x := ⟨_, rfl⟩
  obtain ⟨r0, hr0⟩ : ∃ x, cutHi m mid = x := ⟨_, rfl⟩
  obtain ⟨p, hp⟩ : ∃ x, n - 1 = x := ⟨_, rfl⟩
  have HP1 : Hid ((n : Int) - 1 = (p : Nat)) := by unfold Hid; omega
  have hp6 : p ≤ 2000000 := by omega
  obtain ⟨bm, hbm⟩ : ∃ x, decide ((mid : Int) < (m : Int)) = x := ⟨_, rfl⟩
  have HBM := hide hbm
  have HT : Hid (bm = true → (n : Int) - (b : Int) = (s0 : Nat) ∧ s0 ≤ 1000000 ∧ r0 = mid) := fun h => by
    have h1 : mid < m := by
      rw [h] at hbm
      have := of_decide_eq_true hbm
      omega
    unfold cutLo at hs0
    unfold cutHi at hr0
    rw [if_pos h1] at hs0 hr0
    exact ⟨by omega, by omega, hr0.symm⟩
  have HFL : Hid (bm = false → s0 = a ∧ r0 = m) := fun h => by
    have h1 : ¬ mid < m := by
      rw [h] at hbm
      have := of_decide_eq_false hbm
      omega
    unfold cutLo at hs0
    unfold cutHi at hr0
    rw [if_neg h1] at hs0 hr0
    exact ⟨hs0.symm, hr0.symm⟩
  have HSC : Hid (Sch (ltP l) (lf M) a m b mid s0 r0) := by
    have g := Sch.start (lt := ltP l) (f := lf M) HMD.out ham hmb
    rw [hs0, hr0] at g
    exact g
  have HAT : Hid (∀ x, s0 ≤ x → x < r0 → a ≤ x ∧ x < m ∧ m ≤ mid + m - 1 - x ∧ mid + m - 1 - x < b) := fun x h1 h2 => cut_at HMD.out ham hmb (by rw [hs0]; exact h1) (by rw [hr0]; exact h2)
  have HPP : Hid (p = mid + m - 1) := by unfold Hid; omega
  have hr06 : r0 ≤ 1000000 := by
    unfold cutHi at hr0
    split at hr0 <;> omega
  have hs0r0 : s0 ≤ r0 := by
    have g := (Sch.start (lt := ltP l) (f := lf M) HMD.out ham hmb).le
    omega
  clear hd he hsab hmid hn hs0 hr0 hp hbm hr hne1 hne2
  go_enter Tryd.func62, Tryd.ntmps62
  unfold fnC
  go_upto_if 140 with (first
    | (show wpList _ _ _ (⟨some 27, .binOp _ _ _ _ _, _, _, _, _⟩ :: _) _ _; refine wpList_val rfl (op_isubN rfl rfl rfl d HSD.out (by omega)) ?_; go_frame)
    | (show wpList _ _ _ (⟨some 28, .binOp _ _ _ _ _, _, _, _, _⟩ :: _) _ _; refine wpList_val rfl (op_eqI' rfl rfl rfl HD1.out) ?_; go_frame)
    | (show wpList _ _ _ (⟨some 79, .binOp _ _ _ _ _, _, _, _, _⟩ :: _) _ _; refine wpList_val rfl (op_isubN rfl rfl rfl e HSE.out (by omega)) ?_; go_frame)
    | (show wpList _ _ _ (⟨some 80, .binOp _ _ _ _ _, _, _, _, _⟩ :: _) _ _; refine wpList_val rfl (op_eqI' rfl rfl rfl HE1.out) ?_; go_frame)
    | (show wpList _ _ _ (⟨some 131, .binOp _ _ _ _ _, _, _, _, _⟩ :: _) _ _; refine wpList_val rfl (op_iaddN rfl rfl rfl sab HAB.out (by omega)) ?_; go_frame)
    | (show wpList _ _ _ (⟨some 132, .convert _ _ _, _, _, _, _⟩ :: _) _ _; refine wpList_val rfl (op_i64u64 undInt undUint rfl rfl (by omega)) ?_; go_frame)
    | (show wpList _ _ _ (⟨some 133, .binOp _ _ _ _ _, _, _, _, _⟩ :: _) _ _; refine wpList_val rfl (opU_shrN (a := sab) rfl rfl (c := 1) rfl (by omega) mid HMID.out) ?_; go_frame)
    | (show wpList _ _ _ (⟨some 134, .convert _ _ _, _, _, _, _⟩ :: _) _ _; refine wpList_val rfl (op_Uint undUint undInt rfl rfl (by omega)) ?_; go_frame)
    | (show wpList _ _ _ (⟨some 137, .binOp _ _ _ _ _, _, _, _, _⟩ :: _) _ _; refine wpList_val rfl (op_iaddN rfl rfl rfl n HN.out (by omega)) ?_; go_frame)
    | (show wpList _ _ _ (⟨some 140, .binOp _ _ _ _ _, _, _, _, _⟩ :: _) _ _; refine wpList_val rfl (op_igtr rfl rfl rfl HBM.out) ?_; go_frame)
    )
  go_cut [20, 21] (fun s20 s21 wx => s20 = .int .i64 s0 ∧ s21 = .int .i64 r0 ∧ SepL R base wx (.own 3 1 v (ints M) :: .blk c 44 [lv] :: F))
  case first =>
    cases bm
    · have e1 := (HFL.out rfl).1
      have e2 := (HFL.out rfl).2
      subst e1
      subst e2
      go_wp2_with fail
      go_meet
      exact ⟨rfl, rfl, hS⟩
    · have e1 := HT.out rfl
      have HSB := hide e1.1
      have hs06 := e1.2.1
      have e2 := e1.2.2
      clear e1
      subst e2
      go_wp2_with (first
        | (show wpList _ _ _ (⟨some 143, .binOp _ _ _ _ _, _, _, _, _⟩ :: _) _ _; refine wpList_val rfl (op_isubN rfl rfl rfl s0 HSB.out (by omega)) ?_; go_frame)
        )
      go_meet
      exact ⟨rfl, rfl, hS⟩
  case rest =>
    obtain ⟨rfl, rfl, hS⟩ := hcut
    clear HT HFL HBM
    go_wp2_with (first
      | (show wpList _ _ _ (⟨some 148, .binOp _ _ _ _ _, _, _, _, _⟩ :: _) _ _; refine wpList_val rfl (op_isubN rfl rfl rfl p HP1.out (by omega)) ?_; go_frame)
      )
    go_loopw [20, 21, 23] (fun sv rv _ wr => ∃ (s r : Nat), sv = .int .i64 s ∧ rv = .int .i64 r ∧ s0 ≤ s ∧ s ≤ r ∧ r ≤ r0 ∧ Hid (Sch (ltP l) (lf M) a m b mid s r) ∧ SepL R base wr (.own 3 1 v (ints M) :: .blk c 44 [lv] :: F)) (fun sv rv _ _ => (intOf rv).toNat - (intOf sv).toNat)
    case atStart => exact ⟨s0, r0, rfl, rfl, by omega, hs0r0, by omega, HSC, hS⟩
    case round =>
      clear hS HSC
      obtain ⟨s1, r, rfl, rfl, hs, hsr, hrr, HSC, hS⟩ := hrel
      by_cases hlt : s1 < r
      · obtain ⟨s, hs2⟩ : ∃ s, s1 + r = s := ⟨_, rfl⟩
        obtain ⟨h, hh⟩ : ∃ h, s / 2 = h := ⟨_, rfl⟩
        have HSUM : Hid ((s1 : Int) + (r : Int) = (s : Nat)) := by unfold Hid; omega
        have HH : Hid (s / 2 ^ 1 = h) := by unfold Hid; omega
        have hih : s1 ≤ h := by omega
        have hhj : h < r := by omega
        have hs6 : s ≤ 2000000 := by omega
        have hat := HAT.out h (by omega) (by omega)
        have hpp := HPP.out
        obtain ⟨q, hq⟩ : ∃ q, p - h = q := ⟨_, rfl⟩
        have HQ : Hid ((p : Int) - (h : Int) = (q : Nat)) := by unfold Hid; omega
        have hqe : mid + m - 1 - h = q := by omega
        have hhN : h < M.length := by omega
        have hhL : h < (ints M).length := by rw [ints_len]; exact hhN
        have hqN : q < M.length := by omega
        have hqL : q < (ints M).length := by rw [ints_len]; exact hqN
        have hph := hm.at hhN
        have hpq := hm.at hqN
        obtain ⟨y, hy⟩ : ∃ y, M[h] = y := ⟨_, rfl⟩
        obtain ⟨x, hx⟩ : ∃ x, M[q] = x := ⟨_, rfl⟩
        have HY := hide hy
        have HX := hide hx
        rw [hy] at hph
        rw [hx] at hpq
        have HFH : Hid (lf M h = y) := by unfold Hid; rw [lf_get hhN, hy]
        have HFQ : Hid (lf M q = x) := by unfold Hid; rw [lf_get hqN, hx]
        have hyx : y < x := by
          have g := HRUN.out.x h q (by omega) (by omega) (by omega) (by omega)
          rwa [HFQ.out, HFH.out] at g
        have hq6 : q ≤ 1000000 := by omega
        have hh6 : h ≤ 1000000 := by omega
        by_cases hless : lessW (wAt l y) (wAt l x)
        · have HR : Hid (decide (lessW (wAt l y) (wAt l x)) = true) := decide_eq_true hless
          have HN2 : Hid (Sch (ltP l) (lf M) a m b mid s1 h) := HSC.out.left hih hhj (by rw [hqe, HFQ.out, HFH.out]; exact (ltP_lt hyx).2 hless)
          clear hless hx hy hs2 hh hat hpp hq hqe
          go_wp2_with (first
              | (show wpList _ _ _ (⟨some 154, .binOp _ _ _ _ _, _, _, _, _⟩ :: _) _ _; refine wpList_val rfl (op_iaddN rfl rfl rfl s HSUM.out (by omega)) ?_; go_frame)
              | (show wpList _ _ _ (⟨some 155, .convert _ _ _, _, _, _, _⟩ :: _) _ _; refine wpList_val rfl (op_i64u64 undInt undUint rfl rfl (by omega)) ?_; go_frame)
              | (show wpList _ _ _ (⟨some 156, .binOp _ _ _ _ _, _, _, _, _⟩ :: _) _ _; refine wpList_val rfl (opU_shrN (a := s) rfl rfl (c := 1) rfl (by omega) h HH.out) ?_; go_frame)
              | (show wpList _ _ _ (⟨some 157, .convert _ _ _, _, _, _, _⟩ :: _) _ _; refine wpList_val rfl (op_Uint undUint undInt rfl rfl (by omega)) ?_; go_frame)
              )
          refine wp_region_text (by kernel_rfl) (by kernel_rfl) (by repeat (first | exact Clean.body | refine Clean.then ?_ | refine Clean.inBlock ?_)) ?_
          replace hS := hS.drew
          go_wp2_with (first
              | (show wpList _ _ _ (⟨some 162, .binOp _ _ _ _ _, _, _, _, _⟩ :: _) _ _; refine wpList_val rfl (op_isubN rfl rfl rfl q HQ.out (by omega)) ?_; go_frame)
              | (show wpList _ _ _ (⟨some 163, .indexAddr _ _ _, _, _, _, _⟩ :: _) _ _; refine wpList_val rfl (op_indexAddr slInt rfl (v := v) rfl (k := q) rfl (by exact hS.getOwn.rd) hqL) ?_; go_frame)
              | (show wpList _ _ _ (⟨some 164, .load _ _, _, _, _, _⟩ :: _) _ _; refine wpList_val rfl (op_loadE1 oneInt rfl (v := v) rfl (f := I64) (by exact hS.getOwn.rd) hqN) ?_; rw [HX.out]; go_frame)
              | (show wpList _ _ _ (⟨some 167, .indexAddr _ _ _, _, _, _, _⟩ :: _) _ _; refine wpList_val rfl (op_indexAddr slInt rfl (v := v) rfl (k := h) rfl (by exact hS.getOwn.rd) hhL) ?_; go_frame)
              | (show wpList _ _ _ (⟨some 168, .load _ _, _, _, _, _⟩ :: _) _ _; refine wpList_val rfl (op_loadE1 oneInt rfl (v := v) rfl (f := I64) (by exact hS.getOwn.rd) hhN) ?_; rw [HY.out]; go_frame)
              | (go_at_call 38; refine Ret.calls (cmpO hS hl hpq hph HR) ?_; clear hS; rintro r1 w ⟨⟨z, rfl, HZ⟩, hS⟩)
              | (show wpList _ _ _ (⟨some 170, .binOp _ _ _ _ _, _, _, _, _⟩ :: _) _ _; refine wpList_val rfl (op_ilss rfl rfl rfl HZ.out) ?_; go_frame)
              | (refine fin_mk (by kernel_rfl) ?_)
              )
          go_roundw
          case rel => exact ⟨s1, h, rfl, rfl, hs, hih, by omega, HN2, hS⟩
          case measure => simp [intOf]; omega
        · have HR : Hid (decide (lessW (wAt l y) (wAt l x)) = false) := decide_eq_false hless
          have HN1 : Hid (Sch (ltP l) (lf M) a m b mid (h + 1) r) := HSC.out.right hih hhj (by rw [hqe, HFQ.out, HFH.out]; exact ltP_no hyx hless)
          clear hless hx hy hs2 hh hat hpp hq hqe
          go_wp2_with (first
              | (show wpList _ _ _ (⟨some 154, .binOp _ _ _ _ _, _, _, _, _⟩ :: _) _ _; refine wpList_val rfl (op_iaddN rfl rfl rfl s HSUM.out (by omega)) ?_; go_frame)
              | (show wpList _ _ _ (⟨some 155, .convert _ _ _, _, _, _, _⟩ :: _) _ _; refine wpList_val rfl (op_i64u64 undInt undUint rfl rfl (by omega)) ?_; go_frame)
              | (show wpList _ _ _ (⟨some 156, .binOp _ _ _ _ _, _, _, _, _⟩ :: _) _ _; refine wpList_val rfl (opU_shrN (a := s) rfl rfl (c := 1) rfl (by omega) h HH.out) ?_; go_frame)
              | (show wpList _ _ _ (⟨some 157, .convert _ _ _, _, _, _, _⟩ :: _) _ _; refine wpList_val rfl (op_Uint undUint undInt rfl rfl (by omega)) ?_; go_frame)
              )
          refine wp_region_text (by kernel_rfl) (by kernel_rfl) (by repeat (first | exact Clean.body | refine Clean.then ?_ | refine Clean.inBlock ?_)) ?_
          replace hS := hS.drew
          go_wp2_with (first
              | (show wpList _ _ _ (⟨some 162, .binOp _ _ _ _ _, _, _, _, _⟩ :: _) _ _; refine wpList_val rfl (op_isubN rfl rfl rfl q HQ.out (by omega)) ?_; go_frame)
              | (show wpList _ _ _ (⟨some 163, .indexAddr _ _ _, _, _, _, _⟩ :: _) _ _; refine wpList_val rfl (op_indexAddr slInt rfl (v := v) rfl (k := q) rfl (by exact hS.getOwn.rd) hqL) ?_; go_frame)
              | (show wpList _ _ _ (⟨some 164, .load _ _, _, _, _, _⟩ :: _) _ _; refine wpList_val rfl (op_loadE1 oneInt rfl (v := v) rfl (f := I64) (by exact hS.getOwn.rd) hqN) ?_; rw [HX.out]; go_frame)
              | (show wpList _ _ _ (⟨some 167, .indexAddr _ _ _, _, _, _, _⟩ :: _) _ _; refine wpList_val rfl (op_indexAddr slInt rfl (v := v) rfl (k := h) rfl (by exact hS.getOwn.rd) hhL) ?_; go_frame)
              | (show wpList _ _ _ (⟨some 168, .load _ _, _, _, _, _⟩ :: _) _ _; refine wpList_val rfl (op_loadE1 oneInt rfl (v := v) rfl (f := I64) (by exact hS.getOwn.rd) hhN) ?_; rw [HY.out]; go_frame)
              | (go_at_call 38; refine Ret.calls (cmpO hS hl hpq hph HR) ?_; clear hS; rintro r1 w ⟨⟨z, rfl, HZ⟩, hS⟩)
              | (show wpList _ _ _ (⟨some 170, .binOp _ _ _ _ _, _, _, _, _⟩ :: _) _ _; refine wpList_val rfl (op_ilss rfl rfl rfl HZ.out) ?_; go_frame)
              | (refine fin_mk (by kernel_rfl) ?_)
              )
          go_roundw
          case rel => exact ⟨h + 1, r, by go_num, rfl, by omega, by omega, hrr, HN1, hS⟩
          case measure => simp [intOf]; omega
      · have hsr2 : s1 = r := by omega
        subst hsr2
        have HCUT := hide (HSC.out.cut HMD.out ham hmb)
        have c1 := HCUT.out.as
        have c2 := HCUT.out.sm
        have c3 := HCUT.out.smid
        have c4 := HCUT.out.em
        have c5 := HCUT.out.eb
        have hnn := HNN.out
        obtain ⟨en, hen⟩ : ∃ x, mid + m - s1 = x := ⟨_, rfl⟩
        have HEN : Hid ((n : Int) - (s1 : Int) = (en : Nat)) := by unfold Hid; omega
        have hen6 : en ≤ 1000000 := by omega
        rw [hen] at c4 c5
        have HROT := HCUT.out.rot (ltP_ok l) HRUN.out
        rw [hen] at HROT
        replace HROT := hide HROT
        have ge : mid ≤ en := by omega
        clear hnn hen HCUT HSC
        obtain ⟨rb, hrb⟩ : ∃ x, (decide (s1 < m) && decide (m < en)) = x := ⟨_, rfl⟩
        have HRB := hide hrb
        clear hrb
        go_upto_region 39 with (first
          | (show wpList _ _ _ (⟨some 177, .binOp _ _ _ _ _, _, _, _, _⟩ :: _) _ _; refine wpList_val rfl (op_isubN rfl rfl rfl en HEN.out (by omega)) ?_; go_frame)
          )
        go_cut [185] (fun s185 wx => s185 = .bool rb ∧ SepL R base wx (.own 3 1 v (ints M) :: .blk c 44 [lv] :: F))
        case first =>
          by_cases h1 : s1 < m
          · have HB1 : Hid (decide ((s1 : Int) < (m : Int)) = true) := decide_eq_true (by omega)
            have HB2 : Hid (decide ((m : Int) < (en : Int)) = rb) := by
              unfold Hid
              rw [← HRB.out, decide_eq_true h1, Bool.true_and, decide_eq_decide]
              omega
            go_wp2_with (first
              | (show wpList _ _ _ (⟨some 180, .binOp _ _ _ _ _, _, _, _, _⟩ :: _) _ _; refine wpList_val rfl (op_ilss rfl rfl rfl HB1.out) ?_; go_frame)
              | (show wpList _ _ _ (⟨some 184, .binOp _ _ _ _ _, _, _, _, _⟩ :: _) _ _; refine wpList_val rfl (op_ilss rfl rfl rfl HB2.out) ?_; go_frame)
              )
            go_meet
            exact ⟨rfl, hS⟩
          · have HB1 : Hid (decide ((s1 : Int) < (m : Int)) = false) := decide_eq_false (by omega)
            have e : rb = false := by rw [← HRB.out, decide_eq_false h1, Bool.false_and]
            subst e
            go_wp2_with (first
              | (show wpList _ _ _ (⟨some 180, .binOp _ _ _ _ _, _, _, _, _⟩ :: _) _ _; refine wpList_val rfl (op_ilss rfl rfl rfl HB1.out) ?_; go_frame)
              )
            go_meet
            exact ⟨rfl, hS⟩
        case rest =>
          obtain ⟨rfl, hS⟩ := hcut
          go_upto_if 185 with fail
          rename_i hK
          go_cut [] (fun wx => ∃ N : List Int, Hid (N.Perm M) ∧ Hid (∀ k, lf N k = rotF (lf M) s1 m en k) ∧ SepL R base wx (.own 3 1 v (ints N) :: .blk c 44 [lv] :: F))
          case first =>
            cases rb
            · have hno : s1 = m ∨ m = en := by
                have g := HRB.out
                rw [Bool.and_eq_false_iff, decide_eq_false_iff_not, decide_eq_false_iff_not] at g
                omega
              have H0 : Hid (∀ k, lf M k = rotF (lf M) s1 m en k) := fun k => by rw [rotF_same hno c2 c4]
              clear hno
              go_wp2_with fail
              go_meet
              exact ⟨M, List.Perm.refl _, H0, hS⟩
            · have g := HRB.out
              rw [Bool.and_eq_true, decide_eq_true_eq, decide_eq_true_eq] at g
              have g1 := g.1
              have g2 := g.2
              clear g
              go_wp2_with (first
                | (go_at_call 68; refine Ret.calls (rotate_s (M := M) (a := s1) (m := m) (b := en) hS g1 g2 (by omega) hlen) ?_; clear hS; rintro r1 w ⟨N, hp1, hf1, hS⟩)
                )
              go_meet
              exact ⟨N, hp1, hf1, hS⟩
          case rest =>
            obtain ⟨N, HP, HF, hS⟩ := hcut
            obtain ⟨k1, k2, k3⟩ := HROT.out (lf N) HF.out
            have HO : Hid (∀ i, i < a ∨ b ≤ i → lf N i = lf M i) := fun i hi => by
              rw [HF.out]
              exact rotF_out c2 c4 (by omega)
            have hmd := HMD.out
            have ga : a < mid := by omega
            have gb : mid < b := by omega
            exact hK _ _ (tail_s hm hnd hb hlen HP HO k1 k2 k3 c1 c3 c5 ga gb ge HIH hS)
/-- two runs side by side are merged in place -/
theorem sym_s {v lv : Value} {c : Nat} {l : List Wt} (hl : LIn R base lv l) : ∀ (n : Nat) (w : World) (M : List Int) (a m b : Nat), b - a < n → SepL R base w (.own 3 1 v (ints M) :: .blk c 44 [lv] :: F) → Pl l M → M.Nodup → a < m → m < b → b ≤ M.length → M.length ≤ 1000000 → Runs (ltP l) (lf M) a m b →
      Calls Tryd.prog 62 #[v, I64 a, I64 m, I64 b, fnC c] w (Ret fun _ w' => ∃ N : List Int, N.Perm M ∧ (∀ i, i < a ∨ b ≤ i → lf N i = lf M i) ∧ Srt (ltP l) (lf N) a b ∧ SepL R base w' (.own 3 1 v (ints N) :: .blk c 44 [lv] :: F))
  | 0, _, _, _, _, _, h, _, _, _, _, _, _, _, _ => absurd h (Nat.not_lt_zero _)
  | n + 1, w, M, a, m, b, h, hS, hm, hnd, ham, hmb, hb, hlen, hr => by
    by_cases h1 : m = a + 1
    · subst h1
      exact symOne_s hS hl hm (by omega) hb hlen hr
    · by_cases h2 : b = m + 1
      · subst h2
        exact symTwo_s hS hl hm h1 (by omega) (by omega) hlen hr
      · exact symMany_s hS hl hm hnd h1 h2 ham hmb hb hlen hr fun w M a2 m2 b2 hlt hS hm hnd g1 g2 g3 g4 g5 => sym_s hl n w M a2 m2 b2 (by omega) hS hm hnd g1 g2 g3 g4 g5
end
end Go.Proofs.YtieobcaegegboaaDoor
namespace Go.Proofs.YtieobcaegegboaaDoor
open Go Go.RowKit Go.Px Go.Sha Go.Calc
theorem Blk2.last {lt : Int → Int → Prop} {s n : Nat} {f : Nat → Int} (h : Blk2 lt s n n f) : BlkS lt (2 * s) n f := ⟨h.home, fun p q h1 h2 h3 => h.done p q h1 h2 h2 h3⟩
theorem mod_next {a t b : Nat} (h : a % t = 0) (hb : b = a + t) : b % t = 0 := by rw [hb, Nat.add_mod_right]; exact h
section
variable {R : Nat → Prop} {base w : World} {F : List Hp}
set_option maxRecDepth 100000 in
set_option maxHeartbeats 8000000 in
theorem stable_s {v lv : Value} {c : Nat} {l : List Wt} {n : Nat} (hS : SepL R base w (.own 3 1 v (ints (places n)) :: .blk c 44 [lv] :: F)) (hl : LIn R base lv l) (hn : n ≤ l.length) (hlen : n ≤ 1000000) :
    Calls Tryd.prog 54 #[v, I64 n, fnC c] w (Ret fun _ w' => ∃ N : List Int, N.Perm (places n) ∧ Srt (ltP l) (lf N) 0 n ∧ SepL R base w' (.own 3 1 v (ints N) :: .blk c 44 [lv] :: F)) := by
  have HINS : Hid (∀ (w : World) (M : List Int) (a b : Nat), SepL R base w (.own 3 1 v (ints M) :: .blk c 44 [lv] :: F) → Pl l M → a ≤ b → b ≤ M.length → M.length ≤ 1000000 → (∀ p q, a ≤ p → p < q → q < b → lf M p < lf M q) → Calls Tryd.prog 61 #[v, I64 a, I64 b, .func (.func 38) #[] #[.pointer (some ⟨c, 0, none⟩)]] w (Ret fun _ w' => ∃ N : List Int, N.Perm M ∧ (∀ i, i < a ∨ b ≤ i → lf N i = lf M i) ∧ Srt (ltP l) (lf N) a b ∧ SepL R base w' (.own 3 1 v (ints N) :: .blk c 44 [lv] :: F))) := fun w M a b hS hm hab hb hlen hs => insertion_s hS hl hm hab hb hlen hs
  have HSYM : Hid (∀ (w : World) (M : List Int) (a m b : Nat), SepL R base w (.own 3 1 v (ints M) :: .blk c 44 [lv] :: F) → Pl l M → M.Nodup → a < m → m < b → b ≤ M.length → M.length ≤ 1000000 → Runs (ltP l) (lf M) a m b → Calls Tryd.prog 62 #[v, I64 a, I64 m, I64 b, .func (.func 38) #[] #[.pointer (some ⟨c, 0, none⟩)]] w (Ret fun _ w' => ∃ N : List Int, N.Perm M ∧ (∀ i, i < a ∨ b ≤ i → lf N i = lf M i) ∧ Srt (ltP l) (lf N) a b ∧ SepL R base w' (.own 3 1 v (ints N) :: .blk c 44 [lv] :: F))) := fun w M a m b hS hm hnd h1 h2 h3 h4 h5 => sym_s hl (b - a + 1) w M a m b (by omega) hS hm hnd h1 h2 h3 h4 h5
  obtain ⟨P, hP⟩ : ∃ P, places n = P := ⟨_, rfl⟩
  have HPP : Hid (Pl l P) := by
    rw [← hP]
    exact fun x hx => ⟨(places_mem.1 hx).1, by have := (places_mem.1 hx).2; omega⟩
  have HPN : Hid P.Nodup := by rw [← hP]; exact places_nodup n
  have hPl : P.length = n := by rw [← hP, places_len]
  have H0 : Hid (Blk1 (ltP l) 20 n 0 (lf P)) := Blk1.start fun i hi => by rw [← hP]; exact lf_places hi
  rw [hP] at hS ⊢
  clear hP
  go_enter Tryd.func54, Tryd.ntmps54
  unfold fnC
  go_wp2_with fail
  go_loopw [7, 8] (fun av bv wr => ∃ (a b : Nat) (N : List Int), av = .int .i64 a ∧ bv = .int .i64 b ∧ Hid (b = a + 20) ∧ a % 20 = 0 ∧ a ≤ n ∧ Hid (N.Perm P) ∧ Hid (Blk1 (ltP l) 20 n a (lf N)) ∧ SepL R base wr (.own 3 1 v (ints N) :: .blk c 44 [lv] :: F)) (fun av _ _ => n - (intOf av).toNat)
  case atStart => exact ⟨0, 20, P, rfl, rfl, rfl, rfl, Nat.zero_le _, List.Perm.refl _, H0, hS⟩
  case round =>
    clear hS H0
    obtain ⟨a, b, N, rfl, rfl, HAB, ha20, han, HP, HB, hS⟩ := hrel
    have hab := HAB.out
    have hNl : N.length = P.length := HP.out.length_eq
    have HNP := hide (HPP.out.perm HP.out)
    have HND := hide (HP.out.nodup_iff.2 HPN.out)
    have HUP : Hid (∀ z, z ≤ n → ∀ p q, a ≤ p → p < q → q < z → lf N p < lf N q) := fun z hz p q h1 h2 h3 => by
      rw [HB.out.rest p h1 (by omega), HB.out.rest q (by omega) (by omega)]
      omega
    by_cases hlt : b ≤ n
    · obtain ⟨b2, hb2⟩ : ∃ x, b + 20 = x := ⟨_, rfl⟩
      have HADD : Hid ((b : Int) + 20 = (b2 : Nat)) := by unfold Hid; omega
      have hab2 : a ≤ b := by omega
      have HLE : Hid (decide ((b : Int) ≤ (n : Int)) = true) := decide_eq_true (by omega)
      have hbs : b ≤ a + 20 := by omega
      have hab3 : a < b := by omega
      have hb6 : b2 ≤ 2000000 := by omega
      clear hab
      go_wp2_with (first
        | (show wpList _ _ _ (⟨some 13, .binOp _ _ _ _ _, _, _, _, _⟩ :: _) _ _; refine wpList_val rfl (op_ileq rfl rfl rfl HLE.out) ?_; go_frame)
        | (go_at_call 61; refine Ret.calls (HINS.out _ N a b hS HNP.out hab2 (by omega) (by omega) (HUP.out b hlt)) ?_; clear hS; rintro r1 w ⟨N2, p2, q2, t2, hS⟩)
        | (show wpList _ _ _ (⟨some 22, .binOp _ _ _ _ _, _, _, _, _⟩ :: _) _ _; refine wpList_val rfl (op_iaddN rfl rfl rfl b2 HADD.out (by omega)) ?_; go_frame)
        )
      go_roundw
      case rel => exact ⟨b, b2, N2, rfl, rfl, hb2.symm, mod_next ha20 HAB.out, hlt, p2.trans HP.out, HB.out.step (by omega) ha20 hab2 hbs hlt (Seg.of HND.out p2 (by omega) q2) t2, hS⟩
      case measure => simp [intOf]; omega
    · have HLE : Hid (decide ((b : Int) ≤ (n : Int)) = false) := decide_eq_false (by omega)
      have hns : n ≤ a + 20 := by omega
      clear hab
      go_wp2_with (first
        | (show wpList _ _ _ (⟨some 13, .binOp _ _ _ _ _, _, _, _, _⟩ :: _) _ _; refine wpList_val rfl (op_ileq rfl rfl rfl HLE.out) ?_; go_frame)
        | (go_at_call 61; refine Ret.calls (HINS.out _ N a n hS HNP.out han (by omega) (by omega) (HUP.out n (Nat.le_refl _))) ?_; clear hS; rintro r1 w ⟨N2, p2, q2, t2, hS⟩)
        )
      have HBS : Hid (BlkS (ltP l) 20 n (lf N2)) := (HB.out.step (by omega) ha20 han hns (Nat.le_refl _) (Seg.of HND.out p2 (by omega) q2) t2).all
      have HP2 := hide (p2.trans HP.out)
      clear HNP HND HUP HB HP hNl hlt
      go_loopw [6, 7, 8, 9] (fun sv _ _ _ wr => ∃ (s : Nat) (N : List Int), sv = .int .i64 s ∧ 20 ≤ s ∧ s ≤ 2000000 ∧ Hid (N.Perm P) ∧ Hid (BlkS (ltP l) s n (lf N)) ∧ SepL R base wr (.own 3 1 v (ints N) :: .blk c 44 [lv] :: F)) (fun sv _ _ _ _ => n - (intOf sv).toNat)
      case atStart => exact ⟨20, N2, rfl, Nat.le_refl _, by omega, HP2, HBS, hS⟩
      case round =>
        clear hS HP2 HBS
        obtain ⟨s, N, rfl, hs20, hs2, HP, HB, hS⟩ := hrel
        by_cases hsn : s < n
        · obtain ⟨t, ht⟩ : ∃ t, 2 * s = t := ⟨_, rfl⟩
          have HMUL : Hid ((2 : Int) * (s : Int) = (t : Nat)) := by unfold Hid; omega
          have HMUL2 : Hid ((s : Int) * 2 = (t : Nat)) := by unfold Hid; omega
          have HB2 : Hid (Blk2 (ltP l) s n 0 (lf N)) := HB.out.start
          clear HB
          go_wp2_with (first
            | (show wpList _ _ _ (⟨some 32, .binOp _ _ _ _ _, _, _, _, _⟩ :: _) _ _; refine wpList_val rfl (op_imulN rfl rfl rfl t HMUL.out (by omega)) ?_; go_frame)
            )
          go_loopw [7, 8] (fun av bv wr => ∃ (a b : Nat) (N : List Int), av = .int .i64 a ∧ bv = .int .i64 b ∧ Hid (b = a + t) ∧ a % t = 0 ∧ a ≤ n ∧ Hid (N.Perm P) ∧ Hid (Blk2 (ltP l) s n a (lf N)) ∧ SepL R base wr (.own 3 1 v (ints N) :: .blk c 44 [lv] :: F)) (fun av _ _ => n - (intOf av).toNat)
          case atStart => exact ⟨0, t, N, rfl, rfl, (Nat.zero_add t).symm, Nat.zero_mod _, Nat.zero_le _, HP, HB2, hS⟩
          case round =>
            clear hS HB2 HP
            obtain ⟨a, b, N, rfl, rfl, HAB, hat, han, HP, HB, hS⟩ := hrel
            have hab := HAB.out
            have hNl : N.length = P.length := HP.out.length_eq
            have HNP := hide (HPP.out.perm HP.out)
            have HND := hide (HP.out.nodup_iff.2 HPN.out)
            obtain ⟨m, hm⟩ : ∃ m, a + s = m := ⟨_, rfl⟩
            have HM : Hid ((a : Int) + (s : Int) = (m : Nat)) := by unfold Hid; omega
            have ham : a < m := by omega
            by_cases hlt : b ≤ n
            · have HLE : Hid (decide ((b : Int) ≤ (n : Int)) = true) := decide_eq_true (by omega)
              obtain ⟨b2, hb2⟩ : ∃ x, b + t = x := ⟨_, rfl⟩
              have HADD : Hid ((b : Int) + (t : Int) = (b2 : Nat)) := by unfold Hid; omega
              have hmb : m < b := by omega
              have HRUN : Hid (Runs (ltP l) (lf N) a m b) := by
                have g := HB.out.runs (a := a) (b := b) (by omega) (by rw [ht]; exact hat) (by omega) (by omega) hlt
                rwa [hm] at g
              have hbs : b ≤ a + 2 * s := by omega
              have hab2 : a ≤ b := by omega
              have hab3 : a < b := by omega
              clear hm hab
              go_wp2_with (first
                | (show wpList _ _ _ (⟨some 35, .binOp _ _ _ _ _, _, _, _, _⟩ :: _) _ _; refine wpList_val rfl (op_ileq rfl rfl rfl HLE.out) ?_; go_frame)
                | (show wpList _ _ _ (⟨some 40, .binOp _ _ _ _ _, _, _, _, _⟩ :: _) _ _; refine wpList_val rfl (op_iaddN rfl rfl rfl m HM.out (by omega)) ?_; go_frame)
                | (go_at_call 62; refine Ret.calls (HSYM.out _ N a m b hS HNP.out HND.out ham hmb (by omega) (by omega) HRUN.out) ?_; clear hS; rintro r1 w ⟨N2, p2, q2, t2, hS⟩)
                | (show wpList _ _ _ (⟨some 47, .binOp _ _ _ _ _, _, _, _, _⟩ :: _) _ _; refine wpList_val rfl (op_imulN rfl rfl rfl t HMUL.out (by omega)) ?_; go_frame)
                | (show wpList _ _ _ (⟨some 48, .binOp _ _ _ _ _, _, _, _, _⟩ :: _) _ _; refine wpList_val rfl (op_iaddN rfl rfl rfl b2 HADD.out (by omega)) ?_; go_frame)
                )
              go_roundw
              case rel => exact ⟨b, b2, N2, rfl, rfl, hb2.symm, mod_next hat HAB.out, hlt, p2.trans HP.out, HB.out.step (by omega) (by rw [ht]; exact hat) hab2 hbs hlt (Seg.of HND.out p2 (by omega) q2) t2, hS⟩
              case measure => simp [intOf]; omega
            · have HLE : Hid (decide ((b : Int) ≤ (n : Int)) = false) := decide_eq_false (by omega)
              have hns : n ≤ a + 2 * s := by omega
              by_cases hmn : m < n
              · have HLS : Hid (decide ((m : Int) < (n : Int)) = true) := decide_eq_true (by omega)
                have HRUN : Hid (Runs (ltP l) (lf N) a m n) := by
                  have g := HB.out.runs (a := a) (b := n) (by omega) (by rw [ht]; exact hat) (by omega) (by omega) (Nat.le_refl _)
                  rwa [hm] at g
                clear hm hab
                go_wp2_with (first
                  | (show wpList _ _ _ (⟨some 35, .binOp _ _ _ _ _, _, _, _, _⟩ :: _) _ _; refine wpList_val rfl (op_ileq rfl rfl rfl HLE.out) ?_; go_frame)
                  | (show wpList _ _ _ (⟨some 51, .binOp _ _ _ _ _, _, _, _, _⟩ :: _) _ _; refine wpList_val rfl (op_iaddN rfl rfl rfl m HM.out (by omega)) ?_; go_frame)
                  | (show wpList _ _ _ (⟨some 54, .binOp _ _ _ _ _, _, _, _, _⟩ :: _) _ _; refine wpList_val rfl (op_ilss rfl rfl rfl HLS.out) ?_; go_frame)
                  | (go_at_call 62; refine Ret.calls (HSYM.out _ N a m n hS HNP.out HND.out ham hmn (by omega) (by omega) HRUN.out) ?_; clear hS; rintro r1 w ⟨N2, p2, q2, t2, hS⟩)
                  | (show wpList _ _ _ (⟨some 62, .binOp _ _ _ _ _, _, _, _, _⟩ :: _) _ _; refine wpList_val rfl (op_imulN rfl rfl rfl t HMUL2.out (by omega)) ?_; go_frame)
                  )
                go_roundw
                case rel =>
                  refine ⟨t, N2, rfl, by omega, by omega, p2.trans HP.out, ?_, hS⟩
                  rw [← ht]
                  exact (HB.out.step (by omega) (by rw [ht]; exact hat) han hns (Nat.le_refl _) (Seg.of HND.out p2 (by omega) q2) t2).last
                case measure => simp [intOf]; omega
              · have HLS : Hid (decide ((m : Int) < (n : Int)) = false) := decide_eq_false (by omega)
                have hnas : n ≤ a + s := by omega
                clear hm hab
                go_wp2_with (first
                  | (show wpList _ _ _ (⟨some 35, .binOp _ _ _ _ _, _, _, _, _⟩ :: _) _ _; refine wpList_val rfl (op_ileq rfl rfl rfl HLE.out) ?_; go_frame)
                  | (show wpList _ _ _ (⟨some 51, .binOp _ _ _ _ _, _, _, _, _⟩ :: _) _ _; refine wpList_val rfl (op_iaddN rfl rfl rfl m HM.out (by omega)) ?_; go_frame)
                  | (show wpList _ _ _ (⟨some 54, .binOp _ _ _ _ _, _, _, _, _⟩ :: _) _ _; refine wpList_val rfl (op_ilss rfl rfl rfl HLS.out) ?_; go_frame)
                  | (show wpList _ _ _ (⟨some 62, .binOp _ _ _ _ _, _, _, _, _⟩ :: _) _ _; refine wpList_val rfl (op_imulN rfl rfl rfl t HMUL2.out (by omega)) ?_; go_frame)
                  )
                go_roundw
                case rel =>
                  refine ⟨t, N, rfl, by omega, by omega, HP, ?_, hS⟩
                  rw [← ht]
                  exact HB.out.all (by omega) (by rw [ht]; exact hat) hnas
                case measure => simp [intOf]; omega
        · go_wp2_with fail
          refine bodyPost_end (results_none rfl _ _ _) rfl ?_
          exact ⟨N, HP.out, HB.out.end_ (by omega), hS⟩
set_option maxRecDepth 100000 in
theorem sorts_s {v lv : Value} {c : Nat} {l : List Wt} {n : Nat} (hS : SepL R base w (.own 3 1 v (ints (places n)) :: .blk c 44 [lv] :: F)) (hl : LIn R base lv l) (hn : n ≤ l.length) (hlen : n ≤ 1000000) :
    Calls Tryd.prog 37 #[v, fnC c] w (Ret fun _ w' => ∃ N : List Int, N.Perm (places n) ∧ Srt (ltP l) (lf N) 0 n ∧ SepL R base w' (.own 3 1 v (ints N) :: .blk c 44 [lv] :: F)) := by
  have hk : (ints (places n)).length = n := by rw [ints_len, places_len]
  have HK := hide hk
  have HST : Hid (Calls Tryd.prog 54 #[v, I64 n, .func (.func 38) #[] #[.pointer (some ⟨c, 0, none⟩)]] w (Ret fun _ w' => ∃ N : List Int, N.Perm (places n) ∧ Srt (ltP l) (lf N) 0 n ∧ SepL R base w' (.own 3 1 v (ints N) :: .blk c 44 [lv] :: F))) := stable_s hS hl hn hlen
  clear hk
  go_enter Tryd.func37, Tryd.ntmps37
  unfold fnC
  go_wp2_with (first
    | (show wpList _ _ _ (⟨some 6, .call _, _, _, _, _⟩ :: _) _ _; refine wpList_val rfl (op_len slInt rfl rfl (v := v) rfl (by exact hS.getOwn.rd)) ?_; rw [HK.out]; go_frame)
    | (go_at_call 54; refine Ret.calls HST.out ?_; clear hS; rintro r1 w' ⟨N, p, t, hS⟩)
    )
  refine bodyPost_end (results_none rfl _ _ _) rfl ?_
  exact ⟨N, p, t, hS⟩
end
end Go.Proofs.YtieobcaegegboaaDoor
