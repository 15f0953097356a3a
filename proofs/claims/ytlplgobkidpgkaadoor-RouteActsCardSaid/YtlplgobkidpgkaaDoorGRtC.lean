/- An epoch's end, and to whom a source's go. Conditions: those that stand ahead of each theorem. -/
import Derived.Test.YtlplgobkidpgkaaDoorGRtB
import Derived.Test.YtlplgobkidpgkaaDoorGMac
namespace Go.Proofs.YtlplgobkidpgkaaDoor
open Go Go.RowKit Go.Px Go.Sha
theorem arr3u : ArrTy Tryd.prog 36 35 3 := ArrTy.of (d := .int .u16) (by kernel_rfl) (by kernel_rfl) rfl (by kernel_rfl)
theorem oneU16 : One Tryd.prog 35 := One.of (d := .int .u16) (by kernel_rfl) rfl (by kernel_rfl)
theorem aggSts : Agg Tryd.prog 56 130 := Agg.of Tryd.underlying56 rfl (by kernel_rfl)
theorem buildSts (w : World) : (Instr.build 56 #[]).run Tryd.prog w = .ok (.agg (List.replicate 130 (I64 0)).toArray) w := run_build w 56 _ _ (by kernel_rfl)
theorem op_u16rem {P : Program} {o : Oper} {w : World} {ρ : Operand → Value} {t t' : TypeId} {x y : Operand} (ho : o.op = .binOp .rem t x y t') {a b : Nat} (hx : ρ x = .int .u16 a) (hy : ρ y = .int .u16 b) (hb : 0 < b) : (execOp ρ o).run P w = .ok (.value (.int .u16 (a % b : Nat))) w := by
  have h0 : ¬ ((b : Int) = 0) := by omega
  unfold execOp
  simp only [ho, hx, hy, Sem.run_bind, run_eqGuard_int, Result.andThen_ok, binOp, ne_eq, not_true_eq_false, if_false, Op.intDiv, Sem.run_pure, if_neg h0]
  rfl
theorem later_cap (t k : Nat) : laterN t [k] = capU (t + k) := by
  unfold laterN capU
  simp
theorem sts_zero : ((((List.replicate 65 (0 : Nat)).zip (List.replicate 65 false)).map stC).flatten) = List.replicate 130 (I64 0) := by kernel_rfl
theorem rt_clear {sa : List Byte} (hsa : sa.length = 32) {r : Rt} (hm : r.ms.length = 65) (ht : r.ts.length = 65) : (rtC sa r).take 37 ++ List.replicate 130 (I64 0) ++ (rtC sa r).drop (37 + 130) = rtC sa { r with ms := List.replicate 65 0, ts := List.replicate 65 false } := by
  have hl : (rtC sa r).length = 167 := by
    unfold rtC
    rw [List.length_append, headC_len hsa, flatten_length (n := 2) (fun x hx => by
      obtain ⟨y, _, rfl⟩ := List.mem_map.1 hx
      rfl), List.length_map, List.length_zip, hm, ht]
    rfl
  rw [List.drop_eq_nil_of_le (by omega), List.append_nil]
  unfold rtC
  rw [List.take_append_of_le_length (by rw [headC_len hsa]; omega), List.take_of_length_le (by rw [headC_len hsa]; omega)]
  show _ = headC sa r ++ ((((List.replicate 65 0).zip (List.replicate 65 false)).map stC).flatten)
  rw [sts_zero]
section
variable {R : Nat → Prop} {base w : World} {F : List Hp}
set_option maxRecDepth 100000 in
set_option maxHeartbeats 4000000 in
theorem tick_s {p : Nat} {sa : List Byte} {r : Rt} {v : Value} {peers : List Int} (hS : SepL R base w (.blk p 58 (rtC sa r) :: F)) (hsa : sa.length = 32) (hok : ROk 3 r) (hv : RdIn R base 1 v (peers.map fun z => [I64 z])) (hlen : peers.length ≤ 1000000) {now d0 d1 d2 : Nat} (hnow : now < 18446744073709551616) (hd1 : d1 < 65536) (hd2 : d2 < 65536) :
    Calls Tryd.prog 33 #[.pointer (some ⟨p, 0, none⟩), U now, v, .agg #[.int .u16 d0, .int .u16 d1, .int .u16 d2]] w (Ret fun y w' => y = .bool (!decide (now < r.fin)) ∧ SepL R base w' (.blk p 58 (rtC sa (tickR r now peers d0 d1 d2)) :: F)) := by
  have HFI : Hid ((rtC sa r)[33]? = some (U r.fin)) := head_at hsa r _ (k := 1) (by omega)
  by_cases h1 : now < r.fin
  · have H1 : Hid (decide (now < r.fin) = true) := decide_eq_true h1
    have HE : Hid (tickR r now peers d0 d1 d2 = r) := if_pos h1
    clear h1
    go_enter Tryd.func33, Tryd.ntmps33
    go_wp2_with (first
      | go_big_skip
      | (show wpList _ _ _ (⟨some 7, .box _ _, _, _, _, _⟩ :: _) _ _; refine wpS_boxA (cs := [.int .u16 d0, .int .u16 d1, .int .u16 d2]) hS rfl rfl rfl ?_; clear hS; intro nb w hS; go_frame)
      | (show wpList _ _ _ (⟨some 16, .load _ _, _, _, _, _⟩ :: _) _ _; refine wpList_val rfl (op_load1S (b := p) (T := 58) oneU64 ((hS.bring (by repeat (first | exact t0 | apply tS)))) rfl rfl HFI.out) ?_; go_frame)
      | (show wpList _ _ _ (⟨some 17, .binOp _ _ _ _ _, _, _, _, _⟩ :: _) _ _; refine wpList_val rfl (opU_lss rfl rfl rfl H1.out) ?_; go_frame)
      )
    go_ret
    exact ⟨by rw [H1.out]; rfl, by rw [HE.out]; exact hS.sel (by repeat (first | exact Sel.refl | refine Sel.take (by repeat (first | exact t0 | apply tS)) ?_ | apply Sel.drop))⟩
  · have H1 : Hid (decide (now < r.fin) = false) := decide_eq_false h1
    have hep := hok.ep
    have HEP : Hid ((rtC sa r)[32]? = some (U r.epoch)) := head_at hsa r _ (k := 0) (by omega)
    have HL1 : Hid (∀ n ∈ [1], n < 18446744073709551616) := by intro n hn; rw [List.mem_singleton.1 hn]; omega
    have HL2 : Hid (∀ n ∈ [600], n < 18446744073709551616) := by intro n hn; rw [List.mem_singleton.1 hn]; omega
    obtain ⟨e1, he1⟩ : ∃ e, capU (r.epoch + 1) = e := ⟨_, rfl⟩
    obtain ⟨e2, he2⟩ : ∃ e, capU (now + 600) = e := ⟨_, rfl⟩
    have HE1 : Hid (laterN r.epoch [1] = e1) := (later_cap _ _).trans he1
    have HE2 : Hid (laterN now [600] = e2) := (later_cap _ _).trans he2
    obtain ⟨bb, hbb⟩ : ∃ b, decide (0 < d0 % 10) = b := ⟨_, rfl⟩
    have HG : Hid (decide ((0 : Int) < ((d0 % 10 : Nat) : Int)) = bb) := by
      unfold Hid
      rw [← hbb, decide_eq_decide]
      omega
    obtain ⟨a, ha⟩ : ∃ a, chooseP peers (-1) d1 = a := ⟨_, rfl⟩
    obtain ⟨b, hb⟩ : ∃ b, chooseP peers a d2 = b := ⟨_, rfl⟩
    have HC1 := hide ha
    have HC2 := hide hb
    have hE : tickR r now peers d0 d1 d2 = { r with epoch := e1, fin := e2, stems := bb, s0 := a, s1 := b, ms := List.replicate 65 0, ts := List.replicate 65 false } := by
      unfold tickR
      rw [if_neg h1, he1, he2, hbb, ha, hb]
    have HE := hide hE
    have HS1 := hide (rt_e hsa r e1)
    have HS2 := hide (rt_f hsa { r with epoch := e1 } e2)
    have HS3 := hide (rt_b hsa { r with epoch := e1, fin := e2 } bb)
    have HS4 := hide (rt_0 hsa { r with epoch := e1, fin := e2, stems := bb } a)
    have HS5 := hide (rt_1 hsa { r with epoch := e1, fin := e2, stems := bb, s0 := a } b)
    have HS6 := hide (rt_clear hsa (r := { r with epoch := e1, fin := e2, stems := bb, s0 := a, s1 := b }) hok.ml hok.tl)
    have HA : Hid ((rtC sa { r with epoch := e1, fin := e2, stems := bb, s0 := a })[35]? = some (I64 a)) := head_at hsa { r with epoch := e1, fin := e2, stems := bb, s0 := a } _ (k := 3) (by omega)
    have HLN := hide (rt_lt hsa r)
    have HLN1 := hide (rt_lt hsa { r with epoch := e1 })
    have HLN2 := hide (rt_lt hsa { r with epoch := e1, fin := e2 })
    have HLN3 := hide (rt_lt hsa { r with epoch := e1, fin := e2, stems := bb })
    have HLN4 := hide (rt_lt hsa { r with epoch := e1, fin := e2, stems := bb, s0 := a })
    have HLN5 : Hid (37 + 130 ≤ (rtC sa { r with epoch := e1, fin := e2, stems := bb, s0 := a, s1 := b }).length) := by
      unfold Hid rtC
      rw [List.length_append, headC_len hsa, flatten_length (n := 2) (fun x hx => by
        obtain ⟨y, _, rfl⟩ := List.mem_map.1 hx
        rfl), List.length_map, List.length_zip, hok.ml, hok.tl]
      omega
    have HO : Hid (∀ v ∈ List.replicate 130 (I64 0), v.oneCell' = true) := by
      intro v hv
      rw [List.eq_of_mem_replicate hv]
      rfl
    clear h1 he1 he2 hbb ha hb hE
    go_enter Tryd.func33, Tryd.ntmps33
    go_wp2_with (first
      | go_big_skip
      | (show wpList _ _ _ (⟨some 7, .box _ _, _, _, _, _⟩ :: _) _ _; refine wpS_boxA (cs := [.int .u16 d0, .int .u16 d1, .int .u16 d2]) hS rfl rfl rfl ?_; clear hS; intro nb w hS; go_frame)
      | (show wpList _ _ _ (⟨some 16, .load _ _, _, _, _, _⟩ :: _) _ _; refine wpList_val rfl (op_load1S (b := p) (T := 58) oneU64 ((hS.bring (by repeat (first | exact t0 | apply tS)))) rfl rfl HFI.out) ?_; go_frame)
      | (show wpList _ _ _ (⟨some 17, .binOp _ _ _ _ _, _, _, _, _⟩ :: _) _ _; refine wpList_val rfl (opU_lss rfl rfl rfl H1.out) ?_; go_frame)
      | (show wpList _ _ _ (⟨some 23, .load _ _, _, _, _, _⟩ :: _) _ _; refine wpList_val rfl (op_load1S (b := p) (T := 58) oneU64 ((hS.bring (by repeat (first | exact t0 | apply tS)))) rfl rfl HEP.out) ?_; go_frame)
      | (show wpList _ _ _ (⟨some 24, .buildSlice _ _ _, _, _, _, _⟩ :: _) _ _; refine wpS_build11 slU hS rfl rfl (u := U 1) rfl rfl ?_; clear hS; intro v24 w hS; go_frame)
      | (show wpList _ _ _ (⟨some 30, .buildSlice _ _ _, _, _, _, _⟩ :: _) _ _; refine wpS_build11 slU hS rfl rfl (u := U 600) rfl rfl ?_; clear hS; intro v30 w hS; go_frame)
      | (go_at_call 47; refine Ret.calls (later_any now v30 [600] _ ((hS.bring (by repeat (first | exact t0 | apply tS))).getOwn.rd) hnow HL2.out) ?_; rintro r1 w' ⟨rfl, rfl⟩; rw [HE2.out])
      | (go_at_call 47; refine Ret.calls (later_any r.epoch v24 [1] _ ((hS.bring (by repeat (first | exact t0 | apply tS))).getOwn.rd) hep HL1.out) ?_; rintro r1 w' ⟨rfl, rfl⟩; rw [HE1.out])
      | (show wpList _ _ _ (⟨_, .store 33 (.tmp 27) _, _, _, _, _⟩ :: _) _ _; (refine wpS_store1 (b := p) (i := 32) (T := 58) (by kernel_rfl) (hS.bring (by repeat (first | exact t0 | apply tS))) rfl rfl rfl (v := U e1) rfl rfl rfl (by have := HLN.out; omega) ?_); clear hS; intro w hS; rw [HS1.out] at hS; go_frame)
      | (show wpList _ _ _ (⟨_, .store 33 (.tmp 33) _, _, _, _, _⟩ :: _) _ _; (refine wpS_store1 (b := p) (i := 33) (T := 58) (by kernel_rfl) (hS.bring (by repeat (first | exact t0 | apply tS))) rfl rfl rfl (v := U e2) rfl rfl rfl (by have := HLN1.out; omega) ?_); clear hS; intro w hS; rw [HS2.out] at hS; go_frame)
      | (show wpList _ _ _ (⟨some 35, .indexAddr _ _ _, _, _, _, _⟩ :: _) _ _; refine wpList_val rfl (op_indexArrZ arr3u rfl (b := nb) (off := 0) rfl rfl 0 rfl (by omega)) ?_; go_frame)
      | (show wpList _ _ _ (⟨some 36, .load _ _, _, _, _, _⟩ :: _) _ _; refine wpList_val rfl (op_load1S (b := nb) (T := 36) oneU16 ((hS.bring (by repeat (first | exact t0 | apply tS)))) rfl rfl rfl) ?_; go_frame)
      | (show wpList _ _ _ (⟨some 37, .binOp _ _ _ _ _, _, _, _, _⟩ :: _) _ _; refine wpList_val rfl (op_u16rem rfl (a := d0) (b := 10) rfl rfl (by omega)) ?_; go_frame)
      | (show wpList _ _ _ (⟨some 38, .binOp _ _ _ _ _, _, _, _, _⟩ :: _) _ _; refine wpList_val rfl (op_igtr rfl rfl rfl HG.out) ?_; go_frame)
      | (show wpList _ _ _ (⟨_, .store 4 _ _, _, _, _, _⟩ :: _) _ _; (refine wpS_store1 (b := p) (i := 34) (T := 58) (by kernel_rfl) (hS.bring (by repeat (first | exact t0 | apply tS))) rfl rfl rfl (v := .bool bb) rfl rfl rfl (by have := HLN2.out; omega) ?_); clear hS; intro w hS; rw [HS3.out] at hS; go_frame)
      )
    refine wp_region_text (by kernel_rfl) (by kernel_rfl) (by repeat (first | exact Clean.body | refine Clean.then ?_ | refine Clean.inBlock ?_)) ?_
    replace hS := hS.drew
    go_wp2_with (first
      | (show wpList _ _ _ (⟨some 43, .indexAddr _ _ _, _, _, _, _⟩ :: _) _ _; refine wpList_val rfl (op_indexArrZ arr3u rfl (b := nb) (off := 0) rfl rfl 1 rfl (by omega)) ?_; go_frame)
      | (show wpList _ _ _ (⟨some 44, .load _ _, _, _, _, _⟩ :: _) _ _; refine wpList_val rfl (op_load1S (b := nb) (T := 36) oneU16 ((hS.bring (by repeat (first | exact t0 | apply tS)))) rfl rfl rfl) ?_; go_frame)
      | (go_at_call 40; refine Ret.calls (choose_s hS hv hlen (-1) hd1) ?_; clear hS; rintro r1 w ⟨rfl, hS⟩; rw [HC1.out])
      | (show wpList _ _ _ (⟨some 48, .indexAddr _ _ _, _, _, _, _⟩ :: _) _ _; refine wpList_val rfl (op_indexArrZ arr2i rfl (b := p) (off := 35) rfl rfl 0 rfl (by omega)) ?_; go_frame)
      | (show wpList _ _ _ (⟨_, .store 3 _ _, _, _, _, _⟩ :: _) _ _; (refine wpS_store1 (b := p) (i := 35) (T := 58) (by kernel_rfl) (hS.bring (by repeat (first | exact t0 | apply tS))) rfl rfl rfl (v := I64 a) rfl rfl rfl (by have := HLN3.out; omega) ?_); clear hS; intro w hS; rw [HS4.out] at hS; go_frame)
      | (refine fin_mk (by kernel_rfl) ?_)
      )
    refine wp_region_text (by kernel_rfl) (by kernel_rfl) (by repeat (first | exact Clean.body | refine Clean.then ?_ | refine Clean.inBlock ?_)) ?_
    replace hS := hS.drew
    go_wp2_with (first
      | (show wpList _ _ _ (⟨some 54, .indexAddr _ _ _, _, _, _, _⟩ :: _) _ _; refine wpList_val rfl (op_indexArrZ arr2i rfl (b := p) (off := 35) rfl rfl 0 rfl (by omega)) ?_; go_frame)
      | (show wpList _ _ _ (⟨some 55, .load _ _, _, _, _, _⟩ :: _) _ _; refine wpList_val rfl (op_load1S (b := p) (T := 58) oneInt ((hS.bring (by repeat (first | exact t0 | apply tS)))) rfl rfl HA.out) ?_; go_frame)
      | (show wpList _ _ _ (⟨some 56, .indexAddr _ _ _, _, _, _, _⟩ :: _) _ _; refine wpList_val rfl (op_indexArrZ arr3u rfl (b := nb) (off := 0) rfl rfl 2 rfl (by omega)) ?_; go_frame)
      | (show wpList _ _ _ (⟨some 57, .load _ _, _, _, _, _⟩ :: _) _ _; refine wpList_val rfl (op_load1S (b := nb) (T := 36) oneU16 ((hS.bring (by repeat (first | exact t0 | apply tS)))) rfl rfl rfl) ?_; go_frame)
      | (go_at_call 40; refine Ret.calls (choose_s hS hv hlen a hd2) ?_; clear hS; rintro r1 w ⟨rfl, hS⟩; rw [HC2.out])
      | (show wpList _ _ _ (⟨some 61, .indexAddr _ _ _, _, _, _, _⟩ :: _) _ _; refine wpList_val rfl (op_indexArrZ arr2i rfl (b := p) (off := 35) rfl rfl 1 rfl (by omega)) ?_; go_frame)
      | (show wpList _ _ _ (⟨_, .store 3 _ _, _, _, _, _⟩ :: _) _ _; (refine wpS_store1 (b := p) (i := 36) (T := 58) (by kernel_rfl) (hS.bring (by repeat (first | exact t0 | apply tS))) rfl rfl rfl (v := I64 b) rfl rfl rfl (by have := HLN4.out; omega) ?_); clear hS; intro w hS; rw [HS5.out] at hS; go_frame)
      | (refine fin_mk (by kernel_rfl) ?_)
      | (show wpList _ _ _ (⟨some 63, .build _ _, _, _, _, _⟩ :: _) _ _; refine wpList_val rfl (op_build (ps := #[]) rfl rfl buildSts _) ?_; go_frame)
      | (show wpList _ _ _ (⟨_, .store 56 _ _, _, _, _, _⟩ :: _) _ _; (refine wpS_storeN (b := p) (off := 37) (T := 58) aggSts (hS.bring (by repeat (first | exact t0 | apply tS))) rfl rfl rfl (vs := List.replicate 130 (I64 0)) rfl rfl HO.out HLN5.out ?_); clear hS; intro w hS; rw [HS6.out] at hS; go_frame)
      )
    go_ret
    exact ⟨by rw [H1.out]; rfl, by rw [HE.out]; exact hS.sel (by repeat (first | exact Sel.refl | refine Sel.take (by repeat (first | exact t0 | apply tS)) ?_ | apply Sel.drop))⟩
end
end Go.Proofs.YtlplgobkidpgkaaDoor
namespace Go.Proofs.YtlplgobkidpgkaaDoor
open Go Go.RowKit Go.Px Go.Sha
theorem op_iand1 {P : Program} {o : Oper} {w : World} {ρ : Operand → Value} {t t' : TypeId} {x y : Operand} (ho : o.op = .binOp .and t x y t') {z : Int} (hx : ρ x = .int .i64 z) (hy : ρ y = .int .i64 1) (n : Nat) (hz : z = n) : (execOp ρ o).run P w = .ok (.value (.int .i64 (n % 2 : Nat))) w := by
  subst hz
  have e : (BitVec.ofInt 64 (n : Int) &&& BitVec.ofInt 64 1).toNat = n % 2 := by
    rw [BitVec.toNat_and, BitVec.ofInt_natCast, BitVec.toNat_ofNat, show (BitVec.ofInt 64 1).toNat = 2 ^ 1 - 1 by decide, Nat.and_two_pow_sub_one_eq_mod]
    omega
  have e2 : IntKind.i64.wrap ((n % 2 : Nat) : Int) = ((n % 2 : Nat) : Int) := IntWalk.i64_in _ (by omega)
  unfold execOp
  simp only [ho, hx, hy, Sem.run_bind, run_eqGuard_int, Result.andThen_ok, binOp, ne_eq, not_true_eq_false, if_false, Op.intBits, Sem.run_pure, IntKind.bits]
  exact (congrArg (fun z : Nat => Result.ok (Next.value (Value.int IntKind.i64 (IntKind.i64.wrap (z : Int)))) w) e).trans (by rw [e2])
/-- whose turn it is -/
def kOf (sa : List Byte) (r : Rt) (s : Int) : Nat := routeN sa (BitVec.ofNat 64 r.epoch) s.toNat 2
def wayS (sa : List Byte) (r : Rt) (s : Int) : Int := wayR (kOf sa r s) r s
/-- the successor at a place -/
def at2 (r : Rt) (n : Nat) : Int := if n % 2 = 0 then r.s0 else r.s1
theorem at2_get {sa : List Byte} (hsa : sa.length = 32) (r : Rt) (n : Nat) {m : Nat} (hm : n % 2 = m) : (rtC sa r)[35 + m]? = some (I64 (at2 r n)) := by
  unfold at2
  rw [hm]
  by_cases h0 : m = 0
  · subst h0
    rw [if_pos rfl]
    exact head_at hsa r _ (k := 3) (by omega)
  · have h1 : m = 1 := by omega
    subst h1
    rw [if_neg (by omega)]
    exact head_at hsa r _ (k := 4) (by omega)
theorem way_at {k : Nat} (hk : k < 2) {r : Rt} {s : Int} {t : Bool} (hs : isSrc s = true) (ht : turnB r s = t) {n : Nat} (hn : (k : Int) + turnI t = n) : wayR k r s = way2 (at2 r n) (at2 r (n + 1)) s := by
  unfold wayR
  rw [if_pos hs, ht]
  have hk2 : k = 0 ∨ k = 1 := by omega
  unfold turnI at hn
  unfold at2
  rcases hk2 with rfl | rfl <;> cases t <;> simp at hn
  · have : n = 0 := by omega
    subst this
    simp
  · have : n = 1 := by omega
    subst this
    simp
  · have : n = 1 := by omega
    subst this
    simp
  · have : n = 2 := by omega
    subst this
    simp
theorem way_hit {f : Nat → Int} {s : Int} {j : Nat} (hj : j < 2) (hno : ∀ i, i < j → ¬ (f i ≠ -1 ∧ f i ≠ s)) (h : f j ≠ -1 ∧ f j ≠ s) : way2 (f 0) (f 1) s = f j := by
  have h2 : j = 0 ∨ j = 1 := by omega
  unfold way2
  rcases h2 with rfl | rfl
  · rw [if_pos h]
  · rw [if_neg (hno 0 (by omega)), if_pos h]
theorem way_end {f : Nat → Int} {s : Int} (hno : ∀ i, i < 2 → ¬ (f i ≠ -1 ∧ f i ≠ s)) : way2 (f 0) (f 1) s = -1 := by
  unfold way2
  rw [if_neg (hno 0 (by omega)), if_neg (hno 1 (by omega))]
theorem no_more {f : Nat → Int} {s : Int} {j : Nat} (hno : ∀ i, i < j → ¬ (f i ≠ -1 ∧ f i ≠ s)) (h : ¬ (f j ≠ -1 ∧ f j ≠ s)) : ∀ i, i < j + 1 → ¬ (f i ≠ -1 ∧ f i ≠ s) := fun i hi => by
  by_cases h1 : i = j
  · subst h1
    exact h
  · exact hno i (by omega)
section
variable {R : Nat → Prop} {base w : World} {F : List Hp}
set_option maxRecDepth 100000 in
set_option maxHeartbeats 2000000 in
theorem way_s {p : Nat} {sa : List Byte} {r : Rt} {s : Int} (hS : SepL R base w (.blk p 58 (rtC sa r) :: F)) (hK : CIn R base 1 (kTab.map W32)) (hF : CIn R base 0 (first.map W32)) (hsa : sa.length = 32) (hok : ROk 3 r) :
    Calls Tryd.prog 14 #[.pointer (some ⟨p, 0, none⟩), I64 s] w (Ret fun y w' => y = I64 (wayS sa r s) ∧ SepL R base w' (.blk p 58 (rtC sa r) :: F)) := by
  cases hs : isSrc s with
  | false =>
    have HE : Hid (wayS sa r s = -1) := by
      unfold Hid wayS wayR
      rw [hs]
      rfl
    go_enter Tryd.func14, Tryd.ntmps14
    go_wp2_with (first
      | (go_at_call 34; refine Ret.calls (at_no hS hs) ?_; clear hS; rintro r1 w ⟨rfl, hS⟩)
      )
    go_ret
    exact ⟨by rw [HE.out]; rfl, hS⟩
  | true =>
    obtain ⟨hk, he⟩ := src_lt hs
    obtain ⟨k, hk0⟩ : ∃ k, s.toNat = k := ⟨_, rfl⟩
    rw [hk0] at hk he
    subst he
    have hm := List.getElem?_eq_getElem (show k < r.ms.length by rw [hok.ml]; exact hk)
    have ht := List.getElem?_eq_getElem (show k < r.ts.length by rw [hok.tl]; exact hk)
    obtain ⟨t, ht1⟩ : ∃ t, r.ts[k]'(by rw [hok.tl]; exact hk) = t := ⟨_, rfl⟩
    rw [ht1] at ht
    have htb : turnB r k = t := by
      rw [turnB_of hs, hk0, ht]
      rfl
    have HT := hide (rt_turn hsa hm ht)
    have HEP : Hid ((rtC sa r)[32]? = some (W64 (BitVec.ofNat 64 r.epoch))) := by
      unfold Hid
      rw [← U_of hok.ep]
      exact head_at hsa r _ (k := 0) (by omega)
    have HSA : Hid (((rtC sa r).drop 0).take 32 = sa.map B8) := head_salt hsa r _
    have HSL : Hid ((sa.map B8).length = 32) := by simp [Hid, hsa]
    obtain ⟨q, hq⟩ : ∃ q, routeN sa (BitVec.ofNat 64 r.epoch) k 2 = q := ⟨_, rfl⟩
    have hq2 : q < 2 := by
      rw [← hq]
      exact routeN_lt sa _ k (by omega)
    have hqk : kOf sa r k = q := by
      unfold kOf
      rw [hk0, hq]
    have HR : ∀ {w : World} {F : List Hp}, SepL R base w F → Calls Tryd.prog 35 #[.agg (sa.map B8).toArray, W64 (BitVec.ofNat 64 r.epoch), .int .i64 (k : Nat), .int .i64 2] w (Ret fun y w' => y = .tuple #[.int .i64 (q : Nat), .int .i64 0] ∧ SepL R base w' F) := fun hS => by
      have h1 := route_s hS hK hF hsa (BitVec.ofNat 64 r.epoch) k 2 (by omega) (by omega) (by omega)
      rw [hq] at h1
      exact h1
    obtain ⟨n, hn⟩ : ∃ n : Nat, (q : Int) + turnI t = n := by
      cases t
      · exact ⟨q, by simp [turnI]⟩
      · exact ⟨q + 1, by simp [turnI]⟩
    have hn3 : n ≤ 2 := by
      have : turnI t ≤ 1 := by cases t <;> decide
      omega
    have hW : wayS sa r k = way2 (at2 r n) (at2 r (n + 1)) k := by
      unfold wayS
      rw [hqk]
      exact way_at hq2 hs htb hn
    have HN := hide hn
    have HWH : Hid (∀ j, j < 2 → (∀ i, i < j → ¬ (at2 r (n + i) ≠ -1 ∧ at2 r (n + i) ≠ k)) → (at2 r (n + j) ≠ -1 ∧ at2 r (n + j) ≠ k) → wayS sa r k = at2 r (n + j)) := fun j hj h1 h2 => hW.trans (way_hit (f := fun i => at2 r (n + i)) hj h1 h2)
    have HWE : Hid ((∀ i, i < 2 → ¬ (at2 r (n + i) ≠ -1 ∧ at2 r (n + i) ≠ k)) → wayS sa r k = -1) := fun h1 => hW.trans (way_end (f := fun i => at2 r (n + i)) h1)
    have HAT : Hid (∀ j m, (n + j) % 2 = m → (rtC sa r)[35 + m]? = some (I64 (at2 r (n + j)))) := fun j m h => at2_get hsa r _ h
    clear hm ht ht1 htb hs hk0 hq hqk hn hW hq2
    go_enter Tryd.func14, Tryd.ntmps14
    go_wp2_with (first
      | (go_at_call 34; refine Ret.calls (at_yes (k := k) hS (by omega)) ?_; clear hS; rintro r1 w ⟨rfl, hS⟩)
      )
    refine wp_region_text (by kernel_rfl) (by kernel_rfl) (by repeat (first | exact Clean.body | refine Clean.then ?_ | refine Clean.inBlock ?_)) ?_
    replace hS := hS.drew
    go_wp2_with (first
      | (show wpList _ _ _ (⟨some 19, .load _ _, _, _, _, _⟩ :: _) _ _; refine wpList_val rfl (op_load agg32b rfl rfl ((SepL.getBlk (b := p) (T := 58) ((hS.bring (by repeat (first | exact t0 | apply tS))))).cells.subN 0 32 HSA.out) HSL.out) ?_; go_frame)
      | (show wpList _ _ _ (⟨some 23, .load _ _, _, _, _, _⟩ :: _) _ _; refine wpList_val rfl (op_load1S (b := p) (T := 58) oneU64 ((hS.bring (by repeat (first | exact t0 | apply tS)))) rfl rfl HEP.out) ?_; go_frame)
      | (go_at_call 35; refine Ret.calls (HR hS) ?_; clear hS; rintro r1 w ⟨rfl, hS⟩)
      | (refine fin_mk (by kernel_rfl) ?_)
      )
    go_loopw [28] (fun i wr => ∃ j : Nat, i = .int .i64 j ∧ j ≤ 2 ∧ Hid (∀ i, i < j → ¬ (at2 r (n + i) ≠ -1 ∧ at2 r (n + i) ≠ k)) ∧ SepL R base wr (.blk p 58 (rtC sa r) :: F)) (fun i _ => 2 - (intOf i).toNat)
    case atStart => exact ⟨0, rfl, by omega, fun i hi => absurd hi (by omega), hS⟩
    case round =>
      clear hS
      obtain ⟨j, rfl, hj, HNO, hS⟩ := hrel
      by_cases hlt : j < 2
      · obtain ⟨m, hm⟩ : ∃ m, (n + j) % 2 = m := ⟨_, rfl⟩
        have hm2 : m < 2 := by omega
        have HM := hide hm
        have hY := HAT.out j m hm
        obtain ⟨y, hy⟩ : ∃ y, at2 r (n + j) = y := ⟨_, rfl⟩
        have hh := HWH.out j hlt HNO.out
        have hmr := no_more (f := fun i => at2 r (n + i)) (s := (k : Int)) (j := j) HNO.out
        simp only [hy] at hY hh hmr
        have HY := hide hY
        clear hY hm hy
        by_cases h1 : y = -1
        · have HA := neF h1
          have HNM := hide (hmr (fun h => h.1 h1))
          clear h1 hh hmr
          go_wp2_with fail
          refine wp_region_text (by kernel_rfl) (by kernel_rfl) (by repeat (first | exact Clean.body | refine Clean.then ?_ | refine Clean.inBlock ?_)) ?_
          replace hS := hS.drew
          go_wp2_with (first
            | go_big_skip
            | (show wpList _ _ _ (⟨some 36, .load _ _, _, _, _, _⟩ :: _) _ _; refine wpList_val rfl (op_load1S (b := p) (T := 58) oneIn ((hS.bring (by repeat (first | exact t0 | apply tS)))) rfl rfl HT.out) ?_; go_frame)
            | (show wpList _ _ _ (⟨some 37, .binOp _ _ _ _ _, _, _, _, _⟩ :: _) _ _; refine wpList_val rfl (op_iaddN rfl rfl rfl n HN.out (by omega)) ?_; go_frame)
            | (show wpList _ _ _ (⟨some 39, .binOp _ _ _ _ _, _, _, _, _⟩ :: _) _ _; refine wpList_val rfl (op_iaddN rfl rfl rfl (n + j) (by omega) (by omega)) ?_; go_frame)
            | (show wpList _ _ _ (⟨some 40, .binOp _ _ _ _ _, _, _, _, _⟩ :: _) _ _; refine wpList_val rfl (op_iand1 rfl rfl rfl (n + j) rfl) ?_; rw [HM.out]; go_frame)
            | (show wpList _ _ _ (⟨some 43, .indexAddr _ _ _, _, _, _, _⟩ :: _) _ _; refine wpList_val rfl (op_indexArr arr2i rfl (b := p) (off := 35) rfl (k := m) rfl hm2) ?_; go_frame)
            | (show wpList _ _ _ (⟨some 44, .load _ _, _, _, _, _⟩ :: _) _ _; refine wpList_val rfl (op_load1S (b := p) (T := 58) oneInt ((hS.bring (by repeat (first | exact t0 | apply tS)))) rfl rfl HY.out) ?_; go_frame)
            | (show wpList _ _ _ (⟨some 46, .binOp _ _ _ _ _, _, _, _, _⟩ :: _) _ _; refine wpList_val rfl (op_ineI rfl rfl rfl HA.out) ?_; go_frame)
            | (show wpList _ _ _ (⟨some 50, .binOp _ _ _ _ _, _, _, _, _⟩ :: _) _ _; refine wpList_val rfl (op_ineI rfl rfl rfl HB.out) ?_; go_frame)
            | (refine fin_mk (by kernel_rfl) ?_)
            )
          go_roundw
          case rel => exact ⟨j + 1, by go_num, by omega, HNM, hS⟩
          case measure => simp [intOf]; omega
        · have HA := neT h1
          by_cases h2 : y = (k : Int)
          · have HB := neF h2
            have HNM := hide (hmr (fun h => h.2 h2))
            clear h1 h2 hh hmr
            go_wp2_with fail
            refine wp_region_text (by kernel_rfl) (by kernel_rfl) (by repeat (first | exact Clean.body | refine Clean.then ?_ | refine Clean.inBlock ?_)) ?_
            replace hS := hS.drew
            go_wp2_with (first
              | go_big_skip
              | (show wpList _ _ _ (⟨some 36, .load _ _, _, _, _, _⟩ :: _) _ _; refine wpList_val rfl (op_load1S (b := p) (T := 58) oneIn ((hS.bring (by repeat (first | exact t0 | apply tS)))) rfl rfl HT.out) ?_; go_frame)
              | (show wpList _ _ _ (⟨some 37, .binOp _ _ _ _ _, _, _, _, _⟩ :: _) _ _; refine wpList_val rfl (op_iaddN rfl rfl rfl n HN.out (by omega)) ?_; go_frame)
              | (show wpList _ _ _ (⟨some 39, .binOp _ _ _ _ _, _, _, _, _⟩ :: _) _ _; refine wpList_val rfl (op_iaddN rfl rfl rfl (n + j) (by omega) (by omega)) ?_; go_frame)
              | (show wpList _ _ _ (⟨some 40, .binOp _ _ _ _ _, _, _, _, _⟩ :: _) _ _; refine wpList_val rfl (op_iand1 rfl rfl rfl (n + j) rfl) ?_; rw [HM.out]; go_frame)
              | (show wpList _ _ _ (⟨some 43, .indexAddr _ _ _, _, _, _, _⟩ :: _) _ _; refine wpList_val rfl (op_indexArr arr2i rfl (b := p) (off := 35) rfl (k := m) rfl hm2) ?_; go_frame)
              | (show wpList _ _ _ (⟨some 44, .load _ _, _, _, _, _⟩ :: _) _ _; refine wpList_val rfl (op_load1S (b := p) (T := 58) oneInt ((hS.bring (by repeat (first | exact t0 | apply tS)))) rfl rfl HY.out) ?_; go_frame)
              | (show wpList _ _ _ (⟨some 46, .binOp _ _ _ _ _, _, _, _, _⟩ :: _) _ _; refine wpList_val rfl (op_ineI rfl rfl rfl HA.out) ?_; go_frame)
              | (show wpList _ _ _ (⟨some 50, .binOp _ _ _ _ _, _, _, _, _⟩ :: _) _ _; refine wpList_val rfl (op_ineI rfl rfl rfl HB.out) ?_; go_frame)
              | (refine fin_mk (by kernel_rfl) ?_)
              )
            go_roundw
            case rel => exact ⟨j + 1, by go_num, by omega, HNM, hS⟩
            case measure => simp [intOf]; omega
          · have HB := neT h2
            have HE := hide (hh ⟨h1, h2⟩)
            clear h1 h2 hh hmr
            go_wp2_with fail
            refine wp_region_text (by kernel_rfl) (by kernel_rfl) (by repeat (first | exact Clean.body | refine Clean.then ?_ | refine Clean.inBlock ?_)) ?_
            replace hS := hS.drew
            go_wp2_with (first
              | go_big_skip
              | (show wpList _ _ _ (⟨some 36, .load _ _, _, _, _, _⟩ :: _) _ _; refine wpList_val rfl (op_load1S (b := p) (T := 58) oneIn ((hS.bring (by repeat (first | exact t0 | apply tS)))) rfl rfl HT.out) ?_; go_frame)
              | (show wpList _ _ _ (⟨some 37, .binOp _ _ _ _ _, _, _, _, _⟩ :: _) _ _; refine wpList_val rfl (op_iaddN rfl rfl rfl n HN.out (by omega)) ?_; go_frame)
              | (show wpList _ _ _ (⟨some 39, .binOp _ _ _ _ _, _, _, _, _⟩ :: _) _ _; refine wpList_val rfl (op_iaddN rfl rfl rfl (n + j) (by omega) (by omega)) ?_; go_frame)
              | (show wpList _ _ _ (⟨some 40, .binOp _ _ _ _ _, _, _, _, _⟩ :: _) _ _; refine wpList_val rfl (op_iand1 rfl rfl rfl (n + j) rfl) ?_; rw [HM.out]; go_frame)
              | (show wpList _ _ _ (⟨some 43, .indexAddr _ _ _, _, _, _, _⟩ :: _) _ _; refine wpList_val rfl (op_indexArr arr2i rfl (b := p) (off := 35) rfl (k := m) rfl hm2) ?_; go_frame)
              | (show wpList _ _ _ (⟨some 44, .load _ _, _, _, _, _⟩ :: _) _ _; refine wpList_val rfl (op_load1S (b := p) (T := 58) oneInt ((hS.bring (by repeat (first | exact t0 | apply tS)))) rfl rfl HY.out) ?_; go_frame)
              | (show wpList _ _ _ (⟨some 46, .binOp _ _ _ _ _, _, _, _, _⟩ :: _) _ _; refine wpList_val rfl (op_ineI rfl rfl rfl HA.out) ?_; go_frame)
              | (show wpList _ _ _ (⟨some 50, .binOp _ _ _ _ _, _, _, _, _⟩ :: _) _ _; refine wpList_val rfl (op_ineI rfl rfl rfl HB.out) ?_; go_frame)
              | (refine fin_mk (by kernel_rfl) ?_)
              )
            go_ret
            exact ⟨by rw [HE.out]; rfl, hS⟩
      · have hj2 : j = 2 := by omega
        subst hj2
        have HE := hide (HWE.out HNO.out)
        go_wp2_with fail
        go_ret
        exact ⟨by rw [HE.out]; rfl, hS⟩
end
end Go.Proofs.YtlplgobkidpgkaaDoor
