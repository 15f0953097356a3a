/- The document's examples; what the laws share; the arguments. Conditions: those that stand ahead of each theorem. -/
import Derived.Test.YtieobcaegegboaaDoorGWfA
import Derived.Test.YtieobcaegegboaaDoorGWfB
import Derived.Deep.DeepCutAuto
import Derived.Test.YtieobcaegegboaaDoorArgs
import Derived.Lib.SmallJoins
import Derived.WideKeyArr2
namespace Go.Proofs.YtieobcaegegboaaDoor
open Go Go.RowKit Go.Px Go.Sha Go.Calc Go.WideMaps
theorem own_form {T n : Nat} {w : World} {v : Value} {xs : List (List Value)} (h : Own T n w v xs) (hne : xs ≠ []) : ∃ b off cap, v = .slice (some ⟨b, off, none⟩) xs.length cap := by
  rcases h.2 with ⟨_, h⟩ | ⟨b, off, cap, C, h, _⟩
  · exact absurd h hne
  · exact ⟨b, off, cap, h⟩
theorem own_form1 {T n : Nat} {w : World} {v : Value} {x : List Value} (h : Own T n w v [x]) : ∃ b off cap, v = .slice (some ⟨b, off, none⟩) 1 cap := own_form h (by simp)
theorem pay_one (H : HFn) (tx : List (BitVec 8)) (k : List (BitVec 8)) (lk : List (BitVec 8)) (hk : k.length ≤ 64) : payN H ⟨0, [⟨tx, 0, k⟩], [⟨7, lk⟩]⟩ [⟨10, H k⟩] = (3, 0) := by
  have hc : checkN ⟨0, [⟨tx, 0, k⟩], [⟨7, lk⟩]⟩ = 0 := by
    refine check_ok.2 ⟨?_, by simp, by simp, by simp [moneyB], by simp [twiceB, once]⟩
    simp [formB, hk]
  rw [pay_yes hc rfl (by simp [lockB]) (by simp [sumO]) (by simp [sumO])]
  rfl
def wA : List Wt := [⟨5, 10⟩, ⟨6, 10⟩, ⟨1, 2⟩]
theorem ord_wA : ordK wA wA.length = [1, 0, 2] := by decide +kernel
theorem worst_wA : worstK wA wA.length = 0 := by decide +kernel
theorem less_A : decide (lessW ⟨1, 10⟩ ⟨2, 19⟩) = true := by decide +kernel
theorem floor_A : floorN 250 = 25 := by decide +kernel
theorem wA_ok : ∀ a ∈ wA, WOk a := by
  intro a ha
  simp only [wA, List.mem_cons, List.not_mem_nil, or_false] at ha
  rcases ha with rfl | rfl | rfl <;> exact ⟨by decide, by decide, by decide⟩
section
variable {R : Nat → Prop} {base w : World} {F : List Hp}
set_option maxRecDepth 100000
theorem order_o {v : Value} {l : List Wt} (hS : SepL R base w (.own 53 2 v (l.map wtC) :: F)) (ok : ∀ a ∈ l, WOk a) (hlen : l.length ≤ 1000000) :
    Calls Tryd.prog 20 #[v] w (Ret fun r w' => SepL R base w' (.own 53 2 v (l.map wtC) :: .own 3 1 r (ints (ordK l l.length)) :: F)) := by
  obtain ⟨R1, h1, h2, h3, h4⟩ := hS.freezeOwn
  refine Ret.calls (order_s h1 ⟨h2, ok⟩ hlen) ?_
  exact fun r w' h5 => h4 w' _ h5
theorem worst_o {v : Value} {l : List Wt} (hS : SepL R base w (.own 53 2 v (l.map wtC) :: F)) (ok : ∀ a ∈ l, WOk a) (hlen : l.length ≤ 1000000) :
    Calls Tryd.prog 22 #[v] w (Ret fun r w' => r = I64 (worstK l l.length) ∧ SepL R base w' (.own 53 2 v (l.map wtC) :: F)) := by
  obtain ⟨R1, h1, h2, h3, h4⟩ := hS.freezeOwn
  refine Ret.calls (worst_s h1 ⟨h2, ok⟩ hlen) ?_
  rintro r w' ⟨h5, h6⟩
  exact ⟨h5, h4 w' _ h6⟩
theorem lock_o {T : Nat} {v : Value} {bs : List Byte} (hS : SepL R base w (.own T 1 v (bytes bs) :: F)) (hK : CIn R base 3 (kTab.map W32)) (hF : CIn R base 0 (first.map W32)) (hn : bs.length < 4611686018427386000) :
    Calls Tryd.prog 15 #[v] w (Ret fun r w' => r = HV (sum bs) ∧ SepL R base w' (.own T 1 v (bytes bs) :: F)) := by
  obtain ⟨R1, h1, h2, h3, h4⟩ := hS.freezeOwn
  refine Ret.calls (lock_s h1 (kTab_mv hK h3) (first_mv hF h3) h2 hn) ?_
  rintro r w' ⟨h5, h6⟩
  exact ⟨h5, h4 w' _ h6⟩
/-- a transaction of one input, all of it one's own -/
theorem of_o {T1 T2 T3 T4 : Nat} {ver : Nat} {vk vi vo vp : Value} {x : PIn} {outs prev : List POut} (hS : SepL R base w (.own T1 1 vk (bytes x.key) :: .own T2 34 vi [inC (x, vk)] :: .own T3 33 vo (outs.map outC) :: .own T4 33 vp (prev.map outC) :: F)) (hK : CIn R base 3 (kTab.map W32)) (hF : CIn R base 0 (first.map W32)) (hx : x.tx.length = 32 ∧ x.n < 4294967296) (ho : ∀ o ∈ outs, OOk o) (hp : ∀ o ∈ prev, OOk o) :
    Calls Tryd.prog 13 #[.agg #[N32 ver, vi, vo], vp] w (Ret fun r w' => r = .tuple #[U (payN sum ⟨ver, [x], outs⟩ prev).1, .int .i64 (((payN sum ⟨ver, [x], outs⟩ prev).2 : Nat) : Int)] ∧ SepL R base w' (.own T1 1 vk (bytes x.key) :: .own T2 34 vi [inC (x, vk)] :: .own T3 33 vo (outs.map outC) :: .own T4 33 vp (prev.map outC) :: F)) := by
  obtain ⟨R1, a1, a2, a3, a4⟩ := hS.freezeOwn
  obtain ⟨R2, b1, b2, b3, b4⟩ := a1.freezeOwn
  obtain ⟨R3, c1, c2, c3, c4⟩ := b1.freezeOwn
  obtain ⟨R4, d1, d2, d3, d4⟩ := c1.freezeOwn
  have f : ∀ n v xs, RdIn R base n v xs → RdIn R4 w n v xs := fun n v xs h => d3 _ _ _ (c3 _ _ _ (b3 _ _ _ (a3 _ _ _ h)))
  refine Ret.calls (of_s (m := ⟨ver, [(x, vk)], outs, vi, vo⟩) (pv := vp) (prev := prev) d1 (kTab_mv hK f) (first_mv hF f) ⟨d3 _ _ _ (c3 _ _ _ b2), fun p hp => ?_, fun p hp => ?_, ⟨d3 _ _ _ c2, ho⟩⟩ ⟨d2, hp⟩) ?_
  · rw [List.mem_singleton.1 hp]
    exact d3 _ _ _ (c3 _ _ _ (b3 _ _ _ a2))
  · rw [List.mem_singleton.1 hp]
    exact hx
  · rintro r w' ⟨h5, h6⟩
    exact ⟨h5, a4 w' _ (b4 w' _ (c4 w' _ (d4 w' _ h6)))⟩
def z32 : List Byte := List.replicate 32 0
theorem buildI (b off cap : Nat) (w : World) : (Instr.build 39 #[(1, .slice (some ⟨b, off, none⟩) 1 cap)]).run Tryd.prog w = .ok (.agg (inC (⟨z32, 0, [5#8]⟩, .slice (some ⟨b, off, none⟩) 1 cap)).toArray) w := run_build w 39 _ _ (by kernel_rfl)
theorem buildO7 (w : World) : (Instr.build 60 #[(0, U 7)]).run Tryd.prog w = .ok (.agg (outC ⟨7, z32⟩).toArray) w := run_build w 60 _ _ (by kernel_rfl)
theorem buildT (b off cap b2 off2 cap2 : Nat) (w : World) : (Instr.build 26 #[(1, .slice (some ⟨b, off, none⟩) 1 cap), (2, .slice (some ⟨b2, off2, none⟩) 1 cap2)]).run Tryd.prog w = .ok (.agg #[N32 0, .slice (some ⟨b, off, none⟩) 1 cap, .slice (some ⟨b2, off2, none⟩) 1 cap2]) w := run_build w 26 _ _ (by kernel_rfl)
theorem buildO (n : Nat) (lk : List Byte) (h : lk.length = 32) (w : World) : (Instr.build 60 #[(0, U n), (1, .agg (lk.map B8).toArray)]).run Tryd.prog w = .ok (.agg (outC ⟨n, lk⟩).toArray) w := by
  match lk, h with
  | [a0, a1, a2, a3, a4, a5, a6, a7, a8, a9, a10, a11, a12, a13, a14, a15, a16, a17, a18, a19, a20, a21, a22, a23, a24, a25, a26, a27, a28, a29, a30, a31], _ => exact run_build w 60 _ _ (by kernel_rfl)
theorem szW : ∀ v ∈ [Value.agg #[U 5, I64 10], .agg #[U 6, I64 10], .agg #[U 1, I64 2]], v.cells.size = 2 := by
  intro v hv
  simp only [List.mem_cons, List.not_mem_nil, or_false] at hv
  rcases hv with rfl | rfl | rfl <;> rfl
theorem own_wA {v : Value} (hS : SepL R base w (.own 53 2 v ([Value.agg #[U 5, I64 10], .agg #[U 6, I64 10], .agg #[U 1, I64 2]].map fun v => v.cells.toList) :: F)) : SepL R base w (.own 53 2 v (wA.map wtC) :: F) := hS
set_option maxHeartbeats 4000000 in
theorem alive_s (hS : SepL R base w F) (hK : CIn R base 3 (kTab.map W32)) (hF : CIn R base 0 (first.map W32)) :
    Calls Tryd.prog 11 #[] w (Ret fun r w' => r = .bool true ∧ SepL R base w' F) := by
  obtain ⟨lk, hlk⟩ : ∃ lk, sum [5#8] = lk := ⟨_, rfl⟩
  have HLKL : Hid (lk.length = 32) := by unfold Hid; rw [← hlk, sum_len]
  have HOL : Hid ((outC ⟨10, lk⟩).length = 33) := outC_len ⟨(by show (10 : Nat) < 18446744073709551616; omega), HLKL.out⟩
  have CLK : Hid (∀ {v : Value} {w : World} {F : List Hp}, SepL R base w (.own 5 1 v [[B8 5#8]] :: F) → Calls Tryd.prog 15 #[v] w (Ret fun r w' => r = .agg (lk.map B8).toArray ∧ SepL R base w' F)) := fun {v w F} hS => by
    have g := lock_o (bs := [5#8]) hS hK hF (by decide)
    rw [hlk] at g
    exact Ret.calls g fun r w' h => ⟨h.1, h.2.tail⟩
  have CP : Hid (∀ (b6 o6 c6 b8 o8 c8 b10 o10 c10 : Nat) (v17 : Value) (F : List Hp) (w : World), SepL R base w (.own 5 1 (.slice (some ⟨b6, o6, none⟩) 1 c6) [[B8 5#8]] :: .own 39 34 (.slice (some ⟨b8, o8, none⟩) 1 c8) [inC (⟨z32, 0, [5#8]⟩, .slice (some ⟨b6, o6, none⟩) 1 c6)] :: .own 60 33 (.slice (some ⟨b10, o10, none⟩) 1 c10) [outC ⟨7, z32⟩] :: .own 60 33 v17 [outC ⟨10, lk⟩] :: F) →
      Calls Tryd.prog 13 #[.agg #[N32 0, .slice (some ⟨b8, o8, none⟩) 1 c8, .slice (some ⟨b10, o10, none⟩) 1 c10], v17] w (Ret fun r w' => r = .tuple #[U 3, .int .i64 0] ∧ SepL R base w' F)) := fun b6 o6 c6 b8 o8 c8 b10 o10 c10 v17 F w hS => by
    have g := of_o (ver := 0) (x := ⟨z32, 0, [5#8]⟩) (outs := [⟨7, z32⟩]) (prev := [⟨10, lk⟩]) hS hK hF (by decide) (by intro o ho; rw [List.mem_singleton.1 ho]; exact ⟨by decide, by decide⟩) (by intro o ho; rw [List.mem_singleton.1 ho]; exact ⟨(by show (10 : Nat) < 18446744073709551616; omega), HLKL.out⟩)
    have e := pay_one sum z32 [5#8] z32 (by decide)
    rw [hlk] at e
    rw [e] at g
    exact Ret.calls g fun r w' h => ⟨h.1, h.2.tail.tail.tail.tail⟩
  have COR : Hid (∀ (v : Value) (F : List Hp) (w : World), SepL R base w (.own 53 2 v (wA.map wtC) :: F) → Calls Tryd.prog 20 #[v] w (Ret fun r w' => SepL R base w' (.own 53 2 v (wA.map wtC) :: .own 3 1 r (ints [1, 0, 2]) :: F))) := fun v F w hS => by
    have g := order_o hS wA_ok (by decide)
    rwa [ord_wA] at g
  have CWO : Hid (∀ (v : Value) (F : List Hp) (w : World), SepL R base w (.own 53 2 v (wA.map wtC) :: F) → Calls Tryd.prog 22 #[v] w (Ret fun r w' => r = I64 0 ∧ SepL R base w' F)) := fun v F w hS => by
    have g := worst_o hS wA_ok (by decide)
    rw [worst_wA] at g
    exact Ret.calls g fun r w' h => ⟨h.1, h.2.tail⟩
  have CFL : Hid (∀ (F : List Hp) (w : World), SepL R base w F → Calls Tryd.prog 17 #[I64 250] w (Ret fun r w' => r = U 25 ∧ SepL R base w' F)) := fun F w hS => by
    have g := floor_s (z := 250) ⟨by omega, by omega⟩ hS
    rwa [floor_A] at g
  have CLE : Hid (∀ (F : List Hp) (w : World), SepL R base w F → Calls Tryd.prog 24 #[.agg #[U 1, I64 10], .agg #[U 2, I64 19]] w (Ret fun r w' => r = .bool true ∧ SepL R base w' F)) := fun F w hS =>
    less_s (a := ⟨1, 10⟩) (b := ⟨2, 19⟩) hS ⟨by decide, by decide, by decide⟩ ⟨by decide, by decide, by decide⟩ less_A
  clear hlk
  go_enter Tryd.func11, Tryd.ntmps11
  go_wp2_with (first
    | (show wpList _ _ _ (⟨some 6, .buildSlice _ _ _, _, _, _, _⟩ :: _) _ _; refine wpS_build11 slBytes hS rfl rfl (u := B8 5#8) rfl rfl ?_; clear hS; intro v6 w hS; obtain ⟨b6, o6, c6, hv6⟩ := own_form1 hS.getOwn; subst hv6; go_frame)
    | (show wpList _ _ _ (⟨some 7, .build _ _, _, _, _, _⟩ :: _) _ _; refine wpList_val rfl (op_build (ps := #[(1, .slice (some ⟨b6, o6, none⟩) 1 c6)]) rfl rfl (buildI b6 o6 c6) _) ?_; go_frame)
    | (show wpList _ _ _ (⟨some 8, .buildSlice _ _ _, _, _, _, _⟩ :: _) _ _; refine wpS_build1A slIns (by omega) hS rfl rfl (cs := inC (⟨z32, 0, [5#8]⟩, .slice (some ⟨b6, o6, none⟩) 1 c6)) rfl rfl ?_; clear hS; intro v8 w hS; obtain ⟨b8, o8, c8, hv8⟩ := own_form1 hS.getOwn; subst hv8; go_frame)
    | (show wpList _ _ _ (⟨some 9, .build _ _, _, _, _, _⟩ :: _) _ _; refine wpList_val rfl (op_build (ps := #[(0, U 7)]) rfl rfl buildO7 _) ?_; go_frame)
    | (show wpList _ _ _ (⟨some 10, .buildSlice _ _ _, _, _, _, _⟩ :: _) _ _; refine wpS_build1A slOuts (by omega) hS rfl rfl (cs := outC ⟨7, z32⟩) rfl rfl ?_; clear hS; intro v10 w hS; obtain ⟨b10, o10, c10, hv10⟩ := own_form1 hS.getOwn; subst hv10; go_frame)
    | (show wpList _ _ _ (⟨some 11, .build _ _, _, _, _, _⟩ :: _) _ _; refine wpList_val rfl (op_build (ps := #[(1, .slice (some ⟨b8, o8, none⟩) 1 c8), (2, .slice (some ⟨b10, o10, none⟩) 1 c10)]) rfl rfl (buildT b8 o8 c8 b10 o10 c10) _) ?_; go_frame)
    | (show wpList _ _ _ (⟨some 1, .alloc _, _, _, _, _⟩ :: _) _ _; refine wpS_alloc hS rfl rfl Tryd.zeroValue26 (zs := [N32 0, .slice none 0 0, .slice none 0 0]) rfl ?_; clear hS; intro n1 w hS; go_frame)
    | (show wpList _ _ _ (⟨_, .store 26 _ _, _, _, _, _⟩ :: _) _ _; (refine wpS_storeAll (b := n1) aggTx (hS.bring (by repeat (first | exact t0 | apply tS))) rfl rfl rfl (vs := [N32 0, .slice (some ⟨b8, o8, none⟩) 1 c8, .slice (some ⟨b10, o10, none⟩) 1 c10]) rfl rfl (by simp [Value.oneCell']) rfl ?_); clear hS; intro w hS; go_frame)
    )
  refine wp_region_ord (by kernel_rfl) [1] [[0, 1, 2, 3, 4, 5, 6, 7, 8, 9, 10]] (by kernel_rfl) (by kernel_rfl) (fun w' => Blk w' n1 26 [N32 0, .slice (some ⟨b8, o8, none⟩) 1 c8, .slice (some ⟨b10, o10, none⟩) 1 c10]) Up.blk ((hS.bring (by repeat (first | exact t0 | apply tS))).getBlk) (by repeat (first | exact Clean.body | refine Clean.then ?_ | refine Clean.inBlock ?_ | refine SegQ.clean ?_ | refine FinC.clean ?_)) ?_
  replace hS := hS.drew
  refine ord_seg (by repeat (first | exact Clean.body | refine Clean.then ?_ | refine Clean.inBlock ?_ | refine SegQ.clean ?_ | refine FinC.clean ?_)) (n := 8) (rest := [[3, 4, 5, 6, 7, 8, 9, 10]]) [0, 1, 2] [⟨_, _, _, _, _, _⟩, ⟨_, _, _, _, _, _⟩, ⟨_, _, _, _, _, _⟩] rfl (by kernel_rfl) (by simp) _ _ ?_
  go_wp2_with (first
    | (show wpList _ _ _ (⟨some 13, .load _ _, _, _, _, _⟩ :: _) _ _; refine wpList_val rfl (op_load aggTx rfl rfl (SepL.getBlk (b := n1) (T := 26) ((hS.bring (by repeat (first | exact t0 | apply tS))))).cells rfl) ?_; go_frame)
    | (show wpList _ _ _ (⟨some 14, .buildSlice _ _ _, _, _, _, _⟩ :: _) _ _; refine wpS_build11 slBytes hS rfl rfl (u := B8 5#8) rfl rfl ?_; clear hS; intro v14 w hS; go_frame)
    | (go_at_call 15; refine Ret.calls (CLK.out hS) ?_; clear hS; rintro r1 w ⟨rfl, hS⟩)
    | (show wpList _ _ _ (⟨some 16, .build _ _, _, _, _, _⟩ :: _) _ _; refine wpList_val rfl (op_build (ps := #[(0, U 10), (1, .agg (lk.map B8).toArray)]) rfl rfl (buildO 10 lk HLKL.out) _) ?_; go_frame)
    | (show wpList _ _ _ (⟨some 17, .buildSlice _ _ _, _, _, _, _⟩ :: _) _ _; refine wpS_build1A slOuts (by omega) hS rfl rfl (cs := outC ⟨10, lk⟩) rfl HOL.out ?_; clear hS; intro v17 w hS; go_frame)
    | (go_at_call 13; refine Ret.calls (CP.out b6 o6 c6 b8 o8 c8 b10 o10 c10 v17 (.blk n1 26 [N32 0, .slice (some ⟨b8, o8, none⟩) 1 c8, .slice (some ⟨b10, o10, none⟩) 1 c10] :: F) w (by exact hS.sel (by repeat (first | exact Sel.refl | refine Sel.take (by repeat (first | exact t0 | apply tS)) ?_ | apply Sel.drop)))) ?_; clear hS; rintro r1 w ⟨rfl, hS⟩)
    )
  refine segQ_mk (((hS.bring (by repeat (first | exact t0 | apply tS))).getBlk) : Blk _ n1 26 [N32 0, .slice (some ⟨b8, o8, none⟩) 1 c8, .slice (some ⟨b10, o10, none⟩) 1 c10]) ?_
  refine ord_seg (by repeat (first | exact Clean.body | refine Clean.then ?_ | refine Clean.inBlock ?_ | refine SegQ.clean ?_ | refine FinC.clean ?_)) (n := 5) (rest := [[6, 7, 8, 9, 10]]) [3, 4, 5] [⟨_, _, _, _, _, _⟩, ⟨_, _, _, _, _, _⟩, ⟨_, _, _, _, _, _⟩] rfl (by kernel_rfl) (by simp) _ _ ?_
  go_wp2_with (first
    | (show wpList _ _ _ (⟨some 13, .load _ _, _, _, _, _⟩ :: _) _ _; refine wpList_val rfl (op_load aggTx rfl rfl (SepL.getBlk (b := n1) (T := 26) ((hS.bring (by repeat (first | exact t0 | apply tS))))).cells rfl) ?_; go_frame)
    | (show wpList _ _ _ (⟨some 14, .buildSlice _ _ _, _, _, _, _⟩ :: _) _ _; refine wpS_build11 slBytes hS rfl rfl (u := B8 5#8) rfl rfl ?_; clear hS; intro v14 w hS; go_frame)
    | (go_at_call 15; refine Ret.calls (CLK.out hS) ?_; clear hS; rintro r1 w ⟨rfl, hS⟩)
    | (show wpList _ _ _ (⟨some 16, .build _ _, _, _, _, _⟩ :: _) _ _; refine wpList_val rfl (op_build (ps := #[(0, U 10), (1, .agg (lk.map B8).toArray)]) rfl rfl (buildO 10 lk HLKL.out) _) ?_; go_frame)
    | (show wpList _ _ _ (⟨some 17, .buildSlice _ _ _, _, _, _, _⟩ :: _) _ _; refine wpS_build1A slOuts (by omega) hS rfl rfl (cs := outC ⟨10, lk⟩) rfl HOL.out ?_; clear hS; intro v17 w hS; go_frame)
    | (go_at_call 13; refine Ret.calls (CP.out b6 o6 c6 b8 o8 c8 b10 o10 c10 v17 (.blk n1 26 [N32 0, .slice (some ⟨b8, o8, none⟩) 1 c8, .slice (some ⟨b10, o10, none⟩) 1 c10] :: F) w (by exact hS.sel (by repeat (first | exact Sel.refl | refine Sel.take (by repeat (first | exact t0 | apply tS)) ?_ | apply Sel.drop)))) ?_; clear hS; rintro r1 w ⟨rfl, hS⟩)
    )
  refine segQ_mk (((hS.bring (by repeat (first | exact t0 | apply tS))).getBlk) : Blk _ n1 26 [N32 0, .slice (some ⟨b8, o8, none⟩) 1 c8, .slice (some ⟨b10, o10, none⟩) 1 c10]) ?_
  refine ord_seg (by repeat (first | exact Clean.body | refine Clean.then ?_ | refine Clean.inBlock ?_ | refine SegQ.clean ?_ | refine FinC.clean ?_)) (n := 0) (rest := [[]]) [6, 7, 8, 9, 10] [⟨_, _, _, _, _, _⟩, ⟨_, _, _, _, _, _⟩, ⟨_, _, _, _, _, _⟩, ⟨_, _, _, _, _, _⟩, ⟨_, _, _, _, _, _⟩] rfl (by kernel_rfl) (by simp) _ _ ?_
  go_wp2_with (first
    | (show wpList _ _ _ (⟨some 13, .load _ _, _, _, _, _⟩ :: _) _ _; refine wpList_val rfl (op_load aggTx rfl rfl (SepL.getBlk (b := n1) (T := 26) ((hS.bring (by repeat (first | exact t0 | apply tS))))).cells rfl) ?_; go_frame)
    | (show wpList _ _ _ (⟨some 14, .buildSlice _ _ _, _, _, _, _⟩ :: _) _ _; refine wpS_build11 slBytes hS rfl rfl (u := B8 5#8) rfl rfl ?_; clear hS; intro v14 w hS; go_frame)
    | (go_at_call 15; refine Ret.calls (CLK.out hS) ?_; clear hS; rintro r1 w ⟨rfl, hS⟩)
    | (show wpList _ _ _ (⟨some 16, .build _ _, _, _, _, _⟩ :: _) _ _; refine wpList_val rfl (op_build (ps := #[(0, U 10), (1, .agg (lk.map B8).toArray)]) rfl rfl (buildO 10 lk HLKL.out) _) ?_; go_frame)
    | (show wpList _ _ _ (⟨some 17, .buildSlice _ _ _, _, _, _, _⟩ :: _) _ _; refine wpS_build1A slOuts (by omega) hS rfl rfl (cs := outC ⟨10, lk⟩) rfl HOL.out ?_; clear hS; intro v17 w hS; go_frame)
    | (go_at_call 13; refine Ret.calls (CP.out b6 o6 c6 b8 o8 c8 b10 o10 c10 v17 (.blk n1 26 [N32 0, .slice (some ⟨b8, o8, none⟩) 1 c8, .slice (some ⟨b10, o10, none⟩) 1 c10] :: F) w (by exact hS.sel (by repeat (first | exact Sel.refl | refine Sel.take (by repeat (first | exact t0 | apply tS)) ?_ | apply Sel.drop)))) ?_; clear hS; rintro r1 w ⟨rfl, hS⟩)
    )
  refine segQ_mk (((hS.bring (by repeat (first | exact t0 | apply tS))).getBlk) : Blk _ n1 26 [N32 0, .slice (some ⟨b8, o8, none⟩) 1 c8, .slice (some ⟨b10, o10, none⟩) 1 c10]) ?_
  refine finC_mk (by kernel_rfl) (by
    intro t ht
    simp only [List.mem_cons, List.not_mem_nil, or_false] at ht
    subst ht
    exact stab_blk (b := n1) (fun w h => h) _ none) ?_
  go_wp2_with (first
    | go_big_skip
    | (show wpList _ _ _ (⟨some 21, .build _ _, _, _, _, _⟩ :: _) _ _; refine wpList_val rfl (op_build (ps := #[(0, U 5), (1, I64 10)]) rfl rfl (buildWt 5 10) _) ?_; go_frame)
    | (show wpList _ _ _ (⟨some 22, .build _ _, _, _, _, _⟩ :: _) _ _; refine wpList_val rfl (op_build (ps := #[(0, U 6), (1, I64 10)]) rfl rfl (buildWt 6 10) _) ?_; go_frame)
    | (show wpList _ _ _ (⟨some 23, .build _ _, _, _, _, _⟩ :: _) _ _; refine wpList_val rfl (op_build (ps := #[(0, U 1), (1, I64 2)]) rfl rfl (buildWt 1 2) _) ?_; go_frame)
    | (show wpList _ _ _ (⟨some 24, .buildSlice _ _ _, _, _, _, _⟩ :: _) _ _; refine wpS_buildL slWt hS rfl rfl [.agg #[U 5, I64 10], .agg #[U 6, I64 10], .agg #[U 1, I64 2]] rfl rfl (by omega) (by omega) szW ?_; clear hS; intro v24 w hS; replace hS := own_wA hS; go_frame)
    | (go_at_call 20; refine Ret.calls (COR.out v24 _ w (by exact hS.sel (by repeat (first | exact Sel.refl | refine Sel.take (by repeat (first | exact t0 | apply tS)) ?_ | apply Sel.drop)))) ?_; clear hS; rintro r26 w hS)
    | (show wpList _ _ _ (⟨some 28, .binOp _ _ _ _ _, _, _, _, _⟩ :: _) _ _; refine wpList_val rfl (opU_eql (a := 3) (b := 3) rfl rfl rfl (r := true) rfl) ?_; go_frame)
    | (show wpList _ _ _ (⟨some 31, .binOp _ _ _ _ _, _, _, _, _⟩ :: _) _ _; refine wpList_val rfl (op_eqI' rfl rfl rfl (r := true) rfl) ?_; go_frame)
    | (go_at_call 17; refine Ret.calls (CFL.out _ w hS) ?_; clear hS; rintro r1 w ⟨rfl, hS⟩)
    | (show wpList _ _ _ (⟨some 35, .binOp _ _ _ _ _, _, _, _, _⟩ :: _) _ _; refine wpList_val rfl (opU_eql (a := 25) (b := 25) rfl rfl rfl (r := true) rfl) ?_; go_frame)
    | (show wpList _ _ _ (⟨some 38, .build _ _, _, _, _, _⟩ :: _) _ _; refine wpList_val rfl (op_build (ps := #[(0, U 1), (1, I64 10)]) rfl rfl (buildWt 1 10) _) ?_; go_frame)
    | (show wpList _ _ _ (⟨some 39, .build _ _, _, _, _, _⟩ :: _) _ _; refine wpList_val rfl (op_build (ps := #[(0, U 2), (1, I64 19)]) rfl rfl (buildWt 2 19) _) ?_; go_frame)
    | (go_at_call 24; refine Ret.calls (CLE.out _ w hS) ?_; clear hS; rintro r1 w ⟨rfl, hS⟩)
    | (show wpList _ _ _ (⟨some 44, .call _, _, _, _, _⟩ :: _) _ _; refine wpList_val rfl (op_len slInt rfl rfl (v := r26) (xs := ints [1, 0, 2]) rfl ((hS.bring (by repeat (first | exact t0 | apply tS))).getOwn.rd)) ?_; go_frame)
    | (show wpList _ _ _ (⟨some 45, .binOp _ _ _ _ _, _, _, _, _⟩ :: _) _ _; refine wpList_val rfl (op_eqI' rfl rfl rfl (r := true) rfl) ?_; go_frame)
    | (show wpList _ _ _ (⟨some 49, .indexAddr _ _ _, _, _, _, _⟩ :: _) _ _; refine wpList_val rfl (op_indexAddr slInt rfl (v := r26) (xs := ints [1, 0, 2]) rfl (k := 0) rfl ((hS.bring (by repeat (first | exact t0 | apply tS))).getOwn.rd) (by decide)) ?_; go_frame)
    | (show wpList _ _ _ (⟨some 50, .load _ _, _, _, _, _⟩ :: _) _ _; refine wpList_val rfl (op_loadE1 oneInt rfl (v := r26) (k := 0) rfl (f := I64) (us := [1, 0, 2]) ((hS.bring (by repeat (first | exact t0 | apply tS))).getOwn.rd) (by decide)) ?_; go_frame)
    | (show wpList _ _ _ (⟨some 51, .binOp _ _ _ _ _, _, _, _, _⟩ :: _) _ _; refine wpList_val rfl (op_eqI' (a := 1) (b := 1) rfl rfl rfl (r := true) rfl) ?_; go_frame)
    | (show wpList _ _ _ (⟨some 55, .indexAddr _ _ _, _, _, _, _⟩ :: _) _ _; refine wpList_val rfl (op_indexAddr slInt rfl (v := r26) (xs := ints [1, 0, 2]) rfl (k := 1) rfl ((hS.bring (by repeat (first | exact t0 | apply tS))).getOwn.rd) (by decide)) ?_; go_frame)
    | (show wpList _ _ _ (⟨some 56, .load _ _, _, _, _, _⟩ :: _) _ _; refine wpList_val rfl (op_loadE1 oneInt rfl (v := r26) (k := 1) rfl (f := I64) (us := [1, 0, 2]) ((hS.bring (by repeat (first | exact t0 | apply tS))).getOwn.rd) (by decide)) ?_; go_frame)
    | (show wpList _ _ _ (⟨some 57, .binOp _ _ _ _ _, _, _, _, _⟩ :: _) _ _; refine wpList_val rfl (op_eqI' (a := 0) (b := 0) rfl rfl rfl (r := true) rfl) ?_; go_frame)
    | (show wpList _ _ _ (⟨some 61, .indexAddr _ _ _, _, _, _, _⟩ :: _) _ _; refine wpList_val rfl (op_indexAddr slInt rfl (v := r26) (xs := ints [1, 0, 2]) rfl (k := 2) rfl ((hS.bring (by repeat (first | exact t0 | apply tS))).getOwn.rd) (by decide)) ?_; go_frame)
    | (show wpList _ _ _ (⟨some 62, .load _ _, _, _, _, _⟩ :: _) _ _; refine wpList_val rfl (op_loadE1 oneInt rfl (v := r26) (k := 2) rfl (f := I64) (us := [1, 0, 2]) ((hS.bring (by repeat (first | exact t0 | apply tS))).getOwn.rd) (by decide)) ?_; go_frame)
    | (show wpList _ _ _ (⟨some 63, .binOp _ _ _ _ _, _, _, _, _⟩ :: _) _ _; refine wpList_val rfl (op_eqI' (a := 2) (b := 2) rfl rfl rfl (r := true) rfl) ?_; go_frame)
    | (go_at_call 22; refine Ret.calls (CWO.out v24 F w (by exact hS.sel (by repeat (first | exact Sel.refl | refine Sel.take (by repeat (first | exact t0 | apply tS)) ?_ | apply Sel.drop)))) ?_; clear hS; rintro r1 w ⟨rfl, hS⟩)
    | (show wpList _ _ _ (⟨some 68, .binOp _ _ _ _ _, _, _, _, _⟩ :: _) _ _; refine wpList_val rfl (op_eqI' rfl rfl rfl (r := true) rfl) ?_; go_frame)
    )
  go_ret
  exact ⟨rfl, hS.sel (by repeat (first | exact Sel.refl | refine Sel.take (by repeat (first | exact t0 | apply tS)) ?_ | apply Sel.drop))⟩
end
end Go.Proofs.YtieobcaegegboaaDoor
namespace Go.Proofs.YtieobcaegegboaaDoor
open Go Go.RowKit Go.Px Go.Sha Go.Calc Go.WideMaps
/-- a block that is only read -/
structure Ro (R : Nat → Prop) (base : World) (b : Nat) (cs : Array Value) (T : TypeId) (fr : Nat × Nat) : Prop where
  at_ : base.heap[b]? = some (.cells cs T fr)
  ro : R b
theorem Ro.now {R : Nat → Prop} {base w : World} {L : List Hp} {b : Nat} {cs : Array Value} {T : TypeId} {fr : Nat × Nat} (h : Ro R base b cs T fr) (hS : SepL R base w L) : w.heap[b]? = some (.cells cs T fr) := (hS.ro b (Array.getElem?_eq_some_iff.1 h.at_).1 h.ro).trans h.at_
theorem ro_of {R : Nat → Prop} {base : World} {n : Nat} {v : Value} {xs : List (List Value)} (h : RdIn R base n v xs) (hne : xs ≠ []) : ∃ b off cap cs T fr, v = .slice (some ⟨b, off, none⟩) xs.length cap ∧ Ro R base b cs T fr := by
  obtain ⟨A, cap, rfl, _, _, _, h4⟩ := h.rd
  obtain ⟨b, off, rfl, C, T, fr, h5, _⟩ := h4 hne
  exact ⟨b, off, cap, C, T, fr, rfl, h5, h.ro hne b rfl⟩
theorem stab_el {P : Program} {C : World → Prop} {b off len cap n k : Nat} {cs : Array Value} {T : TypeId} {fr : Nat × Nat} (hC : ∀ w, C w → w.heap[b]? = some (.cells cs T fr)) : Stab P C (elAt n (.slice (some ⟨b, off, none⟩) len cap) k) := by
  show Stab P C (.pointer (some ((⟨b, off, none⟩ : Addr).add (k * n))))
  rw [Addr.add_lit]
  exact stab_blk hC _ _
theorem stab_elE {P : Program} {C : World → Prop} {v : Value} {b off len cap n k : Nat} {cs : Array Value} {T : TypeId} {fr : Nat × Nat} (e : v = .slice (some ⟨b, off, none⟩) len cap) (hC : ∀ w, C w → w.heap[b]? = some (.cells cs T fr)) : Stab P C (elAt n v k) := by
  rw [e]
  exact stab_el hC
theorem stab_fldE {P : Program} {C : World → Prop} {v : Value} {b off len cap n k j : Nat} {cs : Array Value} {T : TypeId} {fr : Nat × Nat} (e : v = .slice (some ⟨b, off, none⟩) len cap) (hC : ∀ w, C w → w.heap[b]? = some (.cells cs T fr)) : Stab P C (fldAt n v k j) := by
  rw [e]
  show Stab P C (.pointer (some ((⟨b, off, none⟩ : Addr).add (k * n + j))))
  rw [Addr.add_lit]
  exact stab_blk hC _ _
theorem stab_fld {P : Program} {C : World → Prop} {b off len cap n k j : Nat} {cs : Array Value} {T : TypeId} {fr : Nat × Nat} (hC : ∀ w, C w → w.heap[b]? = some (.cells cs T fr)) : Stab P C (fldAt n (.slice (some ⟨b, off, none⟩) len cap) k j) := by
  show Stab P C (.pointer (some ((⟨b, off, none⟩ : Addr).add (k * n + j))))
  rw [Addr.add_lit]
  exact stab_blk hC _ _
abbrev wV (a : Wt) : Value := .agg #[U a.fee, I64 a.size]
theorem LIn.mv {R R' : Nat → Prop} {base w : World} {v : Value} {l : List Wt} (h : LIn R base v l) (f : ∀ n v xs, RdIn R base n v xs → RdIn R' w n v xs) : LIn R' w v l := ⟨f _ _ _ h.rd, h.ok⟩
section
variable {R : Nat → Prop} {base w : World} {F : List Hp}
set_option maxRecDepth 100000
theorem weights_o {v : Value} {l : List Wt} (hS : SepL R base w (.own 55 2 v (l.map wtC) :: F)) (ok : ∀ a ∈ l, WOk a) (hlen : l.length ≤ 1000000) :
    Calls Tryd.prog 19 #[v] w (Ret fun r w' => SepL R base w' (.own 53 2 r (l.map wtC) :: F)) := by
  obtain ⟨R1, h1, h2, h3, h4⟩ := hS.freezeOwn
  refine Ret.calls (weights_s h1 ⟨h2, ok⟩ hlen) ?_
  exact fun r w' h5 => (h4 w' _ h5).tail
end
end Go.Proofs.YtieobcaegegboaaDoor
namespace Go.Proofs.YtieobcaegegboaaDoor
open Go.ChangeShapes Go.WideShapes Go.ChangeAt Go.RowKit Go.Px Go.Sha Go.Joins Go.WideMaps
theorem undIns : Tryd.prog.underlying 23 = some (.slice 39) := by kernel_rfl
theorem undOuts : Tryd.prog.underlying 24 = some (.slice 60) := by kernel_rfl
theorem undWts : Tryd.prog.underlying 43 = some (.slice 55) := by kernel_rfl
theorem cellsIn1 : Tryd.prog.cellsOf 39 = 34 := by kernel_rfl
theorem cellsOut1 : Tryd.prog.cellsOf 60 = 33 := by kernel_rfl
theorem cellsTx1 : Tryd.prog.cellsOf 26 = 3 := by kernel_rfl
theorem cellsWt1 : Tryd.prog.cellsOf 55 = 2 := by kernel_rfl
theorem cellsInt1 : Tryd.prog.cellsOf 3 = 1 := by kernel_rfl
theorem cellsU641 : Tryd.prog.cellsOf 29 = 1 := by kernel_rfl
theorem cellsU81 : Tryd.prog.cellsOf 5 = 1 := by kernel_rfl
theorem cellsBytes1 : Tryd.prog.cellsOf 37 = 1 := by kernel_rfl
theorem cellsIns1 : Tryd.prog.cellsOf 23 = 1 := by kernel_rfl
theorem cellsOuts1 : Tryd.prog.cellsOf 24 = 1 := by kernel_rfl
theorem mapOf {α : Type} {f : α → Value} : ∀ {l : List Value}, (∀ v ∈ l, ∃ x, v = f x) → ∃ us : List α, l = us.map f
  | [], _ => ⟨[], rfl⟩
  | v :: l, h => by
    obtain ⟨x, rfl⟩ := h v (by simp)
    obtain ⟨us, rfl⟩ := mapOf (l := l) fun w hw => h w (by simp [hw])
    exact ⟨x :: us, rfl⟩
theorem rowsOf {α : Type} {f : α → List Value} {P : α → Prop} : ∀ {l : List (List Value)}, (∀ c ∈ l, ∃ x, P x ∧ c = f x) → ∃ L : List α, l = L.map f ∧ ∀ x ∈ L, P x
  | [], _ => ⟨[], rfl, by simp⟩
  | c :: l, h => by
    obtain ⟨x, hx, rfl⟩ := h c (by simp)
    obtain ⟨L, rfl, hL⟩ := rowsOf (l := l) fun d hd => h d (by simp [hd])
    refine ⟨x :: L, rfl, fun y hy => ?_⟩
    rcases List.mem_cons.1 hy with rfl | hy
    · exact hx
    · exact hL y hy
theorem byteIn (z : Int) (hw : (Lit.int .u8 z).wf = true) : ∃ x : Byte, Value.int .u8 z = B8 x := by
  have hr : IntKind.u8.min ≤ z ∧ z ≤ IntKind.u8.max := by simpa [Lit.wf] using hw
  rw [show IntKind.u8.min = 0 from rfl, show IntKind.u8.max = 255 from rfl] at hr
  refine ⟨BitVec.ofNat 8 z.toNat, ?_⟩
  unfold B8
  rw [BitVec.toNat_ofNat, Nat.mod_eq_of_lt (by omega)]
  congr 1
  omega
theorem intIn {z : Int} (h : (Lit.int .i64 z).wf = true) : In64 z := by
  have hr : IntKind.i64.min ≤ z ∧ z ≤ IntKind.i64.max := by simpa [Lit.wf] using h
  rwa [show IntKind.i64.min = -9223372036854775808 from rfl, show IntKind.i64.max = 9223372036854775807 from rfl] at hr
theorem u64In {z : Int} (h : (Lit.int .u64 z).wf = true) : ∃ n : Nat, n < 18446744073709551616 ∧ Value.int .u64 z = U n := by
  have hr : IntKind.u64.min ≤ z ∧ z ≤ IntKind.u64.max := by simpa [Lit.wf] using h
  rw [show IntKind.u64.min = 0 from rfl, show IntKind.u64.max = 18446744073709551615 from rfl] at hr
  refine ⟨z.toNat, by omega, ?_⟩
  unfold U
  congr 1
  omega
theorem u32In {z : Int} (h : (Lit.int .u32 z).wf = true) : ∃ n : Nat, n < 4294967296 ∧ Value.int .u32 z = N32 n := by
  have hr : IntKind.u32.min ≤ z ∧ z ≤ IntKind.u32.max := by simpa [Lit.wf] using h
  rw [show IntKind.u32.min = 0 from rfl, show IntKind.u32.max = 4294967295 from rfl] at hr
  refine ⟨z.toNat, by omega, ?_⟩
  unfold N32
  congr 1
  omega
theorem u8In {z : Int} (h : (Lit.int .u8 z).wf = true) : ∃ n : Nat, n < 256 ∧ Value.int .u8 z = .int .u8 n := by
  have hr : IntKind.u8.min ≤ z ∧ z ≤ IntKind.u8.max := by simpa [Lit.wf] using h
  rw [show IntKind.u8.min = 0 from rfl, show IntKind.u8.max = 255 from rfl] at hr
  refine ⟨z.toNat, by omega, ?_⟩
  congr 1
  omega
theorem cutTwo {cs : List Value} {a b : Value} (h : cs.length = 2) (h0 : (cs.drop 0).take 1 = [a]) (h1 : (cs.drop 1).take 1 = [b]) : cs = [a, b] := by
  match cs, h with
  | [_, _], _ =>
    simp only [List.drop_zero, List.take_succ_cons, List.take_zero, List.drop_succ_cons, List.cons.injEq, and_true] at h0 h1
    rw [h0, h1]
theorem cutThree {cs : List Value} {a b c : Value} (h : cs.length = 3) (h0 : (cs.drop 0).take 1 = [a]) (h1 : (cs.drop 1).take 1 = [b]) (h2 : (cs.drop 2).take 1 = [c]) : cs = [a, b, c] := by
  match cs, h with
  | [_, _, _], _ =>
    simp only [List.drop_zero, List.take_succ_cons, List.take_zero, List.drop_succ_cons, List.cons.injEq, and_true] at h0 h1 h2
    rw [h0, h1, h2]
theorem cutAtN {cs x y : List Value} {n m : Nat} (h : cs.length = n + m) (h0 : (cs.drop 0).take n = x) (h1 : (cs.drop n).take m = y) : cs = x ++ y := by
  rw [List.drop_zero] at h0
  rw [List.take_of_length_le (by rw [List.length_drop]; omega)] at h1
  rw [← h0, ← h1, List.take_append_drop]
section
variable {H : Type} {enc : TypeId × Value → H} {W : World} {base b0 : Nat} {sp : Nat → Bool} {held : Bool} {r : Reach} {v : Value} {d : DataW H} {ps : List MemPlace}
set_option maxRecDepth 100000
theorem hash_cells {w : World} {fuel : Nat} {cs : List Value} {x : DataW H × List MemPlace} (h : DataW.trod enc Tryd.prog w base sp held fuel 34 cs = some x) : ∃ us : List Byte, us.length = 32 ∧ cs = us.map B8 := by
  obtain ⟨xs, m, rfl, _, hlen, hnn, hel⟩ := DataW.trod_array arrHash.hu h
  rw [arrHash.one] at hel
  rw [arrHash.size] at hlen
  have hcell : ∀ v ∈ cs, ∃ x, v = B8 x := by
    intro v hv
    obtain ⟨i, hi, rfl⟩ := List.mem_iff_getElem.1 hv
    have h3 := hel i (by omega)
    rw [List.getElem?_eq_getElem (show i < xs.length by omega)] at h3
    obtain ⟨z, e1, _, hw⟩ := DataW.trod_int undU8 h3
    obtain ⟨x, hx⟩ := byteIn z hw
    rw [Nat.mul_one, List.drop_eq_getElem_cons hi, List.take_succ_cons, List.take_zero] at e1
    injection e1 with e1
    exact ⟨x, e1.trans hx⟩
  obtain ⟨us, rfl⟩ := mapOf hcell
  exact ⟨us, by simpa using hlen, rfl⟩
theorem wt_cells {w : World} {fuel : Nat} {cs : List Value} {x : DataW H × List MemPlace} (h : DataW.trod enc Tryd.prog w base sp held fuel 55 cs = some x) : ∃ a, WOk a ∧ cs = wtC a := by
  obtain ⟨xs, n, _, _, hl, hlen, hf⟩ := DataW.trod_struct Tryd.underlying55 h
  rw [cellsWt1] at hl
  replace hlen : xs.length = 2 := hlen
  have h0 := hf 0 _ rfl
  rw [List.getElem?_eq_getElem (show 0 < xs.length by omega)] at h0
  have h1 := hf 1 _ rfl
  rw [List.getElem?_eq_getElem (show 1 < xs.length by omega)] at h1
  obtain ⟨z0, e0, _, w0⟩ := DataW.trod_int undU64 h0
  obtain ⟨z1, e1, _, w1⟩ := DataW.trod_int undInt h1
  obtain ⟨n0, hn0, et⟩ := u64In w0
  refine ⟨⟨n0, z1⟩, ⟨hn0, intIn w1⟩, ?_⟩
  rw [cutTwo hl (by simpa [cellsU641] using e0) (by simpa [cellsInt1] using e1), et]
  rfl
theorem open_weights (hval : Value.okWide Tryd.prog W r b0 43 v) (h : DataW.Trod enc Tryd.prog W base sp held 43 v d ps) : ∃ l : List Wt, LIn All W v l := by
  obtain ⟨l, h1, h2, _⟩ := open_rd (Q := fun c => ∃ a, WOk a ∧ c = wtC a) undWts cellsWt1 hval h fun _ _ _ hh => wt_cells hh
  obtain ⟨L, rfl, hL⟩ := rowsOf h2
  exact ⟨L, RdIn.of h1, hL⟩
theorem open_weight (hval : Value.okWide Tryd.prog W r b0 55 v) (h : DataW.Trod enc Tryd.prog W base sp held 55 v d ps) : ∃ a, WOk a ∧ v = wV a := by
  have hu := Tryd.underlying55
  simp only [Value.okWide, hu] at hval
  obtain ⟨cs, rfl, hn, _⟩ := hval
  obtain ⟨fuel, hf⟩ := h
  obtain ⟨a, ha, he⟩ := wt_cells hf
  refine ⟨a, ha, ?_⟩
  have e : cs.toList = wtC a := he
  rw [show cs = (wtC a).toArray by rw [← e]]
  rfl
theorem out_cells {w : World} {fuel : Nat} {cs : List Value} {x : DataW H × List MemPlace} (h : DataW.trod enc Tryd.prog w base sp held fuel 60 cs = some x) : ∃ o, OOk o ∧ cs = outC o := by
  obtain ⟨xs, n, _, _, hl, hlen, hf⟩ := DataW.trod_struct Tryd.underlying60 h
  rw [cellsOut1] at hl
  replace hlen : xs.length = 2 := hlen
  have h0 := hf 0 _ rfl
  rw [List.getElem?_eq_getElem (show 0 < xs.length by omega)] at h0
  have h1 := hf 1 _ rfl
  rw [List.getElem?_eq_getElem (show 1 < xs.length by omega)] at h1
  obtain ⟨z0, e0, _, w0⟩ := DataW.trod_int undU64 h0
  obtain ⟨us, hus, e1⟩ := hash_cells h1
  obtain ⟨n0, hn0, et⟩ := u64In w0
  refine ⟨⟨n0, us⟩, ⟨hn0, hus⟩, ?_⟩
  rw [cutAtN (n := 1) (m := 32) hl (by simpa [cellsU641] using e0) (by simpa [cells2Hash] using e1), et]
  rfl
theorem pt_cells {w : World} {fuel : Nat} {cs : List Value} {x : DataW H × List MemPlace} (h : DataW.trod enc Tryd.prog w base sp held fuel 36 cs = some x) : ∃ (us : List Byte) (n : Nat), us.length = 32 ∧ n < 4294967296 ∧ cs = us.map B8 ++ [N32 n] := by
  obtain ⟨xs, m, _, _, hl, hlen, hf⟩ := DataW.trod_struct Tryd.underlying36 h
  rw [cellsPt] at hl
  replace hlen : xs.length = 2 := hlen
  have h0 := hf 0 _ rfl
  rw [List.getElem?_eq_getElem (show 0 < xs.length by omega)] at h0
  have h1 := hf 1 _ rfl
  rw [List.getElem?_eq_getElem (show 1 < xs.length by omega)] at h1
  obtain ⟨us, hus, e0⟩ := hash_cells h0
  obtain ⟨z1, e1, _, w1⟩ := DataW.trod_int undU32 h1
  obtain ⟨n, hn, et⟩ := u32In w1
  refine ⟨us, n, hus, hn, ?_⟩
  rw [cutAtN (n := 32) (m := 1) hl (by simpa [cells2Hash] using e0) (by simpa [cells2U32] using e1), et]
theorem in_cells {w : World} {fuel : Nat} {cs : List Value} {x : DataW H × List MemPlace} (h : DataW.trod enc Tryd.prog w base sp held fuel 39 cs = some x) : ∃ p : PIn × Value, (IOk p ∧ Rd 1 w p.2 (bytes p.1.key)) ∧ cs = inC p := by
  obtain ⟨xs, m, _, _, hl, hlen, hf⟩ := DataW.trod_struct Tryd.underlying39 h
  rw [cellsIn1] at hl
  replace hlen : xs.length = 2 := hlen
  have h0 := hf 0 _ rfl
  rw [List.getElem?_eq_getElem (show 0 < xs.length by omega)] at h0
  have h1 := hf 1 _ rfl
  rw [List.getElem?_eq_getElem (show 1 < xs.length by omega)] at h1
  obtain ⟨us, n, hus, hn, e0⟩ := pt_cells h0
  obtain ⟨u, l, e1, hu, q1⟩ := trod_rd (Q := IsB) undBytes cellsU81 (by omega) h1 fun _ _ _ hh => trod_isB hh
  obtain ⟨bs, rfl⟩ := bytes_of q1
  refine ⟨(⟨us, n, bs⟩, u), ⟨⟨hus, hn⟩, hu⟩, ?_⟩
  rw [cutAtN (n := 33) (m := 1) hl (by simpa [cellsPt] using e0) (by simpa [cellsBytes1] using e1)]
  unfold inC
  rw [List.append_assoc]
  rfl
theorem outs_cells {w : World} {fuel : Nat} {cs : List Value} {x : DataW H × List MemPlace} (h : DataW.trod enc Tryd.prog w base sp held fuel 24 cs = some x) : ∃ u l, cs = [u] ∧ OutsIn All w u l := by
  obtain ⟨u, l, e, hu, q⟩ := trod_rd (Q := fun c => ∃ o, OOk o ∧ c = outC o) undOuts cellsOut1 (by omega) h fun _ _ _ hh => out_cells hh
  obtain ⟨L, rfl, hL⟩ := rowsOf q
  exact ⟨u, L, e, RdIn.of hu, hL⟩
theorem tx_cells {w : World} {fuel : Nat} {cs : List Value} {x : DataW H × List MemPlace} (h : DataW.trod enc Tryd.prog w base sp held fuel 26 cs = some x) : ∃ m : MT, TxIn All w m ∧ m.ver < 4294967296 ∧ cs = txC m := by
  obtain ⟨xs, k, _, _, hl, hlen, hf⟩ := DataW.trod_struct Tryd.underlying26 h
  rw [cellsTx1] at hl
  replace hlen : xs.length = 3 := hlen
  have h0 := hf 0 _ rfl
  rw [List.getElem?_eq_getElem (show 0 < xs.length by omega)] at h0
  have h1 := hf 1 _ rfl
  rw [List.getElem?_eq_getElem (show 1 < xs.length by omega)] at h1
  have h2 := hf 2 _ rfl
  rw [List.getElem?_eq_getElem (show 2 < xs.length by omega)] at h2
  obtain ⟨z0, e0, _, w0⟩ := DataW.trod_int undU32 h0
  obtain ⟨n, hn, et⟩ := u32In w0
  obtain ⟨u, l, e1, hu, q1⟩ := trod_rd (Q := fun c => ∃ p : PIn × Value, (IOk p ∧ Rd 1 w p.2 (bytes p.1.key)) ∧ c = inC p) undIns cellsIn1 (by omega) h1 fun _ _ _ hh => in_cells hh
  obtain ⟨L, rfl, hL⟩ := rowsOf q1
  obtain ⟨u2, o, e2, ho⟩ := outs_cells h2
  refine ⟨⟨n, L, o, u, u2⟩, ⟨RdIn.of hu, fun p hp => RdIn.of (hL p hp).2, fun p hp => (hL p hp).1, ho⟩, hn, ?_⟩
  rw [cutThree hl (by simpa [cells2U32] using e0) (by simpa [cellsIns1] using e1) (by simpa [cellsOuts1] using e2), et]
  rfl
theorem open_tx (hval : Value.okWide Tryd.prog W r b0 26 v) (h : DataW.Trod enc Tryd.prog W base sp held 26 v d ps) : ∃ m : MT, TxIn All W m ∧ m.ver < 4294967296 ∧ v = txV m := by
  have hu := Tryd.underlying26
  simp only [Value.okWide, hu] at hval
  obtain ⟨cs, rfl, hn, _⟩ := hval
  obtain ⟨fuel, hf⟩ := h
  obtain ⟨m, hm, hv, he⟩ := tx_cells hf
  refine ⟨m, hm, hv, ?_⟩
  have e : cs.toList = txC m := he
  rw [show cs = (txC m).toArray by rw [← e]]
  rfl
theorem open_outs (hval : Value.okWide Tryd.prog W r b0 24 v) (h : DataW.Trod enc Tryd.prog W base sp held 24 v d ps) : ∃ l : List POut, OutsIn All W v l := by
  obtain ⟨l, h1, h2, _⟩ := open_rd (Q := fun c => ∃ o, OOk o ∧ c = outC o) undOuts cellsOut1 hval h fun _ _ _ hh => out_cells hh
  obtain ⟨L, rfl, hL⟩ := rowsOf h2
  exact ⟨L, RdIn.of h1, hL⟩
theorem open_i64 (hval : Value.okWide Tryd.prog W r b0 3 v) (h : DataW.Trod enc Tryd.prog W base sp held 3 v d ps) : ∃ z : Int, In64 z ∧ v = I64 z := by
  obtain ⟨z, rfl, _, _, wz⟩ := open_int undInt hval h
  exact ⟨z, intIn wz, rfl⟩
theorem open_u32 (hval : Value.okWide Tryd.prog W r b0 22 v) (h : DataW.Trod enc Tryd.prog W base sp held 22 v d ps) : ∃ n : Nat, n < 4294967296 ∧ v = N32 n := by
  obtain ⟨z, rfl, _, _, wz⟩ := open_int undU32 hval h
  obtain ⟨n, hn, e⟩ := u32In wz
  exact ⟨n, hn, e⟩
end
end Go.Proofs.YtieobcaegegboaaDoor
