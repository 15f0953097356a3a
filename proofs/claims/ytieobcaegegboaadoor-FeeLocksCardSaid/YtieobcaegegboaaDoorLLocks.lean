/- A key whose sum is not the lock is refused, however much there is: the law returns true. Conditions: those that stand ahead of each theorem. -/
import Derived.Test.YtieobcaegegboaaDoorGWfC
namespace Go.Proofs.YtieobcaegegboaaDoor
open Go.ChangeShapes Go.WideShapes Go.ChangeAt Go Go.RowKit Go.Px Go.Sha Go.Calc Go.WideMaps Go.Joins
theorem set_pts {l : List PIn} {k : Nat} {x : PIn} {key : List (BitVec 8)} (hk : l[k]? = some x) : (l.set k ⟨x.tx, x.n, key⟩).map ptOf = l.map ptOf := by
  obtain ⟨h1, h2⟩ := List.getElem?_eq_some_iff.1 hk
  apply List.ext_getElem (by simp)
  intro i h3 h4
  rw [List.getElem_map, List.getElem_map, List.getElem_set]
  split
  · rename_i e
    subst e
    rw [h2]
    rfl
  · rfl
theorem tok_set {t : PTx} (h : TOk t) {k : Nat} {x : PIn} {key : List (BitVec 8)} (hk : t.ins[k]? = some x) (hkey : key.length ≤ 64) : TOk ⟨t.ver, t.ins.set k ⟨x.tx, x.n, key⟩, t.outs⟩ := by
  refine ⟨?_, ?_, h.outs, h.money, ?_⟩
  · have h1 := h.form
    unfold formB at h1 ⊢
    simp only [Bool.and_eq_true, List.all_eq_true, decide_eq_true_eq, List.length_set] at h1 ⊢
    refine ⟨fun y hy => ?_, h1.2⟩
    rcases List.mem_or_eq_of_mem_set hy with h2 | rfl
    · exact h1.1 y h2
    · exact hkey
  · intro e
    have := congrArg List.length e
    rw [List.length_set] at this
    exact h.ins (List.length_eq_zero_iff.1 this)
  · have h1 := h.once
    unfold twiceB at h1 ⊢
    rw [set_pts hk, List.length_set]
    exact h1
theorem pay_setN {H : HFn} {t : PTx} {prev : List POut} {k : Nat} {x : PIn} {o : POut} {key : List (BitVec 8)} (hp : (payN H t prev).2 = 0) (hk : t.ins[k]? = some x) (ho : prev[k]? = some o) (hkey : key.length ≤ 64) (hn : H key ≠ o.lock) : payN H ⟨t.ver, t.ins.set k ⟨x.tx, x.n, key⟩, t.outs⟩ prev = (0, 13) := by
  obtain ⟨hok, hlen, hlb, hs64, hle, _⟩ := pay_ok hp
  obtain ⟨h1, h2⟩ := List.getElem?_eq_some_iff.1 hk
  obtain ⟨h3, h4⟩ := List.getElem?_eq_some_iff.1 ho
  refine pay_lock (check_ok.2 (tok_set hok hk hkey)) (by rw [List.length_set]; exact hlen) ?_
  cases hb : lockB H (t.ins.set k ⟨x.tx, x.n, key⟩) prev with
  | false => rfl
  | true =>
    have g := lock_at hb k (by rw [List.length_set]; exact h1) h3
    rw [List.getElem_set_self, h4] at g
    exact absurd g hn
theorem pay_setY {H : HFn} {t : PTx} {prev : List POut} {k : Nat} {x : PIn} {o : POut} {key : List (BitVec 8)} (hp : (payN H t prev).2 = 0) (hk : t.ins[k]? = some x) (ho : prev[k]? = some o) (hkey : key.length ≤ 64) (he : H key = o.lock) : (payN H ⟨t.ver, t.ins.set k ⟨x.tx, x.n, key⟩, t.outs⟩ prev).2 = 0 := by
  obtain ⟨hok, hlen, hlb, hs64, hle, _⟩ := pay_ok hp
  obtain ⟨h3, h4⟩ := List.getElem?_eq_some_iff.1 ho
  rw [pay_yes (check_ok.2 (tok_set hok hk hkey)) (by rw [List.length_set]; exact hlen) (lock_of fun j g1 g2 => ?_) hs64 hle]
  by_cases e : k = j
  · subst e
    rw [List.getElem_set_self, h4]
    exact he
  · rw [List.getElem_set_ne e]
    exact lock_at hlb j (by rw [List.length_set] at g1; exact g1) g2
theorem ins_flat {l : List (PIn × Value)} (h : ∀ p ∈ l, p.2.oneCell' = true) : Flat (l.map inC) := by
  intro x hx
  obtain ⟨p, hp, rfl⟩ := List.mem_map.1 hx
  exact inC_one (h p hp)
theorem own_one {T n : Nat} {w : World} {v : Value} {xs : List (List Value)} (h : Own T n w v xs) : v.oneCell' = true ∧ v.cells = #[v] := by
  obtain ⟨A, c, rfl, _⟩ := h.rd.form
  exact ⟨rfl, rfl⟩
theorem infoIns1 : (Tryd.prog.info? 23).map (·.size) = some 1 := by kernel_rfl
theorem cellsLk : Tryd.prog.cellsOf 64 = 6 := by kernel_rfl
theorem cutLk {cs : List Value} {a b c d e f : Value} (h : cs.length = 6) (h0 : (cs.drop 0).take 3 = [a, b, c]) (h1 : (cs.drop 3).take 1 = [d]) (h2 : (cs.drop 4).take 1 = [e]) (h3 : (cs.drop 5).take 1 = [f]) : cs = [a, b, c, d, e, f] := by
  match cs, h with
  | [_, _, _, _, _, _], _ =>
    simp only [List.drop_zero, List.take_succ_cons, List.take_zero, List.drop_succ_cons, List.cons.injEq, and_true] at h0 h1 h2 h3
    rw [h0.1, h0.2.1, h0.2.2, h1, h2, h3]
section
variable {H : Type} {enc : TypeId × Value → H} {W : World} {base b0 : Nat} {sp : Nat → Bool} {held : Bool} {r : Reach} {v : Value} {d : DataW H} {ps : List MemPlace}
set_option maxRecDepth 100000
theorem open_locked (hval : Value.okWide Tryd.prog W r b0 64 v) (h : DataW.Trod enc Tryd.prog W base sp held 64 v d ps) : ∃ (m : MT) (pv : Value) (prev : List POut) (x : Byte) (kv : Value) (bs : List Byte), TxIn All W m ∧ OutsIn All W pv prev ∧ RdIn All W 1 kv (bytes bs) ∧ v = .agg #[N32 m.ver, m.iv, m.ov, pv, B8 x, kv] := by
  have hu := Tryd.underlying64
  simp only [Value.okWide, hu] at hval
  obtain ⟨cs, rfl, hn, _⟩ := hval
  obtain ⟨fuel, hf⟩ := h
  obtain ⟨xs, k, _, _, hl, hlen, hf⟩ := DataW.trod_struct Tryd.underlying64 hf
  rw [cellsLk] at hl
  replace hlen : xs.length = 4 := hlen
  have h0 := hf 0 _ rfl
  rw [List.getElem?_eq_getElem (show 0 < xs.length by omega)] at h0
  have h1 := hf 1 _ rfl
  rw [List.getElem?_eq_getElem (show 1 < xs.length by omega)] at h1
  have h2 := hf 2 _ rfl
  rw [List.getElem?_eq_getElem (show 2 < xs.length by omega)] at h2
  have h3 := hf 3 _ rfl
  rw [List.getElem?_eq_getElem (show 3 < xs.length by omega)] at h3
  obtain ⟨m, hm, _, e0⟩ := tx_cells h0
  obtain ⟨u, o, e1, ho⟩ := outs_cells h1
  obtain ⟨z2, e2, _, w2⟩ := DataW.trod_int undU8 h2
  obtain ⟨x, et⟩ := byteIn z2 w2
  obtain ⟨kv, l, e3, hk, q1⟩ := trod_rd (Q := IsB) undBytes cellsU81 (by omega) h3 fun _ _ _ hh => trod_isB hh
  obtain ⟨bs, rfl⟩ := bytes_of q1
  refine ⟨m, u, o, x, kv, bs, hm, ho, RdIn.of hk, ?_⟩
  rw [et] at e2
  have e : cs.toList = [N32 m.ver, m.iv, m.ov, u, B8 x, kv] := cutLk hl (by simpa [cellsTx1, txC, Value.cells] using e0) (by simpa [cellsTx1, cellsOuts1, Value.cells] using e1) (by simpa [cellsTx1, cellsOuts1, cellsU81, Value.cells] using e2) (by simpa [cellsTx1, cellsOuts1, cellsU81, cellsBytes1, Value.cells] using e3)
  rw [show cs = [N32 m.ver, m.iv, m.ov, u, B8 x, kv].toArray by rw [← e]]
end
theorem of_q {W w : World} {F : List Hp} {ver : Nat} {L2 : List (PIn × Value)} {outs : List POut} {u ov pv : Value} {prev : List POut} (hS : SepL All W w (.own 39 34 u (L2.map inC) :: F)) (hK : CIn All W 3 (kTab.map W32)) (hF : CIn All W 0 (first.map W32)) (hkey : ∀ p ∈ L2, RdIn All W 1 p.2 (bytes p.1.key)) (hiok : ∀ p ∈ L2, IOk p) (ho : OutsIn All W ov outs) (hpv : OutsIn All W pv prev) :
    Calls Tryd.prog 13 #[.agg #[N32 ver, u, ov], pv] w (Ret fun r w' => r = .tuple #[U (payN sum ⟨ver, L2.map (·.1), outs⟩ prev).1, .int .i64 (((payN sum ⟨ver, L2.map (·.1), outs⟩ prev).2 : Nat) : Int)] ∧ SepL All W w' (.own 39 34 u (L2.map inC) :: F)) := by
  obtain ⟨R1, h1, h2, h3, h4⟩ := hS.freezeOwn
  refine Ret.calls (of_s (m := ⟨ver, L2, outs, u, ov⟩) h1 (kTab_mv hK h3) (first_mv hF h3) ⟨h2, fun p hp => h3 _ _ _ (hkey p hp), hiok, ho.mv h3⟩ (hpv.mv h3)) ?_
  rintro r w' ⟨h5, h6⟩
  exact ⟨h5, h4 w' _ h6⟩
set_option maxRecDepth 100000 in
set_option maxHeartbeats 8000000 in
theorem feeLocks_w {W : World} (hK : CIn All W 3 (kTab.map W32)) (hF : CIn All W 0 (first.map W32)) {m : MT} (ht : TxIn All W m) {pv : Value} {prev : List POut} (hpv : OutsIn All W pv prev) {x : Byte} {kv : Value} {bs : List Byte} (hkv : RdIn All W 1 kv (bytes bs)) :
    Calls Tryd.prog 7 #[.agg #[N32 m.ver, m.iv, m.ov, pv, B8 x, kv]] W (Ret fun r w' => r = .bool true ∧ Chg No W w') := by
  have hS := SepL.start W
  obtain ⟨g, hg⟩ : ∃ g, greatB m.pt prev.length = g := ⟨_, rfl⟩
  have HGR : Hid (∀ {w : World} {F : List Hp}, SepL All W w F → Calls Tryd.prog 12 #[txV m, pv] w (Ret fun r w' => r = .bool g ∧ SepL All W w' F)) := fun hS => great_s hS ht hpv.rd hg
  obtain ⟨c, hc⟩ : ∃ c, checkN m.pt = c := ⟨_, rfl⟩
  have HC := hide hc
  have HCK : Hid (∀ {w : World} {F : List Hp}, SepL All W w F → Calls Tryd.prog 26 #[txV m] w (Ret fun r w' => r = .int .i64 c ∧ SepL All W w' F)) := fun hS => by
    have g := check_s hS ht
    rwa [hc] at g
  obtain ⟨p1, p2, hpp⟩ : ∃ p1 p2, payN sum m.pt prev = (p1, p2) := ⟨_, _, rfl⟩
  have HOF : Hid (∀ {w : World} {F : List Hp}, SepL All W w F → Calls Tryd.prog 13 #[txV m, pv] w (Ret fun r w' => r = .tuple #[U p1, .int .i64 p2] ∧ SepL All W w' F)) := fun hS => by
    have g := of_s hS hK hF ht hpv
    rwa [hpp] at g
  have HPP := hide hpp
  have HTV : Hid (∀ v ∈ [N32 m.ver, m.iv, m.ov], v.oneCell' = true) := by
    intro v hv
    simp only [List.mem_cons, List.not_mem_nil, or_false] at hv
    rcases hv with rfl | rfl | rfl
    · rfl
    · exact (slice_one ht.ins).1
    · exact (slice_one ht.outs.rd).1
  have HRK := hide hkv
  obtain ⟨lb, hlb⟩ : ∃ lb, bs.length = lb := ⟨_, rfl⟩
  have HNK : Hid ((bytes bs).length = lb) := by unfold Hid; rw [bytes_len, hlb]
  clear hg hc hpp
  cases g with
  | true =>
    go_enter Tryd.func7, Tryd.ntmps7
    go_wp2_with (first
      | (show wpList _ _ _ (⟨some 1, .box _ _, _, _, _, _⟩ :: _) _ _; refine wpS_boxA (cs := [N32 m.ver, m.iv, m.ov, pv, B8 x, kv]) hS rfl rfl rfl ?_; clear hS; intro n1 w hS; go_frame)
      | (go_at_call 11; refine Ret.calls (alive_s hS hK hF) ?_; clear hS; rintro r1 w ⟨rfl, hS⟩)
      )
    refine wp_region_ord (by kernel_rfl) [15, 17, 19, 21] [[0, 1, 2, 3, 4, 5, 6, 7, 8, 9, 10, 11, 12]] (by kernel_rfl) (by kernel_rfl) (fun w' => Blk w' n1 64 [N32 m.ver, m.iv, m.ov, pv, B8 x, kv]) Up.blk ((hS.bring (by repeat (first | exact t0 | apply tS))).getBlk) (by repeat (first | exact Clean.body | refine Clean.then ?_ | refine Clean.inBlock ?_ | refine SegQ.clean ?_ | refine FinC.clean ?_)) ?_
    replace hS := hS.drew
    refine ord_seg (by repeat (first | exact Clean.body | refine Clean.then ?_ | refine Clean.inBlock ?_ | refine SegQ.clean ?_ | refine FinC.clean ?_)) (n := 3) (rest := [[10, 11, 12]]) [0, 1, 2, 3, 4, 5, 6, 7, 8, 9] [⟨_, _, _, _, _, _⟩, ⟨_, _, _, _, _, _⟩, ⟨_, _, _, _, _, _⟩, ⟨_, _, _, _, _, _⟩, ⟨_, _, _, _, _, _⟩, ⟨_, _, _, _, _, _⟩, ⟨_, _, _, _, _, _⟩, ⟨_, _, _, _, _, _⟩, ⟨_, _, _, _, _, _⟩, ⟨_, _, _, _, _, _⟩] rfl (by kernel_rfl) (by simp) _ _ ?_
    go_wp2_with (first
      | (show wpList _ _ _ (⟨some 16, .load _ _, _, _, _, _⟩ :: _) _ _; refine wpList_val rfl (op_load aggTx rfl rfl (blk_take (b := n1) (T := 64) (n := 3) (ds := [N32 m.ver, m.iv, m.ov]) ((hS.bring (by repeat (first | exact t0 | apply tS))).getBlk) rfl) rfl) ?_; go_frame)
      | (show wpList _ _ _ (⟨some 18, .load _ _, _, _, _, _⟩ :: _) _ _; refine wpList_val rfl (op_load1S (b := n1) (T := 64) oneOuts ((hS.bring (by repeat (first | exact t0 | apply tS)))) rfl rfl rfl) ?_; go_frame)
      | (show wpList _ _ _ (⟨some 20, .load _ _, _, _, _, _⟩ :: _) _ _; refine wpList_val rfl (op_load1S (b := n1) (T := 64) oneU8 ((hS.bring (by repeat (first | exact t0 | apply tS)))) rfl rfl rfl) ?_; go_frame)
      | (show wpList _ _ _ (⟨some 22, .load _ _, _, _, _, _⟩ :: _) _ _; refine wpList_val rfl (op_load1S (b := n1) (T := 64) oneBytes ((hS.bring (by repeat (first | exact t0 | apply tS)))) rfl rfl rfl) ?_; go_frame)
      | (show wpList _ _ _ (⟨some 3, .alloc _, _, _, _, _⟩ :: _) _ _; refine wpS_alloc hS rfl rfl Tryd.zeroValue26 (zs := [N32 0, .slice none 0 0, .slice none 0 0]) rfl ?_; clear hS; intro n3 w hS; go_frame)
      | (show wpList _ _ _ (⟨_, .store 26 _ _, _, _, _, _⟩ :: _) _ _; (refine wpS_storeAll (b := n3) aggTx (hS.bring (by repeat (first | exact t0 | apply tS))) rfl rfl rfl (vs := [N32 m.ver, m.iv, m.ov]) rfl rfl HTV.out rfl ?_); clear hS; intro w hS; go_frame)
      )
    refine segQ_mk (((hS.bring (by repeat (first | exact t0 | apply tS))).getBlk) : Blk _ n1 64 [N32 m.ver, m.iv, m.ov, pv, B8 x, kv]) ?_
    refine ord_seg (by repeat (first | exact Clean.body | refine Clean.then ?_ | refine Clean.inBlock ?_ | refine SegQ.clean ?_ | refine FinC.clean ?_)) (n := 0) (rest := [[]]) [10, 11, 12] [⟨_, _, _, _, _, _⟩, ⟨_, _, _, _, _, _⟩, ⟨_, _, _, _, _, _⟩] rfl (by kernel_rfl) (by simp) _ _ ?_
    go_wp2_with (first
      | (show wpList _ _ _ (⟨some 16, .load _ _, _, _, _, _⟩ :: _) _ _; refine wpList_val rfl (op_load aggTx rfl rfl (blk_take (b := n1) (T := 64) (n := 3) (ds := [N32 m.ver, m.iv, m.ov]) ((hS.bring (by repeat (first | exact t0 | apply tS))).getBlk) rfl) rfl) ?_; go_frame)
      | (show wpList _ _ _ (⟨some 18, .load _ _, _, _, _, _⟩ :: _) _ _; refine wpList_val rfl (op_load1S (b := n1) (T := 64) oneOuts ((hS.bring (by repeat (first | exact t0 | apply tS)))) rfl rfl rfl) ?_; go_frame)
      | (show wpList _ _ _ (⟨some 20, .load _ _, _, _, _, _⟩ :: _) _ _; refine wpList_val rfl (op_load1S (b := n1) (T := 64) oneU8 ((hS.bring (by repeat (first | exact t0 | apply tS)))) rfl rfl rfl) ?_; go_frame)
      | (show wpList _ _ _ (⟨some 22, .load _ _, _, _, _, _⟩ :: _) _ _; refine wpList_val rfl (op_load1S (b := n1) (T := 64) oneBytes ((hS.bring (by repeat (first | exact t0 | apply tS)))) rfl rfl rfl) ?_; go_frame)
      | (show wpList _ _ _ (⟨some 3, .alloc _, _, _, _, _⟩ :: _) _ _; refine wpS_alloc hS rfl rfl Tryd.zeroValue26 (zs := [N32 0, .slice none 0 0, .slice none 0 0]) rfl ?_; clear hS; intro n3 w hS; go_frame)
      | (show wpList _ _ _ (⟨_, .store 26 _ _, _, _, _, _⟩ :: _) _ _; (refine wpS_storeAll (b := n3) aggTx (hS.bring (by repeat (first | exact t0 | apply tS))) rfl rfl rfl (vs := [N32 m.ver, m.iv, m.ov]) rfl rfl HTV.out rfl ?_); clear hS; intro w hS; go_frame)
      )
    refine segQ_mk (((hS.bring (by repeat (first | exact t0 | apply tS))).getBlk) : Blk _ n1 64 [N32 m.ver, m.iv, m.ov, pv, B8 x, kv]) ?_
    refine finC_mk (by kernel_rfl) (by
      intro t ht
      simp only [List.mem_cons, List.not_mem_nil, or_false] at ht
      rcases ht with rfl | rfl | rfl | rfl <;> exact stab_blk (b := n1) (fun w h => h) _ none) ?_
    go_wp2_with (first
      | go_big_skip
      | (show wpList _ _ _ (⟨some 23, .load 26 _, _, _, _, _⟩ :: _) _ _; refine wpList_val rfl (op_load aggTx rfl rfl (SepL.getBlk (b := n3) (T := 26) ((hS.bring (by repeat (first | exact t0 | apply tS))))).cells rfl) ?_; go_frame)
      | (go_at_call 12; refine Ret.calls (HGR.out hS) ?_; clear hS; rintro r1 w ⟨rfl, hS⟩)
      )
    go_ret
    exact ⟨rfl, (hS.sel (M := []) (by repeat (first | exact Sel.refl | refine Sel.take (by repeat (first | exact t0 | apply tS)) ?_ | apply Sel.drop))).chg⟩
  | false =>
  by_cases hl64 : 64 < lb
  · have HG : Hid (decide ((64 : Int) < lb) = true) := decide_eq_true (by omega)
    clear hl64 HC HPP hlb
    go_enter Tryd.func7, Tryd.ntmps7
    go_wp2_with (first
      | (show wpList _ _ _ (⟨some 1, .box _ _, _, _, _, _⟩ :: _) _ _; refine wpS_boxA (cs := [N32 m.ver, m.iv, m.ov, pv, B8 x, kv]) hS rfl rfl rfl ?_; clear hS; intro n1 w hS; go_frame)
      | (go_at_call 11; refine Ret.calls (alive_s hS hK hF) ?_; clear hS; rintro r1 w ⟨rfl, hS⟩)
      )
    refine wp_region_ord (by kernel_rfl) [15, 17, 19, 21] [[0, 1, 2, 3, 4, 5, 6, 7, 8, 9, 10, 11, 12]] (by kernel_rfl) (by kernel_rfl) (fun w' => Blk w' n1 64 [N32 m.ver, m.iv, m.ov, pv, B8 x, kv]) Up.blk ((hS.bring (by repeat (first | exact t0 | apply tS))).getBlk) (by repeat (first | exact Clean.body | refine Clean.then ?_ | refine Clean.inBlock ?_ | refine SegQ.clean ?_ | refine FinC.clean ?_)) ?_
    replace hS := hS.drew
    refine ord_seg (by repeat (first | exact Clean.body | refine Clean.then ?_ | refine Clean.inBlock ?_ | refine SegQ.clean ?_ | refine FinC.clean ?_)) (n := 3) (rest := [[10, 11, 12]]) [0, 1, 2, 3, 4, 5, 6, 7, 8, 9] [⟨_, _, _, _, _, _⟩, ⟨_, _, _, _, _, _⟩, ⟨_, _, _, _, _, _⟩, ⟨_, _, _, _, _, _⟩, ⟨_, _, _, _, _, _⟩, ⟨_, _, _, _, _, _⟩, ⟨_, _, _, _, _, _⟩, ⟨_, _, _, _, _, _⟩, ⟨_, _, _, _, _, _⟩, ⟨_, _, _, _, _, _⟩] rfl (by kernel_rfl) (by simp) _ _ ?_
    go_wp2_with (first
      | (show wpList _ _ _ (⟨some 16, .load _ _, _, _, _, _⟩ :: _) _ _; refine wpList_val rfl (op_load aggTx rfl rfl (blk_take (b := n1) (T := 64) (n := 3) (ds := [N32 m.ver, m.iv, m.ov]) ((hS.bring (by repeat (first | exact t0 | apply tS))).getBlk) rfl) rfl) ?_; go_frame)
      | (show wpList _ _ _ (⟨some 18, .load _ _, _, _, _, _⟩ :: _) _ _; refine wpList_val rfl (op_load1S (b := n1) (T := 64) oneOuts ((hS.bring (by repeat (first | exact t0 | apply tS)))) rfl rfl rfl) ?_; go_frame)
      | (show wpList _ _ _ (⟨some 20, .load _ _, _, _, _, _⟩ :: _) _ _; refine wpList_val rfl (op_load1S (b := n1) (T := 64) oneU8 ((hS.bring (by repeat (first | exact t0 | apply tS)))) rfl rfl rfl) ?_; go_frame)
      | (show wpList _ _ _ (⟨some 22, .load _ _, _, _, _, _⟩ :: _) _ _; refine wpList_val rfl (op_load1S (b := n1) (T := 64) oneBytes ((hS.bring (by repeat (first | exact t0 | apply tS)))) rfl rfl rfl) ?_; go_frame)
      | (show wpList _ _ _ (⟨some 3, .alloc _, _, _, _, _⟩ :: _) _ _; refine wpS_alloc hS rfl rfl Tryd.zeroValue26 (zs := [N32 0, .slice none 0 0, .slice none 0 0]) rfl ?_; clear hS; intro n3 w hS; go_frame)
      | (show wpList _ _ _ (⟨_, .store 26 _ _, _, _, _, _⟩ :: _) _ _; (refine wpS_storeAll (b := n3) aggTx (hS.bring (by repeat (first | exact t0 | apply tS))) rfl rfl rfl (vs := [N32 m.ver, m.iv, m.ov]) rfl rfl HTV.out rfl ?_); clear hS; intro w hS; go_frame)
      )
    refine segQ_mk (((hS.bring (by repeat (first | exact t0 | apply tS))).getBlk) : Blk _ n1 64 [N32 m.ver, m.iv, m.ov, pv, B8 x, kv]) ?_
    refine ord_seg (by repeat (first | exact Clean.body | refine Clean.then ?_ | refine Clean.inBlock ?_ | refine SegQ.clean ?_ | refine FinC.clean ?_)) (n := 0) (rest := [[]]) [10, 11, 12] [⟨_, _, _, _, _, _⟩, ⟨_, _, _, _, _, _⟩, ⟨_, _, _, _, _, _⟩] rfl (by kernel_rfl) (by simp) _ _ ?_
    go_wp2_with (first
      | (show wpList _ _ _ (⟨some 16, .load _ _, _, _, _, _⟩ :: _) _ _; refine wpList_val rfl (op_load aggTx rfl rfl (blk_take (b := n1) (T := 64) (n := 3) (ds := [N32 m.ver, m.iv, m.ov]) ((hS.bring (by repeat (first | exact t0 | apply tS))).getBlk) rfl) rfl) ?_; go_frame)
      | (show wpList _ _ _ (⟨some 18, .load _ _, _, _, _, _⟩ :: _) _ _; refine wpList_val rfl (op_load1S (b := n1) (T := 64) oneOuts ((hS.bring (by repeat (first | exact t0 | apply tS)))) rfl rfl rfl) ?_; go_frame)
      | (show wpList _ _ _ (⟨some 20, .load _ _, _, _, _, _⟩ :: _) _ _; refine wpList_val rfl (op_load1S (b := n1) (T := 64) oneU8 ((hS.bring (by repeat (first | exact t0 | apply tS)))) rfl rfl rfl) ?_; go_frame)
      | (show wpList _ _ _ (⟨some 22, .load _ _, _, _, _, _⟩ :: _) _ _; refine wpList_val rfl (op_load1S (b := n1) (T := 64) oneBytes ((hS.bring (by repeat (first | exact t0 | apply tS)))) rfl rfl rfl) ?_; go_frame)
      | (show wpList _ _ _ (⟨some 3, .alloc _, _, _, _, _⟩ :: _) _ _; refine wpS_alloc hS rfl rfl Tryd.zeroValue26 (zs := [N32 0, .slice none 0 0, .slice none 0 0]) rfl ?_; clear hS; intro n3 w hS; go_frame)
      | (show wpList _ _ _ (⟨_, .store 26 _ _, _, _, _, _⟩ :: _) _ _; (refine wpS_storeAll (b := n3) aggTx (hS.bring (by repeat (first | exact t0 | apply tS))) rfl rfl rfl (vs := [N32 m.ver, m.iv, m.ov]) rfl rfl HTV.out rfl ?_); clear hS; intro w hS; go_frame)
      )
    refine segQ_mk (((hS.bring (by repeat (first | exact t0 | apply tS))).getBlk) : Blk _ n1 64 [N32 m.ver, m.iv, m.ov, pv, B8 x, kv]) ?_
    refine finC_mk (by kernel_rfl) (by
      intro t ht
      simp only [List.mem_cons, List.not_mem_nil, or_false] at ht
      rcases ht with rfl | rfl | rfl | rfl <;> exact stab_blk (b := n1) (fun w h => h) _ none) ?_
    go_wp2_with (first
      | go_big_skip
      | (show wpList _ _ _ (⟨some 23, .load 26 _, _, _, _, _⟩ :: _) _ _; refine wpList_val rfl (op_load aggTx rfl rfl (SepL.getBlk (b := n3) (T := 26) ((hS.bring (by repeat (first | exact t0 | apply tS))))).cells rfl) ?_; go_frame)
      | (go_at_call 12; refine Ret.calls (HGR.out hS) ?_; clear hS; rintro r1 w ⟨rfl, hS⟩)
      | (show wpList _ _ _ (⟨some 28, .call _, _, _, _, _⟩ :: _) _ _; refine wpList_val rfl (op_len slBytes rfl rfl (v := kv) (xs := bytes bs) rfl (by exact hS.rd HRK.out)) ?_; rw [HNK.out]; go_frame)
      | (show wpList _ _ _ (⟨some 29, .binOp _ _ _ _ _, _, _, _, _⟩ :: _) _ _; refine wpList_val rfl (op_igtr (a := lb) (b := 64) rfl rfl rfl HG.out) ?_; go_frame)
      )
    go_ret
    exact ⟨rfl, (hS.sel (M := []) (by repeat (first | exact Sel.refl | refine Sel.take (by repeat (first | exact t0 | apply tS)) ?_ | apply Sel.drop))).chg⟩
  have HG : Hid (decide ((64 : Int) < lb) = false) := decide_eq_false (by omega)
  by_cases hc0 : c ≠ 0
  · have H1 : Hid (((c : Int) != 0) = true) := neT (by omega)
    clear hc0 HC HPP hlb
    go_enter Tryd.func7, Tryd.ntmps7
    go_wp2_with (first
      | (show wpList _ _ _ (⟨some 1, .box _ _, _, _, _, _⟩ :: _) _ _; refine wpS_boxA (cs := [N32 m.ver, m.iv, m.ov, pv, B8 x, kv]) hS rfl rfl rfl ?_; clear hS; intro n1 w hS; go_frame)
      | (go_at_call 11; refine Ret.calls (alive_s hS hK hF) ?_; clear hS; rintro r1 w ⟨rfl, hS⟩)
      )
    refine wp_region_ord (by kernel_rfl) [15, 17, 19, 21] [[0, 1, 2, 3, 4, 5, 6, 7, 8, 9, 10, 11, 12]] (by kernel_rfl) (by kernel_rfl) (fun w' => Blk w' n1 64 [N32 m.ver, m.iv, m.ov, pv, B8 x, kv]) Up.blk ((hS.bring (by repeat (first | exact t0 | apply tS))).getBlk) (by repeat (first | exact Clean.body | refine Clean.then ?_ | refine Clean.inBlock ?_ | refine SegQ.clean ?_ | refine FinC.clean ?_)) ?_
    replace hS := hS.drew
    refine ord_seg (by repeat (first | exact Clean.body | refine Clean.then ?_ | refine Clean.inBlock ?_ | refine SegQ.clean ?_ | refine FinC.clean ?_)) (n := 3) (rest := [[10, 11, 12]]) [0, 1, 2, 3, 4, 5, 6, 7, 8, 9] [⟨_, _, _, _, _, _⟩, ⟨_, _, _, _, _, _⟩, ⟨_, _, _, _, _, _⟩, ⟨_, _, _, _, _, _⟩, ⟨_, _, _, _, _, _⟩, ⟨_, _, _, _, _, _⟩, ⟨_, _, _, _, _, _⟩, ⟨_, _, _, _, _, _⟩, ⟨_, _, _, _, _, _⟩, ⟨_, _, _, _, _, _⟩] rfl (by kernel_rfl) (by simp) _ _ ?_
    go_wp2_with (first
      | (show wpList _ _ _ (⟨some 16, .load _ _, _, _, _, _⟩ :: _) _ _; refine wpList_val rfl (op_load aggTx rfl rfl (blk_take (b := n1) (T := 64) (n := 3) (ds := [N32 m.ver, m.iv, m.ov]) ((hS.bring (by repeat (first | exact t0 | apply tS))).getBlk) rfl) rfl) ?_; go_frame)
      | (show wpList _ _ _ (⟨some 18, .load _ _, _, _, _, _⟩ :: _) _ _; refine wpList_val rfl (op_load1S (b := n1) (T := 64) oneOuts ((hS.bring (by repeat (first | exact t0 | apply tS)))) rfl rfl rfl) ?_; go_frame)
      | (show wpList _ _ _ (⟨some 20, .load _ _, _, _, _, _⟩ :: _) _ _; refine wpList_val rfl (op_load1S (b := n1) (T := 64) oneU8 ((hS.bring (by repeat (first | exact t0 | apply tS)))) rfl rfl rfl) ?_; go_frame)
      | (show wpList _ _ _ (⟨some 22, .load _ _, _, _, _, _⟩ :: _) _ _; refine wpList_val rfl (op_load1S (b := n1) (T := 64) oneBytes ((hS.bring (by repeat (first | exact t0 | apply tS)))) rfl rfl rfl) ?_; go_frame)
      | (show wpList _ _ _ (⟨some 3, .alloc _, _, _, _, _⟩ :: _) _ _; refine wpS_alloc hS rfl rfl Tryd.zeroValue26 (zs := [N32 0, .slice none 0 0, .slice none 0 0]) rfl ?_; clear hS; intro n3 w hS; go_frame)
      | (show wpList _ _ _ (⟨_, .store 26 _ _, _, _, _, _⟩ :: _) _ _; (refine wpS_storeAll (b := n3) aggTx (hS.bring (by repeat (first | exact t0 | apply tS))) rfl rfl rfl (vs := [N32 m.ver, m.iv, m.ov]) rfl rfl HTV.out rfl ?_); clear hS; intro w hS; go_frame)
      )
    refine segQ_mk (((hS.bring (by repeat (first | exact t0 | apply tS))).getBlk) : Blk _ n1 64 [N32 m.ver, m.iv, m.ov, pv, B8 x, kv]) ?_
    refine ord_seg (by repeat (first | exact Clean.body | refine Clean.then ?_ | refine Clean.inBlock ?_ | refine SegQ.clean ?_ | refine FinC.clean ?_)) (n := 0) (rest := [[]]) [10, 11, 12] [⟨_, _, _, _, _, _⟩, ⟨_, _, _, _, _, _⟩, ⟨_, _, _, _, _, _⟩] rfl (by kernel_rfl) (by simp) _ _ ?_
    go_wp2_with (first
      | (show wpList _ _ _ (⟨some 16, .load _ _, _, _, _, _⟩ :: _) _ _; refine wpList_val rfl (op_load aggTx rfl rfl (blk_take (b := n1) (T := 64) (n := 3) (ds := [N32 m.ver, m.iv, m.ov]) ((hS.bring (by repeat (first | exact t0 | apply tS))).getBlk) rfl) rfl) ?_; go_frame)
      | (show wpList _ _ _ (⟨some 18, .load _ _, _, _, _, _⟩ :: _) _ _; refine wpList_val rfl (op_load1S (b := n1) (T := 64) oneOuts ((hS.bring (by repeat (first | exact t0 | apply tS)))) rfl rfl rfl) ?_; go_frame)
      | (show wpList _ _ _ (⟨some 20, .load _ _, _, _, _, _⟩ :: _) _ _; refine wpList_val rfl (op_load1S (b := n1) (T := 64) oneU8 ((hS.bring (by repeat (first | exact t0 | apply tS)))) rfl rfl rfl) ?_; go_frame)
      | (show wpList _ _ _ (⟨some 22, .load _ _, _, _, _, _⟩ :: _) _ _; refine wpList_val rfl (op_load1S (b := n1) (T := 64) oneBytes ((hS.bring (by repeat (first | exact t0 | apply tS)))) rfl rfl rfl) ?_; go_frame)
      | (show wpList _ _ _ (⟨some 3, .alloc _, _, _, _, _⟩ :: _) _ _; refine wpS_alloc hS rfl rfl Tryd.zeroValue26 (zs := [N32 0, .slice none 0 0, .slice none 0 0]) rfl ?_; clear hS; intro n3 w hS; go_frame)
      | (show wpList _ _ _ (⟨_, .store 26 _ _, _, _, _, _⟩ :: _) _ _; (refine wpS_storeAll (b := n3) aggTx (hS.bring (by repeat (first | exact t0 | apply tS))) rfl rfl rfl (vs := [N32 m.ver, m.iv, m.ov]) rfl rfl HTV.out rfl ?_); clear hS; intro w hS; go_frame)
      )
    refine segQ_mk (((hS.bring (by repeat (first | exact t0 | apply tS))).getBlk) : Blk _ n1 64 [N32 m.ver, m.iv, m.ov, pv, B8 x, kv]) ?_
    refine finC_mk (by kernel_rfl) (by
      intro t ht
      simp only [List.mem_cons, List.not_mem_nil, or_false] at ht
      rcases ht with rfl | rfl | rfl | rfl <;> exact stab_blk (b := n1) (fun w h => h) _ none) ?_
    go_wp2_with (first
      | go_big_skip
      | (show wpList _ _ _ (⟨some 23, .load 26 _, _, _, _, _⟩ :: _) _ _; refine wpList_val rfl (op_load aggTx rfl rfl (SepL.getBlk (b := n3) (T := 26) ((hS.bring (by repeat (first | exact t0 | apply tS))))).cells rfl) ?_; go_frame)
      | (show wpList _ _ _ (⟨some 32, .load 26 _, _, _, _, _⟩ :: _) _ _; refine wpList_val rfl (op_load aggTx rfl rfl (SepL.getBlk (b := n3) (T := 26) ((hS.bring (by repeat (first | exact t0 | apply tS))))).cells rfl) ?_; go_frame)
      | (go_at_call 12; refine Ret.calls (HGR.out hS) ?_; clear hS; rintro r1 w ⟨rfl, hS⟩)
      | (show wpList _ _ _ (⟨some 28, .call _, _, _, _, _⟩ :: _) _ _; refine wpList_val rfl (op_len slBytes rfl rfl (v := kv) (xs := bytes bs) rfl (by exact hS.rd HRK.out)) ?_; rw [HNK.out]; go_frame)
      | (show wpList _ _ _ (⟨some 29, .binOp _ _ _ _ _, _, _, _, _⟩ :: _) _ _; refine wpList_val rfl (op_igtr (a := lb) (b := 64) rfl rfl rfl HG.out) ?_; go_frame)
      | (go_at_call 26; refine Ret.calls (HCK.out hS) ?_; clear hS; rintro r1 w ⟨rfl, hS⟩)
      | (show wpList _ _ _ (⟨some 34, .binOp _ _ _ _ _, _, _, _, _⟩ :: _) _ _; refine wpList_val rfl (op_ineI rfl rfl rfl H1.out) ?_; go_frame)
      )
    go_ret
    exact ⟨rfl, (hS.sel (M := []) (by repeat (first | exact Sel.refl | refine Sel.take (by repeat (first | exact t0 | apply tS)) ?_ | apply Sel.drop))).chg⟩
  replace hc0 : c = 0 := Classical.not_not.1 hc0
  have H1 : Hid (((c : Int) != 0) = false) := neF (by omega)
  by_cases h2 : p2 ≠ 0
  · have H2 : Hid (((p2 : Int) != 0) = true) := neT (by omega)
    clear h2 hc0 HC HPP hlb
    go_enter Tryd.func7, Tryd.ntmps7
    go_wp2_with (first
      | (show wpList _ _ _ (⟨some 1, .box _ _, _, _, _, _⟩ :: _) _ _; refine wpS_boxA (cs := [N32 m.ver, m.iv, m.ov, pv, B8 x, kv]) hS rfl rfl rfl ?_; clear hS; intro n1 w hS; go_frame)
      | (go_at_call 11; refine Ret.calls (alive_s hS hK hF) ?_; clear hS; rintro r1 w ⟨rfl, hS⟩)
      )
    refine wp_region_ord (by kernel_rfl) [15, 17, 19, 21] [[0, 1, 2, 3, 4, 5, 6, 7, 8, 9, 10, 11, 12]] (by kernel_rfl) (by kernel_rfl) (fun w' => Blk w' n1 64 [N32 m.ver, m.iv, m.ov, pv, B8 x, kv]) Up.blk ((hS.bring (by repeat (first | exact t0 | apply tS))).getBlk) (by repeat (first | exact Clean.body | refine Clean.then ?_ | refine Clean.inBlock ?_ | refine SegQ.clean ?_ | refine FinC.clean ?_)) ?_
    replace hS := hS.drew
    refine ord_seg (by repeat (first | exact Clean.body | refine Clean.then ?_ | refine Clean.inBlock ?_ | refine SegQ.clean ?_ | refine FinC.clean ?_)) (n := 3) (rest := [[10, 11, 12]]) [0, 1, 2, 3, 4, 5, 6, 7, 8, 9] [⟨_, _, _, _, _, _⟩, ⟨_, _, _, _, _, _⟩, ⟨_, _, _, _, _, _⟩, ⟨_, _, _, _, _, _⟩, ⟨_, _, _, _, _, _⟩, ⟨_, _, _, _, _, _⟩, ⟨_, _, _, _, _, _⟩, ⟨_, _, _, _, _, _⟩, ⟨_, _, _, _, _, _⟩, ⟨_, _, _, _, _, _⟩] rfl (by kernel_rfl) (by simp) _ _ ?_
    go_wp2_with (first
      | (show wpList _ _ _ (⟨some 16, .load _ _, _, _, _, _⟩ :: _) _ _; refine wpList_val rfl (op_load aggTx rfl rfl (blk_take (b := n1) (T := 64) (n := 3) (ds := [N32 m.ver, m.iv, m.ov]) ((hS.bring (by repeat (first | exact t0 | apply tS))).getBlk) rfl) rfl) ?_; go_frame)
      | (show wpList _ _ _ (⟨some 18, .load _ _, _, _, _, _⟩ :: _) _ _; refine wpList_val rfl (op_load1S (b := n1) (T := 64) oneOuts ((hS.bring (by repeat (first | exact t0 | apply tS)))) rfl rfl rfl) ?_; go_frame)
      | (show wpList _ _ _ (⟨some 20, .load _ _, _, _, _, _⟩ :: _) _ _; refine wpList_val rfl (op_load1S (b := n1) (T := 64) oneU8 ((hS.bring (by repeat (first | exact t0 | apply tS)))) rfl rfl rfl) ?_; go_frame)
      | (show wpList _ _ _ (⟨some 22, .load _ _, _, _, _, _⟩ :: _) _ _; refine wpList_val rfl (op_load1S (b := n1) (T := 64) oneBytes ((hS.bring (by repeat (first | exact t0 | apply tS)))) rfl rfl rfl) ?_; go_frame)
      | (show wpList _ _ _ (⟨some 3, .alloc _, _, _, _, _⟩ :: _) _ _; refine wpS_alloc hS rfl rfl Tryd.zeroValue26 (zs := [N32 0, .slice none 0 0, .slice none 0 0]) rfl ?_; clear hS; intro n3 w hS; go_frame)
      | (show wpList _ _ _ (⟨_, .store 26 _ _, _, _, _, _⟩ :: _) _ _; (refine wpS_storeAll (b := n3) aggTx (hS.bring (by repeat (first | exact t0 | apply tS))) rfl rfl rfl (vs := [N32 m.ver, m.iv, m.ov]) rfl rfl HTV.out rfl ?_); clear hS; intro w hS; go_frame)
      )
    refine segQ_mk (((hS.bring (by repeat (first | exact t0 | apply tS))).getBlk) : Blk _ n1 64 [N32 m.ver, m.iv, m.ov, pv, B8 x, kv]) ?_
    refine ord_seg (by repeat (first | exact Clean.body | refine Clean.then ?_ | refine Clean.inBlock ?_ | refine SegQ.clean ?_ | refine FinC.clean ?_)) (n := 0) (rest := [[]]) [10, 11, 12] [⟨_, _, _, _, _, _⟩, ⟨_, _, _, _, _, _⟩, ⟨_, _, _, _, _, _⟩] rfl (by kernel_rfl) (by simp) _ _ ?_
    go_wp2_with (first
      | (show wpList _ _ _ (⟨some 16, .load _ _, _, _, _, _⟩ :: _) _ _; refine wpList_val rfl (op_load aggTx rfl rfl (blk_take (b := n1) (T := 64) (n := 3) (ds := [N32 m.ver, m.iv, m.ov]) ((hS.bring (by repeat (first | exact t0 | apply tS))).getBlk) rfl) rfl) ?_; go_frame)
      | (show wpList _ _ _ (⟨some 18, .load _ _, _, _, _, _⟩ :: _) _ _; refine wpList_val rfl (op_load1S (b := n1) (T := 64) oneOuts ((hS.bring (by repeat (first | exact t0 | apply tS)))) rfl rfl rfl) ?_; go_frame)
      | (show wpList _ _ _ (⟨some 20, .load _ _, _, _, _, _⟩ :: _) _ _; refine wpList_val rfl (op_load1S (b := n1) (T := 64) oneU8 ((hS.bring (by repeat (first | exact t0 | apply tS)))) rfl rfl rfl) ?_; go_frame)
      | (show wpList _ _ _ (⟨some 22, .load _ _, _, _, _, _⟩ :: _) _ _; refine wpList_val rfl (op_load1S (b := n1) (T := 64) oneBytes ((hS.bring (by repeat (first | exact t0 | apply tS)))) rfl rfl rfl) ?_; go_frame)
      | (show wpList _ _ _ (⟨some 3, .alloc _, _, _, _, _⟩ :: _) _ _; refine wpS_alloc hS rfl rfl Tryd.zeroValue26 (zs := [N32 0, .slice none 0 0, .slice none 0 0]) rfl ?_; clear hS; intro n3 w hS; go_frame)
      | (show wpList _ _ _ (⟨_, .store 26 _ _, _, _, _, _⟩ :: _) _ _; (refine wpS_storeAll (b := n3) aggTx (hS.bring (by repeat (first | exact t0 | apply tS))) rfl rfl rfl (vs := [N32 m.ver, m.iv, m.ov]) rfl rfl HTV.out rfl ?_); clear hS; intro w hS; go_frame)
      )
    refine segQ_mk (((hS.bring (by repeat (first | exact t0 | apply tS))).getBlk) : Blk _ n1 64 [N32 m.ver, m.iv, m.ov, pv, B8 x, kv]) ?_
    refine finC_mk (by kernel_rfl) (by
      intro t ht
      simp only [List.mem_cons, List.not_mem_nil, or_false] at ht
      rcases ht with rfl | rfl | rfl | rfl <;> exact stab_blk (b := n1) (fun w h => h) _ none) ?_
    go_wp2_with (first
      | go_big_skip
      | (show wpList _ _ _ (⟨some 23, .load 26 _, _, _, _, _⟩ :: _) _ _; refine wpList_val rfl (op_load aggTx rfl rfl (SepL.getBlk (b := n3) (T := 26) ((hS.bring (by repeat (first | exact t0 | apply tS))))).cells rfl) ?_; go_frame)
      | (show wpList _ _ _ (⟨some 32, .load 26 _, _, _, _, _⟩ :: _) _ _; refine wpList_val rfl (op_load aggTx rfl rfl (SepL.getBlk (b := n3) (T := 26) ((hS.bring (by repeat (first | exact t0 | apply tS))))).cells rfl) ?_; go_frame)
      | (show wpList _ _ _ (⟨some 37, .load 26 _, _, _, _, _⟩ :: _) _ _; refine wpList_val rfl (op_load aggTx rfl rfl (SepL.getBlk (b := n3) (T := 26) ((hS.bring (by repeat (first | exact t0 | apply tS))))).cells rfl) ?_; go_frame)
      | (go_at_call 12; refine Ret.calls (HGR.out hS) ?_; clear hS; rintro r1 w ⟨rfl, hS⟩)
      | (show wpList _ _ _ (⟨some 28, .call _, _, _, _, _⟩ :: _) _ _; refine wpList_val rfl (op_len slBytes rfl rfl (v := kv) (xs := bytes bs) rfl (by exact hS.rd HRK.out)) ?_; rw [HNK.out]; go_frame)
      | (show wpList _ _ _ (⟨some 29, .binOp _ _ _ _ _, _, _, _, _⟩ :: _) _ _; refine wpList_val rfl (op_igtr (a := lb) (b := 64) rfl rfl rfl HG.out) ?_; go_frame)
      | (go_at_call 26; refine Ret.calls (HCK.out hS) ?_; clear hS; rintro r1 w ⟨rfl, hS⟩)
      | (go_at_call 13; with_reducible refine Ret.calls (HOF.out hS) ?_; clear hS; rintro r1 w ⟨rfl, hS⟩)
      | (show wpList _ _ _ (⟨some 34, .binOp _ _ _ _ _, _, _, _, _⟩ :: _) _ _; refine wpList_val rfl (op_ineI rfl rfl rfl H1.out) ?_; go_frame)
      | (show wpList _ _ _ (⟨some 43, .binOp _ _ _ _ _, _, _, _, _⟩ :: _) _ _; refine wpList_val rfl (op_ineI rfl rfl rfl H2.out) ?_; go_frame)
      )
    go_ret
    exact ⟨rfl, (hS.sel (M := []) (by repeat (first | exact Sel.refl | refine Sel.take (by repeat (first | exact t0 | apply tS)) ?_ | apply Sel.drop))).chg⟩
  have e2 : p2 = 0 := Classical.not_not.1 h2
  clear h2
  have H2 : Hid (((p2 : Int) != 0) = false) := neF (by omega)
  have HP0 : Hid ((payN sum m.pt prev).2 = 0) := by unfold Hid; rw [HPP.out]; exact e2
  obtain ⟨hok, hlen, _⟩ := pay_ok HP0.out
  have hsm := hok.small
  obtain ⟨n, hn⟩ : ∃ n, m.L.length = n := ⟨_, rfl⟩
  have hpl : m.pt.ins.length = n := by unfold MT.pt; rw [List.length_map, hn]
  have hz : prev.length = n := hlen.trans hpl
  have HNL : Hid ((m.L.map inC).length = n) := by unfold Hid; rw [List.length_map, hn]
  have hn0 : 0 < n := by
    rw [← hpl]
    exact List.length_pos_iff.2 hok.ins
  have hn8 : n ≤ 8 := by rw [← hpl]; exact hsm.2.1
  have HRI := hide ht.ins
  have HRP := hide hpv.rd
  obtain ⟨z, hzx⟩ : ∃ z, x.toNat = z := ⟨_, rfl⟩
  have HZ := hide hzx
  obtain ⟨k, hkk⟩ : ∃ k, z % n = k := ⟨_, rfl⟩
  have hkn : k < n := by rw [← hkk]; exact Nat.mod_lt _ hn0
  have HKK := hide hkk
  have hkL : k < m.L.length := by omega
  have hkr : k < (m.L.map inC).length := by rw [List.length_map]; exact hkL
  have hkP : k < prev.length := by omega
  have hkp : k < (prev.map outC).length := by rw [List.length_map]; exact hkP
  obtain ⟨p, hp⟩ : ∃ p, m.L[k] = p := ⟨_, rfl⟩
  obtain ⟨o, ho⟩ : ∃ o, prev[k] = o := ⟨_, rfl⟩
  have hom : o ∈ prev := ho ▸ List.getElem_mem hkP
  have hpm : p ∈ m.L := hp ▸ List.getElem_mem hkL
  have hook := hpv.ok o hom
  have hpk := ht.iok p hpm
  have HLO : Hid (((prev.map outC)[k].drop 1).take 32 = o.lock.map B8) := by unfold Hid; rw [List.getElem_map, ho]; exact out_lock hook
  have HLL := hide hook.2
  have HLM : Hid ((o.lock.map B8).length = 32) := by unfold Hid; rw [List.length_map, hook.2]
  obtain ⟨lk, hlk⟩ : ∃ lk, sum bs = lk := ⟨_, rfl⟩
  have HLKL : Hid (lk.length = 32) := by unfold Hid; rw [← hlk, sum_len]
  have HSM : Hid (∀ {w : World} {F : List Hp}, SepL All W w F → Calls Tryd.prog 16 #[kv] w (Ret fun r w' => r = Go.Px.HV lk ∧ SepL All W w' F)) := fun hS => by
    have g := rsum_s hS hkv (by omega)
    rwa [hlk] at g
  obtain ⟨L2, hL2⟩ : ∃ L2, m.L.set k ((⟨p.1.tx, p.1.n, bs⟩ : PIn), kv) = L2 := ⟨_, rfl⟩
  have HST : Hid ((m.L.map inC).set k ((m.L.map inC)[k].set 33 kv) = L2.map inC) := by
    unfold Hid
    rw [← hL2, List.map_set, List.getElem_map, hp]
    congr 1
    unfold inC
    rw [List.set_append_right _ _ (by rw [List.length_map, hpk.1]; omega), List.length_map, hpk.1]
    rfl
  have hk2 : ∀ y ∈ L2, RdIn All W 1 y.2 (bytes y.1.key) := by
    intro y hy
    rw [← hL2] at hy
    rcases List.mem_or_eq_of_mem_set hy with h | rfl
    · exact ht.key y h
    · exact hkv
  have hi2 : ∀ y ∈ L2, IOk y := by
    intro y hy
    rw [← hL2] at hy
    rcases List.mem_or_eq_of_mem_set hy with h | rfl
    · exact ht.iok y h
    · exact hpk
  have hpt : L2.map (·.1) = m.pt.ins.set k ⟨p.1.tx, p.1.n, bs⟩ := by
    rw [← hL2, List.map_set]
    rfl
  have hkx : m.pt.ins[k]? = some p.1 := by
    unfold MT.pt
    rw [List.getElem?_map, List.getElem?_eq_getElem hkL, hp]
    rfl
  have hox : prev[k]? = some o := by rw [List.getElem?_eq_getElem hkP, ho]
  obtain ⟨a3, b3, h3⟩ : ∃ a3 b3, payN sum ⟨m.ver, L2.map (·.1), m.outs⟩ prev = (a3, b3) := ⟨_, _, rfl⟩
  have CO2 : Hid (∀ (u : Value) (F : List Hp) (w : World), SepL All W w (.own 39 34 u (L2.map inC) :: F) → Calls Tryd.prog 13 #[.agg #[N32 m.ver, u, m.ov], pv] w (Ret fun r w' => r = .tuple #[U a3, .int .i64 b3] ∧ SepL All W w' (.own 39 34 u (L2.map inC) :: F))) := fun u F w hS => by
    have g := of_q (ver := m.ver) hS hK hF hk2 hi2 ht.outs hpv
    rwa [h3] at g
  rw [hpt] at h3
  have HYES : Hid (lk = o.lock → b3 = 0) := fun e => by
    have g := pay_setY HP0.out hkx hox (show bs.length ≤ 64 by omega) (hlk.trans e)
    rw [show (⟨m.pt.ver, m.pt.ins.set k ⟨p.1.tx, p.1.n, bs⟩, m.pt.outs⟩ : PTx) = ⟨m.ver, m.pt.ins.set k ⟨p.1.tx, p.1.n, bs⟩, m.outs⟩ from rfl, h3] at g
    exact g
  have HNO : Hid (lk ≠ o.lock → a3 = 0 ∧ b3 = 13) := fun e => by
    have g := pay_setN HP0.out hkx hox (show bs.length ≤ 64 by omega) (fun h => e (hlk.symm.trans h))
    rw [show (⟨m.pt.ver, m.pt.ins.set k ⟨p.1.tx, p.1.n, bs⟩, m.pt.outs⟩ : PTx) = ⟨m.ver, m.pt.ins.set k ⟨p.1.tx, p.1.n, bs⟩, m.outs⟩ from rfl, h3] at g
    injection g with g1 g2
    exact ⟨g1, g2⟩
  have HFLI : Hid (Flat (m.L.map inC)) := ins_flat fun y hy => (slice_one (ht.key y hy)).1
  have HKV := hide (slice_one hkv)
  have HL3 : Hid (∀ a b c : Value, 1 < [a, b, c].length) := fun _ _ _ => Nat.lt_succ_of_lt (Nat.lt_succ_self 1)
  clear hok hlen hsm hpl hzx hkk hp ho hom hpm hook hpk hlk hL2 hk2 hi2 hpt hkx hox h3 HPP HP0 HC hc0 e2 hlb
  go_enter Tryd.func7, Tryd.ntmps7
  go_wp2_with (first
    | (show wpList _ _ _ (⟨some 1, .box _ _, _, _, _, _⟩ :: _) _ _; refine wpS_boxA (cs := [N32 m.ver, m.iv, m.ov, pv, B8 x, kv]) hS rfl rfl rfl ?_; clear hS; intro n1 w hS; go_frame)
    | (go_at_call 11; refine Ret.calls (alive_s hS hK hF) ?_; clear hS; rintro r1 w ⟨rfl, hS⟩)
    )
  refine wp_region_ord (by kernel_rfl) [15, 17, 19, 21] [[0, 1, 2, 3, 4, 5, 6, 7, 8, 9, 10, 11, 12]] (by kernel_rfl) (by kernel_rfl) (fun w' => Blk w' n1 64 [N32 m.ver, m.iv, m.ov, pv, B8 x, kv]) Up.blk ((hS.bring (by repeat (first | exact t0 | apply tS))).getBlk) (by repeat (first | exact Clean.body | refine Clean.then ?_ | refine Clean.inBlock ?_ | refine SegQ.clean ?_ | refine FinC.clean ?_)) ?_
  replace hS := hS.drew
  refine ord_seg (by repeat (first | exact Clean.body | refine Clean.then ?_ | refine Clean.inBlock ?_ | refine SegQ.clean ?_ | refine FinC.clean ?_)) (n := 3) (rest := [[10, 11, 12]]) [0, 1, 2, 3, 4, 5, 6, 7, 8, 9] [⟨_, _, _, _, _, _⟩, ⟨_, _, _, _, _, _⟩, ⟨_, _, _, _, _, _⟩, ⟨_, _, _, _, _, _⟩, ⟨_, _, _, _, _, _⟩, ⟨_, _, _, _, _, _⟩, ⟨_, _, _, _, _, _⟩, ⟨_, _, _, _, _, _⟩, ⟨_, _, _, _, _, _⟩, ⟨_, _, _, _, _, _⟩] rfl (by kernel_rfl) (by simp) _ _ ?_
  go_wp2_with (first
    | (show wpList _ _ _ (⟨some 16, .load _ _, _, _, _, _⟩ :: _) _ _; refine wpList_val rfl (op_load aggTx rfl rfl (blk_take (b := n1) (T := 64) (n := 3) (ds := [N32 m.ver, m.iv, m.ov]) ((hS.bring (by repeat (first | exact t0 | apply tS))).getBlk) rfl) rfl) ?_; go_frame)
    | (show wpList _ _ _ (⟨some 18, .load _ _, _, _, _, _⟩ :: _) _ _; refine wpList_val rfl (op_load1S (b := n1) (T := 64) oneOuts ((hS.bring (by repeat (first | exact t0 | apply tS)))) rfl rfl rfl) ?_; go_frame)
    | (show wpList _ _ _ (⟨some 20, .load _ _, _, _, _, _⟩ :: _) _ _; refine wpList_val rfl (op_load1S (b := n1) (T := 64) oneU8 ((hS.bring (by repeat (first | exact t0 | apply tS)))) rfl rfl rfl) ?_; go_frame)
    | (show wpList _ _ _ (⟨some 22, .load _ _, _, _, _, _⟩ :: _) _ _; refine wpList_val rfl (op_load1S (b := n1) (T := 64) oneBytes ((hS.bring (by repeat (first | exact t0 | apply tS)))) rfl rfl rfl) ?_; go_frame)
    | (show wpList _ _ _ (⟨some 3, .alloc _, _, _, _, _⟩ :: _) _ _; refine wpS_alloc hS rfl rfl Tryd.zeroValue26 (zs := [N32 0, .slice none 0 0, .slice none 0 0]) rfl ?_; clear hS; intro n3 w hS; go_frame)
    | (show wpList _ _ _ (⟨_, .store 26 _ _, _, _, _, _⟩ :: _) _ _; (refine wpS_storeAll (b := n3) aggTx (hS.bring (by repeat (first | exact t0 | apply tS))) rfl rfl rfl (vs := [N32 m.ver, m.iv, m.ov]) rfl rfl HTV.out rfl ?_); clear hS; intro w hS; go_frame)
    )
  refine segQ_mk (((hS.bring (by repeat (first | exact t0 | apply tS))).getBlk) : Blk _ n1 64 [N32 m.ver, m.iv, m.ov, pv, B8 x, kv]) ?_
  refine ord_seg (by repeat (first | exact Clean.body | refine Clean.then ?_ | refine Clean.inBlock ?_ | refine SegQ.clean ?_ | refine FinC.clean ?_)) (n := 0) (rest := [[]]) [10, 11, 12] [⟨_, _, _, _, _, _⟩, ⟨_, _, _, _, _, _⟩, ⟨_, _, _, _, _, _⟩] rfl (by kernel_rfl) (by simp) _ _ ?_
  go_wp2_with (first
    | (show wpList _ _ _ (⟨some 16, .load _ _, _, _, _, _⟩ :: _) _ _; refine wpList_val rfl (op_load aggTx rfl rfl (blk_take (b := n1) (T := 64) (n := 3) (ds := [N32 m.ver, m.iv, m.ov]) ((hS.bring (by repeat (first | exact t0 | apply tS))).getBlk) rfl) rfl) ?_; go_frame)
    | (show wpList _ _ _ (⟨some 18, .load _ _, _, _, _, _⟩ :: _) _ _; refine wpList_val rfl (op_load1S (b := n1) (T := 64) oneOuts ((hS.bring (by repeat (first | exact t0 | apply tS)))) rfl rfl rfl) ?_; go_frame)
    | (show wpList _ _ _ (⟨some 20, .load _ _, _, _, _, _⟩ :: _) _ _; refine wpList_val rfl (op_load1S (b := n1) (T := 64) oneU8 ((hS.bring (by repeat (first | exact t0 | apply tS)))) rfl rfl rfl) ?_; go_frame)
    | (show wpList _ _ _ (⟨some 22, .load _ _, _, _, _, _⟩ :: _) _ _; refine wpList_val rfl (op_load1S (b := n1) (T := 64) oneBytes ((hS.bring (by repeat (first | exact t0 | apply tS)))) rfl rfl rfl) ?_; go_frame)
    | (show wpList _ _ _ (⟨some 3, .alloc _, _, _, _, _⟩ :: _) _ _; refine wpS_alloc hS rfl rfl Tryd.zeroValue26 (zs := [N32 0, .slice none 0 0, .slice none 0 0]) rfl ?_; clear hS; intro n3 w hS; go_frame)
    | (show wpList _ _ _ (⟨_, .store 26 _ _, _, _, _, _⟩ :: _) _ _; (refine wpS_storeAll (b := n3) aggTx (hS.bring (by repeat (first | exact t0 | apply tS))) rfl rfl rfl (vs := [N32 m.ver, m.iv, m.ov]) rfl rfl HTV.out rfl ?_); clear hS; intro w hS; go_frame)
    )
  refine segQ_mk (((hS.bring (by repeat (first | exact t0 | apply tS))).getBlk) : Blk _ n1 64 [N32 m.ver, m.iv, m.ov, pv, B8 x, kv]) ?_
  refine finC_mk (by kernel_rfl) (by
    intro t ht
    simp only [List.mem_cons, List.not_mem_nil, or_false] at ht
    rcases ht with rfl | rfl | rfl | rfl <;> exact stab_blk (b := n1) (fun w h => h) _ none) ?_
  go_wp2_with (first
    | go_big_skip
    | (show wpList _ _ _ (⟨some 23, .load 26 _, _, _, _, _⟩ :: _) _ _; refine wpList_val rfl (op_load aggTx rfl rfl (SepL.getBlk (b := n3) (T := 26) ((hS.bring (by repeat (first | exact t0 | apply tS))))).cells rfl) ?_; go_frame)
    | (show wpList _ _ _ (⟨some 32, .load 26 _, _, _, _, _⟩ :: _) _ _; refine wpList_val rfl (op_load aggTx rfl rfl (SepL.getBlk (b := n3) (T := 26) ((hS.bring (by repeat (first | exact t0 | apply tS))))).cells rfl) ?_; go_frame)
    | (show wpList _ _ _ (⟨some 37, .load 26 _, _, _, _, _⟩ :: _) _ _; refine wpList_val rfl (op_load aggTx rfl rfl (SepL.getBlk (b := n3) (T := 26) ((hS.bring (by repeat (first | exact t0 | apply tS))))).cells rfl) ?_; go_frame)
    | (show wpList _ _ _ (⟨some 50, .load 26 _, _, _, _, _⟩ :: _) _ _; refine wpList_val rfl (op_load aggTx rfl rfl (SepL.getBlk (b := n3) (T := 26) ((hS.bring (by repeat (first | exact t0 | apply tS))))).cells rfl) ?_; go_frame)
    | (go_at_call 12; refine Ret.calls (HGR.out hS) ?_; clear hS; rintro r1 w ⟨rfl, hS⟩)
    | (show wpList _ _ _ (⟨some 28, .call _, _, _, _, _⟩ :: _) _ _; refine wpList_val rfl (op_len slBytes rfl rfl (v := kv) (xs := bytes bs) rfl (by exact hS.rd HRK.out)) ?_; rw [HNK.out]; go_frame)
    | (show wpList _ _ _ (⟨some 29, .binOp _ _ _ _ _, _, _, _, _⟩ :: _) _ _; refine wpList_val rfl (op_igtr (a := lb) (b := 64) rfl rfl rfl HG.out) ?_; go_frame)
    | (go_at_call 26; refine Ret.calls (HCK.out hS) ?_; clear hS; rintro r1 w ⟨rfl, hS⟩)
    | (go_at_call 13; with_reducible refine Ret.calls (HOF.out hS) ?_; clear hS; rintro r1 w ⟨rfl, hS⟩)
    | (go_at_call 13; with_reducible refine Ret.calls (CO2.out v54 _ _ hS) ?_; clear hS; rintro r1 w ⟨rfl, hS⟩)
    | (show wpList _ _ _ (⟨some 34, .binOp _ _ _ _ _, _, _, _, _⟩ :: _) _ _; refine wpList_val rfl (op_ineI rfl rfl rfl H1.out) ?_; go_frame)
    | (show wpList _ _ _ (⟨some 43, .binOp _ _ _ _ _, _, _, _, _⟩ :: _) _ _; refine wpList_val rfl (op_ineI rfl rfl rfl H2.out) ?_; go_frame)
    | (show wpList _ _ _ (⟨some 45, .convert _ _ _, _, _, _, _⟩ :: _) _ _; refine wpList_val rfl (op_8toInt undU8 undInt rfl rfl) ?_; rw [HZ.out]; go_frame)
    | (show wpList _ _ _ (⟨some 47, .load _ _, _, _, _, _⟩ :: _) _ _; refine wpList_val rfl (op_load1S (b := n3) (T := 26) oneIns ((hS.bring (by repeat (first | exact t0 | apply tS)))) rfl rfl rfl) ?_; go_frame)
    | (show wpList _ _ _ (⟨some 48, .call _, _, _, _, _⟩ :: _) _ _; refine wpList_val rfl (op_len slIns rfl rfl (v := m.iv) (xs := m.L.map inC) rfl (by exact hS.rd HRI.out)) ?_; rw [HNL.out]; go_frame)
    | (show wpList _ _ _ (⟨some 49, .binOp _ _ _ _ _, _, _, _, _⟩ :: _) _ _; refine wpList_val rfl (op_iremN rfl rfl (b := n) rfl hn0) ?_; rw [HKK.out]; go_frame)
    | (show wpList _ _ _ (⟨some 10, .alloc _, _, _, _, _⟩ :: _) _ _; refine wpS_alloc hS rfl rfl Tryd.zeroValue26 (zs := [N32 0, .slice none 0 0, .slice none 0 0]) rfl ?_; clear hS; intro n10 w hS; go_frame)
    | (show wpList _ _ _ (⟨_, .store 26 _ _, _, _, _, _⟩ :: _) _ _; (refine wpS_storeAll (b := n10) aggTx (hS.bring (by repeat (first | exact t0 | apply tS))) rfl rfl rfl (vs := [N32 m.ver, m.iv, m.ov]) rfl rfl HTV.out rfl ?_); clear hS; intro w hS; go_frame)
    | (show wpList _ _ _ (⟨some 51, .buildSlice _ _ _, _, _, _, _⟩ :: _) _ _; refine wpS_build0 slIns hS rfl rfl ?_; clear hS; intro v51 w hS; go_frame)
    | (show wpList _ _ _ (⟨some 53, .load _ _, _, _, _, _⟩ :: _) _ _; refine wpList_val rfl (op_load1S (b := n3) (T := 26) oneIns ((hS.bring (by repeat (first | exact t0 | apply tS)))) rfl rfl rfl) ?_; go_frame)
    | (show wpList _ _ _ (⟨some 54, .call _, _, _, _, _⟩ :: _) _ _; refine wpS_append slIns hS rfl rfl rfl rfl (by exact hS.rd HRI.out) HFLI.out (by rw [HNL.out]; simp only [List.length_nil]; omega) (by rw [HNL.out]; simp only [maxLen, List.length_nil]; omega) ?_; clear hS; intro v54 w hS; have HV54 := hide (own_one hS.getOwn); replace hS : SepL All W w (.own 39 34 v54 (m.L.map inC) :: .blk n10 26 [N32 m.ver, m.iv, m.ov] :: .blk n3 26 [N32 m.ver, m.iv, m.ov] :: [.blk n1 64 [N32 m.ver, m.iv, m.ov, pv, B8 x, kv]]) := hS.sel (by repeat (first | exact Sel.refl | refine Sel.take (by repeat (first | exact t0 | apply tS)) ?_ | apply Sel.drop)); go_frame)
    | (show wpList _ _ _ (⟨_, .store 23 _ _, _, _, _, _⟩ :: _) _ _; (refine wpS_store1 (b := n10) infoIns1 (hS.bring (by repeat (first | exact t0 | apply tS))) rfl rfl rfl (v := v54) rfl HV54.out.2 HV54.out.1 (HL3.out _ _ _) ?_); clear hS; intro w hS; replace hS : SepL All W w (.blk n10 26 [N32 m.ver, v54, m.ov] :: .own 39 34 v54 (m.L.map inC) :: .blk n3 26 [N32 m.ver, m.iv, m.ov] :: [.blk n1 64 [N32 m.ver, m.iv, m.ov, pv, B8 x, kv]]) := hS; go_frame)
    | (show wpList _ _ _ (⟨some 57, .load _ _, _, _, _, _⟩ :: _) _ _; refine wpList_val rfl (op_load1S (b := n10) (T := 26) oneIns ((hS.bring (by repeat (first | exact t0 | apply tS)))) rfl rfl rfl) ?_; go_frame)
    | (show wpList _ _ _ (⟨some 60, .indexAddr _ _ _, _, _, _, _⟩ :: _) _ _; refine wpList_val rfl (op_indexAddr slIns rfl (v := v54) (xs := m.L.map inC) rfl (k := k) rfl (SepL.getOwn (v := v54) ((hS.bring (by repeat (first | exact t0 | apply tS))))).rd hkr) ?_; go_frame)
    | (show wpList _ _ _ (⟨some 61, .fieldAddr _ _ _, _, _, _, _⟩ :: _) _ _; refine wpList_val rfl (op_fieldAddrE (j := 33) (by kernel_rfl) rfl (n := 34) (k := k) (v := v54) (xs := m.L.map inC) rfl (SepL.getOwn (v := v54) ((hS.bring (by repeat (first | exact t0 | apply tS))))).rd hkr) ?_; go_frame)
    | (show wpList _ _ _ (⟨_, .store 37 _ _, _, _, _, _⟩ :: _) _ _; (refine wpS_storeF1 (by kernel_rfl) (hS.bring (by repeat (first | exact t0 | apply tS))) rfl rfl (k := k) (j := 33) (v := v54) (xs := m.L.map inC) rfl (u := kv) rfl HKV.out.2 HKV.out.1 hkr (by omega) ?_); clear hS; intro w hS; rw [HST.out] at hS; go_frame)
    | (show wpList _ _ _ (⟨some 63, .load _ _, _, _, _, _⟩ :: _) _ _; refine wpList_val rfl (op_load aggTx rfl rfl (SepL.getBlk (b := n10) (T := 26) ((hS.bring (by repeat (first | exact t0 | apply tS))))).cells rfl) ?_; go_frame)
    )
  by_cases hEQ : lk = o.lock
  · have HEQ : Hid ((!decide (lk = o.lock)) = false) := by unfold Hid; rw [decide_eq_true hEQ]; rfl
    have HB3 : Hid (((b3 : Int) == 0) = true) := eqT (by have := HYES.out hEQ; omega)
    clear hEQ HYES HNO
    refine wp_region_ord (by kernel_rfl) [] [[0, 2, 3, 4, 5, 1, 6, 7], [0, 2, 3, 4, 5, 6, 1, 7]] (by kernel_rfl) (by kernel_rfl) (fun _ => True) (fun _ _ _ _ => trivial) trivial (by repeat (first | exact Clean.body | refine Clean.then ?_ | refine Clean.inBlock ?_ | refine SegQ.clean ?_ | refine FinC.clean ?_)) ?_
    replace hS := hS.drew
    refine ord_seg (by repeat (first | exact Clean.body | refine Clean.then ?_ | refine Clean.inBlock ?_ | refine SegQ.clean ?_ | refine FinC.clean ?_)) (n := 3) (rest := [[1, 6, 7], [6, 1, 7]]) [0, 2, 3, 4, 5] [⟨_, _, _, _, _, _⟩, ⟨_, _, _, _, _, _⟩, ⟨_, _, _, _, _, _⟩, ⟨_, _, _, _, _, _⟩, ⟨_, _, _, _, _, _⟩] rfl (by kernel_rfl) (by simp) _ _ ?_
    go_wp2_with (first
      | (go_at_call 16; refine Ret.calls (HSM.out hS) ?_; clear hS; rintro r1 w ⟨rfl, hS⟩)
      | (show wpList _ _ _ (⟨some 72, .indexAddr _ _ _, _, _, _, _⟩ :: _) _ _; refine wpList_val rfl (op_indexAddr slOuts rfl (v := pv) (xs := prev.map outC) rfl (k := k) rfl (by exact hS.rd HRP.out) hkp) ?_; go_frame)
      | (show wpList _ _ _ (⟨some 73, .fieldAddr _ _ _, _, _, _, _⟩ :: _) _ _; refine wpList_val rfl (op_fieldAddrE (j := 1) (by kernel_rfl) rfl (n := 33) (k := k) (v := pv) rfl (by exact hS.rd HRP.out) hkp) ?_; go_frame)
      | (show wpList _ _ _ (⟨some 74, .load _ _, _, _, _, _⟩ :: _) _ _; refine wpList_val rfl (op_loadFA agg32b rfl (n := 33) (k := k) (j := 1) (v := pv) rfl (by exact hS.rd HRP.out) hkp (cs := o.lock.map B8) HLO.out HLM.out) ?_; go_frame)
      | (show wpList _ _ _ (⟨some 75, .binOp _ _ _ _ _, _, _, _, _⟩ :: _) _ _; refine wpList_val rfl (op_neqHash (a := lk) (b := o.lock) rfl rfl rfl HLKL.out HLL.out HEQ.out) ?_; go_frame)
      )
    refine segQ_mk trivial ?_
    refine ord_fork (n := 2) (os1 := [[1, 6, 7]]) (os2 := [[6, 1, 7]]) (by decide) ?_ ?_
    · skip
      refine ord_seg (by repeat (first | exact Clean.body | refine Clean.then ?_ | refine Clean.inBlock ?_ | refine SegQ.clean ?_ | refine FinC.clean ?_)) (n := 2) (rest := [[6, 7]]) [1] [⟨_, _, _, _, _, _⟩] rfl (by kernel_rfl) (by simp) _ _ ?_
      go_wp2_with (first
        | (go_at_call 16; refine Ret.calls (HSM.out hS) ?_; clear hS; rintro r1 w ⟨rfl, hS⟩)
        | (show wpList _ _ _ (⟨some 72, .indexAddr _ _ _, _, _, _, _⟩ :: _) _ _; refine wpList_val rfl (op_indexAddr slOuts rfl (v := pv) (xs := prev.map outC) rfl (k := k) rfl (by exact hS.rd HRP.out) hkp) ?_; go_frame)
        | (show wpList _ _ _ (⟨some 73, .fieldAddr _ _ _, _, _, _, _⟩ :: _) _ _; refine wpList_val rfl (op_fieldAddrE (j := 1) (by kernel_rfl) rfl (n := 33) (k := k) (v := pv) rfl (by exact hS.rd HRP.out) hkp) ?_; go_frame)
        | (show wpList _ _ _ (⟨some 74, .load _ _, _, _, _, _⟩ :: _) _ _; refine wpList_val rfl (op_loadFA agg32b rfl (n := 33) (k := k) (j := 1) (v := pv) rfl (by exact hS.rd HRP.out) hkp (cs := o.lock.map B8) HLO.out HLM.out) ?_; go_frame)
        | (show wpList _ _ _ (⟨some 75, .binOp _ _ _ _ _, _, _, _, _⟩ :: _) _ _; refine wpList_val rfl (op_neqHash (a := lk) (b := o.lock) rfl rfl rfl HLKL.out HLL.out HEQ.out) ?_; go_frame)
        )
      refine segQ_mk trivial ?_
      refine ord_seg (by repeat (first | exact Clean.body | refine Clean.then ?_ | refine Clean.inBlock ?_ | refine SegQ.clean ?_ | refine FinC.clean ?_)) (n := 0) (rest := [[]]) [6, 7] [⟨_, _, _, _, _, _⟩, ⟨_, _, _, _, _, _⟩] rfl (by kernel_rfl) (by simp) _ _ ?_
      go_wp2_with (first
        | (go_at_call 16; refine Ret.calls (HSM.out hS) ?_; clear hS; rintro r1 w ⟨rfl, hS⟩)
        | (show wpList _ _ _ (⟨some 72, .indexAddr _ _ _, _, _, _, _⟩ :: _) _ _; refine wpList_val rfl (op_indexAddr slOuts rfl (v := pv) (xs := prev.map outC) rfl (k := k) rfl (by exact hS.rd HRP.out) hkp) ?_; go_frame)
        | (show wpList _ _ _ (⟨some 73, .fieldAddr _ _ _, _, _, _, _⟩ :: _) _ _; refine wpList_val rfl (op_fieldAddrE (j := 1) (by kernel_rfl) rfl (n := 33) (k := k) (v := pv) rfl (by exact hS.rd HRP.out) hkp) ?_; go_frame)
        | (show wpList _ _ _ (⟨some 74, .load _ _, _, _, _, _⟩ :: _) _ _; refine wpList_val rfl (op_loadFA agg32b rfl (n := 33) (k := k) (j := 1) (v := pv) rfl (by exact hS.rd HRP.out) hkp (cs := o.lock.map B8) HLO.out HLM.out) ?_; go_frame)
        | (show wpList _ _ _ (⟨some 75, .binOp _ _ _ _ _, _, _, _, _⟩ :: _) _ _; refine wpList_val rfl (op_neqHash (a := lk) (b := o.lock) rfl rfl rfl HLKL.out HLL.out HEQ.out) ?_; go_frame)
        )
      refine segQ_mk trivial ?_
      refine finC_mk (by kernel_rfl) (by
        intro t ht
        cases ht) ?_
      go_wp2_with (first
        | go_big_skip
        | (show wpList _ _ _ (⟨some 77, .binOp _ _ _ _ _, _, _, _, _⟩ :: _) _ _; refine wpList_val rfl (opU_eql (a := a3) (b := 0) rfl rfl rfl HA3.out) ?_; go_frame)
        | (show wpList _ _ _ (⟨some 80, .binOp _ _ _ _ _, _, _, _, _⟩ :: _) _ _; refine wpList_val rfl (op_eqI' (a := (b3 : Int)) (b := 13) rfl rfl rfl HB3.out) ?_; go_frame)
        | (show wpList _ _ _ (⟨some 83, .binOp _ _ _ _ _, _, _, _, _⟩ :: _) _ _; refine wpList_val rfl (op_eqI' (a := (b3 : Int)) (b := 0) rfl rfl rfl HB3.out) ?_; go_frame)
        )
      go_ret
      exact ⟨rfl, (hS.sel (M := []) (by repeat (first | exact Sel.refl | refine Sel.take (by repeat (first | exact t0 | apply tS)) ?_ | apply Sel.drop))).chg⟩
    · skip
      refine ord_seg (by repeat (first | exact Clean.body | refine Clean.then ?_ | refine Clean.inBlock ?_ | refine SegQ.clean ?_ | refine FinC.clean ?_)) (n := 1) (rest := [[7]]) [6, 1] [⟨_, _, _, _, _, _⟩, ⟨_, _, _, _, _, _⟩] rfl (by kernel_rfl) (by simp) _ _ ?_
      go_wp2_with (first
        | (go_at_call 16; refine Ret.calls (HSM.out hS) ?_; clear hS; rintro r1 w ⟨rfl, hS⟩)
        | (show wpList _ _ _ (⟨some 72, .indexAddr _ _ _, _, _, _, _⟩ :: _) _ _; refine wpList_val rfl (op_indexAddr slOuts rfl (v := pv) (xs := prev.map outC) rfl (k := k) rfl (by exact hS.rd HRP.out) hkp) ?_; go_frame)
        | (show wpList _ _ _ (⟨some 73, .fieldAddr _ _ _, _, _, _, _⟩ :: _) _ _; refine wpList_val rfl (op_fieldAddrE (j := 1) (by kernel_rfl) rfl (n := 33) (k := k) (v := pv) rfl (by exact hS.rd HRP.out) hkp) ?_; go_frame)
        | (show wpList _ _ _ (⟨some 74, .load _ _, _, _, _, _⟩ :: _) _ _; refine wpList_val rfl (op_loadFA agg32b rfl (n := 33) (k := k) (j := 1) (v := pv) rfl (by exact hS.rd HRP.out) hkp (cs := o.lock.map B8) HLO.out HLM.out) ?_; go_frame)
        | (show wpList _ _ _ (⟨some 75, .binOp _ _ _ _ _, _, _, _, _⟩ :: _) _ _; refine wpList_val rfl (op_neqHash (a := lk) (b := o.lock) rfl rfl rfl HLKL.out HLL.out HEQ.out) ?_; go_frame)
        )
      refine segQ_mk trivial ?_
      refine ord_seg (by repeat (first | exact Clean.body | refine Clean.then ?_ | refine Clean.inBlock ?_ | refine SegQ.clean ?_ | refine FinC.clean ?_)) (n := 0) (rest := [[]]) [7] [⟨_, _, _, _, _, _⟩] rfl (by kernel_rfl) (by simp) _ _ ?_
      go_wp2_with (first
        | (go_at_call 16; refine Ret.calls (HSM.out hS) ?_; clear hS; rintro r1 w ⟨rfl, hS⟩)
        | (show wpList _ _ _ (⟨some 72, .indexAddr _ _ _, _, _, _, _⟩ :: _) _ _; refine wpList_val rfl (op_indexAddr slOuts rfl (v := pv) (xs := prev.map outC) rfl (k := k) rfl (by exact hS.rd HRP.out) hkp) ?_; go_frame)
        | (show wpList _ _ _ (⟨some 73, .fieldAddr _ _ _, _, _, _, _⟩ :: _) _ _; refine wpList_val rfl (op_fieldAddrE (j := 1) (by kernel_rfl) rfl (n := 33) (k := k) (v := pv) rfl (by exact hS.rd HRP.out) hkp) ?_; go_frame)
        | (show wpList _ _ _ (⟨some 74, .load _ _, _, _, _, _⟩ :: _) _ _; refine wpList_val rfl (op_loadFA agg32b rfl (n := 33) (k := k) (j := 1) (v := pv) rfl (by exact hS.rd HRP.out) hkp (cs := o.lock.map B8) HLO.out HLM.out) ?_; go_frame)
        | (show wpList _ _ _ (⟨some 75, .binOp _ _ _ _ _, _, _, _, _⟩ :: _) _ _; refine wpList_val rfl (op_neqHash (a := lk) (b := o.lock) rfl rfl rfl HLKL.out HLL.out HEQ.out) ?_; go_frame)
        )
      refine segQ_mk trivial ?_
      refine finC_mk (by kernel_rfl) (by
        intro t ht
        cases ht) ?_
      go_wp2_with (first
        | go_big_skip
        | (show wpList _ _ _ (⟨some 77, .binOp _ _ _ _ _, _, _, _, _⟩ :: _) _ _; refine wpList_val rfl (opU_eql (a := a3) (b := 0) rfl rfl rfl HA3.out) ?_; go_frame)
        | (show wpList _ _ _ (⟨some 80, .binOp _ _ _ _ _, _, _, _, _⟩ :: _) _ _; refine wpList_val rfl (op_eqI' (a := (b3 : Int)) (b := 13) rfl rfl rfl HB3.out) ?_; go_frame)
        | (show wpList _ _ _ (⟨some 83, .binOp _ _ _ _ _, _, _, _, _⟩ :: _) _ _; refine wpList_val rfl (op_eqI' (a := (b3 : Int)) (b := 0) rfl rfl rfl HB3.out) ?_; go_frame)
        )
      go_ret
      exact ⟨rfl, (hS.sel (M := []) (by repeat (first | exact Sel.refl | refine Sel.take (by repeat (first | exact t0 | apply tS)) ?_ | apply Sel.drop))).chg⟩
  · have HEQ : Hid ((!decide (lk = o.lock)) = true) := by unfold Hid; rw [decide_eq_false hEQ]; rfl
    have HA3 : Hid ((a3 == 0) = true) := by unfold Hid; rw [(HNO.out hEQ).1]; rfl
    have HB3 : Hid (((b3 : Int) == 13) = true) := eqT (by have := (HNO.out hEQ).2; omega)
    clear hEQ HYES HNO
    refine wp_region_ord (by kernel_rfl) [] [[0, 2, 3, 4, 5, 1, 6, 7], [0, 2, 3, 4, 5, 6, 1, 7]] (by kernel_rfl) (by kernel_rfl) (fun _ => True) (fun _ _ _ _ => trivial) trivial (by repeat (first | exact Clean.body | refine Clean.then ?_ | refine Clean.inBlock ?_ | refine SegQ.clean ?_ | refine FinC.clean ?_)) ?_
    replace hS := hS.drew
    refine ord_seg (by repeat (first | exact Clean.body | refine Clean.then ?_ | refine Clean.inBlock ?_ | refine SegQ.clean ?_ | refine FinC.clean ?_)) (n := 3) (rest := [[1, 6, 7], [6, 1, 7]]) [0, 2, 3, 4, 5] [⟨_, _, _, _, _, _⟩, ⟨_, _, _, _, _, _⟩, ⟨_, _, _, _, _, _⟩, ⟨_, _, _, _, _, _⟩, ⟨_, _, _, _, _, _⟩] rfl (by kernel_rfl) (by simp) _ _ ?_
    go_wp2_with (first
      | (go_at_call 16; refine Ret.calls (HSM.out hS) ?_; clear hS; rintro r1 w ⟨rfl, hS⟩)
      | (show wpList _ _ _ (⟨some 72, .indexAddr _ _ _, _, _, _, _⟩ :: _) _ _; refine wpList_val rfl (op_indexAddr slOuts rfl (v := pv) (xs := prev.map outC) rfl (k := k) rfl (by exact hS.rd HRP.out) hkp) ?_; go_frame)
      | (show wpList _ _ _ (⟨some 73, .fieldAddr _ _ _, _, _, _, _⟩ :: _) _ _; refine wpList_val rfl (op_fieldAddrE (j := 1) (by kernel_rfl) rfl (n := 33) (k := k) (v := pv) rfl (by exact hS.rd HRP.out) hkp) ?_; go_frame)
      | (show wpList _ _ _ (⟨some 74, .load _ _, _, _, _, _⟩ :: _) _ _; refine wpList_val rfl (op_loadFA agg32b rfl (n := 33) (k := k) (j := 1) (v := pv) rfl (by exact hS.rd HRP.out) hkp (cs := o.lock.map B8) HLO.out HLM.out) ?_; go_frame)
      | (show wpList _ _ _ (⟨some 75, .binOp _ _ _ _ _, _, _, _, _⟩ :: _) _ _; refine wpList_val rfl (op_neqHash (a := lk) (b := o.lock) rfl rfl rfl HLKL.out HLL.out HEQ.out) ?_; go_frame)
      )
    refine segQ_mk trivial ?_
    refine ord_fork (n := 2) (os1 := [[1, 6, 7]]) (os2 := [[6, 1, 7]]) (by decide) ?_ ?_
    · skip
      refine ord_seg (by repeat (first | exact Clean.body | refine Clean.then ?_ | refine Clean.inBlock ?_ | refine SegQ.clean ?_ | refine FinC.clean ?_)) (n := 2) (rest := [[6, 7]]) [1] [⟨_, _, _, _, _, _⟩] rfl (by kernel_rfl) (by simp) _ _ ?_
      go_wp2_with (first
        | (go_at_call 16; refine Ret.calls (HSM.out hS) ?_; clear hS; rintro r1 w ⟨rfl, hS⟩)
        | (show wpList _ _ _ (⟨some 72, .indexAddr _ _ _, _, _, _, _⟩ :: _) _ _; refine wpList_val rfl (op_indexAddr slOuts rfl (v := pv) (xs := prev.map outC) rfl (k := k) rfl (by exact hS.rd HRP.out) hkp) ?_; go_frame)
        | (show wpList _ _ _ (⟨some 73, .fieldAddr _ _ _, _, _, _, _⟩ :: _) _ _; refine wpList_val rfl (op_fieldAddrE (j := 1) (by kernel_rfl) rfl (n := 33) (k := k) (v := pv) rfl (by exact hS.rd HRP.out) hkp) ?_; go_frame)
        | (show wpList _ _ _ (⟨some 74, .load _ _, _, _, _, _⟩ :: _) _ _; refine wpList_val rfl (op_loadFA agg32b rfl (n := 33) (k := k) (j := 1) (v := pv) rfl (by exact hS.rd HRP.out) hkp (cs := o.lock.map B8) HLO.out HLM.out) ?_; go_frame)
        | (show wpList _ _ _ (⟨some 75, .binOp _ _ _ _ _, _, _, _, _⟩ :: _) _ _; refine wpList_val rfl (op_neqHash (a := lk) (b := o.lock) rfl rfl rfl HLKL.out HLL.out HEQ.out) ?_; go_frame)
        )
      refine segQ_mk trivial ?_
      refine ord_seg (by repeat (first | exact Clean.body | refine Clean.then ?_ | refine Clean.inBlock ?_ | refine SegQ.clean ?_ | refine FinC.clean ?_)) (n := 0) (rest := [[]]) [6, 7] [⟨_, _, _, _, _, _⟩, ⟨_, _, _, _, _, _⟩] rfl (by kernel_rfl) (by simp) _ _ ?_
      go_wp2_with (first
        | (go_at_call 16; refine Ret.calls (HSM.out hS) ?_; clear hS; rintro r1 w ⟨rfl, hS⟩)
        | (show wpList _ _ _ (⟨some 72, .indexAddr _ _ _, _, _, _, _⟩ :: _) _ _; refine wpList_val rfl (op_indexAddr slOuts rfl (v := pv) (xs := prev.map outC) rfl (k := k) rfl (by exact hS.rd HRP.out) hkp) ?_; go_frame)
        | (show wpList _ _ _ (⟨some 73, .fieldAddr _ _ _, _, _, _, _⟩ :: _) _ _; refine wpList_val rfl (op_fieldAddrE (j := 1) (by kernel_rfl) rfl (n := 33) (k := k) (v := pv) rfl (by exact hS.rd HRP.out) hkp) ?_; go_frame)
        | (show wpList _ _ _ (⟨some 74, .load _ _, _, _, _, _⟩ :: _) _ _; refine wpList_val rfl (op_loadFA agg32b rfl (n := 33) (k := k) (j := 1) (v := pv) rfl (by exact hS.rd HRP.out) hkp (cs := o.lock.map B8) HLO.out HLM.out) ?_; go_frame)
        | (show wpList _ _ _ (⟨some 75, .binOp _ _ _ _ _, _, _, _, _⟩ :: _) _ _; refine wpList_val rfl (op_neqHash (a := lk) (b := o.lock) rfl rfl rfl HLKL.out HLL.out HEQ.out) ?_; go_frame)
        )
      refine segQ_mk trivial ?_
      refine finC_mk (by kernel_rfl) (by
        intro t ht
        cases ht) ?_
      go_wp2_with (first
        | go_big_skip
        | (show wpList _ _ _ (⟨some 77, .binOp _ _ _ _ _, _, _, _, _⟩ :: _) _ _; refine wpList_val rfl (opU_eql (a := a3) (b := 0) rfl rfl rfl HA3.out) ?_; go_frame)
        | (show wpList _ _ _ (⟨some 80, .binOp _ _ _ _ _, _, _, _, _⟩ :: _) _ _; refine wpList_val rfl (op_eqI' (a := (b3 : Int)) (b := 13) rfl rfl rfl HB3.out) ?_; go_frame)
        | (show wpList _ _ _ (⟨some 83, .binOp _ _ _ _ _, _, _, _, _⟩ :: _) _ _; refine wpList_val rfl (op_eqI' (a := (b3 : Int)) (b := 0) rfl rfl rfl HB3.out) ?_; go_frame)
        )
      go_ret
      exact ⟨rfl, (hS.sel (M := []) (by repeat (first | exact Sel.refl | refine Sel.take (by repeat (first | exact t0 | apply tS)) ?_ | apply Sel.drop))).chg⟩
    · skip
      refine ord_seg (by repeat (first | exact Clean.body | refine Clean.then ?_ | refine Clean.inBlock ?_ | refine SegQ.clean ?_ | refine FinC.clean ?_)) (n := 1) (rest := [[7]]) [6, 1] [⟨_, _, _, _, _, _⟩, ⟨_, _, _, _, _, _⟩] rfl (by kernel_rfl) (by simp) _ _ ?_
      go_wp2_with (first
        | (go_at_call 16; refine Ret.calls (HSM.out hS) ?_; clear hS; rintro r1 w ⟨rfl, hS⟩)
        | (show wpList _ _ _ (⟨some 72, .indexAddr _ _ _, _, _, _, _⟩ :: _) _ _; refine wpList_val rfl (op_indexAddr slOuts rfl (v := pv) (xs := prev.map outC) rfl (k := k) rfl (by exact hS.rd HRP.out) hkp) ?_; go_frame)
        | (show wpList _ _ _ (⟨some 73, .fieldAddr _ _ _, _, _, _, _⟩ :: _) _ _; refine wpList_val rfl (op_fieldAddrE (j := 1) (by kernel_rfl) rfl (n := 33) (k := k) (v := pv) rfl (by exact hS.rd HRP.out) hkp) ?_; go_frame)
        | (show wpList _ _ _ (⟨some 74, .load _ _, _, _, _, _⟩ :: _) _ _; refine wpList_val rfl (op_loadFA agg32b rfl (n := 33) (k := k) (j := 1) (v := pv) rfl (by exact hS.rd HRP.out) hkp (cs := o.lock.map B8) HLO.out HLM.out) ?_; go_frame)
        | (show wpList _ _ _ (⟨some 75, .binOp _ _ _ _ _, _, _, _, _⟩ :: _) _ _; refine wpList_val rfl (op_neqHash (a := lk) (b := o.lock) rfl rfl rfl HLKL.out HLL.out HEQ.out) ?_; go_frame)
        )
      refine segQ_mk trivial ?_
      refine ord_seg (by repeat (first | exact Clean.body | refine Clean.then ?_ | refine Clean.inBlock ?_ | refine SegQ.clean ?_ | refine FinC.clean ?_)) (n := 0) (rest := [[]]) [7] [⟨_, _, _, _, _, _⟩] rfl (by kernel_rfl) (by simp) _ _ ?_
      go_wp2_with (first
        | (go_at_call 16; refine Ret.calls (HSM.out hS) ?_; clear hS; rintro r1 w ⟨rfl, hS⟩)
        | (show wpList _ _ _ (⟨some 72, .indexAddr _ _ _, _, _, _, _⟩ :: _) _ _; refine wpList_val rfl (op_indexAddr slOuts rfl (v := pv) (xs := prev.map outC) rfl (k := k) rfl (by exact hS.rd HRP.out) hkp) ?_; go_frame)
        | (show wpList _ _ _ (⟨some 73, .fieldAddr _ _ _, _, _, _, _⟩ :: _) _ _; refine wpList_val rfl (op_fieldAddrE (j := 1) (by kernel_rfl) rfl (n := 33) (k := k) (v := pv) rfl (by exact hS.rd HRP.out) hkp) ?_; go_frame)
        | (show wpList _ _ _ (⟨some 74, .load _ _, _, _, _, _⟩ :: _) _ _; refine wpList_val rfl (op_loadFA agg32b rfl (n := 33) (k := k) (j := 1) (v := pv) rfl (by exact hS.rd HRP.out) hkp (cs := o.lock.map B8) HLO.out HLM.out) ?_; go_frame)
        | (show wpList _ _ _ (⟨some 75, .binOp _ _ _ _ _, _, _, _, _⟩ :: _) _ _; refine wpList_val rfl (op_neqHash (a := lk) (b := o.lock) rfl rfl rfl HLKL.out HLL.out HEQ.out) ?_; go_frame)
        )
      refine segQ_mk trivial ?_
      refine finC_mk (by kernel_rfl) (by
        intro t ht
        cases ht) ?_
      go_wp2_with (first
        | go_big_skip
        | (show wpList _ _ _ (⟨some 77, .binOp _ _ _ _ _, _, _, _, _⟩ :: _) _ _; refine wpList_val rfl (opU_eql (a := a3) (b := 0) rfl rfl rfl HA3.out) ?_; go_frame)
        | (show wpList _ _ _ (⟨some 80, .binOp _ _ _ _ _, _, _, _, _⟩ :: _) _ _; refine wpList_val rfl (op_eqI' (a := (b3 : Int)) (b := 13) rfl rfl rfl HB3.out) ?_; go_frame)
        | (show wpList _ _ _ (⟨some 83, .binOp _ _ _ _ _, _, _, _, _⟩ :: _) _ _; refine wpList_val rfl (op_eqI' (a := (b3 : Int)) (b := 0) rfl rfl rfl HB3.out) ?_; go_frame)
        )
      go_ret
      exact ⟨rfl, (hS.sel (M := []) (by repeat (first | exact Sel.refl | refine Sel.take (by repeat (first | exact t0 | apply tS)) ?_ | apply Sel.drop))).chg⟩
end Go.Proofs.YtieobcaegegboaaDoor
