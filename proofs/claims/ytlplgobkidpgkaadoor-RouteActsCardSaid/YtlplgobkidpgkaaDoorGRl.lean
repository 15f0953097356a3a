/- Acts, a router behind acts, and the document's example. Conditions: those that stand ahead of each theorem. -/
import Derived.Test.YtlplgobkidpgkaaDoorGRtB
import Derived.ChangeKeysEq
import Derived.Test.YtlplgobkidpgkaaDoorGRtC
namespace Go.Proofs.YtlplgobkidpgkaaDoor
open Go Go.RowKit Go.Px Go.Sha
theorem two_one (a b : Int) : ∀ v ∈ [I64 a, I64 b], v.oneCell' = true := by
  intro v hv
  simp only [List.mem_cons, List.not_mem_nil, or_false] at hv
  rcases hv with rfl | rfl <;> rfl
theorem partI0 (a b : Int) (w : World) : (part 3 #[I64 a, I64 b] 0).run Tryd.prog w = .ok (I64 a) w := by kernel_rfl
theorem partI1 (a b : Int) (w : World) : (part 3 #[I64 a, I64 b] 1).run Tryd.prog w = .ok (I64 b) w := by kernel_rfl
theorem equalI (a b : Int) (d : Nat) (w : World) : (Op.equalIn (d + 1) 3 (I64 a) (I64 b)).run Tryd.prog w = .ok (a == b) w := run_equalIn_int w d _ _ _ _ _ Tryd.underlying3
theorem infoI : ∃ i, Tryd.prog.info? 3 = some i := by
  obtain ⟨i, h1, _⟩ := info_parts iInt
  exact ⟨i, h1⟩
theorem cellsI : Tryd.prog.cellsOf 3 = 1 := by kernel_rfl
theorem equalP (a b c d : Int) (w : World) : (Op.equal 29 (.agg #[I64 a, I64 b]) (.agg #[I64 c, I64 d])).run Tryd.prog w = .ok (a == c && b == d) w := by
  obtain ⟨i, hi⟩ := infoI
  unfold Op.equal
  show (Op.equalIn (9999 + 1) _ _ _).run _ _ = _
  rw [run_equalIn_array w 9999 _ _ Tryd.underlying29 hi, cellsI, show List.range 2 = [0, 1] from rfl]
  simp only [Op.eqItems, Sem.run_bind, Nat.zero_mul, Nat.one_mul, partI0, Result.andThen_ok, equalI _ _ 9998]
  by_cases h : a = c <;> by_cases h' : b = d <;> simp [h, h', partI1, equalI _ _ 9998]
theorem op_eqP {o : Oper} {ρ : Operand → Value} {w : World} {x y : Operand} {t : TypeId} (ho : o.op = .binOp .eql 29 x y t) {a b c d : Int} (hx : ρ x = .agg #[I64 a, I64 b]) (hy : ρ y = .agg #[I64 c, I64 d]) {r : Bool} (hr : (a == c && b == d) = r) :
    (execOp ρ o).run Tryd.prog w = .ok (.value (.bool r)) w := by
  unfold execOp
  have hb : (binOp .eql 29 (.agg #[I64 a, I64 b]) (.agg #[I64 c, I64 d])).run Tryd.prog w = .ok (.bool r) w := by
    simp [binOp, equalP, hr]
  simp [ho, hx, hy, Sem.run_bind, Go.Px.run_eqGuard_agg (P := Tryd.prog) (k := 29) (by kernel_rfl), hb]
theorem op_neP {o : Oper} {ρ : Operand → Value} {w : World} {x y : Operand} {t : TypeId} (ho : o.op = .binOp .neq 29 x y t) {a b c d : Int} (hx : ρ x = .agg #[I64 a, I64 b]) (hy : ρ y = .agg #[I64 c, I64 d]) {r : Bool} (hr : (!(a == c && b == d)) = r) :
    (execOp ρ o).run Tryd.prog w = .ok (.value (.bool r)) w := by
  unfold execOp
  have hb : (binOp .neq 29 (.agg #[I64 a, I64 b]) (.agg #[I64 c, I64 d])).run Tryd.prog w = .ok (.bool r) w := by
    simp only [binOp, Sem.run_bind, equalP, Result.andThen_ok, Sem.run_pure, hr]
  simp [ho, hx, hy, Sem.run_bind, Go.Px.run_eqGuard_agg (P := Tryd.prog) (k := 29) (by kernel_rfl), hb]
end Go.Proofs.YtlplgobkidpgkaaDoor
namespace Go.Proofs.YtlplgobkidpgkaaDoor
open Go Go.RowKit Go.Px Go.Sha
/-- what is done to a router -/
structure RA where
  kind : Int
  peer : Int
  source : Int
  now : Nat
  peers : List Int
  d0 : Nat
  d1 : Nat
  d2 : Nat
def In64 (z : Int) : Prop := -9223372036854775808 ≤ z ∧ z ≤ 9223372036854775807
structure AOk (a : RA) : Prop where
  peer : In64 a.peer
  peers : ∀ z ∈ a.peers, In64 z
  now : a.now < 18446744073709551616
  d0 : a.d0 < 65536
  d1 : a.d1 < 65536
  d2 : a.d2 < 65536
/-- an act's cells: its peers lie at x -/
def aC (x : Value × RA) : List Value := [I64 x.2.kind, I64 x.2.peer, I64 x.2.source, U x.2.now, x.1, .int .u16 x.2.d0, .int .u16 x.2.d1, .int .u16 x.2.d2]
theorem aC_flat {x : Value × RA} (h : x.1.oneCell' = true) : ∀ v ∈ aC x, v.oneCell' = true := by
  intro v hv
  unfold aC at hv
  simp only [List.mem_cons, List.not_mem_nil, or_false] at hv
  rcases hv with rfl | rfl | rfl | rfl | rfl | rfl | rfl | rfl <;> first | rfl | exact h
structure AIn (R : Nat → Prop) (base : World) (v : Value) (l : List (Value × RA)) : Prop where
  rd : RdIn R base 8 v (l.map aC)
  at_ : ∀ x ∈ l, RdIn R base 1 x.1 (x.2.peers.map fun z => [I64 z])
def greatR (L : List RA) : Bool := decide (100 < L.length) || L.any fun a => decide (70 < a.peers.length)
def doR (r : Rt) (a : RA) : Rt :=
  if a.kind = 0 then tickR r a.now a.peers a.d0 a.d1 a.d2 else if a.kind = 1 then joinR r a.peer else if a.kind = 2 then leftR r a.peer a.peers a.d0 else if a.kind = 3 then missR 3 r a.source else if a.kind = 4 then hitR r a.source else r
def doB (r : Rt) (a : RA) : Bool := if a.kind = 0 then !decide (a.now < r.fin) else if a.kind = 3 then missB 3 r a.source else false
def runs (L : List RA) : Rt := L.foldl doR rt0
theorem runs_next {L : List RA} {k : Nat} (h : k < L.length) : runs (L.take (k + 1)) = doR (runs (L.take k)) L[k] := by
  unfold runs
  rw [List.take_succ_eq_append_getElem h, List.foldl_append]
  rfl
theorem ROk.act {r : Rt} (h : ROk 3 r) (a : RA) : ROk 3 (doR r a) := by
  unfold doR
  split
  · exact h.tick (by omega) _ _ _ _ _
  · split
    · exact h.join _
    · split
      · exact h.left _ _ _
      · split
        · exact h.miss (by omega) _
        · split
          · exact h.hit (by omega) _
          · exact h
theorem ROk.foldl : ∀ {L : List RA} {r : Rt}, ROk 3 r → ROk 3 (L.foldl doR r)
  | [], _, h => h
  | a :: L, _, h => ROk.foldl (L := L) (h.act a)
theorem runs_ok (L : List RA) : ROk 3 (runs L) := ROk.foldl (ROk.zero (by omega))
theorem few_le {L : List RA} (h : greatR L = false) : L.length ≤ 100 ∧ ∀ s ∈ L, s.peers.length ≤ 70 := by
  unfold greatR at h
  simp only [Bool.or_eq_false_iff, decide_eq_false_iff_not, List.any_eq_false] at h
  refine ⟨by omega, fun s hs => ?_⟩
  have h2 := h.2 s hs
  simp only [decide_eq_true_eq] at h2
  omega
theorem oneInts : One Tryd.prog 34 := One.of Tryd.underlying34 rfl (by kernel_rfl)
theorem agg3u : Agg Tryd.prog 36 3 := Agg.of Tryd.underlying36 rfl (by kernel_rfl)
theorem aggAct : Agg Tryd.prog 38 8 := Agg.of Tryd.underlying38 rfl (by kernel_rfl)
theorem iAct : (Tryd.prog.info? 38).map (fun i => (i.zero, i.size, i.bytes)) = some (some (.agg #[Value.int .i64 0, .int .i64 0, .int .i64 0, .int .u64 0, .slice none 0 0, .int .u16 0, .int .u16 0, .int .u16 0]), 8, 64) := by kernel_rfl
theorem slAct : SlTy Tryd.prog 24 38 8 64 where
  ty := by kernel_rfl
  info := by
    obtain ⟨i, h1, h2, h3, h4⟩ := info_parts iAct
    exact ⟨i, _, h1, h2, h3, by simp [Value.cells], h4, by simp [Value.cells, Value.oneCell']⟩
  pos := by omega
section
variable {R : Nat → Prop} {base w : World} {F : List Hp}
set_option maxRecDepth 100000 in
set_option maxHeartbeats 4000000 in
theorem great_s (hS : SepL R base w F) {v : Value} {L : List (Value × RA)} (hv : AIn R base v L) {b : Bool} (hb : greatR (L.map (·.2)) = b) :
    Calls Tryd.prog 11 #[v] w (Ret fun r w' => r = .bool b ∧ SepL R base w' F) := by
  have HL : Hid ((L.map aC).length = L.length) := by simp [Hid]
  have hmax := (hS.rd hv.rd).len
  rw [HL.out] at hmax
  unfold maxLen at hmax
  unfold greatR at hb
  rw [List.length_map] at hb
  by_cases h1 : 100 < L.length
  · have HG : Hid (decide ((100 : Int) < (L.length : Int)) = true) := decide_eq_true (by omega)
    rw [decide_eq_true h1, Bool.true_or] at hb
    subst hb
    clear h1
    go_enter Tryd.func11, Tryd.ntmps11
    go_wp2_with (first
      | (show wpList _ _ _ (⟨some 6, .call _, _, _, _, _⟩ :: _) _ _; refine wpList_val rfl (op_len slAct rfl rfl (v := v) (xs := L.map aC) rfl (by exact hS.rd hv.rd)) ?_; rw [HL.out]; go_frame)
      | (show wpList _ _ _ (⟨some 7, .binOp _ _ _ _ _, _, _, _, _⟩ :: _) _ _; refine wpList_val rfl (op_igtr rfl rfl rfl HG.out) ?_; go_frame)
      | (show wpList _ _ _ (⟨some 9, .call _, _, _, _, _⟩ :: _) _ _; refine wpList_val rfl (op_len slAct rfl rfl (v := v) (xs := L.map aC) rfl (by exact hS.rd hv.rd)) ?_; rw [HL.out]; go_frame)
      )
    go_ret
    exact ⟨rfl, hS⟩
  · have HG : Hid (decide ((100 : Int) < (L.length : Int)) = false) := decide_eq_false (by omega)
    rw [decide_eq_false h1, Bool.false_or, List.any_map] at hb
    have HB := hide hb
    clear h1 hb
    go_enter Tryd.func11, Tryd.ntmps11
    go_wp2_with (first
      | (show wpList _ _ _ (⟨some 6, .call _, _, _, _, _⟩ :: _) _ _; refine wpList_val rfl (op_len slAct rfl rfl (v := v) (xs := L.map aC) rfl (by exact hS.rd hv.rd)) ?_; rw [HL.out]; go_frame)
      | (show wpList _ _ _ (⟨some 7, .binOp _ _ _ _ _, _, _, _, _⟩ :: _) _ _; refine wpList_val rfl (op_igtr rfl rfl rfl HG.out) ?_; go_frame)
      | (show wpList _ _ _ (⟨some 9, .call _, _, _, _, _⟩ :: _) _ _; refine wpList_val rfl (op_len slAct rfl rfl (v := v) (xs := L.map aC) rfl (by exact hS.rd hv.rd)) ?_; rw [HL.out]; go_frame)
      )
    go_loopw [10] (fun iv wr => ∃ k : Nat, iv = .int .i64 k ∧ k ≤ L.length ∧ Hid (∀ x ∈ L.take k, ¬ 70 < x.2.peers.length) ∧ SepL R base wr F) (fun iv _ => L.length - (intOf iv).toNat)
    case atStart => exact ⟨0, rfl, by omega, by intro x hx; simp at hx, hS⟩
    case round =>
      clear hS
      obtain ⟨k, rfl, hk, HNO, hS⟩ := hrel
      by_cases hlt : k < L.length
      ·
        have hlk : k < (L.map aC).length := by rw [HL.out]; exact hlt
        obtain ⟨⟨u, s⟩, hx⟩ : ∃ x, L[k] = x := ⟨_, rfl⟩
        have hxm : (u, s) ∈ L := by rw [← hx]; exact List.getElem_mem hlt
        have HX : Hid ((L.map aC)[k] = aC (u, s)) := by
          unfold Hid
          rw [List.getElem_map, hx]
        have HUR := hide (hv.at_ _ hxm)
        have HU1 := hide (hS.rd HUR.out).one1
        have HUF := hide (aC_flat (x := (u, s)) HU1.out)
        have HBN : Hid ((s.peers.map fun z => [I64 z]).length = s.peers.length) := by simp [Hid]
        by_cases hg : 70 < s.peers.length
        · have HG5 : Hid (decide ((70 : Int) < (s.peers.length : Int)) = true) := decide_eq_true (by omega)
          have hbt : b = true := by
            rw [← HB.out, List.any_eq_true]
            exact ⟨(u, s), hxm, decide_eq_true hg⟩
          subst hbt
          clear hx hxm hg
          go_wp2_with (first
            | (show wpList _ _ _ (⟨some 12, .indexAddr _ _ _, _, _, _, _⟩ :: _) _ _; refine wpList_val rfl (op_indexAddr slAct rfl (v := v) (xs := L.map aC) rfl (k := k) rfl (by exact hS.rd hv.rd) hlk) ?_; go_frame)
            | (show wpList _ _ _ (⟨some 13, .load _ _, _, _, _, _⟩ :: _) _ _; refine wpList_val rfl (op_loadE aggAct rfl (v := v) (xs := L.map aC) (k := k) rfl (by exact hS.rd hv.rd) hlk) ?_; rw [HX.out]; go_frame)
            | (show wpList _ _ _ (⟨_, .alloc 38, _, _, _, _⟩ :: _) _ _; refine wpS_alloc hS rfl rfl Tryd.zeroValue38 (zs := [.int .i64 0, .int .i64 0, .int .i64 0, .int .u64 0, .slice none 0 0, .int .u16 0, .int .u16 0, .int .u16 0]) rfl ?_; clear hS; intro nb w hS; go_frame)
            | (show wpList _ _ _ (⟨_, .store 38 _ _, _, _, _, _⟩ :: _) _ _; (refine wpS_storeAll (b := nb) aggAct (hS.bring (by repeat (first | exact t0 | apply tS))) rfl rfl rfl (vs := aC (u, s)) rfl rfl HUF.out rfl ?_); clear hS; intro w hS; go_frame)
            | (show wpList _ _ _ (⟨some 15, .load _ _, _, _, _, _⟩ :: _) _ _; refine wpList_val rfl (op_load1S (b := nb) (T := 38) oneInts ((hS.bring (by repeat (first | exact t0 | apply tS)))) rfl rfl rfl) ?_; go_frame)
            | (show wpList _ _ _ (⟨some 16, .call _, _, _, _, _⟩ :: _) _ _; refine wpList_val rfl (op_len slInt rfl rfl (v := u) (xs := s.peers.map fun z => [I64 z]) rfl (hS.rd HUR.out)) ?_; rw [HBN.out]; go_frame)
            | (show wpList _ _ _ (⟨some 17, .binOp _ _ _ _ _, _, _, _, _⟩ :: _) _ _; refine wpList_val rfl (op_igtr rfl rfl rfl HG5.out) ?_; go_frame)
            )
          go_ret
          exact ⟨rfl, hS.sel (by repeat (first | exact Sel.refl | refine Sel.take (by repeat (first | exact t0 | apply tS)) ?_ | apply Sel.drop))⟩
        · have HG5 : Hid (decide ((70 : Int) < (s.peers.length : Int)) = false) := decide_eq_false (by omega)
          have HNM : Hid (∀ x ∈ L.take (k + 1), ¬ 70 < x.2.peers.length) := by
            intro x hx2
            rw [List.take_succ_eq_append_getElem hlt, hx, List.mem_append, List.mem_singleton] at hx2
            rcases hx2 with h | rfl
            · exact HNO.out x h
            · exact hg
          clear hx hxm hg
          go_wp2_with (first
            | (show wpList _ _ _ (⟨some 12, .indexAddr _ _ _, _, _, _, _⟩ :: _) _ _; refine wpList_val rfl (op_indexAddr slAct rfl (v := v) (xs := L.map aC) rfl (k := k) rfl (by exact hS.rd hv.rd) hlk) ?_; go_frame)
            | (show wpList _ _ _ (⟨some 13, .load _ _, _, _, _, _⟩ :: _) _ _; refine wpList_val rfl (op_loadE aggAct rfl (v := v) (xs := L.map aC) (k := k) rfl (by exact hS.rd hv.rd) hlk) ?_; rw [HX.out]; go_frame)
            | (show wpList _ _ _ (⟨_, .alloc 38, _, _, _, _⟩ :: _) _ _; refine wpS_alloc hS rfl rfl Tryd.zeroValue38 (zs := [.int .i64 0, .int .i64 0, .int .i64 0, .int .u64 0, .slice none 0 0, .int .u16 0, .int .u16 0, .int .u16 0]) rfl ?_; clear hS; intro nb w hS; go_frame)
            | (show wpList _ _ _ (⟨_, .store 38 _ _, _, _, _, _⟩ :: _) _ _; (refine wpS_storeAll (b := nb) aggAct (hS.bring (by repeat (first | exact t0 | apply tS))) rfl rfl rfl (vs := aC (u, s)) rfl rfl HUF.out rfl ?_); clear hS; intro w hS; go_frame)
            | (show wpList _ _ _ (⟨some 15, .load _ _, _, _, _, _⟩ :: _) _ _; refine wpList_val rfl (op_load1S (b := nb) (T := 38) oneInts ((hS.bring (by repeat (first | exact t0 | apply tS)))) rfl rfl rfl) ?_; go_frame)
            | (show wpList _ _ _ (⟨some 16, .call _, _, _, _, _⟩ :: _) _ _; refine wpList_val rfl (op_len slInt rfl rfl (v := u) (xs := s.peers.map fun z => [I64 z]) rfl (hS.rd HUR.out)) ?_; rw [HBN.out]; go_frame)
            | (show wpList _ _ _ (⟨some 17, .binOp _ _ _ _ _, _, _, _, _⟩ :: _) _ _; refine wpList_val rfl (op_igtr rfl rfl rfl HG5.out) ?_; go_frame)
            )
          go_roundw
          case rel => exact ⟨k + 1, by go_num, by omega, HNM, hS.sel (by repeat (first | exact Sel.refl | refine Sel.take (by repeat (first | exact t0 | apply tS)) ?_ | apply Sel.drop))⟩
          case measure => simp [intOf]; omega
      · have hk2 : k = L.length := by omega
        subst hk2
        have hno := HNO.out
        rw [List.take_length] at hno
        have hbf : b = false := by
          rw [← HB.out, List.any_eq_false]
          intro x hx
          exact fun h => hno x hx (of_decide_eq_true h)
        subst hbf
        go_wp2_with fail
        go_ret
        exact ⟨rfl, hS⟩
set_option maxRecDepth 100000 in
set_option maxHeartbeats 4000000 in
theorem do_s {p : Nat} {sa : List Byte} {r : Rt} {u : Value} {s : RA} (hS : SepL R base w (.blk p 58 (rtC sa r) :: F)) (hsa : sa.length = 32) (hok : ROk 3 r) (hu : RdIn R base 1 u (s.peers.map fun z => [I64 z])) (ha : AOk s ∧ s.peers.length ≤ 1000000) :
    Calls Tryd.prog 19 #[.pointer (some ⟨p, 0, none⟩), .agg (aC (u, s)).toArray] w (Ret fun y w' => y = .bool (doB r s) ∧ SepL R base w' (.blk p 58 (rtC sa (doR r s)) :: F)) := by
  have HOK := hide hok
  have HUR := hide hu
  have HPL := hide ha.2
  have HNW := hide ha.1.now
  have HD0 := hide ha.1.d0
  have HD1 := hide ha.1.d1
  have HD2 := hide ha.1.d2
  clear hok hu ha
  by_cases h0 : s.kind = 0
  · have HK0 := eqT h0
    have HR : Hid (doR r s = tickR r s.now s.peers s.d0 s.d1 s.d2) := if_pos h0
    have HB : Hid (doB r s = !decide (s.now < r.fin)) := if_pos h0
    clear h0
    go_enter Tryd.func19, Tryd.ntmps19
    go_wp2_with (first
      | (show wpList _ _ _ (⟨some 3, .box _ _, _, _, _, _⟩ :: _) _ _; refine wpS_boxA (cs := aC (u, s)) hS rfl rfl rfl ?_; clear hS; intro nb w hS; go_frame)
      | (show wpList _ _ _ (⟨_, .load 3 _, _, _, _, _⟩ :: _) _ _; refine wpList_val rfl (op_load1S (b := nb) (T := 38) oneInt ((hS.bring (by repeat (first | exact t0 | apply tS)))) rfl rfl rfl) ?_; go_frame)
      | (show wpList _ _ _ (⟨_, .load 33 _, _, _, _, _⟩ :: _) _ _; refine wpList_val rfl (op_load1S (b := nb) (T := 38) oneU64 ((hS.bring (by repeat (first | exact t0 | apply tS)))) rfl rfl rfl) ?_; go_frame)
      | (show wpList _ _ _ (⟨_, .load 34 _, _, _, _, _⟩ :: _) _ _; refine wpList_val rfl (op_load1S (b := nb) (T := 38) oneInts ((hS.bring (by repeat (first | exact t0 | apply tS)))) rfl rfl rfl) ?_; go_frame)
      | (show wpList _ _ _ (⟨_, .load 36 _, _, _, _, _⟩ :: _) _ _; refine wpList_val rfl (op_load agg3u rfl rfl ((SepL.getBlk (b := nb) (T := 38) ((hS.bring (by repeat (first | exact t0 | apply tS))))).cells.subN 5 3 (ds := [.int .u16 s.d0, .int .u16 s.d1, .int .u16 s.d2]) rfl) rfl) ?_; go_frame)
      | (show wpList _ _ _ (⟨some 31, .indexAddr _ _ _, _, _, _, _⟩ :: _) _ _; refine wpList_val rfl (op_indexArrZ arr3u rfl (b := nb) (off := 5) rfl rfl 0 rfl (by omega)) ?_; go_frame)
      | (show wpList _ _ _ (⟨_, .load 35 _, _, _, _, _⟩ :: _) _ _; refine wpList_val rfl (op_load1S (b := nb) (T := 38) oneU16 ((hS.bring (by repeat (first | exact t0 | apply tS)))) rfl rfl rfl) ?_; go_frame)
      | (show wpList _ _ _ (⟨some 8, .binOp _ _ _ _ _, _, _, _, _⟩ :: _) _ _; refine wpList_val rfl (op_eqI' rfl rfl rfl HK0.out) ?_; go_frame)
      | (show wpList _ _ _ (⟨some 18, .binOp _ _ _ _ _, _, _, _, _⟩ :: _) _ _; refine wpList_val rfl (op_eqI' rfl rfl rfl HK1.out) ?_; go_frame)
      | (show wpList _ _ _ (⟨some 24, .binOp _ _ _ _ _, _, _, _, _⟩ :: _) _ _; refine wpList_val rfl (op_eqI' rfl rfl rfl HK2.out) ?_; go_frame)
      | (show wpList _ _ _ (⟨some 35, .binOp _ _ _ _ _, _, _, _, _⟩ :: _) _ _; refine wpList_val rfl (op_eqI' rfl rfl rfl HK3.out) ?_; go_frame)
      | (show wpList _ _ _ (⟨some 41, .binOp _ _ _ _ _, _, _, _, _⟩ :: _) _ _; refine wpList_val rfl (op_eqI' rfl rfl rfl HK4.out) ?_; go_frame)
      | (go_at_call 33; (refine Ret.calls (tick_s (p := p) (r := r) (peers := s.peers) (hS.bring (by repeat (first | exact t0 | apply tS))) hsa HOK.out HUR.out HPL.out HNW.out HD1.out HD2.out) ?_); clear hS; rintro r1 w ⟨rfl, hS⟩)
      | (go_at_call 16; (refine Ret.calls (joined_s (p := p) (r := r) (hS.bring (by repeat (first | exact t0 | apply tS))) hsa) ?_); clear hS; rintro r1 w hS)
      | (go_at_call 15; (refine Ret.calls (left_s (p := p) (r := r) (peers := s.peers) (hS.bring (by repeat (first | exact t0 | apply tS))) hsa HUR.out HPL.out HD0.out) ?_); clear hS; rintro r1 w hS)
      | (go_at_call 32; (refine Ret.calls (miss_s (p := p) (r := r) (hS.bring (by repeat (first | exact t0 | apply tS))) hsa HOK.out) ?_); clear hS; rintro r1 w ⟨rfl, hS⟩)
      | (go_at_call 31; (refine Ret.calls (hit_s (p := p) (r := r) (hS.bring (by repeat (first | exact t0 | apply tS))) hsa HOK.out) ?_); clear hS; rintro r1 w hS)
      )
    go_ret
    exact ⟨by rw [HB.out]; rfl, by rw [HR.out]; exact hS.sel (by repeat (first | exact Sel.refl | refine Sel.take (by repeat (first | exact t0 | apply tS)) ?_ | apply Sel.drop))⟩
  have HK0 := eqF h0
  by_cases h1 : s.kind = 1
  · have HK1 := eqT h1
    have HR : Hid (doR r s = joinR r s.peer) := by
      unfold Hid doR
      rw [if_neg h0, if_pos h1]
    have HB : Hid (doB r s = false) := by
      unfold Hid doB
      rw [if_neg h0, if_neg (by omega)]
    clear h0 h1
    go_enter Tryd.func19, Tryd.ntmps19
    go_wp2_with (first
      | (show wpList _ _ _ (⟨some 3, .box _ _, _, _, _, _⟩ :: _) _ _; refine wpS_boxA (cs := aC (u, s)) hS rfl rfl rfl ?_; clear hS; intro nb w hS; go_frame)
      | (show wpList _ _ _ (⟨_, .load 3 _, _, _, _, _⟩ :: _) _ _; refine wpList_val rfl (op_load1S (b := nb) (T := 38) oneInt ((hS.bring (by repeat (first | exact t0 | apply tS)))) rfl rfl rfl) ?_; go_frame)
      | (show wpList _ _ _ (⟨_, .load 33 _, _, _, _, _⟩ :: _) _ _; refine wpList_val rfl (op_load1S (b := nb) (T := 38) oneU64 ((hS.bring (by repeat (first | exact t0 | apply tS)))) rfl rfl rfl) ?_; go_frame)
      | (show wpList _ _ _ (⟨_, .load 34 _, _, _, _, _⟩ :: _) _ _; refine wpList_val rfl (op_load1S (b := nb) (T := 38) oneInts ((hS.bring (by repeat (first | exact t0 | apply tS)))) rfl rfl rfl) ?_; go_frame)
      | (show wpList _ _ _ (⟨_, .load 36 _, _, _, _, _⟩ :: _) _ _; refine wpList_val rfl (op_load agg3u rfl rfl ((SepL.getBlk (b := nb) (T := 38) ((hS.bring (by repeat (first | exact t0 | apply tS))))).cells.subN 5 3 (ds := [.int .u16 s.d0, .int .u16 s.d1, .int .u16 s.d2]) rfl) rfl) ?_; go_frame)
      | (show wpList _ _ _ (⟨some 31, .indexAddr _ _ _, _, _, _, _⟩ :: _) _ _; refine wpList_val rfl (op_indexArrZ arr3u rfl (b := nb) (off := 5) rfl rfl 0 rfl (by omega)) ?_; go_frame)
      | (show wpList _ _ _ (⟨_, .load 35 _, _, _, _, _⟩ :: _) _ _; refine wpList_val rfl (op_load1S (b := nb) (T := 38) oneU16 ((hS.bring (by repeat (first | exact t0 | apply tS)))) rfl rfl rfl) ?_; go_frame)
      | (show wpList _ _ _ (⟨some 8, .binOp _ _ _ _ _, _, _, _, _⟩ :: _) _ _; refine wpList_val rfl (op_eqI' rfl rfl rfl HK0.out) ?_; go_frame)
      | (show wpList _ _ _ (⟨some 18, .binOp _ _ _ _ _, _, _, _, _⟩ :: _) _ _; refine wpList_val rfl (op_eqI' rfl rfl rfl HK1.out) ?_; go_frame)
      | (show wpList _ _ _ (⟨some 24, .binOp _ _ _ _ _, _, _, _, _⟩ :: _) _ _; refine wpList_val rfl (op_eqI' rfl rfl rfl HK2.out) ?_; go_frame)
      | (show wpList _ _ _ (⟨some 35, .binOp _ _ _ _ _, _, _, _, _⟩ :: _) _ _; refine wpList_val rfl (op_eqI' rfl rfl rfl HK3.out) ?_; go_frame)
      | (show wpList _ _ _ (⟨some 41, .binOp _ _ _ _ _, _, _, _, _⟩ :: _) _ _; refine wpList_val rfl (op_eqI' rfl rfl rfl HK4.out) ?_; go_frame)
      | (go_at_call 33; (refine Ret.calls (tick_s (p := p) (r := r) (peers := s.peers) (hS.bring (by repeat (first | exact t0 | apply tS))) hsa HOK.out HUR.out HPL.out HNW.out HD1.out HD2.out) ?_); clear hS; rintro r1 w ⟨rfl, hS⟩)
      | (go_at_call 16; (refine Ret.calls (joined_s (p := p) (r := r) (hS.bring (by repeat (first | exact t0 | apply tS))) hsa) ?_); clear hS; rintro r1 w hS)
      | (go_at_call 15; (refine Ret.calls (left_s (p := p) (r := r) (peers := s.peers) (hS.bring (by repeat (first | exact t0 | apply tS))) hsa HUR.out HPL.out HD0.out) ?_); clear hS; rintro r1 w hS)
      | (go_at_call 32; (refine Ret.calls (miss_s (p := p) (r := r) (hS.bring (by repeat (first | exact t0 | apply tS))) hsa HOK.out) ?_); clear hS; rintro r1 w ⟨rfl, hS⟩)
      | (go_at_call 31; (refine Ret.calls (hit_s (p := p) (r := r) (hS.bring (by repeat (first | exact t0 | apply tS))) hsa HOK.out) ?_); clear hS; rintro r1 w hS)
      )
    go_ret
    exact ⟨by rw [HB.out]; rfl, by rw [HR.out]; exact hS.sel (by repeat (first | exact Sel.refl | refine Sel.take (by repeat (first | exact t0 | apply tS)) ?_ | apply Sel.drop))⟩
  have HK1 := eqF h1
  by_cases h2 : s.kind = 2
  · have HK2 := eqT h2
    have HR : Hid (doR r s = leftR r s.peer s.peers s.d0) := by
      unfold Hid doR
      rw [if_neg h0, if_neg h1, if_pos h2]
    have HB : Hid (doB r s = false) := by
      unfold Hid doB
      rw [if_neg h0, if_neg (by omega)]
    clear h0 h1 h2
    go_enter Tryd.func19, Tryd.ntmps19
    go_wp2_with (first
      | (show wpList _ _ _ (⟨some 3, .box _ _, _, _, _, _⟩ :: _) _ _; refine wpS_boxA (cs := aC (u, s)) hS rfl rfl rfl ?_; clear hS; intro nb w hS; go_frame)
      | (show wpList _ _ _ (⟨_, .load 3 _, _, _, _, _⟩ :: _) _ _; refine wpList_val rfl (op_load1S (b := nb) (T := 38) oneInt ((hS.bring (by repeat (first | exact t0 | apply tS)))) rfl rfl rfl) ?_; go_frame)
      | (show wpList _ _ _ (⟨_, .load 33 _, _, _, _, _⟩ :: _) _ _; refine wpList_val rfl (op_load1S (b := nb) (T := 38) oneU64 ((hS.bring (by repeat (first | exact t0 | apply tS)))) rfl rfl rfl) ?_; go_frame)
      | (show wpList _ _ _ (⟨_, .load 34 _, _, _, _, _⟩ :: _) _ _; refine wpList_val rfl (op_load1S (b := nb) (T := 38) oneInts ((hS.bring (by repeat (first | exact t0 | apply tS)))) rfl rfl rfl) ?_; go_frame)
      | (show wpList _ _ _ (⟨_, .load 36 _, _, _, _, _⟩ :: _) _ _; refine wpList_val rfl (op_load agg3u rfl rfl ((SepL.getBlk (b := nb) (T := 38) ((hS.bring (by repeat (first | exact t0 | apply tS))))).cells.subN 5 3 (ds := [.int .u16 s.d0, .int .u16 s.d1, .int .u16 s.d2]) rfl) rfl) ?_; go_frame)
      | (show wpList _ _ _ (⟨some 31, .indexAddr _ _ _, _, _, _, _⟩ :: _) _ _; refine wpList_val rfl (op_indexArrZ arr3u rfl (b := nb) (off := 5) rfl rfl 0 rfl (by omega)) ?_; go_frame)
      | (show wpList _ _ _ (⟨_, .load 35 _, _, _, _, _⟩ :: _) _ _; refine wpList_val rfl (op_load1S (b := nb) (T := 38) oneU16 ((hS.bring (by repeat (first | exact t0 | apply tS)))) rfl rfl rfl) ?_; go_frame)
      | (show wpList _ _ _ (⟨some 8, .binOp _ _ _ _ _, _, _, _, _⟩ :: _) _ _; refine wpList_val rfl (op_eqI' rfl rfl rfl HK0.out) ?_; go_frame)
      | (show wpList _ _ _ (⟨some 18, .binOp _ _ _ _ _, _, _, _, _⟩ :: _) _ _; refine wpList_val rfl (op_eqI' rfl rfl rfl HK1.out) ?_; go_frame)
      | (show wpList _ _ _ (⟨some 24, .binOp _ _ _ _ _, _, _, _, _⟩ :: _) _ _; refine wpList_val rfl (op_eqI' rfl rfl rfl HK2.out) ?_; go_frame)
      | (show wpList _ _ _ (⟨some 35, .binOp _ _ _ _ _, _, _, _, _⟩ :: _) _ _; refine wpList_val rfl (op_eqI' rfl rfl rfl HK3.out) ?_; go_frame)
      | (show wpList _ _ _ (⟨some 41, .binOp _ _ _ _ _, _, _, _, _⟩ :: _) _ _; refine wpList_val rfl (op_eqI' rfl rfl rfl HK4.out) ?_; go_frame)
      | (go_at_call 33; (refine Ret.calls (tick_s (p := p) (r := r) (peers := s.peers) (hS.bring (by repeat (first | exact t0 | apply tS))) hsa HOK.out HUR.out HPL.out HNW.out HD1.out HD2.out) ?_); clear hS; rintro r1 w ⟨rfl, hS⟩)
      | (go_at_call 16; (refine Ret.calls (joined_s (p := p) (r := r) (hS.bring (by repeat (first | exact t0 | apply tS))) hsa) ?_); clear hS; rintro r1 w hS)
      | (go_at_call 15; (refine Ret.calls (left_s (p := p) (r := r) (peers := s.peers) (hS.bring (by repeat (first | exact t0 | apply tS))) hsa HUR.out HPL.out HD0.out) ?_); clear hS; rintro r1 w hS)
      | (go_at_call 32; (refine Ret.calls (miss_s (p := p) (r := r) (hS.bring (by repeat (first | exact t0 | apply tS))) hsa HOK.out) ?_); clear hS; rintro r1 w ⟨rfl, hS⟩)
      | (go_at_call 31; (refine Ret.calls (hit_s (p := p) (r := r) (hS.bring (by repeat (first | exact t0 | apply tS))) hsa HOK.out) ?_); clear hS; rintro r1 w hS)
      )
    go_ret
    exact ⟨by rw [HB.out]; rfl, by rw [HR.out]; exact hS.sel (by repeat (first | exact Sel.refl | refine Sel.take (by repeat (first | exact t0 | apply tS)) ?_ | apply Sel.drop))⟩
  have HK2 := eqF h2
  by_cases h3 : s.kind = 3
  · have HK3 := eqT h3
    have HR : Hid (doR r s = missR 3 r s.source) := by
      unfold Hid doR
      rw [if_neg h0, if_neg h1, if_neg h2, if_pos h3]
    have HB : Hid (doB r s = missB 3 r s.source) := by
      unfold Hid doB
      rw [if_neg h0, if_pos h3]
    clear h0 h1 h2 h3
    go_enter Tryd.func19, Tryd.ntmps19
    go_wp2_with (first
      | (show wpList _ _ _ (⟨some 3, .box _ _, _, _, _, _⟩ :: _) _ _; refine wpS_boxA (cs := aC (u, s)) hS rfl rfl rfl ?_; clear hS; intro nb w hS; go_frame)
      | (show wpList _ _ _ (⟨_, .load 3 _, _, _, _, _⟩ :: _) _ _; refine wpList_val rfl (op_load1S (b := nb) (T := 38) oneInt ((hS.bring (by repeat (first | exact t0 | apply tS)))) rfl rfl rfl) ?_; go_frame)
      | (show wpList _ _ _ (⟨_, .load 33 _, _, _, _, _⟩ :: _) _ _; refine wpList_val rfl (op_load1S (b := nb) (T := 38) oneU64 ((hS.bring (by repeat (first | exact t0 | apply tS)))) rfl rfl rfl) ?_; go_frame)
      | (show wpList _ _ _ (⟨_, .load 34 _, _, _, _, _⟩ :: _) _ _; refine wpList_val rfl (op_load1S (b := nb) (T := 38) oneInts ((hS.bring (by repeat (first | exact t0 | apply tS)))) rfl rfl rfl) ?_; go_frame)
      | (show wpList _ _ _ (⟨_, .load 36 _, _, _, _, _⟩ :: _) _ _; refine wpList_val rfl (op_load agg3u rfl rfl ((SepL.getBlk (b := nb) (T := 38) ((hS.bring (by repeat (first | exact t0 | apply tS))))).cells.subN 5 3 (ds := [.int .u16 s.d0, .int .u16 s.d1, .int .u16 s.d2]) rfl) rfl) ?_; go_frame)
      | (show wpList _ _ _ (⟨some 31, .indexAddr _ _ _, _, _, _, _⟩ :: _) _ _; refine wpList_val rfl (op_indexArrZ arr3u rfl (b := nb) (off := 5) rfl rfl 0 rfl (by omega)) ?_; go_frame)
      | (show wpList _ _ _ (⟨_, .load 35 _, _, _, _, _⟩ :: _) _ _; refine wpList_val rfl (op_load1S (b := nb) (T := 38) oneU16 ((hS.bring (by repeat (first | exact t0 | apply tS)))) rfl rfl rfl) ?_; go_frame)
      | (show wpList _ _ _ (⟨some 8, .binOp _ _ _ _ _, _, _, _, _⟩ :: _) _ _; refine wpList_val rfl (op_eqI' rfl rfl rfl HK0.out) ?_; go_frame)
      | (show wpList _ _ _ (⟨some 18, .binOp _ _ _ _ _, _, _, _, _⟩ :: _) _ _; refine wpList_val rfl (op_eqI' rfl rfl rfl HK1.out) ?_; go_frame)
      | (show wpList _ _ _ (⟨some 24, .binOp _ _ _ _ _, _, _, _, _⟩ :: _) _ _; refine wpList_val rfl (op_eqI' rfl rfl rfl HK2.out) ?_; go_frame)
      | (show wpList _ _ _ (⟨some 35, .binOp _ _ _ _ _, _, _, _, _⟩ :: _) _ _; refine wpList_val rfl (op_eqI' rfl rfl rfl HK3.out) ?_; go_frame)
      | (show wpList _ _ _ (⟨some 41, .binOp _ _ _ _ _, _, _, _, _⟩ :: _) _ _; refine wpList_val rfl (op_eqI' rfl rfl rfl HK4.out) ?_; go_frame)
      | (go_at_call 33; (refine Ret.calls (tick_s (p := p) (r := r) (peers := s.peers) (hS.bring (by repeat (first | exact t0 | apply tS))) hsa HOK.out HUR.out HPL.out HNW.out HD1.out HD2.out) ?_); clear hS; rintro r1 w ⟨rfl, hS⟩)
      | (go_at_call 16; (refine Ret.calls (joined_s (p := p) (r := r) (hS.bring (by repeat (first | exact t0 | apply tS))) hsa) ?_); clear hS; rintro r1 w hS)
      | (go_at_call 15; (refine Ret.calls (left_s (p := p) (r := r) (peers := s.peers) (hS.bring (by repeat (first | exact t0 | apply tS))) hsa HUR.out HPL.out HD0.out) ?_); clear hS; rintro r1 w hS)
      | (go_at_call 32; (refine Ret.calls (miss_s (p := p) (r := r) (hS.bring (by repeat (first | exact t0 | apply tS))) hsa HOK.out) ?_); clear hS; rintro r1 w ⟨rfl, hS⟩)
      | (go_at_call 31; (refine Ret.calls (hit_s (p := p) (r := r) (hS.bring (by repeat (first | exact t0 | apply tS))) hsa HOK.out) ?_); clear hS; rintro r1 w hS)
      )
    go_ret
    exact ⟨by rw [HB.out]; rfl, by rw [HR.out]; exact hS.sel (by repeat (first | exact Sel.refl | refine Sel.take (by repeat (first | exact t0 | apply tS)) ?_ | apply Sel.drop))⟩
  have HK3 := eqF h3
  have HB : Hid (doB r s = false) := by
    unfold Hid doB
    rw [if_neg h0, if_neg h3]
  by_cases h4 : s.kind = 4
  · have HK4 := eqT h4
    have HR : Hid (doR r s = hitR r s.source) := by
      unfold Hid doR
      rw [if_neg h0, if_neg h1, if_neg h2, if_neg h3, if_pos h4]
    clear h0 h1 h2 h3 h4
    go_enter Tryd.func19, Tryd.ntmps19
    go_wp2_with (first
      | (show wpList _ _ _ (⟨some 3, .box _ _, _, _, _, _⟩ :: _) _ _; refine wpS_boxA (cs := aC (u, s)) hS rfl rfl rfl ?_; clear hS; intro nb w hS; go_frame)
      | (show wpList _ _ _ (⟨_, .load 3 _, _, _, _, _⟩ :: _) _ _; refine wpList_val rfl (op_load1S (b := nb) (T := 38) oneInt ((hS.bring (by repeat (first | exact t0 | apply tS)))) rfl rfl rfl) ?_; go_frame)
      | (show wpList _ _ _ (⟨_, .load 33 _, _, _, _, _⟩ :: _) _ _; refine wpList_val rfl (op_load1S (b := nb) (T := 38) oneU64 ((hS.bring (by repeat (first | exact t0 | apply tS)))) rfl rfl rfl) ?_; go_frame)
      | (show wpList _ _ _ (⟨_, .load 34 _, _, _, _, _⟩ :: _) _ _; refine wpList_val rfl (op_load1S (b := nb) (T := 38) oneInts ((hS.bring (by repeat (first | exact t0 | apply tS)))) rfl rfl rfl) ?_; go_frame)
      | (show wpList _ _ _ (⟨_, .load 36 _, _, _, _, _⟩ :: _) _ _; refine wpList_val rfl (op_load agg3u rfl rfl ((SepL.getBlk (b := nb) (T := 38) ((hS.bring (by repeat (first | exact t0 | apply tS))))).cells.subN 5 3 (ds := [.int .u16 s.d0, .int .u16 s.d1, .int .u16 s.d2]) rfl) rfl) ?_; go_frame)
      | (show wpList _ _ _ (⟨some 31, .indexAddr _ _ _, _, _, _, _⟩ :: _) _ _; refine wpList_val rfl (op_indexArrZ arr3u rfl (b := nb) (off := 5) rfl rfl 0 rfl (by omega)) ?_; go_frame)
      | (show wpList _ _ _ (⟨_, .load 35 _, _, _, _, _⟩ :: _) _ _; refine wpList_val rfl (op_load1S (b := nb) (T := 38) oneU16 ((hS.bring (by repeat (first | exact t0 | apply tS)))) rfl rfl rfl) ?_; go_frame)
      | (show wpList _ _ _ (⟨some 8, .binOp _ _ _ _ _, _, _, _, _⟩ :: _) _ _; refine wpList_val rfl (op_eqI' rfl rfl rfl HK0.out) ?_; go_frame)
      | (show wpList _ _ _ (⟨some 18, .binOp _ _ _ _ _, _, _, _, _⟩ :: _) _ _; refine wpList_val rfl (op_eqI' rfl rfl rfl HK1.out) ?_; go_frame)
      | (show wpList _ _ _ (⟨some 24, .binOp _ _ _ _ _, _, _, _, _⟩ :: _) _ _; refine wpList_val rfl (op_eqI' rfl rfl rfl HK2.out) ?_; go_frame)
      | (show wpList _ _ _ (⟨some 35, .binOp _ _ _ _ _, _, _, _, _⟩ :: _) _ _; refine wpList_val rfl (op_eqI' rfl rfl rfl HK3.out) ?_; go_frame)
      | (show wpList _ _ _ (⟨some 41, .binOp _ _ _ _ _, _, _, _, _⟩ :: _) _ _; refine wpList_val rfl (op_eqI' rfl rfl rfl HK4.out) ?_; go_frame)
      | (go_at_call 33; (refine Ret.calls (tick_s (p := p) (r := r) (peers := s.peers) (hS.bring (by repeat (first | exact t0 | apply tS))) hsa HOK.out HUR.out HPL.out HNW.out HD1.out HD2.out) ?_); clear hS; rintro r1 w ⟨rfl, hS⟩)
      | (go_at_call 16; (refine Ret.calls (joined_s (p := p) (r := r) (hS.bring (by repeat (first | exact t0 | apply tS))) hsa) ?_); clear hS; rintro r1 w hS)
      | (go_at_call 15; (refine Ret.calls (left_s (p := p) (r := r) (peers := s.peers) (hS.bring (by repeat (first | exact t0 | apply tS))) hsa HUR.out HPL.out HD0.out) ?_); clear hS; rintro r1 w hS)
      | (go_at_call 32; (refine Ret.calls (miss_s (p := p) (r := r) (hS.bring (by repeat (first | exact t0 | apply tS))) hsa HOK.out) ?_); clear hS; rintro r1 w ⟨rfl, hS⟩)
      | (go_at_call 31; (refine Ret.calls (hit_s (p := p) (r := r) (hS.bring (by repeat (first | exact t0 | apply tS))) hsa HOK.out) ?_); clear hS; rintro r1 w hS)
      )
    go_ret
    exact ⟨by rw [HB.out]; rfl, by rw [HR.out]; exact hS.sel (by repeat (first | exact Sel.refl | refine Sel.take (by repeat (first | exact t0 | apply tS)) ?_ | apply Sel.drop))⟩
  have HK4 := eqF h4
  have HR : Hid (doR r s = r) := by
    unfold Hid doR
    rw [if_neg h0, if_neg h1, if_neg h2, if_neg h3, if_neg h4]
  clear h0 h1 h2 h3 h4
  go_enter Tryd.func19, Tryd.ntmps19
  go_wp2_with (first
    | (show wpList _ _ _ (⟨some 3, .box _ _, _, _, _, _⟩ :: _) _ _; refine wpS_boxA (cs := aC (u, s)) hS rfl rfl rfl ?_; clear hS; intro nb w hS; go_frame)
    | (show wpList _ _ _ (⟨_, .load 3 _, _, _, _, _⟩ :: _) _ _; refine wpList_val rfl (op_load1S (b := nb) (T := 38) oneInt ((hS.bring (by repeat (first | exact t0 | apply tS)))) rfl rfl rfl) ?_; go_frame)
    | (show wpList _ _ _ (⟨_, .load 33 _, _, _, _, _⟩ :: _) _ _; refine wpList_val rfl (op_load1S (b := nb) (T := 38) oneU64 ((hS.bring (by repeat (first | exact t0 | apply tS)))) rfl rfl rfl) ?_; go_frame)
    | (show wpList _ _ _ (⟨_, .load 34 _, _, _, _, _⟩ :: _) _ _; refine wpList_val rfl (op_load1S (b := nb) (T := 38) oneInts ((hS.bring (by repeat (first | exact t0 | apply tS)))) rfl rfl rfl) ?_; go_frame)
    | (show wpList _ _ _ (⟨_, .load 36 _, _, _, _, _⟩ :: _) _ _; refine wpList_val rfl (op_load agg3u rfl rfl ((SepL.getBlk (b := nb) (T := 38) ((hS.bring (by repeat (first | exact t0 | apply tS))))).cells.subN 5 3 (ds := [.int .u16 s.d0, .int .u16 s.d1, .int .u16 s.d2]) rfl) rfl) ?_; go_frame)
    | (show wpList _ _ _ (⟨some 31, .indexAddr _ _ _, _, _, _, _⟩ :: _) _ _; refine wpList_val rfl (op_indexArrZ arr3u rfl (b := nb) (off := 5) rfl rfl 0 rfl (by omega)) ?_; go_frame)
    | (show wpList _ _ _ (⟨_, .load 35 _, _, _, _, _⟩ :: _) _ _; refine wpList_val rfl (op_load1S (b := nb) (T := 38) oneU16 ((hS.bring (by repeat (first | exact t0 | apply tS)))) rfl rfl rfl) ?_; go_frame)
    | (show wpList _ _ _ (⟨some 8, .binOp _ _ _ _ _, _, _, _, _⟩ :: _) _ _; refine wpList_val rfl (op_eqI' rfl rfl rfl HK0.out) ?_; go_frame)
    | (show wpList _ _ _ (⟨some 18, .binOp _ _ _ _ _, _, _, _, _⟩ :: _) _ _; refine wpList_val rfl (op_eqI' rfl rfl rfl HK1.out) ?_; go_frame)
    | (show wpList _ _ _ (⟨some 24, .binOp _ _ _ _ _, _, _, _, _⟩ :: _) _ _; refine wpList_val rfl (op_eqI' rfl rfl rfl HK2.out) ?_; go_frame)
    | (show wpList _ _ _ (⟨some 35, .binOp _ _ _ _ _, _, _, _, _⟩ :: _) _ _; refine wpList_val rfl (op_eqI' rfl rfl rfl HK3.out) ?_; go_frame)
    | (show wpList _ _ _ (⟨some 41, .binOp _ _ _ _ _, _, _, _, _⟩ :: _) _ _; refine wpList_val rfl (op_eqI' rfl rfl rfl HK4.out) ?_; go_frame)
    | (go_at_call 33; (refine Ret.calls (tick_s (p := p) (r := r) (peers := s.peers) (hS.bring (by repeat (first | exact t0 | apply tS))) hsa HOK.out HUR.out HPL.out HNW.out HD1.out HD2.out) ?_); clear hS; rintro r1 w ⟨rfl, hS⟩)
    | (go_at_call 16; (refine Ret.calls (joined_s (p := p) (r := r) (hS.bring (by repeat (first | exact t0 | apply tS))) hsa) ?_); clear hS; rintro r1 w hS)
    | (go_at_call 15; (refine Ret.calls (left_s (p := p) (r := r) (peers := s.peers) (hS.bring (by repeat (first | exact t0 | apply tS))) hsa HUR.out HPL.out HD0.out) ?_); clear hS; rintro r1 w hS)
    | (go_at_call 32; (refine Ret.calls (miss_s (p := p) (r := r) (hS.bring (by repeat (first | exact t0 | apply tS))) hsa HOK.out) ?_); clear hS; rintro r1 w ⟨rfl, hS⟩)
    | (go_at_call 31; (refine Ret.calls (hit_s (p := p) (r := r) (hS.bring (by repeat (first | exact t0 | apply tS))) hsa HOK.out) ?_); clear hS; rintro r1 w hS)
    )
  go_ret
  exact ⟨by rw [HB.out]; rfl, by rw [HR.out]; exact hS.sel (by repeat (first | exact Sel.refl | refine Sel.take (by repeat (first | exact t0 | apply tS)) ?_ | apply Sel.drop))⟩
set_option maxRecDepth 100000 in
set_option maxHeartbeats 4000000 in
theorem grown_s (hS : SepL R base w F) {sa : List Byte} (hsa : sa.length = 32) {v : Value} {L : List (Value × RA)} (hv : AIn R base v L) (hao : ∀ x ∈ L, AOk x.2) (hg : greatR (L.map (·.2)) = false) :
    Calls Tryd.prog 12 #[HV sa, v] w (Ret fun y w' => ∃ p, y = .pointer (some ⟨p, 0, none⟩) ∧ SepL R base w' (.blk p 58 (rtC sa (runs (L.map (·.2)))) :: F)) := by
  have HL : Hid ((L.map aC).length = L.length) := by simp [Hid]
  have HSL : Hid ((sa.map B8).length = 32) := by simp [Hid, hsa]
  have hfw := few_le hg
  rw [List.length_map] at hfw
  have hll := hfw.1
  have HFW := hide hfw.2
  have HAA := hide hao
  obtain ⟨T, hT⟩ : ∃ T, L.map (·.2) = T := ⟨_, rfl⟩
  have HTL : Hid (T.length = L.length) := by unfold Hid; rw [← hT, List.length_map]
  have HT := hide hT
  rw [hT]
  clear hg hfw hao hT
  unfold HV
  go_enter Tryd.func12, Tryd.ntmps12
  go_wp2_with (first
    | (show wpList _ _ _ (⟨some 2, .box _ _, _, _, _, _⟩ :: _) _ _; refine wpS_boxA (cs := sa.map B8) hS rfl rfl rfl ?_; clear hS; intro nh w hS; go_frame)
    | (show wpList _ _ _ (⟨some 8, .load _ _, _, _, _, _⟩ :: _) _ _; refine wpList_val rfl (op_load agg32b rfl rfl (SepL.getBlk (b := nh) (T := 23) ((hS.bring (by repeat (first | exact t0 | apply tS))))).cells HSL.out) ?_; go_frame)
    | (go_at_call 17; refine Ret.calls (rtNew_s hS hsa) ?_; clear hS; rintro r w ⟨p, rfl, hS⟩)
    | (show wpList _ _ _ (⟨some 11, .call _, _, _, _, _⟩ :: _) _ _; refine wpList_val rfl (op_len slAct rfl rfl (v := v) (xs := L.map aC) rfl (by exact hS.rd hv.rd)) ?_; rw [HL.out]; go_frame)
    )
  go_loopw [12] (fun iv wr => ∃ k : Nat, iv = .int .i64 k ∧ k ≤ L.length ∧ SepL R base wr (.blk p 58 (rtC sa (runs (T.take k))) :: F)) (fun iv _ => L.length - (intOf iv).toNat)
  case atStart => exact ⟨0, rfl, by omega, hS.sel (by repeat (first | exact Sel.refl | refine Sel.take (by repeat (first | exact t0 | apply tS)) ?_ | apply Sel.drop))⟩
  case round =>
    clear hS
    obtain ⟨k, rfl, hk, hS⟩ := hrel
    by_cases hlt : k < L.length
    · have hkt : k < T.length := by rw [HTL.out]; exact hlt
      have hlk : k < (L.map aC).length := by rw [HL.out]; exact hlt
      obtain ⟨⟨u, s⟩, hx⟩ : ∃ x, L[k] = x := ⟨_, rfl⟩
      have hxm : (u, s) ∈ L := by rw [← hx]; exact List.getElem_mem hlt
      have HX : Hid ((L.map aC)[k] = aC (u, s)) := by
        unfold Hid
        rw [List.getElem_map, hx]
      have HUR := hide (hv.at_ _ hxm)
      have HU1 := hide (hS.rd HUR.out).one1
      have HUF := hide (aC_flat (x := (u, s)) HU1.out)
      have hsk : T[k] = s := by simp only [← HT.out, List.getElem_map, hx]
      have HAO : Hid (AOk s ∧ s.peers.length ≤ 1000000) := by
        have h1 := HFW.out s (List.mem_map.2 ⟨(u, s), hxm, rfl⟩)
        exact ⟨HAA.out _ hxm, by omega⟩
      have hqo := runs_ok (T.take k)
      have hsn := runs_next hkt
      rw [hsk] at hsn
      obtain ⟨q, hq⟩ : ∃ q, runs (T.take k) = q := ⟨_, rfl⟩
      rw [hq] at hS hqo hsn
      have HQO := hide hqo
      have HSN := hide hsn
      clear hx hxm hsk hqo hsn hq hkt
      go_wp2_with (first
        | (show wpList _ _ _ (⟨some 14, .indexAddr _ _ _, _, _, _, _⟩ :: _) _ _; refine wpList_val rfl (op_indexAddr slAct rfl (v := v) (xs := L.map aC) rfl (k := k) rfl (by exact hS.rd hv.rd) hlk) ?_; go_frame)
        | (show wpList _ _ _ (⟨some 15, .load _ _, _, _, _, _⟩ :: _) _ _; refine wpList_val rfl (op_loadE aggAct rfl (v := v) (xs := L.map aC) (k := k) rfl (by exact hS.rd hv.rd) hlk) ?_; rw [HX.out]; go_frame)
        | (show wpList _ _ _ (⟨_, .alloc 38, _, _, _, _⟩ :: _) _ _; refine wpS_alloc hS rfl rfl Tryd.zeroValue38 (zs := [.int .i64 0, .int .i64 0, .int .i64 0, .int .u64 0, .slice none 0 0, .int .u16 0, .int .u16 0, .int .u16 0]) rfl ?_; clear hS; intro nb w hS; go_frame)
        | (show wpList _ _ _ (⟨_, .store 38 _ _, _, _, _, _⟩ :: _) _ _; (refine wpS_storeAll (b := nb) aggAct (hS.bring (by repeat (first | exact t0 | apply tS))) rfl rfl rfl (vs := aC (u, s)) rfl rfl HUF.out rfl ?_); clear hS; intro w hS; go_frame)
        | (show wpList _ _ _ (⟨some 17, .load _ _, _, _, _, _⟩ :: _) _ _; refine wpList_val rfl (op_load aggAct rfl rfl (SepL.getBlk (b := nb) (T := 38) ((hS.bring (by repeat (first | exact t0 | apply tS))))).cells rfl) ?_; go_frame)
        | (go_at_call 19; (refine Ret.calls (do_s (p := p) (r := q) (u := u) (s := s) (hS.bring (by repeat (first | exact t0 | apply tS))) hsa HQO.out HUR.out HAO.out) ?_); clear hS; rintro r1 w ⟨rfl, hS⟩)
        )
      go_roundw
      case rel =>
        refine ⟨k + 1, by go_num, by omega, ?_⟩
        rw [HSN.out]
        exact hS.sel (by repeat (first | exact Sel.refl | refine Sel.take (by repeat (first | exact t0 | apply tS)) ?_ | apply Sel.drop))
      case measure => simp [intOf]; omega
    · have hk2 : k = L.length := by omega
      rw [hk2, ← HTL.out, List.take_length] at hS
      go_wp2_with fail
      go_ret
      exact ⟨p, rfl, hS⟩
end
end Go.Proofs.YtlplgobkidpgkaaDoor
namespace Go.Proofs.YtlplgobkidpgkaaDoor
open Go Go.RowKit Go.Px Go.Sha
def saA : List Byte := 1#8 :: List.replicate 31 0#8
theorem hsaA : saA.length = 32 := by decide
theorem buildSa (w : World) : (Instr.build 23 #[(0, .int .u8 1)]).run Tryd.prog w = .ok (.agg (saA.map B8).toArray) w := run_build w 23 _ _ (by kernel_rfl)
theorem buildDr (w : World) : (Instr.build 36 #[(0, .int .u16 1), (1, .int .u16 1), (2, .int .u16 9)]).run Tryd.prog w = .ok (.agg #[.int .u16 1, .int .u16 1, .int .u16 9]) w := run_build w 36 _ _ (by kernel_rfl)
theorem cells45 : [I64 4, I64 5].map (fun v => v.cells.toList) = [4, 5].map fun z => [I64 z] := rfl
section
variable {R : Nat → Prop} {base w : World} {F : List Hp}
theorem own_4 {v : Value} (hS : SepL R base w (.own 3 1 v [[I64 4]] :: F)) : SepL R base w (.own 3 1 v ([4].map fun z => [I64 z]) :: F) := hS
theorem tick_o {p : Nat} {sa : List Byte} {r : Rt} {v : Value} {peers : List Int} (hS : SepL R base w (.own 3 1 v (peers.map fun z => [I64 z]) :: .blk p 58 (rtC sa r) :: F)) (hsa : sa.length = 32) (hok : ROk 3 r) (hlen : peers.length ≤ 1000000) {now d0 d1 d2 : Nat} (hnow : now < 18446744073709551616) (hd1 : d1 < 65536) (hd2 : d2 < 65536) :
    Calls Tryd.prog 33 #[.pointer (some ⟨p, 0, none⟩), U now, v, .agg #[.int .u16 d0, .int .u16 d1, .int .u16 d2]] w (Ret fun y w' => y = .bool (!decide (now < r.fin)) ∧ SepL R base w' (.blk p 58 (rtC sa (tickR r now peers d0 d1 d2)) :: F)) := by
  obtain ⟨R1, h1, h2, h3, h4⟩ := hS.freezeOwn
  refine Ret.calls (tick_s h1 hsa hok h2 hlen hnow hd1 hd2) ?_
  rintro y w' ⟨h5, h6⟩
  exact ⟨h5, (h4 w' _ h6).tail⟩
theorem left_o {p : Nat} {sa : List Byte} {r : Rt} {q : Int} {v : Value} {peers : List Int} (hS : SepL R base w (.own 3 1 v (peers.map fun z => [I64 z]) :: .blk p 58 (rtC sa r) :: F)) (hsa : sa.length = 32) (hlen : peers.length ≤ 1000000) {d : Nat} (hd : d < 65536) :
    Calls Tryd.prog 15 #[.pointer (some ⟨p, 0, none⟩), I64 q, v, .int .u16 d] w (Ret fun _ w' => SepL R base w' (.blk p 58 (rtC sa (leftR r q peers d)) :: F)) := by
  obtain ⟨R1, h1, h2, h3, h4⟩ := hS.freezeOwn
  refine Ret.calls (left_s h1 hsa h2 hlen hd) ?_
  rintro y w' h6
  exact (h4 w' _ h6).tail
set_option maxRecDepth 100000 in
set_option maxHeartbeats 4000000 in
theorem alive_s (hS : SepL R base w F) (hK : CIn R base 1 (kTab.map W32)) (hF : CIn R base 0 (first.map W32)) : Calls Tryd.prog 10 #[] w (Ret fun r w' => r = .bool true ∧ SepL R base w' F) := by
  obtain ⟨r0, h0⟩ : ∃ r, r = rt0 := ⟨_, rfl⟩
  obtain ⟨r1, h1⟩ : ∃ r, tickR r0 0 [4, 5] 1 1 9 = r := ⟨_, rfl⟩
  obtain ⟨r2, h2⟩ : ∃ r, leftR r1 5 [4] 0 = r := ⟨_, rfl⟩
  obtain ⟨r3, h3⟩ : ∃ r, joinR r2 7 = r := ⟨_, rfl⟩
  have k0 : ROk 3 r0 := by rw [h0]; exact ROk.zero (by omega)
  have k1 : ROk 3 r1 := by rw [← h1]; exact k0.tick (by omega) _ _ _ _ _
  have k2 : ROk 3 r2 := by rw [← h2]; exact k1.left _ _ _
  have k3 : ROk 3 r3 := by rw [← h3]; exact k2.join _
  have A0 : Hid (r0.s0 = -1) := by rw [h0]; rfl
  have B0 : Hid (r0.s1 = -1) := by rw [h0]; rfl
  have A1 : Hid (r1.s0 = 5) := by rw [← h1, h0]; exact (by decide : (tickR rt0 0 [4, 5] 1 1 9).s0 = 5)
  have B1 : Hid (r1.s1 = 4) := by rw [← h1, h0]; exact (by decide : (tickR rt0 0 [4, 5] 1 1 9).s1 = 4)
  have S1 : Hid (r1.stems = true) := by rw [← h1, h0]; exact (by decide : (tickR rt0 0 [4, 5] 1 1 9).stems = true)
  have E1 : Hid (r1.fin = 600) := by rw [← h1, h0]; exact (by decide : (tickR rt0 0 [4, 5] 1 1 9).fin = 600)
  have A2 : Hid (r2.s0 = -1) := by rw [← h2, ← h1, h0]; exact (by decide : (leftR (tickR rt0 0 [4, 5] 1 1 9) 5 [4] 0).s0 = -1)
  have B2 : Hid (r2.s1 = 4) := by rw [← h2, ← h1, h0]; exact (by decide : (leftR (tickR rt0 0 [4, 5] 1 1 9) 5 [4] 0).s1 = 4)
  have A3 : Hid (r3.s0 = 7) := by rw [← h3, ← h2, ← h1, h0]; exact (by decide : (joinR (leftR (tickR rt0 0 [4, 5] 1 1 9) 5 [4] 0) 7).s0 = 7)
  have B3 : Hid (r3.s1 = 4) := by rw [← h3, ← h2, ← h1, h0]; exact (by decide : (joinR (leftR (tickR rt0 0 [4, 5] 1 1 9) 5 [4] 0) 7).s1 = 4)
  have E3 : Hid (r3.epoch = 1) := by rw [← h3, ← h2, ← h1, h0]; exact (by decide : (joinR (leftR (tickR rt0 0 [4, 5] 1 1 9) 5 [4] 0) 7).epoch = 1)
  have hf0 : (!decide (0 < r0.fin)) = true := by rw [h0]; rfl
  have w0 : wayS saA r0 0 = -1 := by
    unfold wayS wayR
    rw [A0.out, B0.out]
    split
    · split <;> rfl
    · rfl
  have w4 : wayS saA r3 4 = 7 := by
    unfold wayS wayR
    rw [A3.out, B3.out, if_pos (by decide)]
    split <;> rfl
  have CN : ∀ {w : World} {F : List Hp}, SepL R base w F → Calls Tryd.prog 17 #[.agg (saA.map B8).toArray] w (Ret fun y w' => ∃ p, y = .pointer (some ⟨p, 0, none⟩) ∧ SepL R base w' (.blk p 58 (rtC saA rt0) :: F)) := fun hS => rtNew_s hS hsaA
  have CW0 : ∀ {w : World} {p : Nat} {F : List Hp}, SepL R base w (.blk p 58 (rtC saA r0) :: F) → Calls Tryd.prog 14 #[.pointer (some ⟨p, 0, none⟩), .int .i64 0] w (Ret fun y w' => y = .int .i64 (-1) ∧ SepL R base w' (.blk p 58 (rtC saA r0) :: F)) := fun hS => by
    have h := way_s (s := 0) hS hK hF hsaA k0
    rw [w0] at h
    exact h
  have CW4 : ∀ {w : World} {p : Nat} {F : List Hp}, SepL R base w (.blk p 58 (rtC saA r3) :: F) → Calls Tryd.prog 14 #[.pointer (some ⟨p, 0, none⟩), .int .i64 4] w (Ret fun y w' => y = .int .i64 7 ∧ SepL R base w' (.blk p 58 (rtC saA r3) :: F)) := fun hS => by
    have h := way_s (s := 4) hS hK hF hsaA k3
    rw [w4] at h
    exact h
  have CT : ∀ {w : World} {p : Nat} {v : Value} {F : List Hp}, SepL R base w (.own 3 1 v ([4, 5].map fun z => [I64 z]) :: .blk p 58 (rtC saA r0) :: F) → Calls Tryd.prog 33 #[.pointer (some ⟨p, 0, none⟩), .int .u64 0, v, .agg #[.int .u16 1, .int .u16 1, .int .u16 9]] w (Ret fun y w' => y = .bool true ∧ SepL R base w' (.blk p 58 (rtC saA r1) :: F)) := fun hS => by
    have h := tick_o (now := 0) (d0 := 1) (d1 := 1) (d2 := 9) hS hsaA k0 (by decide) (by omega) (by omega) (by omega)
    rw [h1, hf0] at h
    exact h
  have CL : ∀ {w : World} {p : Nat} {v : Value} {F : List Hp}, SepL R base w (.own 3 1 v ([4].map fun z => [I64 z]) :: .blk p 58 (rtC saA r1) :: F) → Calls Tryd.prog 15 #[.pointer (some ⟨p, 0, none⟩), .int .i64 5, v, .int .u16 0] w (Ret fun _ w' => SepL R base w' (.blk p 58 (rtC saA r2) :: F)) := fun hS => by
    have h := left_o (q := 5) (d := 0) hS hsaA (by decide) (by omega)
    rw [h2] at h
    exact h
  have HR0 := hide h0
  have HR3 := hide h3
  have HC45 := hide cells45
  have HO : Hid (∀ v ∈ [I64 (-1), I64 4], v.oneCell' = true) := by
    intro v hv
    simp only [List.mem_cons, List.not_mem_nil, or_false] at hv
    rcases hv with rfl | rfl <;> rfl
  clear h0 h1 h2 h3 k0 k1 k2 k3 hf0 w0 w4
  go_enter Tryd.func10, Tryd.ntmps10
  go_wp2_with (first
    | go_big_skip
    | (show wpList _ _ _ (⟨some 3, .build _ _, _, _, _, _⟩ :: _) _ _; refine wpList_val rfl (op_build (ps := #[(0, .int .u8 1)]) rfl rfl buildSa _) ?_; go_frame)
    | (go_at_call 17; refine Ret.calls (CN hS) ?_; clear hS; rintro r w ⟨p, rfl, hS⟩; rw [← HR0.out] at hS)
    | (go_at_call 14; (first | (with_reducible refine Ret.calls (CW0 hS) ?_) | (with_reducible refine Ret.calls (CW4 hS) ?_)); clear hS; rintro r w ⟨rfl, hS⟩)
    | (show wpList _ _ _ (⟨some 10, .binOp _ _ _ _ _, _, _, _, _⟩ :: _) _ _; refine wpList_val rfl (op_ineI rfl rfl rfl (r := false) rfl) ?_; go_frame)
    | (show wpList _ _ _ (⟨some 65, .binOp _ _ _ _ _, _, _, _, _⟩ :: _) _ _; refine wpList_val rfl (op_eqI' rfl rfl rfl (r := true) rfl) ?_; go_frame)
    | (go_at_call 13; with_reducible refine Ret.calls (succ_s (p := p) (sa := saA) (r := r0) hS hsaA) ?_; clear hS; rintro r w ⟨rfl, hS⟩; rw [A0.out, B0.out])
    | (go_at_call 13; with_reducible refine Ret.calls (succ_s (p := p) (sa := saA) (r := r1) hS hsaA) ?_; clear hS; rintro r w ⟨rfl, hS⟩; rw [A1.out, B1.out])
    | (go_at_call 13; with_reducible refine Ret.calls (succ_s (p := p) (sa := saA) (r := r2) hS hsaA) ?_; clear hS; rintro r w ⟨rfl, hS⟩; rw [A2.out, B2.out])
    | (go_at_call 13; with_reducible refine Ret.calls (succ_s (p := p) (sa := saA) (r := r3) hS hsaA) ?_; clear hS; rintro r w ⟨rfl, hS⟩; rw [A3.out, B3.out])
    | (show wpList _ _ _ (⟨some 15, .build _ _, _, _, _, _⟩ :: _) _ _; refine wpList_val rfl (op_build (ps := #[(0, .int .i64 (-1)), (1, .int .i64 (-1))]) rfl rfl (buildSucc (-1) (-1)) _) ?_; go_frame)
    | (show wpList _ _ _ (⟨some 28, .build _ _, _, _, _, _⟩ :: _) _ _; refine wpList_val rfl (op_build (ps := #[(0, .int .i64 5), (1, .int .i64 4)]) rfl rfl (buildSucc 5 4) _) ?_; go_frame)
    | (show wpList _ _ _ (⟨some 49, .build _ _, _, _, _, _⟩ :: _) _ _; refine wpList_val rfl (op_build (ps := #[(0, .int .i64 (-1)), (1, .int .i64 4)]) rfl rfl (buildSucc (-1) 4) _) ?_; go_frame)
    | (show wpList _ _ _ (⟨some 54, .build _ _, _, _, _, _⟩ :: _) _ _; refine wpList_val rfl (op_build (ps := #[(0, .int .i64 7), (1, .int .i64 4)]) rfl rfl (buildSucc 7 4) _) ?_; go_frame)
    | (show wpList _ _ _ (⟨some 16, .binOp _ _ _ _ _, _, _, _, _⟩ :: _) _ _; refine wpList_val rfl (op_neP rfl (a := -1) (b := -1) (c := -1) (d := -1) rfl rfl (r := false) rfl) ?_; go_frame)
    | (show wpList _ _ _ (⟨some 29, .binOp _ _ _ _ _, _, _, _, _⟩ :: _) _ _; refine wpList_val rfl (op_neP rfl (a := 5) (b := 4) (c := 5) (d := 4) rfl rfl (r := false) rfl) ?_; go_frame)
    | (show wpList _ _ _ (⟨some 50, .binOp _ _ _ _ _, _, _, _, _⟩ :: _) _ _; refine wpList_val rfl (op_eqP rfl (a := -1) (b := 4) (c := -1) (d := 4) rfl rfl (r := true) rfl) ?_; go_frame)
    | (show wpList _ _ _ (⟨some 55, .binOp _ _ _ _ _, _, _, _, _⟩ :: _) _ _; refine wpList_val rfl (op_eqP rfl (a := 7) (b := 4) (c := 7) (d := 4) rfl rfl (r := true) rfl) ?_; go_frame)
    | (show wpList _ _ _ (⟨some 20, .buildSlice _ _ _, _, _, _, _⟩ :: _) _ _; refine wpS_buildL slInt hS rfl rfl [I64 4, I64 5] rfl rfl (by omega) (by omega) (by simp [Value.cells]) ?_; clear hS; intro v20 w hS; rw [HC45.out] at hS; go_frame)
    | (show wpList _ _ _ (⟨some 42, .buildSlice _ _ _, _, _, _, _⟩ :: _) _ _; refine wpS_build11 slInt hS rfl rfl (u := I64 4) rfl rfl ?_; clear hS; intro v42 w hS; replace hS := own_4 hS; go_frame)
    | (show wpList _ _ _ (⟨some 21, .build _ _, _, _, _, _⟩ :: _) _ _; refine wpList_val rfl (op_build (ps := #[(0, .int .u16 1), (1, .int .u16 1), (2, .int .u16 9)]) rfl rfl buildDr _) ?_; go_frame)
    | (go_at_call 33; refine Ret.calls (CT hS) ?_; clear hS; rintro r w ⟨rfl, hS⟩)
    | (go_at_call 25; (refine Ret.calls (stems_s (p := p) (sa := saA) (r := r1) (hS.bring (by repeat (first | exact t0 | apply tS))) hsaA) ?_); clear hS; rintro r w ⟨rfl, hS⟩; rw [S1.out])
    | (go_at_call 27; (refine Ret.calls (end_s (p := p) (sa := saA) (r := r1) (hS.bring (by repeat (first | exact t0 | apply tS))) hsaA) ?_); clear hS; rintro r w ⟨rfl, hS⟩; rw [E1.out])
    | (show wpList _ _ _ (⟨some 39, .binOp _ _ _ _ _, _, _, _, _⟩ :: _) _ _; refine wpList_val rfl (opU_neq rfl (a := 600) (b := 600) rfl rfl (r := false) rfl) ?_; go_frame)
    | (go_at_call 15; refine Ret.calls (CL hS) ?_; clear hS; rintro r w hS)
    | (show wpList _ _ _ (⟨some 2, .alloc _, _, _, _, _⟩ :: _) _ _; refine wpS_alloc hS rfl rfl Tryd.zeroValue29 (zs := [.int .i64 0, .int .i64 0]) rfl ?_; clear hS; intro na w hS; go_frame)
    | (show wpList _ _ _ (⟨_, .store 29 _ _, _, _, _, _⟩ :: _) _ _; (refine wpS_storeAll (b := na) agg2 (hS.bring (by repeat (first | exact t0 | apply tS))) rfl rfl rfl (vs := [I64 (-1), I64 4]) rfl rfl HO.out rfl ?_); clear hS; intro w hS; go_frame)
    | (go_at_call 16; (refine Ret.calls (joined_s (p := p) (sa := saA) (r := r2) (q := 7) (hS.bring (by repeat (first | exact t0 | apply tS))) hsaA) ?_); clear hS; rintro r w hS; rw [HR3.out] at hS)
    | (show wpList _ _ _ (⟨some 48, .load _ _, _, _, _, _⟩ :: _) _ _; refine wpList_val rfl (op_load agg2 rfl rfl (SepL.getBlk (b := na) (T := 29) ((hS.bring (by repeat (first | exact t0 | apply tS))))).cells rfl) ?_; go_frame)
    | (go_at_call 26; (refine Ret.calls (epoch_s (p := p) (sa := saA) (r := r3) (hS.bring (by repeat (first | exact t0 | apply tS))) hsaA) ?_); clear hS; rintro r w ⟨rfl, hS⟩; rw [E3.out])
    | (show wpList _ _ _ (⟨some 60, .binOp _ _ _ _ _, _, _, _, _⟩ :: _) _ _; refine wpList_val rfl (opU_eql rfl (a := 1) (b := 1) rfl rfl (r := true) rfl) ?_; go_frame)
    )
  go_ret
  exact ⟨rfl, hS.sel (by repeat (first | exact Sel.refl | refine Sel.take (by repeat (first | exact t0 | apply tS)) ?_ | apply Sel.drop))⟩
end
end Go.Proofs.YtlplgobkidpgkaaDoor
