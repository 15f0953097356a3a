/- A queue learns, and what it tells. Conditions: those that stand ahead of each theorem. -/
import Derived.Test.YtffagjkjeojaaaaQG
namespace Go.Proofs.Ytffagjkjeojaaaa
open Go.RowKit Go.Px
theorem mget_cons (p : Value × Value) (M : List (Value × Value)) (y : Value) : mget (p :: M) y = if eqv p.1 y then some p.2 else mget M y := by
  unfold mget
  rw [List.find?_cons]
  cases eqv p.1 y <;> rfl
theorem mget_app (M : List (Value × Value)) (x v y : Value) : mget (M ++ [(x, v)]) y = (mget M y).or (if eqv x y then some v else none) := by
  induction M with
  | nil => rw [List.nil_append, mget_cons]; simp [mget]
  | cons p M ih =>
    rw [List.cons_append, mget_cons, mget_cons, ih]
    split <;> rfl
theorem mget_turn (M : List (Value × Value)) (x v y : Value) : mget (M.map fun p => if eqv p.1 x then (x, v) else p) y = if eqv x y then (mget M x).map (fun _ => v) else mget M y := by
  induction M with
  | nil => simp [mget]
  | cons p M ih =>
    rw [List.map_cons, mget_cons, mget_cons, mget_cons, ih]
    cases h : eqv p.1 x with
    | true =>
      rw [eqv_true] at h
      rw [h, if_pos rfl]
      show (if eqv x y = true then some v else _) = _
      cases eqv x y <;> rfl
    | false =>
      cases h2 : eqv x y with
      | true =>
        rw [eqv_true] at h2
        subst h2
        simp [h]
      | false => simp
theorem mget_mput (M : List (Value × Value)) (x v y : Value) : mget (mput M x v) y = if eqv x y then some v else mget M y := by
  unfold mput
  by_cases h : (mget M x).isSome = true
  · rw [if_pos h, mget_turn]
    obtain ⟨u, hu⟩ := Option.isSome_iff_exists.1 h
    rw [hu]
    rfl
  · rw [if_neg h, mget_app]
    cases h2 : eqv x y with
    | true =>
      rw [eqv_true] at h2
      subst h2
      have h3 : mget M x = none := by simpa using h
      rw [h3]
      rfl
    | false =>
      rw [if_neg (by simp), if_neg (by simp)]
      exact Option.or_none
/-- a map that has these ids -/
def MapL (l : List Id) (M : List (Value × Value)) : Prop := ∀ x : Id, mget M (HV x) = if x ∈ l then some (I64 1) else none
theorem MapL.nil : MapL [] [] := fun x => by simp [mget]
theorem MapL.put {l : List Id} {M : List (Value × Value)} (h : MapL l M) (x : Id) : MapL (l ++ [x]) (mput M (HV x) (I64 1)) := by
  intro y
  rw [mget_mput, h y, HV_eqv]
  by_cases hxy : x = y
  · subst hxy
    simp
  · rw [if_neg (by simpa using hxy)]
    by_cases hm : y ∈ l
    · simp [hm]
    · simp [hm]
      exact fun e => hxy e.symm
/-- where a flush stands -/
def FlOk (q : Qu) (live t : List Id) (k : Nat) : Prop := t ++ (tells live t.length (q.waits.drop k)).1 = told q live ∧ (tells live t.length (q.waits.drop k)).2 = (flushQ q live).waits
theorem FlOk.start (q : Qu) (live : List Id) : FlOk q live [] 0 := ⟨rfl, rfl⟩
theorem FlOk.skip {q : Qu} {live t : List Id} {k : Nat} (h : FlOk q live t k) (hk : k < q.waits.length) (hn : t.length < 32) (hx : q.waits[k] ∉ live) : FlOk q live t (k + 1) := by
  unfold FlOk at h ⊢
  rwa [tells_skip hk (by omega) hx] at h
theorem FlOk.take {q : Qu} {live t : List Id} {k : Nat} (h : FlOk q live t k) (hk : k < q.waits.length) (hn : t.length < 32) (hx : q.waits[k] ∈ live) : FlOk q live (t ++ [q.waits[k]]) (k + 1) := by
  unfold FlOk at h ⊢
  rw [tells_take hk (by omega) hx] at h
  rw [List.length_append, List.length_singleton]
  exact ⟨by rw [List.append_assoc]; exact h.1, h.2⟩
theorem FlOk.stop {q : Qu} {live t : List Id} {k : Nat} (h : FlOk q live t k) (he : q.waits.length ≤ k ∨ 32 ≤ t.length) : t = told q live ∧ q.waits.drop k = (flushQ q live).waits := by
  have h1 : tells live t.length (q.waits.drop k) = ([], q.waits.drop k) := by
    rcases he with h2 | h2
    · rw [List.drop_eq_nil_of_le h2]
      rfl
    · exact tells_stop h2
  unfold FlOk at h
  rw [h1, List.append_nil] at h
  exact h
section
variable {R : Nat → Prop} {base w : World} {F : List Hp}
theorem kadd_o {s : Nat} {L l : List Id} {T : TypeId} {v : Value} (hS : SepL R base w (.own T 32 v (bys l) :: hK s L :: F)) (h32 : Is32 l) (hlen : l.length ≤ 100000) :
    Calls Try.prog 33 #[.pointer (some ⟨s, 0, none⟩), v] w (Ret fun r w' => SepL R base w' (.own T 32 v (bys l) :: .own 24 32 r (bys (gones L l)) :: hK s (adds L l) :: F)) := by
  obtain ⟨R', h1, h2, h3, h4⟩ := hS.freezeOwn
  refine Ret.calls (kadd_s h1 h2 h32 hlen) ?_
  intro r w' h5
  exact h4 w' _ h5
set_option maxRecDepth 100000 in
set_option maxHeartbeats 1000000 in
theorem qlearn_s {p : Nat} {q : Qu} {l : List Id} (hS : SepL R base w (hQ p q :: F)) (hok : QOk q) {v : Value} (hl : RdIn R base 32 v (bys l)) (h32 : Is32 l) (hlen : l.length ≤ 100000) :
    Calls Try.prog 15 #[.pointer (some ⟨p, 0, none⟩), v] w (Ret fun _ w' => SepL R base w' (hQ p (learnQ q l) :: F)) := by
  obtain ⟨s, wv, h⟩ := hQ_open hS
  have HV0 := hide (hS.rd hl).cells1
  clear hS
  have hS := h
  clear h
  have HW32 := hide hok.w32
  have hwl := hok.wl
  clear hok
  go_enter Try.func15, Try.ntmps15
  go_wp2_with (first
    | (show wpList _ _ _ (⟨_, .box _ _, _, _, _, _⟩ :: _) _ _; refine wpS_box1 hS rfl rfl (v := v) rfl HV0.out ?_; clear hS; intro nl w hS; go_frame)
    | (show wpList _ _ _ (⟨_, .load 31 (.tmp 9), _, _, _, _⟩ :: _) _ _; refine wpList_val rfl (op_load1S (b := p) (T := 53) oneHashes ((hS.bring (by repeat (first | exact t0 | apply tS)))) rfl rfl rfl) ?_; go_frame)
    | (go_at_call 30; refine Ret.calls (deleteF (nl := nl) (v := v) (wv := wv) (r := l) (l := q.waits) (F := .blk p 53 [.pointer (some ⟨s, 0, none⟩), wv] :: hK s q.known :: F) (hS.sel (by repeat (first | exact Sel.refl | refine Sel.take (by repeat (first | exact t0 | apply tS)) ?_ | apply Sel.drop))) hl h32 HW32.out (by omega)) ?_; clear hS; rintro wv2 w hS; have HV1 := hide hS.getOwn.rd.cells1; have HV2 := hide hS.getOwn.rd.one1)
    | (show wpList _ _ _ (⟨_, .store 31 _ _, _, _, _, _⟩ :: _) _ _; (refine wpS_store1 (b := p) (T := 53) (by kernel_rfl) (hS.bring (by repeat (first | exact t0 | apply tS))) rfl rfl rfl (v := wv2) rfl HV1.out HV2.out (by simp) ?_); clear hS; intro w hS; go_frame)
    )
  refine wp_region_text (by kernel_rfl) (by kernel_rfl) (by repeat (first | exact Clean.body | refine Clean.then ?_ | refine Clean.inBlock ?_)) ?_
  replace hS := hS.drew
  go_wp2_with (first
    | (show wpList _ _ _ (⟨_, .load 48 _, _, _, _, _⟩ :: _) _ _; refine wpList_val rfl (op_load1S (b := p) (T := 53) oneSet ((hS.bring (by repeat (first | exact t0 | apply tS)))) rfl rfl rfl) ?_; go_frame)
    | (show wpList _ _ _ (⟨_, .load 31 _, _, _, _, _⟩ :: _) _ _; refine wpList_val rfl (op_load1S (b := nl) (T := 31) oneHashes ((hS.bring (by repeat (first | exact t0 | apply tS)))) rfl rfl rfl) ?_; go_frame)
    | (go_at_call 33; (refine Ret.calls (kadd_s (s := s) (L := q.known) (hS.bring (by repeat (first | exact t0 | apply tS))) hl h32 hlen) ?_); clear hS; rintro gv w hS)
    | (refine fin_mk (by kernel_rfl) ?_)
    )
  refine bodyPost_end (results_none rfl _ _ _) rfl ?_
  have h1 := hQ_close (q := learnQ q l) (hS.sel (by repeat (first | exact Sel.refl | refine Sel.take (by repeat (first | exact t0 | apply tS)) ?_ | apply Sel.drop)) : SepL R base _ (.blk p 53 [.pointer (some ⟨s, 0, none⟩), wv2] :: hK s (adds q.known l) :: .own 24 32 wv2 (bys (outIds l q.waits)) :: F))
  exact h1
set_option maxRecDepth 100000 in
set_option maxHeartbeats 4000000 in
theorem qflush_s {p : Nat} {q : Qu} {l : List Id} (hS : SepL R base w (hQ p q :: F)) (hok : QOk q) {v : Value} (hl : RdIn R base 32 v (bys l)) (h32 : Is32 l) :
    Calls Try.prog 18 #[.pointer (some ⟨p, 0, none⟩), v] w (Ret fun r w' => SepL R base w' (.own 24 32 r (bys (told q l)) :: hQ p (flushQ q l) :: F)) := by
  have HL : Hid ((bys l).length = l.length) := bys_length l
  have hmax := (hS.rd hl).len
  rw [HL.out] at hmax
  unfold maxLen at hmax
  have H32 := hide h32
  have HW32 := hide hok.w32
  have hwl := hok.wl
  have HT32A := hide (QOk.told (live := l) hok)
  clear h32 hok
  go_enter Try.func18, Try.ntmps18
  go_wp2_with (first
    | (show wpList _ _ _ (⟨_, .makeMap _ _, _, _, _, _⟩ :: _) _ _; refine wpS_makeMap mapTy hS rfl rfl ?_; clear hS; intro m w hS; go_frame)
    | (show wpList _ _ _ (⟨some 14, .call _, _, _, _, _⟩ :: _) _ _; refine wpList_val rfl (op_len slHash rfl rfl (v := v) (xs := bys l) rfl (by exact hS.rd hl)) ?_; rw [HL.out]; go_frame)
    )
  go_loopw [15] (fun iv wr => ∃ (k : Nat) (M : List (Value × Value)), iv = .int .i64 k ∧ k ≤ l.length ∧ Hid (MapL (l.take k) M) ∧ SepL R base wr (.map Try.prog 24 m M :: hQ p q :: F)) (fun iv _ => l.length - (intOf iv).toNat)
  case atStart => exact ⟨0, [], rfl, by omega, MapL.nil, hS.sel (by repeat (first | exact Sel.refl | refine Sel.take (by repeat (first | exact t0 | apply tS)) ?_ | apply Sel.drop))⟩
  case round =>
    clear hS
    obtain ⟨k, M, rfl, hk, HM, hS⟩ := hrel
    by_cases hlt : k < l.length
    · have hlk : k < (bys l).length := by rw [HL.out]; exact hlt
      obtain ⟨x, hx⟩ : ∃ x, l[k] = x := ⟨_, rfl⟩
      have hx32 : x.length = 32 := by rw [← hx]; exact H32.out _ (List.getElem_mem hlt)
      have HX : Hid ((bys l)[k] = x.map B8) := by
        unfold Hid
        rw [bys_get hlk hlt, hx]
      have HX32 : Hid ((x.map B8).length = 32) := by simp [Hid, hx32]
      have KX := isKey hx32
      have HM2 : Hid (MapL (l.take (k + 1)) (mput M (HV x) (I64 1))) := by
        unfold Hid
        rw [List.take_succ_eq_append_getElem hlt, hx]
        exact HM.out.put x
      unfold HV at KX HM2
      clear hx hx32
      go_wp2_with (first
        | (show wpList _ _ _ (⟨some 17, .indexAddr _ _ _, _, _, _, _⟩ :: _) _ _; refine wpList_val rfl (op_indexAddr slHash rfl (v := v) (xs := bys l) rfl (k := k) rfl (by exact hS.rd hl) hlk) ?_; go_frame)
        | (show wpList _ _ _ (⟨some 18, .load _ _, _, _, _, _⟩ :: _) _ _; refine wpList_val rfl (op_loadE aggHash rfl (v := v) (xs := bys l) (k := k) rfl (by exact hS.rd hl) hlk) ?_; rw [HX.out]; go_frame)
        | (show wpList _ _ _ (⟨_, .alloc _, _, _, _, _⟩ :: _) _ _; refine wpS_alloc hS rfl rfl Try.zeroValue24 (zs := List.replicate 32 (.int .u8 0)) rfl ?_; clear hS; intro nb w hS; go_frame)
        | (show wpList _ _ _ (⟨_, .store 24 (.tmp 7) _, _, _, _, _⟩ :: _) _ _; (refine wpS_storeAll (b := nb) aggHash (hS.bring (by repeat (first | exact t0 | apply tS))) rfl rfl rfl (vs := x.map B8) rfl HX32.out (flat_B8 x) rfl ?_); clear hS; intro w hS; go_frame)
        | (show wpList _ _ _ (⟨some 20, .load _ _, _, _, _, _⟩ :: _) _ _; refine wpList_val rfl (op_load aggHash rfl rfl (SepL.getBlk (b := nb) (T := 24) ((hS.bring (by repeat (first | exact t0 | apply tS))))).cells HX32.out) ?_; go_frame)
        | (show wpList _ _ _ (⟨_, .mapUpdate _ _ _ _, _, _, _, _⟩ :: _) _ _; (refine wpS_mput mapTy (hS.bring (by repeat (first | exact t0 | apply tS))) rfl rfl rfl (b := m) (x := .agg (x.map B8).toArray) (v := I64 1) rfl rfl KX ?_); clear hS; intro w hS; go_frame)
        )
      go_roundw
      case rel => exact ⟨k + 1, _, by go_num, by omega, HM2, hS.sel (by repeat (first | exact Sel.refl | refine Sel.take (by repeat (first | exact t0 | apply tS)) ?_ | apply Sel.drop))⟩
      case measure => simp [intOf]; omega
    · have hk2 : k = l.length := by omega
      subst hk2
      have hml := HM.out
      rw [List.take_length] at hml
      have HML := hide hml
      obtain ⟨s, wv, hS2⟩ := hQ_open (hS.sel (by repeat (first | exact Sel.refl | refine Sel.take (by repeat (first | exact t0 | apply tS)) ?_ | apply Sel.drop)) : SepL R base _ (hQ p q :: .map Try.prog 24 m M :: F))
      clear hml hS
      have hS := hS2
      clear hS2
      have HWLN : Hid ((bys q.waits).length = q.waits.length) := bys_length _
      go_wp2_with fail
      go_loopw [8, 9] (fun tv iv wr => ∃ (k : Nat) (t : List Id), iv = .int .i64 k ∧ k ≤ q.waits.length ∧ t.length ≤ 32 ∧ Hid (FlOk q l t k) ∧ SepL R base wr (.own 24 32 tv (bys t) :: .blk p 53 [.pointer (some ⟨s, 0, none⟩), wv] :: hK s q.known :: .own 24 32 wv (bys q.waits) :: .map Try.prog 24 m M :: F)) (fun _ iv _ => q.waits.length - (intOf iv).toNat)
      case atStart => exact ⟨0, [], rfl, by omega, by simp, FlOk.start q l, (hS.nilOwn 24 32).sel (by repeat (first | exact Sel.refl | refine Sel.take (by repeat (first | exact t0 | apply tS)) ?_ | apply Sel.drop))⟩
      case round =>
        clear hS hk hlt
        obtain ⟨k, t, rfl, hk, ht, HFL, hS⟩ := hrel
        have HTLN : Hid ((bys t).length = t.length) := bys_length _
        have HKLE : Hid (k ≤ (bys q.waits).length) := by unfold Hid; rw [HWLN.out]; exact hk
        have HCUT : Hid (∀ w : World, Rd 32 w wv (bys q.waits) → Rd 32 w (cutV 32 wv k (bys q.waits).length) (bys (q.waits.drop k))) := fun w h => by
          have h1 := h.cutV HKLE.out (Nat.le_refl _)
          rwa [List.take_of_length_le (by simp), ← bys_drop] at h1
        have HWL : Hid ((bys (q.waits.drop k)).length ≤ 1000000) := by unfold Hid; rw [bys_length, List.length_drop]; omega
        have HTL : Hid (t.length ≤ 32) := ht
        by_cases hlt : k < q.waits.length
        · have HC1 : Hid (decide ((k : Int) < (q.waits.length : Int)) = true) := decide_eq_true (by omega)
          by_cases ht32 : t.length < 32
          · have HC2 : Hid (decide ((t.length : Int) < 32) = true) := decide_eq_true (by omega)
            have HKL : Hid (k < (bys q.waits).length) := by unfold Hid; rw [HWLN.out]; exact hlt
            obtain ⟨x, hx⟩ : ∃ x, q.waits[k] = x := ⟨_, rfl⟩
            have hx32 : x.length = 32 := by rw [← hx]; exact HW32.out _ (List.getElem_mem hlt)
            have HX : Hid ((bys q.waits)[k]'HKL.out = x.map B8) := by
              unfold Hid
              rw [bys_get HKL.out hlt, hx]
            have HX32 : Hid ((x.map B8).length = 32) := by simp [Hid, hx32]
            have KX := isKey hx32
            have hget := HML.out x
            unfold HV at KX hget
            have HA1 : Hid (((bys t).length + (bys [x]).length) * 32 ≤ 140737488355328) := by
              unfold Hid
              rw [bys_length, bys_length, List.length_singleton]
              omega
            have HA2 : Hid ((bys t).length + (bys [x]).length ≤ maxLen) := by
              unfold Hid maxLen
              rw [bys_length, bys_length, List.length_singleton]
              omega
            by_cases hm : x ∈ l
            · have HGET : Hid ((mget M (.agg (x.map B8).toArray)).getD (.int .i64 0) = I64 1) := by
                unfold Hid
                rw [hget, if_pos hm]
                rfl
              have HG : Hid (decide ((0 : Int) < 1) = true) := rfl
              have hf := HFL.out.take hlt ht32 (by rw [hx]; exact hm)
              rw [hx] at hf
              have HF2 := hide hf
              have HLN2 : Hid ((t ++ [x]).length ≤ 32) := by unfold Hid; rw [List.length_append, List.length_singleton]; omega
              clear hx hx32 hget hm hf
              go_wp2_with (first
                | go_big_skip
                | (show wpList _ _ _ (⟨_, .load 31 _, _, _, _, _⟩ :: _) _ _; refine wpList_val rfl (op_load1S (b := p) (T := 53) oneHashes ((hS.bring (by repeat (first | exact t0 | apply tS)))) rfl rfl rfl) ?_; go_frame)
                | (show wpList _ _ _ (⟨some 27, .call _, _, _, _, _⟩ :: _) _ _; refine wpList_val rfl (op_len slHash rfl rfl (v := wv) (xs := bys q.waits) rfl ((hS.bring (by repeat (first | exact t0 | apply tS))).getOwn.rd)) ?_; rw [HWLN.out]; go_frame)
                | (show wpList _ _ _ (⟨some 28, .binOp _ _ _ _ _, _, _, _, _⟩ :: _) _ _; refine wpList_val rfl (op_ilss rfl rfl rfl HC1.out) ?_; go_frame)
                | (show wpList _ _ _ (⟨some 31, .call _, _, _, _, _⟩ :: _) _ _; refine wpList_val rfl (op_len slHash rfl rfl (v := u8) (xs := bys t) rfl ((hS.bring (by repeat (first | exact t0 | apply tS))).getOwn.rd)) ?_; rw [HTLN.out]; go_frame)
                | (show wpList _ _ _ (⟨some 32, .binOp _ _ _ _ _, _, _, _, _⟩ :: _) _ _; refine wpList_val rfl (op_ilss rfl rfl rfl HC2.out) ?_; go_frame)
                | (show wpList _ _ _ (⟨some 40, .indexAddr _ _ _, _, _, _, _⟩ :: _) _ _; refine wpList_val rfl (op_indexAddr slHash rfl (v := wv) (xs := bys q.waits) rfl (k := k) rfl ((hS.bring (by repeat (first | exact t0 | apply tS))).getOwn.rd) HKL.out) ?_; go_frame)
                | (show wpList _ _ _ (⟨some 41, .load _ _, _, _, _, _⟩ :: _) _ _; refine wpList_val rfl (op_loadE aggHash rfl (v := wv) (xs := bys q.waits) (k := k) rfl ((hS.bring (by repeat (first | exact t0 | apply tS))).getOwn.rd) HKL.out) ?_; rw [HX.out]; go_frame)
                | (show wpList _ _ _ (⟨some 42, .lookup _ _ _ _, _, _, _, _⟩ :: _) _ _; refine wpList_val rfl (op_lookup mapTy rfl rfl (b := m) (x := .agg (x.map B8).toArray) rfl (SepL.getMap ((hS.bring (by repeat (first | exact t0 | apply tS))))) KX) ?_; rw [HGET.out]; go_frame)
                | (show wpList _ _ _ (⟨some 43, .binOp _ _ _ _ _, _, _, _, _⟩ :: _) _ _; refine wpList_val rfl (op_igtr rfl rfl rfl HG.out) ?_; go_frame)
                | (show wpList _ _ _ (⟨some 50, .indexAddr _ _ _, _, _, _, _⟩ :: _) _ _; refine wpList_val rfl (op_indexAddr slHash rfl (v := wv) (xs := bys q.waits) rfl (k := k) rfl ((hS.bring (by repeat (first | exact t0 | apply tS))).getOwn.rd) HKL.out) ?_; go_frame)
                | (show wpList _ _ _ (⟨some 51, .load _ _, _, _, _, _⟩ :: _) _ _; refine wpList_val rfl (op_loadE aggHash rfl (v := wv) (xs := bys q.waits) (k := k) rfl ((hS.bring (by repeat (first | exact t0 | apply tS))).getOwn.rd) HKL.out) ?_; rw [HX.out]; go_frame)
                | (show wpList _ _ _ (⟨some 52, .buildSlice _ _ _, _, _, _, _⟩ :: _) _ _; refine wpS_build1A slHash (by omega) hS rfl rfl (cs := x.map B8) rfl HX32.out ?_; clear hS; intro v52 w hS; go_frame)
                | (show wpList _ _ _ (⟨some 53, .call _, _, _, _, _⟩ :: _) _ _; (refine wpS_append slHash (hS.bring (by repeat (first | exact t0 | apply tS))) rfl rfl (sv := u8) (xs := bys t) (xv := v52) rfl rfl (ys := bys [x]) ((hS.bring (by repeat (first | exact t0 | apply tS))).getOwn.rd) (flat_bys _) HA1.out HA2.out ?_); clear hS; intro v53 w hS; rw [← bys_app] at hS; go_frame)
                | (show wpList _ _ _ (⟨some 55, .binOp _ _ _ _ _, _, _, _, _⟩ :: _) _ _; refine wpList_val rfl (op_iaddN rfl rfl rfl (k + 1) (by omega) (by omega)) ?_; go_frame)
                )
              go_roundw
              case rel => exact ⟨k + 1, t ++ [x], by go_num, by omega, HLN2.out, HF2, hS.sel (by repeat (first | exact Sel.refl | refine Sel.take (by repeat (first | exact t0 | apply tS)) ?_ | apply Sel.drop))⟩
              case measure => simp [intOf]; omega
            · have HGET : Hid ((mget M (.agg (x.map B8).toArray)).getD (.int .i64 0) = I64 0) := by
                unfold Hid
                rw [hget, if_neg hm]
                rfl
              have HG : Hid (decide ((0 : Int) < 0) = false) := rfl
              have HF2 := hide (HFL.out.skip hlt ht32 (by rw [hx]; exact hm))
              clear hx hx32 hget hm
              go_wp2_with (first
                | go_big_skip
                | (show wpList _ _ _ (⟨_, .load 31 _, _, _, _, _⟩ :: _) _ _; refine wpList_val rfl (op_load1S (b := p) (T := 53) oneHashes ((hS.bring (by repeat (first | exact t0 | apply tS)))) rfl rfl rfl) ?_; go_frame)
                | (show wpList _ _ _ (⟨some 27, .call _, _, _, _, _⟩ :: _) _ _; refine wpList_val rfl (op_len slHash rfl rfl (v := wv) (xs := bys q.waits) rfl ((hS.bring (by repeat (first | exact t0 | apply tS))).getOwn.rd)) ?_; rw [HWLN.out]; go_frame)
                | (show wpList _ _ _ (⟨some 28, .binOp _ _ _ _ _, _, _, _, _⟩ :: _) _ _; refine wpList_val rfl (op_ilss rfl rfl rfl HC1.out) ?_; go_frame)
                | (show wpList _ _ _ (⟨some 31, .call _, _, _, _, _⟩ :: _) _ _; refine wpList_val rfl (op_len slHash rfl rfl (v := u8) (xs := bys t) rfl ((hS.bring (by repeat (first | exact t0 | apply tS))).getOwn.rd)) ?_; rw [HTLN.out]; go_frame)
                | (show wpList _ _ _ (⟨some 32, .binOp _ _ _ _ _, _, _, _, _⟩ :: _) _ _; refine wpList_val rfl (op_ilss rfl rfl rfl HC2.out) ?_; go_frame)
                | (show wpList _ _ _ (⟨some 40, .indexAddr _ _ _, _, _, _, _⟩ :: _) _ _; refine wpList_val rfl (op_indexAddr slHash rfl (v := wv) (xs := bys q.waits) rfl (k := k) rfl ((hS.bring (by repeat (first | exact t0 | apply tS))).getOwn.rd) HKL.out) ?_; go_frame)
                | (show wpList _ _ _ (⟨some 41, .load _ _, _, _, _, _⟩ :: _) _ _; refine wpList_val rfl (op_loadE aggHash rfl (v := wv) (xs := bys q.waits) (k := k) rfl ((hS.bring (by repeat (first | exact t0 | apply tS))).getOwn.rd) HKL.out) ?_; rw [HX.out]; go_frame)
                | (show wpList _ _ _ (⟨some 42, .lookup _ _ _ _, _, _, _, _⟩ :: _) _ _; refine wpList_val rfl (op_lookup mapTy rfl rfl (b := m) (x := .agg (x.map B8).toArray) rfl (SepL.getMap ((hS.bring (by repeat (first | exact t0 | apply tS))))) KX) ?_; rw [HGET.out]; go_frame)
                | (show wpList _ _ _ (⟨some 43, .binOp _ _ _ _ _, _, _, _, _⟩ :: _) _ _; refine wpList_val rfl (op_igtr rfl rfl rfl HG.out) ?_; go_frame)
                | (show wpList _ _ _ (⟨some 50, .indexAddr _ _ _, _, _, _, _⟩ :: _) _ _; refine wpList_val rfl (op_indexAddr slHash rfl (v := wv) (xs := bys q.waits) rfl (k := k) rfl ((hS.bring (by repeat (first | exact t0 | apply tS))).getOwn.rd) HKL.out) ?_; go_frame)
                | (show wpList _ _ _ (⟨some 51, .load _ _, _, _, _, _⟩ :: _) _ _; refine wpList_val rfl (op_loadE aggHash rfl (v := wv) (xs := bys q.waits) (k := k) rfl ((hS.bring (by repeat (first | exact t0 | apply tS))).getOwn.rd) HKL.out) ?_; rw [HX.out]; go_frame)
                | (show wpList _ _ _ (⟨some 52, .buildSlice _ _ _, _, _, _, _⟩ :: _) _ _; refine wpS_build1A slHash (by omega) hS rfl rfl (cs := x.map B8) rfl HX32.out ?_; clear hS; intro v52 w hS; go_frame)
                | (show wpList _ _ _ (⟨some 53, .call _, _, _, _, _⟩ :: _) _ _; (refine wpS_append slHash (hS.bring (by repeat (first | exact t0 | apply tS))) rfl rfl (sv := u8) (xs := bys t) (xv := v52) rfl rfl (ys := bys [x]) ((hS.bring (by repeat (first | exact t0 | apply tS))).getOwn.rd) (flat_bys _) HA1.out HA2.out ?_); clear hS; intro v53 w hS; rw [← bys_app] at hS; go_frame)
                | (show wpList _ _ _ (⟨some 55, .binOp _ _ _ _ _, _, _, _, _⟩ :: _) _ _; refine wpList_val rfl (op_iaddN rfl rfl rfl (k + 1) (by omega) (by omega)) ?_; go_frame)
                )
              go_roundw
              case rel => exact ⟨k + 1, t, by go_num, by omega, ht, HF2, hS.sel (by repeat (first | exact Sel.refl | refine Sel.take (by repeat (first | exact t0 | apply tS)) ?_ | apply Sel.drop))⟩
              case measure => simp [intOf]; omega
          · have HC2 : Hid (decide ((t.length : Int) < 32) = false) := decide_eq_false (by omega)
            obtain ⟨e1, e2⟩ := HFL.out.stop (.inr (by omega))
            have HT32 : Hid (Is32 t) := by unfold Hid; rw [e1]; exact HT32A.out
            have HE : Hid (flushQ q l = ⟨adds q.known t, q.waits.drop k⟩) := by
              unfold Hid
              rw [e2, e1]
              rfl
            have HE1 := hide e1
            clear e1 e2
            go_wp2_with (first
              | go_big_skip
              | (show wpList _ _ _ (⟨_, .load 31 _, _, _, _, _⟩ :: _) _ _; refine wpList_val rfl (op_load1S (b := p) (T := 53) oneHashes ((hS.bring (by repeat (first | exact t0 | apply tS)))) rfl rfl rfl) ?_; go_frame)
              | (show wpList _ _ _ (⟨some 27, .call _, _, _, _, _⟩ :: _) _ _; refine wpList_val rfl (op_len slHash rfl rfl (v := wv) (xs := bys q.waits) rfl ((hS.bring (by repeat (first | exact t0 | apply tS))).getOwn.rd)) ?_; rw [HWLN.out]; go_frame)
              | (show wpList _ _ _ (⟨some 28, .binOp _ _ _ _ _, _, _, _, _⟩ :: _) _ _; refine wpList_val rfl (op_ilss rfl rfl rfl HC1.out) ?_; go_frame)
              | (show wpList _ _ _ (⟨some 31, .call _, _, _, _, _⟩ :: _) _ _; refine wpList_val rfl (op_len slHash rfl rfl (v := u8) (xs := bys t) rfl ((hS.bring (by repeat (first | exact t0 | apply tS))).getOwn.rd)) ?_; rw [HTLN.out]; go_frame)
              | (show wpList _ _ _ (⟨some 32, .binOp _ _ _ _ _, _, _, _, _⟩ :: _) _ _; refine wpList_val rfl (op_ilss rfl rfl rfl HC2.out) ?_; go_frame)
              | (show wpList _ _ _ (⟨some 40, .indexAddr _ _ _, _, _, _, _⟩ :: _) _ _; refine wpList_val rfl (op_indexAddr slHash rfl (v := wv) (xs := bys q.waits) rfl (k := k) rfl ((hS.bring (by repeat (first | exact t0 | apply tS))).getOwn.rd) HKL.out) ?_; go_frame)
              | (show wpList _ _ _ (⟨some 41, .load _ _, _, _, _, _⟩ :: _) _ _; refine wpList_val rfl (op_loadE aggHash rfl (v := wv) (xs := bys q.waits) (k := k) rfl ((hS.bring (by repeat (first | exact t0 | apply tS))).getOwn.rd) HKL.out) ?_; rw [HX.out]; go_frame)
              | (show wpList _ _ _ (⟨some 42, .lookup _ _ _ _, _, _, _, _⟩ :: _) _ _; refine wpList_val rfl (op_lookup mapTy rfl rfl (b := m) (x := .agg (x.map B8).toArray) rfl (SepL.getMap ((hS.bring (by repeat (first | exact t0 | apply tS))))) KX) ?_; rw [HGET.out]; go_frame)
              | (show wpList _ _ _ (⟨some 43, .binOp _ _ _ _ _, _, _, _, _⟩ :: _) _ _; refine wpList_val rfl (op_igtr rfl rfl rfl HG.out) ?_; go_frame)
              | (show wpList _ _ _ (⟨some 50, .indexAddr _ _ _, _, _, _, _⟩ :: _) _ _; refine wpList_val rfl (op_indexAddr slHash rfl (v := wv) (xs := bys q.waits) rfl (k := k) rfl ((hS.bring (by repeat (first | exact t0 | apply tS))).getOwn.rd) HKL.out) ?_; go_frame)
              | (show wpList _ _ _ (⟨some 51, .load _ _, _, _, _, _⟩ :: _) _ _; refine wpList_val rfl (op_loadE aggHash rfl (v := wv) (xs := bys q.waits) (k := k) rfl ((hS.bring (by repeat (first | exact t0 | apply tS))).getOwn.rd) HKL.out) ?_; rw [HX.out]; go_frame)
              | (show wpList _ _ _ (⟨some 52, .buildSlice _ _ _, _, _, _, _⟩ :: _) _ _; refine wpS_build1A slHash (by omega) hS rfl rfl (cs := x.map B8) rfl HX32.out ?_; clear hS; intro v52 w hS; go_frame)
              | (show wpList _ _ _ (⟨some 53, .call _, _, _, _, _⟩ :: _) _ _; (refine wpS_append slHash (hS.bring (by repeat (first | exact t0 | apply tS))) rfl rfl (sv := u8) (xs := bys t) (xv := v52) rfl rfl (ys := bys [x]) ((hS.bring (by repeat (first | exact t0 | apply tS))).getOwn.rd) (flat_bys _) HA1.out HA2.out ?_); clear hS; intro v53 w hS; rw [← bys_app] at hS; go_frame)
              | (show wpList _ _ _ (⟨some 55, .binOp _ _ _ _ _, _, _, _, _⟩ :: _) _ _; refine wpList_val rfl (op_iaddN rfl rfl rfl (k + 1) (by omega) (by omega)) ?_; go_frame)
              | (show wpList _ _ _ (⟨some 62, .slice _ _ _ _ _, _, _, _, _⟩ :: _) _ _; refine wpList_val rfl (op_cut slHash rfl (v := wv) (xs := bys q.waits) rfl ((hS.bring (by repeat (first | exact t0 | apply tS))).getOwn.rd) (l := k) (h := _) (Or.inr rfl) (Or.inl ⟨rfl, rfl⟩) HKLE.out (Nat.le_refl _)) ?_; go_frame)
              | (go_at_call 35; refine Ret.calls (clone_hash (cutV 32 wv k (bys q.waits).length) (bys (q.waits.drop k)) _ (HCUT.out _ ((hS.bring (by repeat (first | exact t0 | apply tS))).getOwn.rd)) (flat_bys _) HWL.out) ?_; rintro cv w2 hC; replace hS := hS.frameNew hC; clear hC; rw [List.singleton_append] at hS; have HV1 := hide hS.getOwn.rd.cells1; have HV2 := hide hS.getOwn.rd.one1)
              | (show wpList _ _ _ (⟨_, .store 31 (.tmp 65) _, _, _, _, _⟩ :: _) _ _; (refine wpS_store1 (b := p) (T := 53) (by kernel_rfl) (hS.bring (by repeat (first | exact t0 | apply tS))) rfl rfl rfl (v := cv) rfl HV1.out HV2.out (by simp) ?_); clear hS; intro w hS; go_frame)
              | (show wpList _ _ _ (⟨_, .load 48 _, _, _, _, _⟩ :: _) _ _; refine wpList_val rfl (op_load1S (b := p) (T := 53) oneSet ((hS.bring (by repeat (first | exact t0 | apply tS)))) rfl rfl rfl) ?_; go_frame)
              | (go_at_call 33; refine Ret.calls (kadd_o (s := s) (L := q.known) (v := u8) (l := t) (F := .own 24 32 cv (bys (q.waits.drop k)) :: .blk p 53 [.pointer (some ⟨s, 0, none⟩), cv] :: F) (hS.sel (by repeat (first | exact Sel.refl | refine Sel.take (by repeat (first | exact t0 | apply tS)) ?_ | apply Sel.drop))) HT32.out (by have := HTL.out; omega)) ?_; clear hS; rintro gv w hS)
              )
            go_ret
            rw [HE.out, ← HE1.out]
            have h1 := hQ_close (q := ⟨adds q.known t, q.waits.drop k⟩) (hS.sel (by repeat (first | exact Sel.refl | refine Sel.take (by repeat (first | exact t0 | apply tS)) ?_ | apply Sel.drop)) : SepL R base _ (.blk p 53 [.pointer (some ⟨s, 0, none⟩), cv] :: hK s (adds q.known t) :: .own 24 32 cv (bys (q.waits.drop k)) :: .own 24 32 u8 (bys t) :: F))
            exact h1.sel (by repeat (first | exact Sel.refl | refine Sel.take (by repeat (first | exact t0 | apply tS)) ?_ | apply Sel.drop))
        · have HC1 : Hid (decide ((k : Int) < (q.waits.length : Int)) = false) := decide_eq_false (by omega)
          obtain ⟨e1, e2⟩ := HFL.out.stop (.inl (by omega))
          have HT32 : Hid (Is32 t) := by unfold Hid; rw [e1]; exact HT32A.out
          have HE : Hid (flushQ q l = ⟨adds q.known t, q.waits.drop k⟩) := by
            unfold Hid
            rw [e2, e1]
            rfl
          have HE1 := hide e1
          clear e1 e2
          go_wp2_with (first
            | go_big_skip
            | (show wpList _ _ _ (⟨_, .load 31 _, _, _, _, _⟩ :: _) _ _; refine wpList_val rfl (op_load1S (b := p) (T := 53) oneHashes ((hS.bring (by repeat (first | exact t0 | apply tS)))) rfl rfl rfl) ?_; go_frame)
            | (show wpList _ _ _ (⟨some 27, .call _, _, _, _, _⟩ :: _) _ _; refine wpList_val rfl (op_len slHash rfl rfl (v := wv) (xs := bys q.waits) rfl ((hS.bring (by repeat (first | exact t0 | apply tS))).getOwn.rd)) ?_; rw [HWLN.out]; go_frame)
            | (show wpList _ _ _ (⟨some 28, .binOp _ _ _ _ _, _, _, _, _⟩ :: _) _ _; refine wpList_val rfl (op_ilss rfl rfl rfl HC1.out) ?_; go_frame)
            | (show wpList _ _ _ (⟨some 31, .call _, _, _, _, _⟩ :: _) _ _; refine wpList_val rfl (op_len slHash rfl rfl (v := u8) (xs := bys t) rfl ((hS.bring (by repeat (first | exact t0 | apply tS))).getOwn.rd)) ?_; rw [HTLN.out]; go_frame)
            | (show wpList _ _ _ (⟨some 32, .binOp _ _ _ _ _, _, _, _, _⟩ :: _) _ _; refine wpList_val rfl (op_ilss rfl rfl rfl HC2.out) ?_; go_frame)
            | (show wpList _ _ _ (⟨some 40, .indexAddr _ _ _, _, _, _, _⟩ :: _) _ _; refine wpList_val rfl (op_indexAddr slHash rfl (v := wv) (xs := bys q.waits) rfl (k := k) rfl ((hS.bring (by repeat (first | exact t0 | apply tS))).getOwn.rd) HKL.out) ?_; go_frame)
            | (show wpList _ _ _ (⟨some 41, .load _ _, _, _, _, _⟩ :: _) _ _; refine wpList_val rfl (op_loadE aggHash rfl (v := wv) (xs := bys q.waits) (k := k) rfl ((hS.bring (by repeat (first | exact t0 | apply tS))).getOwn.rd) HKL.out) ?_; rw [HX.out]; go_frame)
            | (show wpList _ _ _ (⟨some 42, .lookup _ _ _ _, _, _, _, _⟩ :: _) _ _; refine wpList_val rfl (op_lookup mapTy rfl rfl (b := m) (x := .agg (x.map B8).toArray) rfl (SepL.getMap ((hS.bring (by repeat (first | exact t0 | apply tS))))) KX) ?_; rw [HGET.out]; go_frame)
            | (show wpList _ _ _ (⟨some 43, .binOp _ _ _ _ _, _, _, _, _⟩ :: _) _ _; refine wpList_val rfl (op_igtr rfl rfl rfl HG.out) ?_; go_frame)
            | (show wpList _ _ _ (⟨some 50, .indexAddr _ _ _, _, _, _, _⟩ :: _) _ _; refine wpList_val rfl (op_indexAddr slHash rfl (v := wv) (xs := bys q.waits) rfl (k := k) rfl ((hS.bring (by repeat (first | exact t0 | apply tS))).getOwn.rd) HKL.out) ?_; go_frame)
            | (show wpList _ _ _ (⟨some 51, .load _ _, _, _, _, _⟩ :: _) _ _; refine wpList_val rfl (op_loadE aggHash rfl (v := wv) (xs := bys q.waits) (k := k) rfl ((hS.bring (by repeat (first | exact t0 | apply tS))).getOwn.rd) HKL.out) ?_; rw [HX.out]; go_frame)
            | (show wpList _ _ _ (⟨some 52, .buildSlice _ _ _, _, _, _, _⟩ :: _) _ _; refine wpS_build1A slHash (by omega) hS rfl rfl (cs := x.map B8) rfl HX32.out ?_; clear hS; intro v52 w hS; go_frame)
            | (show wpList _ _ _ (⟨some 53, .call _, _, _, _, _⟩ :: _) _ _; (refine wpS_append slHash (hS.bring (by repeat (first | exact t0 | apply tS))) rfl rfl (sv := u8) (xs := bys t) (xv := v52) rfl rfl (ys := bys [x]) ((hS.bring (by repeat (first | exact t0 | apply tS))).getOwn.rd) (flat_bys _) HA1.out HA2.out ?_); clear hS; intro v53 w hS; rw [← bys_app] at hS; go_frame)
            | (show wpList _ _ _ (⟨some 55, .binOp _ _ _ _ _, _, _, _, _⟩ :: _) _ _; refine wpList_val rfl (op_iaddN rfl rfl rfl (k + 1) (by omega) (by omega)) ?_; go_frame)
            | (show wpList _ _ _ (⟨some 62, .slice _ _ _ _ _, _, _, _, _⟩ :: _) _ _; refine wpList_val rfl (op_cut slHash rfl (v := wv) (xs := bys q.waits) rfl ((hS.bring (by repeat (first | exact t0 | apply tS))).getOwn.rd) (l := k) (h := _) (Or.inr rfl) (Or.inl ⟨rfl, rfl⟩) HKLE.out (Nat.le_refl _)) ?_; go_frame)
            | (go_at_call 35; refine Ret.calls (clone_hash (cutV 32 wv k (bys q.waits).length) (bys (q.waits.drop k)) _ (HCUT.out _ ((hS.bring (by repeat (first | exact t0 | apply tS))).getOwn.rd)) (flat_bys _) HWL.out) ?_; rintro cv w2 hC; replace hS := hS.frameNew hC; clear hC; rw [List.singleton_append] at hS; have HV1 := hide hS.getOwn.rd.cells1; have HV2 := hide hS.getOwn.rd.one1)
            | (show wpList _ _ _ (⟨_, .store 31 (.tmp 65) _, _, _, _, _⟩ :: _) _ _; (refine wpS_store1 (b := p) (T := 53) (by kernel_rfl) (hS.bring (by repeat (first | exact t0 | apply tS))) rfl rfl rfl (v := cv) rfl HV1.out HV2.out (by simp) ?_); clear hS; intro w hS; go_frame)
            | (show wpList _ _ _ (⟨_, .load 48 _, _, _, _, _⟩ :: _) _ _; refine wpList_val rfl (op_load1S (b := p) (T := 53) oneSet ((hS.bring (by repeat (first | exact t0 | apply tS)))) rfl rfl rfl) ?_; go_frame)
            | (go_at_call 33; refine Ret.calls (kadd_o (s := s) (L := q.known) (v := u8) (l := t) (F := .own 24 32 cv (bys (q.waits.drop k)) :: .blk p 53 [.pointer (some ⟨s, 0, none⟩), cv] :: F) (hS.sel (by repeat (first | exact Sel.refl | refine Sel.take (by repeat (first | exact t0 | apply tS)) ?_ | apply Sel.drop))) HT32.out (by have := HTL.out; omega)) ?_; clear hS; rintro gv w hS)
            )
          go_ret
          rw [HE.out, ← HE1.out]
          have h1 := hQ_close (q := ⟨adds q.known t, q.waits.drop k⟩) (hS.sel (by repeat (first | exact Sel.refl | refine Sel.take (by repeat (first | exact t0 | apply tS)) ?_ | apply Sel.drop)) : SepL R base _ (.blk p 53 [.pointer (some ⟨s, 0, none⟩), cv] :: hK s (adds q.known t) :: .own 24 32 cv (bys (q.waits.drop k)) :: .own 24 32 u8 (bys t) :: F))
          exact h1.sel (by repeat (first | exact Sel.refl | refine Sel.take (by repeat (first | exact t0 | apply tS)) ?_ | apply Sel.drop))
end
end Go.Proofs.Ytffagjkjeojaaaa
