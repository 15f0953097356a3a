/- Any source's way, any pick, are the document's: the law returns true. Conditions: those that stand ahead of each theorem. -/
import Derived.Test.YtpdanieiafjmhaaDoorRRoute
import Derived.Test.YtpdanieiafjmhaaDoorLMWays
namespace Go.Proofs.YtpdanieiafjmhaaDoor
open Go.RowKit Go.Px Go.Sha
set_option maxRecDepth 100000 in
set_option maxHeartbeats 4000000 in
theorem macRoutes_any {W : World} (hK : CIn All W 0 (kTab.map W32)) (hF : CIn All W 1 (first.map W32)) (sa : List Byte) (hsa : sa.length = 32) (ep : BitVec 64) (so nn ra re pa pe : Int)
    (HRA : ∀ {w : World} {F : List Hp}, SepL All W w F → Calls Tryd.prog 40 #[.agg (sa.map B8).toArray, W64 ep, .int .i64 so, .int .i64 nn] w (Ret fun r w' => r = .tuple #[.int .i64 ra, .int .i64 re] ∧ SepL All W w' F))
    (HRB : ∀ {w : World} {F : List Hp}, SepL All W w F → Calls Tryd.prog 41 #[.agg (sa.map B8).toArray, W64 ep, .int .i64 so, .int .i64 nn] w (Ret fun r w' => r = .tuple #[.int .i64 ra, .int .i64 re] ∧ SepL All W w' F))
    (HPA : ∀ {w : World} {F : List Hp}, SepL All W w F → Calls Tryd.prog 39 #[.agg (sa.map B8).toArray, .int .i64 nn] w (Ret fun r w' => r = .tuple #[.int .i64 pa, .int .i64 pe] ∧ SepL All W w' F))
    (HPB : ∀ {w : World} {F : List Hp}, SepL All W w F → Calls Tryd.prog 42 #[.agg (sa.map B8).toArray, .int .i64 nn] w (Ret fun r w' => r = .tuple #[.int .i64 pa, .int .i64 pe] ∧ SepL All W w' F)) :
    Calls Tryd.prog 15 #[.agg (wayC sa ep so nn).toArray] W (Ret fun r w' => r = .bool true ∧ Chg No W w') := by
  have hS := SepL.start W
  have HSA := hide hsa
  have HSL : Hid ((sa.map B8).length = 32) := by
    unfold Hid
    rw [List.length_map, hsa]
  have HC32 := hide (way32 (ep := ep) (so := so) (nn := nn) hsa)
  have HC33 := hide (way33 (ep := ep) (so := so) (nn := nn) hsa)
  have HC34 := hide (way34 (ep := ep) (so := so) (nn := nn) hsa)
  clear hsa
  go_enter Tryd.func15, Tryd.ntmps15
  go_wp2_with (first
    | (show wpList _ _ _ (⟨some 1, .box _ _, _, _, _, _⟩ :: _) _ _; refine wpS_boxA (cs := wayC sa ep _ _) hS rfl rfl rfl ?_; clear hS; intro n1 w hS; go_frame)
    | (go_at_call 33; refine Ret.calls (malive_s hS hK hF) ?_; clear hS; rintro r w ⟨rfl, hS⟩)
    | (show wpList _ _ _ (⟨_, .load 34 _, _, _, _, _⟩ :: _) _ _; refine wpList_val rfl (op_load agg32b rfl rfl (wayHash ((hS.bring (by repeat (first | exact t0 | apply tS))).getBlk.cells) HSA.out) HSL.out) ?_; go_frame)
    | (show wpList _ _ _ (⟨_, .load 42 _, _, _, _, _⟩ :: _) _ _; refine wpList_val rfl (op_load1S oneU64 ((hS.bring (by repeat (first | exact t0 | apply tS)))) rfl rfl HC32.out) ?_; go_frame)
    | (show wpList _ _ _ (⟨some 19, .load _ _, _, _, _, _⟩ :: _) _ _; refine wpList_val rfl (op_load1S oneInt ((hS.bring (by repeat (first | exact t0 | apply tS)))) rfl rfl HC33.out) ?_; go_frame)
    | (show wpList _ _ _ (⟨some 21, .load _ _, _, _, _, _⟩ :: _) _ _; refine wpList_val rfl (op_load1S oneInt ((hS.bring (by repeat (first | exact t0 | apply tS)))) rfl rfl HC34.out) ?_; go_frame)
    | (show wpList _ _ _ (⟨some 31, .load _ _, _, _, _, _⟩ :: _) _ _; refine wpList_val rfl (op_load1S oneInt ((hS.bring (by repeat (first | exact t0 | apply tS)))) rfl rfl HC33.out) ?_; go_frame)
    | (show wpList _ _ _ (⟨some 33, .load _ _, _, _, _, _⟩ :: _) _ _; refine wpList_val rfl (op_load1S oneInt ((hS.bring (by repeat (first | exact t0 | apply tS)))) rfl rfl HC34.out) ?_; go_frame)
    | (show wpList _ _ _ (⟨some 41, .load _ _, _, _, _, _⟩ :: _) _ _; refine wpList_val rfl (op_load1S oneInt ((hS.bring (by repeat (first | exact t0 | apply tS)))) rfl rfl HC34.out) ?_; go_frame)
    | (show wpList _ _ _ (⟨some 49, .load _ _, _, _, _, _⟩ :: _) _ _; refine wpList_val rfl (op_load1S oneInt ((hS.bring (by repeat (first | exact t0 | apply tS)))) rfl rfl HC34.out) ?_; go_frame)
    | (go_at_call 40; refine Ret.calls (HRA hS) ?_; clear hS; rintro r w ⟨rfl, hS⟩)
    | (go_at_call 41; refine Ret.calls (HRB hS) ?_; clear hS; rintro r w ⟨rfl, hS⟩)
    | (go_at_call 39; refine Ret.calls (HPA hS) ?_; clear hS; rintro r w ⟨rfl, hS⟩)
    | (go_at_call 42; refine Ret.calls (HPB hS) ?_; clear hS; rintro r w ⟨rfl, hS⟩)
    | (show wpList _ _ _ (⟨some 55, .binOp _ _ _ _ _, _, _, _, _⟩ :: _) _ _; refine wpList_val rfl (op_eqI rfl rfl rfl rfl) ?_; go_frame)
    | (show wpList _ _ _ (⟨some 59, .binOp _ _ _ _ _, _, _, _, _⟩ :: _) _ _; refine wpList_val rfl (op_eqI rfl rfl rfl rfl) ?_; go_frame)
    | (show wpList _ _ _ (⟨some 64, .binOp _ _ _ _ _, _, _, _, _⟩ :: _) _ _; refine wpList_val rfl (op_eqI rfl rfl rfl rfl) ?_; go_frame)
    | (show wpList _ _ _ (⟨some 69, .binOp _ _ _ _ _, _, _, _, _⟩ :: _) _ _; refine wpList_val rfl (op_eqI rfl rfl rfl rfl) ?_; go_frame)
    )
  go_ret
  exact ⟨rfl, hS.chg⟩
theorem macRoutes_w {W : World} (hK : CIn All W 0 (kTab.map W32)) (hF : CIn All W 1 (first.map W32)) (sa : List Byte) (hsa : sa.length = 32) (ep : BitVec 64) (so : Int) (_ : -9223372036854775808 ≤ so ∧ so ≤ 9223372036854775807) (nn : Int) (hnn : -9223372036854775808 ≤ nn ∧ nn ≤ 9223372036854775807) :
    Calls Tryd.prog 15 #[.agg (sa.map B8 ++ [W64 ep] ++ [Value.int .i64 so] ++ [Value.int .i64 nn]).toArray] W (Ret fun r w' => r = .bool true ∧ Chg No W w') := by
  rw [wayC_eq]
  by_cases hn : nn < 1
  · exact macRoutes_any hK hF sa hsa ep so nn 0 2 0 2 (fun hs => routeArg_s hs ep so nn (.inr (.inr hn))) (fun hs => rrouteArg_s hs ep so nn (.inr (.inr hn))) (fun hs => pickArg_s hs nn hn) (fun hs => rpickArg_s hs nn hn)
  · obtain ⟨n, rfl⟩ : ∃ n : Nat, nn = n := ⟨nn.toNat, by omega⟩
    by_cases hb : so < 0 ∨ 64 < so
    · exact macRoutes_any hK hF sa hsa ep so n 0 2 (pickN sa n : Nat) 0 (fun hs => routeArg_s hs ep so n (by omega)) (fun hs => rrouteArg_s hs ep so n (by omega)) (fun hs => pick_s hs hsa n (by omega) (by omega)) (fun hs => rpick_s hs hsa n (by omega) (by omega))
    · obtain ⟨s, rfl⟩ : ∃ s : Nat, so = s := ⟨so.toNat, by omega⟩
      exact macRoutes_any hK hF sa hsa ep s n (routeN sa ep s n : Nat) 0 (pickN sa n : Nat) 0 (fun hs => route_s hs hK hF hsa ep s n (by omega) (by omega) (by omega)) (fun hs => rroute_s hs hsa ep s n (by omega) (by omega) (by omega)) (fun hs => pick_s hs hsa n (by omega) (by omega)) (fun hs => rpick_s hs hsa n (by omega) (by omega))
end Go.Proofs.YtpdanieiafjmhaaDoor
