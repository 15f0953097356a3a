/- A literal's bytes under the mark that they came of a constant: from then on only read. Conditions: those that stand ahead of each theorem. -/
import Derived.Test.YtlplgobkidpgkaaDoorArr
namespace Go.Px
open Go Go.RowKit
variable {P : Program} {R : Nat → Prop} {base w : World} {L : List Hp} {ops : Array Oper} {Q : Exit → Act → World → Prop} {rest : List Oper} {a : Act} {o : Oper}
theorem run_conv_mark {t e : TypeId} {b off n c : Nat} {C : Array Value} {T : TypeId} (ht : P.underlying t = some (.slice e)) (he : P.underlying e = some (.int .u8)) (hb : w.heap[b]? = some (.cells C T (0, 0))) :
    (convert t t (.slice (some ⟨b, off, none⟩) n c)).run P w = .ok (.slice (some ⟨b, off, none⟩) n c) (w.freeze ⟨b, C.size, none⟩ 1) := by
  have hsh : w.shape? b = some (T, C.size) := by
    unfold World.shape?
    rw [hb]
  simp [convert, run_underlying ht, run_underlying he, markStringish, hsh]
theorem freeze_at {b k : Nat} {C : Array Value} {T : TypeId} (hb : w.heap[b]? = some (.cells C T (0, 0))) : (w.freeze ⟨b, k, none⟩ 1).heap[b]? = some (.cells C T (k, k + 1)) := by
  unfold World.freeze
  rw [if_neg (by decide)]
  simp [Array.getElem?_modify, hb]
theorem freeze_chg {b k : Nat} : Chg (fun j => j = b) w (w.freeze ⟨b, k, none⟩ 1) := by
  unfold World.freeze
  rw [if_neg (by decide)]
  exact ⟨rfl, rfl, rfl, by simp, fun j _ hj => by simp [Array.getElem?_modify, Ne.symm hj]⟩
theorem wpS_convMark {t e T n : Nat} (ht : P.underlying t = some (.slice e)) (he : P.underlying e = some (.int .u8)) {v : Value} {xs : List (List Value)} (hne : xs ≠ []) (hS : SepL R base w (.own T n v xs :: L)) (hgd : Region.wanted o (yielded ops a.tmps) = true) {x : Operand} (ho : o.op = .convert t t x) (hx : a.eval x = v)
    (hk : ∀ w', SepL R base w' (hRd n v xs :: L) → wpList P ops Q rest (a.put o.dst v) w') : wpList P ops Q (o :: rest) a w := by
  obtain ⟨h1, h2⟩ := hS.getOwn
  rcases h2 with ⟨_, h2⟩ | ⟨b, off, cap, C, rfl, h3, h4, h5, h6, h7⟩
  · exact absurd h2 hne
  have hrun : (execOp a.eval o).run P w = .ok (.value (.slice (some ⟨b, off, none⟩) xs.length cap)) (w.freeze ⟨b, C.size, none⟩ 1) := by
    unfold execOp
    simp only [ho, hx, Sem.run_bind, run_conv_mark ht he h5, Result.andThen_ok, Sem.run_pure]
  refine wpList_val hgd hrun (hk _ (hS.upd fun F hF => ?_))
  unfold Hp.own at hF
  obtain ⟨_, hf⟩ := hF
  have hc := freeze_chg (w := w) (b := b) (k := C.size)
  unfold hRd
  refine ⟨fun k => k = b, ⟨⟨_, cap, rfl, h3, h4, h1, fun _ => ⟨b, off, rfl, _, _, _, freeze_at h5, ?_⟩⟩, fun k => Iff.rfl⟩, hc.mono (fun k _ e => (hf k).2 e), ?_⟩
  · rw [flatten_length h1]
    exact h7
  · rintro k rfl
    exact ⟨(Array.getElem?_eq_some_iff.1 (freeze_at (k := C.size) h5)).1, .inl ((hf _).2 rfl)⟩
theorem Rd.cell1 {n : Nat} {v : Value} {xs : List (List Value)} (h : Rd n w v xs) : v.cells = #[v] := by
  obtain ⟨A, c, rfl, _⟩ := h.form
  rfl
theorem RdIn.cell1 {n : Nat} {v : Value} {xs : List (List Value)} (h : RdIn R base n v xs) : v.cells = #[v] := Rd.cell1 h.rd
theorem SepL.freezeRd {n : Nat} {v : Value} {xs : List (List Value)} (h : SepL R base w (hRd n v xs :: L)) : ∃ R', SepL R' w w L ∧ RdIn R' w n v xs ∧ (∀ n v xs, RdIn R base n v xs → RdIn R' w n v xs) ∧ ∀ w' M, SepL R' w w' M → SepL R base w' (hRd n v xs :: M) := by
  obtain ⟨R', G, h1, h2, h3, h4, h5⟩ := h.freeze
  unfold hRd at h1
  exact ⟨R', h2, ⟨h1.1, fun _ k hk => (h3 k ((h1.2 k).2 hk)).2⟩, h4, h5⟩
end Go.Px
