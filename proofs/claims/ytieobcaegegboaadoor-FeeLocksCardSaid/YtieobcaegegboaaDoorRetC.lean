/- A result that lies in a cell of the call's own; a piece of cells. Conditions: those that stand ahead of each theorem. -/
import Derived.Test.YtieobcaegegboaaDoorSepOps
namespace Go.Px
open Go Go.RowKit
theorem ret_cell {P : Program} {fn : Func} {R : Value → World → Prop} {a : Act} {w : World} {t T T' : Nat} {n b : Nat} {cs : List Value} (A : Agg P T n) (hr : fn.results = #[.cell t T]) (hd : a.defers = []) (ha : a.tmps.getD t undef = .pointer (some ⟨b, 0, none⟩)) (hB : Blk w b T' cs) (hn : cs.length = n) (h : R (.agg cs.toArray) w) : bodyPost P fn (Ret R) .ret a w := by
  refine bodyPost_ret (v := .agg cs.toArray) ?_ hd h
  have hl := run_loadVar_cells A hB.cells hn
  have ha' : a.tmps[t]?.getD undef = .pointer (some ⟨b, 0, none⟩) := by simpa using ha
  simp [results, hr, asAddr, ha', hl]
theorem Cells.subN {w : World} {b off : Nat} {cs ds : List Value} (h : Cells w b off cs) (i n : Nat) (hd : (cs.drop i).take n = ds) : Cells w b (off + i) ds := by
  have := h.sub i n
  rwa [hd] at this
end Go.Px
