/- A post-condition that says that a call returned and how, and what follows for a caller. Conditions: those that stand ahead of each theorem. -/
/-
  Posts that speak of a return alone; Bools that say so of what stands behind a region. Over any program. No condition is added to any statement here.
-/
import Derived.Test.YtieobcaegegboaaDoorAny4
import Derived.Test.YtieobcaegegboaaDoorOps
namespace Go.Px
open Go Go.RowKit
def Ret (R : Value → World → Prop) : Ending → World → Prop
  | .returned v, w => R v w
  | _, _ => False
theorem Clean.then {K : Act → World → Prop} {Q : Exit → Act → World → Prop} (h : Clean Q) : Clean (Exit.then K Q) := ⟨fun c a w hq => h.panic c a w hq, fun a w hq => h.out a w hq⟩
theorem Clean.inBlock {id : Nat} {Q : Exit → Act → World → Prop} (h : Clean Q) : Clean (Exit.inBlock id Q) := ⟨fun c a w hq => h.panic c a w hq, fun a w hq => h.out a w hq⟩
theorem Clean.noGoto {Q : Exit → Act → World → Prop} (h : Clean Q) : Clean (Exit.noGoto Q) := ⟨fun c a w hq => h.panic c a w hq, fun a w hq => h.out a w hq⟩
theorem Clean.body {P : Program} {fn : Func} {R : Value → World → Prop} : Clean (bodyPost P fn (Ret R)) := ⟨fun _ _ _ hq => hq.2, fun _ _ hq => hq⟩
theorem Ret.calls {P : Program} {f : FuncId} {args : Array Value} {w : World} {R : Value → World → Prop} (h : Calls P f args w (Ret R)) {R' : Ending → World → Prop} (hr : ∀ v w', R v w' → R' (.returned v) w') : Calls P f args w R' :=
  h.mono fun e w' hh => by cases e <;> first | exact hr _ _ hh | exact hh.elim
theorem hide {p : Prop} (h : p) : Hid p := h
theorem unhide {p : Prop} (h : Hid p) : p := h
end Go.Px
