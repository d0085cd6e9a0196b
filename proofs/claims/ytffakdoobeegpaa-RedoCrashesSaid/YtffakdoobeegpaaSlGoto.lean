/- A scope in which the run jumps back to one label: what holds at every jump, with a number that every pass lowers. -/
import Derived.WalkKit
import Derived.WalkMore
import Derived.ScopeJumps
import Derived.Deep.LoopGhost
namespace Go.Sl
open Go
variable {P : Program} {a : Act} {w : World} {Q : Exit → Act → World → Prop}

theorem jump_mono {l : Nat} {J J' : Act → World → Prop} (h : ∀ a w, J a w → J' a w) : ∀ e a w, Exit.jump l J Q e a w → Exit.jump l J' Q e a w := by
  intro e a w hq
  cases e with
  | goto l' => exact ⟨hq.1, h _ _ hq.2⟩
  | normal => exact hq
  | exit id => exact hq
  | ret => exact hq
  | panic ch => exact hq
  | outgrown => exact hq

theorem wp_scope_ghost {c rest : Code} (l : Nat) (J : Nat → Act → World → Prop) (hf : findLabel c l = some (.seq .skip rest))
    (pass : ∀ n a w, J n a w → rest.wp P (Exit.jump l (fun a' w' => ∃ n', n' < n ∧ J n' a' w') Q) a w)
    (first : (∀ n a w, J n a w → rest.wp P (Exit.jump l (fun a' w' => ∃ n', J n' a' w') Q) a w) → c.wp P (Exit.jump l (fun a' w' => ∃ n', J n' a' w') Q) a w) : (Code.scope c).wp P Q a w := by
  refine wp_scope_jumps l (fun a w => ∃ n, J n a w) (fun a w => leastOf (fun n => J n a w)) hf (first fun n a w h => wp_mono (pass n a w h) (jump_mono fun a w ⟨n', _, h'⟩ => ⟨n', h'⟩)) ?_
  intro a w hJ
  refine wp_seq (wp_skip ?_)
  show rest.wp P _ a w
  refine wp_mono (pass _ a w (leastOf_spec hJ).1) ?_
  refine jump_mono fun a' w' ⟨n', hlt, h'⟩ => ⟨⟨n', h'⟩, ?_⟩
  exact Nat.lt_of_le_of_lt ((leastOf_spec ⟨n', h'⟩).2 n' h') hlt
end Go.Sl
