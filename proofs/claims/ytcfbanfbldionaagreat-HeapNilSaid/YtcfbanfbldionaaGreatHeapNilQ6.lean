/- Lemmas and contracts for scullion's HeapNil: ClsAt. -/
import Derived.BigQuiet
import Derived.Test.YtcfbanfbldionaaGreatHeapNilQ1
/- A class of worlds: those that meet R. A region that draws its order and whose operations and callees keep the class is walked once (the kit's wp_region_quiet). -/
namespace Go.Sl
open Go
/-- A world that meets R. -/
structure At (E : Env) (R : HP) where
  W : World
  ok : Sat E W R
/-- A callee that keeps the class. -/
theorem At.call {P : Program} {f : FuncId} {args : Array Value} {E : Env} {R : HP} {v : Value} {w : World} (h : Calls P f args w fun e w' => e = .returned v ∧ Sat E w' R) :
    Calls P f args w fun e w'' => e = .returned v ∧ ∃ x : At E R, w'' = x.W := h.mono fun _ w' ⟨he, h⟩ => ⟨he, ⟨w', h⟩, rfl⟩
/-- One walk of the lexical order, in the class of the worlds that meet R. -/
theorem wp_region_class {P : Program} {id : Nat} {Q : Exit → Act → World → Prop} {a : Act} {w : World} {l : List Oper} {E : Env} {R : HP} (hC : Sat E w R) (hm : P.follows .mixedOrders = true) (hB : Region.lexB .any l.toArray = true)
    (h : Nonempty (At E R) → wpQuiet P l.toArray (fun W => ∃ x : At E R, W = x.W) (fun a' => ∀ w', (∃ x : At E R, w' = x.W) → Q .normal a' w') l a) : (Code.region id l.toArray true).wp P Q a w :=
  wp_region_quiet (C := fun W => ∃ x : At E R, W = x.W) hm hB ⟨⟨_, hC.drew⟩, rfl⟩ (by simpa using h ⟨⟨_, hC⟩⟩)
end Go.Sl
