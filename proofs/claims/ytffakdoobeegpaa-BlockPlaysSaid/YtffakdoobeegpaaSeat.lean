/- What the rows of this seat ask of the program alone. -/
import Derived.Test.YtffakdoobeegpaaRows
import Derived.ProofKit
import Derived.JoinedOf
namespace Go.Proofs.Ytffakdoobeegpaa.seat
open Go.RowKit
theorem own : ownKnob Try.prog.godebug = none := by kernel_rfl
theorem laidOut : laidOutB Try.prog = true := by kernel_rfl
theorem laid : laidOutB Try.pinned.checked.prog = true := by kernel_rfl
theorem rowed : mapsRowed Try.pinned.checked.prog = true := by kernel_rfl
theorem may : Try.pinned.checked.prog.mayEnter = true := by kernel_rfl
theorem and_mk {a b : Bool} (ha : a = true) (hb : b = true) : (a && b) = true := by rw [ha, hb]; rfl
end Go.Proofs.Ytffakdoobeegpaa.seat
