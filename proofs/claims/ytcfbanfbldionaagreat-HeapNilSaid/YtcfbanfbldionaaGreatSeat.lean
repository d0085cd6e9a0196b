/- What the rows of this seat ask of the program alone. -/
import Derived.Test.YtcfbanfbldionaaGreatRows
import Derived.ProofKit
import Derived.JoinedOf
namespace Go.Proofs.YtcfbanfbldionaaGreat.seat
open Go.RowKit
theorem own : ownKnob Tryz.prog.godebug = none := by kernel_rfl
theorem laidOut : laidOutB Tryz.prog = true := by kernel_rfl
theorem laid : laidOutB Tryz.pinned.checked.prog = true := by kernel_rfl
theorem rowed : mapsRowed Tryz.pinned.checked.prog = true := by kernel_rfl
theorem may : Tryz.pinned.checked.prog.mayEnter = true := by kernel_rfl
theorem and_mk {a b : Bool} (ha : a = true) (hb : b = true) : (a && b) = true := by rw [ha, hb]; rfl
end Go.Proofs.YtcfbanfbldionaaGreat.seat
