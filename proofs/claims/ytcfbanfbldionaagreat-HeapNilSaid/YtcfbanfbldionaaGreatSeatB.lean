/- What the rows of this seat ask of the program alone: what is lifted. -/
import Derived.Test.YtcfbanfbldionaaGreatRows
import Derived.ProofKit
import Derived.JoinedOf
namespace Go.Proofs.YtcfbanfbldionaaGreat.seat
open Go.RowKit
theorem lifts : (Rows.heapFieldRow.lifted == Tryz.pinned.checked.prog.liftsFinal) = true := by kernel_rfl
end Go.Proofs.YtcfbanfbldionaaGreat.seat
