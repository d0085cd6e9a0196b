/- What the rows of this seat ask of the program alone: how it was made. -/
import Derived.Test.YtcfbanfbldionaaGreatRows
import Derived.ProofKit
import Derived.JoinedOf
namespace Go.Proofs.YtcfbanfbldionaaGreat.seat
open Go.RowKit
theorem make : (Tryz.pinned.checked.prog.make == some Rows.heapFieldRow.make) = true := by kernel_rfl
end Go.Proofs.YtcfbanfbldionaaGreat.seat
