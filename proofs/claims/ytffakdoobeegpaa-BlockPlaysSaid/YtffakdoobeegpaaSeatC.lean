/- What the rows of this seat ask of the program alone: how it was made. -/
import Derived.Test.YtffakdoobeegpaaRows
import Derived.ProofKit
import Derived.JoinedOf
namespace Go.Proofs.Ytffakdoobeegpaa.seat
open Go.RowKit
theorem make : (Try.pinned.checked.prog.make == some Rows.nvmSureRow.make) = true := by kernel_rfl
end Go.Proofs.Ytffakdoobeegpaa.seat
