/- What the rows of this seat ask of the program alone: what is lifted. -/
import Derived.Test.YtffakdoobeegpaaRows
import Derived.ProofKit
import Derived.JoinedOf
namespace Go.Proofs.Ytffakdoobeegpaa.seat
open Go.RowKit
theorem lifts : (Rows.nvmSureRow.lifted == Try.pinned.checked.prog.liftsFinal) = true := by kernel_rfl
end Go.Proofs.Ytffakdoobeegpaa.seat
