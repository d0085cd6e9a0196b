/-
  No cell of these rows narrows 'for every input' (looked for: loops, veiled, ifaces, maps, wideKeys, modest, calm, conditions, laid).
  DERIVED. THE GIVEN ROWS OF THIS SEAT. 20 by the template 'for every input the law returns true; each argument reads behind the call as it read before'; 0 by the template 'total and deterministic' (their statements: YtffakdoobeegpaaTotals.lean).
  GIVEN WITH THE SEED: the statements are not yours to turn. If you find one false, say at which input.
  Laid BY PROGRAM, IN A SANDBOX (cutbox-rows.mjs): the forced cells as the released guide's own fill.sh prints them over the translation ab2342967ebdd7d6… (all of the seat's roots in one cut). By AI agents, Wed Nov 11 2026. No macro, syntax, notation, axiom, sorry.
-/
import Derived.Test.YtffakdoobeegpaaChecked
import GoSem.Claim
import GoSem.ClaimJoined
import GoSem.ClaimMapViews
import Derived.JoinedTies
import Derived.KernelRfl
namespace Go.Proofs.Ytffakdoobeegpaa
/- THE CELL 'sum', in the pinned program and in every row, IS THE sha256 OF THE DUMP (.gsa) THAT YtffakdoobeegpaaProg.lean LOADS. Nothing in Lean hashes anything: it is a label: what it is worth is what the hold of that sum in a sandbox is worth. -/
noncomputable def Try.pinned : Pinned := { name := "ytffakdoobeegpaa", sum := "ab2342967ebdd7d65c26416a25c359974b227581f1a9574b7eb34bf93328c3aa", checked := Try.checked }
namespace Rows
def none {H : Type} : Left H := { results := [], args := [] }

/-- 'scullionlaw3.NvmSure': WHATEVER THE INPUT: true; the input reads as it did. -/
def nvmSureSpec : ChangeSpec := { name := "nvmSure", fn := fun _ => fun
  | [d1, d2, d3, d4] => { results := [.lit (.bool true)], args := [d1, d2, d3, d4] }
  | _ => none }
def nvmSureRow : OpenClaim := { program := "ytffakdoobeegpaa", sum := "ab2342967ebdd7d65c26416a25c359974b227581f1a9574b7eb34bf93328c3aa", func := "scullion/scullionlaw3.NvmSure", spec := "nvmSure", apart := false }
def NvmSureSaid : Prop := nvmSureRow.holds Try.pinned (OpenSpec.ofChange nvmSureSpec)

/-- ITS FALSE NEIGHBOUR: 'it returns false'. Refute it at one input. -/
def nvmSureWrong : ChangeSpec := { name := "nvmSure", fn := fun _ => fun
  | [d1, d2, d3, d4] => { results := [.lit (.bool false)], args := [d1, d2, d3, d4] }
  | _ => none }
def NvmSureWrongFalsely : Prop := nvmSureRow.holds Try.pinned (OpenSpec.ofChange nvmSureWrong)

/-- 'scullionlaw3.NvmAll': WHATEVER THE INPUT: true; the input reads as it did. -/
def nvmAllSpec : ChangeSpec := { name := "nvmAll", fn := fun _ => fun
  | [d1, d2] => { results := [.lit (.bool true)], args := [d1, d2] }
  | _ => none }
def nvmAllRow : OpenClaim := { program := "ytffakdoobeegpaa", sum := "ab2342967ebdd7d65c26416a25c359974b227581f1a9574b7eb34bf93328c3aa", func := "scullion/scullionlaw3.NvmAll", spec := "nvmAll", apart := false }
def NvmAllSaid : Prop := nvmAllRow.holds Try.pinned (OpenSpec.ofChange nvmAllSpec)

/-- ITS FALSE NEIGHBOUR: 'it returns false'. Refute it at one input. -/
def nvmAllWrong : ChangeSpec := { name := "nvmAll", fn := fun _ => fun
  | [d1, d2] => { results := [.lit (.bool false)], args := [d1, d2] }
  | _ => none }
def NvmAllWrongFalsely : Prop := nvmAllRow.holds Try.pinned (OpenSpec.ofChange nvmAllWrong)

/-- 'scullionlaw3.NvmFuses': WHATEVER THE INPUT: true; the input reads as it did. -/
def nvmFusesSpec : ChangeSpec := { name := "nvmFuses", fn := fun _ => fun
  | [d1, d2] => { results := [.lit (.bool true)], args := [d1, d2] }
  | _ => none }
def nvmFusesRow : OpenClaim := { program := "ytffakdoobeegpaa", sum := "ab2342967ebdd7d65c26416a25c359974b227581f1a9574b7eb34bf93328c3aa", func := "scullion/scullionlaw3.NvmFuses", spec := "nvmFuses", apart := false }
def NvmFusesSaid : Prop := nvmFusesRow.holds Try.pinned (OpenSpec.ofChange nvmFusesSpec)

/-- ITS FALSE NEIGHBOUR: 'it returns false'. Refute it at one input. -/
def nvmFusesWrong : ChangeSpec := { name := "nvmFuses", fn := fun _ => fun
  | [d1, d2] => { results := [.lit (.bool false)], args := [d1, d2] }
  | _ => none }
def NvmFusesWrongFalsely : Prop := nvmFusesRow.holds Try.pinned (OpenSpec.ofChange nvmFusesWrong)

/-- 'scullionlaw3.NvmEvicts': WHATEVER THE INPUT: true; the input reads as it did. -/
def nvmEvictsSpec : ChangeSpec := { name := "nvmEvicts", fn := fun _ => fun
  | [d1, d2, d3] => { results := [.lit (.bool true)], args := [d1, d2, d3] }
  | _ => none }
def nvmEvictsRow : OpenClaim := { program := "ytffakdoobeegpaa", sum := "ab2342967ebdd7d65c26416a25c359974b227581f1a9574b7eb34bf93328c3aa", func := "scullion/scullionlaw3.NvmEvicts", spec := "nvmEvicts", apart := false }
def NvmEvictsSaid : Prop := nvmEvictsRow.holds Try.pinned (OpenSpec.ofChange nvmEvictsSpec)

/-- ITS FALSE NEIGHBOUR: 'it returns false'. Refute it at one input. -/
def nvmEvictsWrong : ChangeSpec := { name := "nvmEvicts", fn := fun _ => fun
  | [d1, d2, d3] => { results := [.lit (.bool false)], args := [d1, d2, d3] }
  | _ => none }
def NvmEvictsWrongFalsely : Prop := nvmEvictsRow.holds Try.pinned (OpenSpec.ofChange nvmEvictsWrong)

/-- 'scullionlaw3.NvmOf': WHATEVER THE INPUT: true; the input reads as it did. -/
def nvmOfSpec : ChangeSpec := { name := "nvmOf", fn := fun _ => fun
  | [d1, d2, d3] => { results := [.lit (.bool true)], args := [d1, d2, d3] }
  | _ => none }
def nvmOfRow : OpenClaim := { program := "ytffakdoobeegpaa", sum := "ab2342967ebdd7d65c26416a25c359974b227581f1a9574b7eb34bf93328c3aa", func := "scullion/scullionlaw3.NvmOf", spec := "nvmOf", apart := false }
def NvmOfSaid : Prop := nvmOfRow.holds Try.pinned (OpenSpec.ofChange nvmOfSpec)

/-- ITS FALSE NEIGHBOUR: 'it returns false'. Refute it at one input. -/
def nvmOfWrong : ChangeSpec := { name := "nvmOf", fn := fun _ => fun
  | [d1, d2, d3] => { results := [.lit (.bool false)], args := [d1, d2, d3] }
  | _ => none }
def NvmOfWrongFalsely : Prop := nvmOfRow.holds Try.pinned (OpenSpec.ofChange nvmOfWrong)

/-- 'scullionlaw3.NvmNew': WHATEVER THE INPUT: true; the input reads as it did. -/
def nvmNewSpec : ChangeSpec := { name := "nvmNew", fn := fun _ => fun
  | [d1, d2, d3, d4] => { results := [.lit (.bool true)], args := [d1, d2, d3, d4] }
  | _ => none }
def nvmNewRow : OpenClaim := { program := "ytffakdoobeegpaa", sum := "ab2342967ebdd7d65c26416a25c359974b227581f1a9574b7eb34bf93328c3aa", func := "scullion/scullionlaw3.NvmNew", spec := "nvmNew", inPlace := ["maps.clone"], apart := false }
def NvmNewSaid : Prop := nvmNewRow.holds Try.pinned (OpenSpec.ofChange nvmNewSpec)

/-- ITS FALSE NEIGHBOUR: 'it returns false'. Refute it at one input. -/
def nvmNewWrong : ChangeSpec := { name := "nvmNew", fn := fun _ => fun
  | [d1, d2, d3, d4] => { results := [.lit (.bool false)], args := [d1, d2, d3, d4] }
  | _ => none }
def NvmNewWrongFalsely : Prop := nvmNewRow.holds Try.pinned (OpenSpec.ofChange nvmNewWrong)

/-- 'scullionlaw4.RedoNeed': WHATEVER THE INPUT: true; the input reads as it did. -/
def redoNeedSpec : ChangeSpec := { name := "redoNeed", fn := fun _ => fun
  | [d] => { results := [.lit (.bool true)], args := [d] }
  | _ => none }
def redoNeedRow : OpenClaim := { program := "ytffakdoobeegpaa", sum := "ab2342967ebdd7d65c26416a25c359974b227581f1a9574b7eb34bf93328c3aa", func := "scullion/scullionlaw4.RedoNeed", spec := "redoNeed", apart := false }
def RedoNeedSaid : Prop := redoNeedRow.holds Try.pinned (OpenSpec.ofChange redoNeedSpec)

/-- ITS FALSE NEIGHBOUR: 'it returns false'. Refute it at one input. -/
def redoNeedWrong : ChangeSpec := { name := "redoNeed", fn := fun _ => fun
  | [d] => { results := [.lit (.bool false)], args := [d] }
  | _ => none }
def RedoNeedWrongFalsely : Prop := redoNeedRow.holds Try.pinned (OpenSpec.ofChange redoNeedWrong)

/-- 'scullionlaw4.RedoLast': WHATEVER THE INPUT: true; the input reads as it did. -/
def redoLastSpec : ChangeSpec := { name := "redoLast", fn := fun _ => fun
  | [d1, d2] => { results := [.lit (.bool true)], args := [d1, d2] }
  | _ => none }
def redoLastRow : OpenClaim := { program := "ytffakdoobeegpaa", sum := "ab2342967ebdd7d65c26416a25c359974b227581f1a9574b7eb34bf93328c3aa", func := "scullion/scullionlaw4.RedoLast", spec := "redoLast", apart := false }
def RedoLastSaid : Prop := redoLastRow.holds Try.pinned (OpenSpec.ofChange redoLastSpec)

/-- ITS FALSE NEIGHBOUR: 'it returns false'. Refute it at one input. -/
def redoLastWrong : ChangeSpec := { name := "redoLast", fn := fun _ => fun
  | [d1, d2] => { results := [.lit (.bool false)], args := [d1, d2] }
  | _ => none }
def RedoLastWrongFalsely : Prop := redoLastRow.holds Try.pinned (OpenSpec.ofChange redoLastWrong)

/-- 'scullionlaw4.RedoSteps': WHATEVER THE INPUT: true; the input reads as it did. -/
def redoStepsSpec : ChangeSpec := { name := "redoSteps", fn := fun _ => fun
  | [d1, d2] => { results := [.lit (.bool true)], args := [d1, d2] }
  | _ => none }
def redoStepsRow : OpenClaim := { program := "ytffakdoobeegpaa", sum := "ab2342967ebdd7d65c26416a25c359974b227581f1a9574b7eb34bf93328c3aa", func := "scullion/scullionlaw4.RedoSteps", spec := "redoSteps", apart := false }
def RedoStepsSaid : Prop := redoStepsRow.holds Try.pinned (OpenSpec.ofChange redoStepsSpec)

/-- ITS FALSE NEIGHBOUR: 'it returns false'. Refute it at one input. -/
def redoStepsWrong : ChangeSpec := { name := "redoSteps", fn := fun _ => fun
  | [d1, d2] => { results := [.lit (.bool false)], args := [d1, d2] }
  | _ => none }
def RedoStepsWrongFalsely : Prop := redoStepsRow.holds Try.pinned (OpenSpec.ofChange redoStepsWrong)

/-- 'scullionlaw4.RedoRefused': WHATEVER THE INPUT: true; the input reads as it did. -/
def redoRefusedSpec : ChangeSpec := { name := "redoRefused", fn := fun _ => fun
  | [d1, d2, d3] => { results := [.lit (.bool true)], args := [d1, d2, d3] }
  | _ => none }
def redoRefusedRow : OpenClaim := { program := "ytffakdoobeegpaa", sum := "ab2342967ebdd7d65c26416a25c359974b227581f1a9574b7eb34bf93328c3aa", func := "scullion/scullionlaw4.RedoRefused", spec := "redoRefused", apart := false }
def RedoRefusedSaid : Prop := redoRefusedRow.holds Try.pinned (OpenSpec.ofChange redoRefusedSpec)

/-- ITS FALSE NEIGHBOUR: 'it returns false'. Refute it at one input. -/
def redoRefusedWrong : ChangeSpec := { name := "redoRefused", fn := fun _ => fun
  | [d1, d2, d3] => { results := [.lit (.bool false)], args := [d1, d2, d3] }
  | _ => none }
def RedoRefusedWrongFalsely : Prop := redoRefusedRow.holds Try.pinned (OpenSpec.ofChange redoRefusedWrong)

/-- 'scullionlaw7.BlockLeast': WHATEVER THE INPUT: true; the input reads as it did. -/
def blockLeastSpec : ChangeSpec := { name := "blockLeast", fn := fun _ => fun
  | [d1, d2, d3] => { results := [.lit (.bool true)], args := [d1, d2, d3] }
  | _ => none }
def blockLeastRow : OpenClaim := { program := "ytffakdoobeegpaa", sum := "ab2342967ebdd7d65c26416a25c359974b227581f1a9574b7eb34bf93328c3aa", func := "scullion/scullionlaw7.BlockLeast", spec := "blockLeast", unfollowed := true, recurses := true, apart := false }
def BlockLeastSaid : Prop := blockLeastRow.holds Try.pinned (OpenSpec.ofChange blockLeastSpec)

/-- ITS FALSE NEIGHBOUR: 'it returns false'. Refute it at one input. -/
def blockLeastWrong : ChangeSpec := { name := "blockLeast", fn := fun _ => fun
  | [d1, d2, d3] => { results := [.lit (.bool false)], args := [d1, d2, d3] }
  | _ => none }
def BlockLeastWrongFalsely : Prop := blockLeastRow.holds Try.pinned (OpenSpec.ofChange blockLeastWrong)

/-- 'scullionlaw7.BlockCancels': WHATEVER THE INPUT: true; the input reads as it did. -/
def blockCancelsSpec : ChangeSpec := { name := "blockCancels", fn := fun _ => fun
  | [d1, d2, d3] => { results := [.lit (.bool true)], args := [d1, d2, d3] }
  | _ => none }
def blockCancelsRow : OpenClaim := { program := "ytffakdoobeegpaa", sum := "ab2342967ebdd7d65c26416a25c359974b227581f1a9574b7eb34bf93328c3aa", func := "scullion/scullionlaw7.BlockCancels", spec := "blockCancels", unfollowed := true, recurses := true, apart := false }
def BlockCancelsSaid : Prop := blockCancelsRow.holds Try.pinned (OpenSpec.ofChange blockCancelsSpec)

/-- ITS FALSE NEIGHBOUR: 'it returns false'. Refute it at one input. -/
def blockCancelsWrong : ChangeSpec := { name := "blockCancels", fn := fun _ => fun
  | [d1, d2, d3] => { results := [.lit (.bool false)], args := [d1, d2, d3] }
  | _ => none }
def BlockCancelsWrongFalsely : Prop := blockCancelsRow.holds Try.pinned (OpenSpec.ofChange blockCancelsWrong)

/-- 'scullionlaw4.RedoNil': WHATEVER THE INPUT: true; the input reads as it did. -/
def redoNilSpec : ChangeSpec := { name := "redoNil", fn := fun _ => fun
  | [d1, d2, d3] => { results := [.lit (.bool true)], args := [d1, d2, d3] }
  | _ => none }
def redoNilRow : OpenClaim := { program := "ytffakdoobeegpaa", sum := "ab2342967ebdd7d65c26416a25c359974b227581f1a9574b7eb34bf93328c3aa", func := "scullion/scullionlaw4.RedoNil", spec := "redoNil", apart := false }
def RedoNilSaid : Prop := redoNilRow.holds Try.pinned (OpenSpec.ofChange redoNilSpec)

/-- ITS FALSE NEIGHBOUR: 'it returns false'. Refute it at one input. -/
def redoNilWrong : ChangeSpec := { name := "redoNil", fn := fun _ => fun
  | [d1, d2, d3] => { results := [.lit (.bool false)], args := [d1, d2, d3] }
  | _ => none }
def RedoNilWrongFalsely : Prop := redoNilRow.holds Try.pinned (OpenSpec.ofChange redoNilWrong)

/-- 'scullionlaw4.RedoGoes': WHATEVER THE INPUT: true; the input reads as it did. -/
def redoGoesSpec : ChangeSpec := { name := "redoGoes", fn := fun _ => fun
  | [d1, d2, d3] => { results := [.lit (.bool true)], args := [d1, d2, d3] }
  | _ => none }
def redoGoesRow : OpenClaim := { program := "ytffakdoobeegpaa", sum := "ab2342967ebdd7d65c26416a25c359974b227581f1a9574b7eb34bf93328c3aa", func := "scullion/scullionlaw4.RedoGoes", spec := "redoGoes", apart := false }
def RedoGoesSaid : Prop := redoGoesRow.holds Try.pinned (OpenSpec.ofChange redoGoesSpec)

/-- ITS FALSE NEIGHBOUR: 'it returns false'. Refute it at one input. -/
def redoGoesWrong : ChangeSpec := { name := "redoGoes", fn := fun _ => fun
  | [d1, d2, d3] => { results := [.lit (.bool false)], args := [d1, d2, d3] }
  | _ => none }
def RedoGoesWrongFalsely : Prop := redoGoesRow.holds Try.pinned (OpenSpec.ofChange redoGoesWrong)

/-- 'scullionlaw4.RedoWrites': WHATEVER THE INPUT: true; the input reads as it did. -/
def redoWritesSpec : ChangeSpec := { name := "redoWrites", fn := fun _ => fun
  | [d1, d2, d3, d4, d5] => { results := [.lit (.bool true)], args := [d1, d2, d3, d4, d5] }
  | _ => none }
def redoWritesRow : OpenClaim := { program := "ytffakdoobeegpaa", sum := "ab2342967ebdd7d65c26416a25c359974b227581f1a9574b7eb34bf93328c3aa", func := "scullion/scullionlaw4.RedoWrites", spec := "redoWrites", apart := false }
def RedoWritesSaid : Prop := redoWritesRow.holds Try.pinned (OpenSpec.ofChange redoWritesSpec)

/-- ITS FALSE NEIGHBOUR: 'it returns false'. Refute it at one input. -/
def redoWritesWrong : ChangeSpec := { name := "redoWrites", fn := fun _ => fun
  | [d1, d2, d3, d4, d5] => { results := [.lit (.bool false)], args := [d1, d2, d3, d4, d5] }
  | _ => none }
def RedoWritesWrongFalsely : Prop := redoWritesRow.holds Try.pinned (OpenSpec.ofChange redoWritesWrong)

/-- 'scullionlaw4.RedoCrashes': WHATEVER THE INPUT: true; the input reads as it did. -/
def redoCrashesSpec : ChangeSpec := { name := "redoCrashes", fn := fun _ => fun
  | [d1, d2, d3, d4] => { results := [.lit (.bool true)], args := [d1, d2, d3, d4] }
  | _ => none }
def redoCrashesRow : OpenClaim := { program := "ytffakdoobeegpaa", sum := "ab2342967ebdd7d65c26416a25c359974b227581f1a9574b7eb34bf93328c3aa", func := "scullion/scullionlaw4.RedoCrashes", spec := "redoCrashes", apart := false }
def RedoCrashesSaid : Prop := redoCrashesRow.holds Try.pinned (OpenSpec.ofChange redoCrashesSpec)

/-- ITS FALSE NEIGHBOUR: 'it returns false'. Refute it at one input. -/
def redoCrashesWrong : ChangeSpec := { name := "redoCrashes", fn := fun _ => fun
  | [d1, d2, d3, d4] => { results := [.lit (.bool false)], args := [d1, d2, d3, d4] }
  | _ => none }
def RedoCrashesWrongFalsely : Prop := redoCrashesRow.holds Try.pinned (OpenSpec.ofChange redoCrashesWrong)

/-- 'scullionlaw4.RedoRecovers': WHATEVER THE INPUT: true; the input reads as it did. -/
def redoRecoversSpec : ChangeSpec := { name := "redoRecovers", fn := fun _ => fun
  | [d1, d2, d3, d4, d5, d6] => { results := [.lit (.bool true)], args := [d1, d2, d3, d4, d5, d6] }
  | _ => none }
def redoRecoversRow : OpenClaim := { program := "ytffakdoobeegpaa", sum := "ab2342967ebdd7d65c26416a25c359974b227581f1a9574b7eb34bf93328c3aa", func := "scullion/scullionlaw4.RedoRecovers", spec := "redoRecovers", apart := false }
def RedoRecoversSaid : Prop := redoRecoversRow.holds Try.pinned (OpenSpec.ofChange redoRecoversSpec)

/-- ITS FALSE NEIGHBOUR: 'it returns false'. Refute it at one input. -/
def redoRecoversWrong : ChangeSpec := { name := "redoRecovers", fn := fun _ => fun
  | [d1, d2, d3, d4, d5, d6] => { results := [.lit (.bool false)], args := [d1, d2, d3, d4, d5, d6] }
  | _ => none }
def RedoRecoversWrongFalsely : Prop := redoRecoversRow.holds Try.pinned (OpenSpec.ofChange redoRecoversWrong)

/-- 'scullionlaw7.BlockEntries': WHATEVER THE INPUT: true; the input reads as it did. -/
def blockEntriesSpec : ChangeSpec := { name := "blockEntries", fn := fun _ => fun
  | [d1, d2, d3] => { results := [.lit (.bool true)], args := [d1, d2, d3] }
  | _ => none }
def blockEntriesRow : OpenClaim := { program := "ytffakdoobeegpaa", sum := "ab2342967ebdd7d65c26416a25c359974b227581f1a9574b7eb34bf93328c3aa", func := "scullion/scullionlaw7.BlockEntries", spec := "blockEntries", unfollowed := true, recurses := true, apart := false }
def BlockEntriesSaid : Prop := blockEntriesRow.holds Try.pinned (OpenSpec.ofChange blockEntriesSpec)

/-- ITS FALSE NEIGHBOUR: 'it returns false'. Refute it at one input. -/
def blockEntriesWrong : ChangeSpec := { name := "blockEntries", fn := fun _ => fun
  | [d1, d2, d3] => { results := [.lit (.bool false)], args := [d1, d2, d3] }
  | _ => none }
def BlockEntriesWrongFalsely : Prop := blockEntriesRow.holds Try.pinned (OpenSpec.ofChange blockEntriesWrong)

/-- 'scullionlaw7.BlockPlays': WHATEVER THE INPUT: true; the input reads as it did. -/
def blockPlaysSpec : ChangeSpec := { name := "blockPlays", fn := fun _ => fun
  | [d1, d2, d3] => { results := [.lit (.bool true)], args := [d1, d2, d3] }
  | _ => none }
def blockPlaysRow : OpenClaim := { program := "ytffakdoobeegpaa", sum := "ab2342967ebdd7d65c26416a25c359974b227581f1a9574b7eb34bf93328c3aa", func := "scullion/scullionlaw7.BlockPlays", spec := "blockPlays", unfollowed := true, recurses := true, apart := false }
def BlockPlaysSaid : Prop := blockPlaysRow.holds Try.pinned (OpenSpec.ofChange blockPlaysSpec)

/-- ITS FALSE NEIGHBOUR: 'it returns false'. Refute it at one input. -/
def blockPlaysWrong : ChangeSpec := { name := "blockPlays", fn := fun _ => fun
  | [d1, d2, d3] => { results := [.lit (.bool false)], args := [d1, d2, d3] }
  | _ => none }
def BlockPlaysWrongFalsely : Prop := blockPlaysRow.holds Try.pinned (OpenSpec.ofChange blockPlaysWrong)

/-- 'scullionlaw7.BlockOnce': WHATEVER THE INPUT: true; the input reads as it did. -/
def blockOnceSpec : ChangeSpec := { name := "blockOnce", fn := fun _ => fun
  | [d1, d2, d3] => { results := [.lit (.bool true)], args := [d1, d2, d3] }
  | _ => none }
def blockOnceRow : OpenClaim := { program := "ytffakdoobeegpaa", sum := "ab2342967ebdd7d65c26416a25c359974b227581f1a9574b7eb34bf93328c3aa", func := "scullion/scullionlaw7.BlockOnce", spec := "blockOnce", unfollowed := true, recurses := true, apart := false }
def BlockOnceSaid : Prop := blockOnceRow.holds Try.pinned (OpenSpec.ofChange blockOnceSpec)

/-- ITS FALSE NEIGHBOUR: 'it returns false'. Refute it at one input. -/
def blockOnceWrong : ChangeSpec := { name := "blockOnce", fn := fun _ => fun
  | [d1, d2, d3] => { results := [.lit (.bool false)], args := [d1, d2, d3] }
  | _ => none }
def BlockOnceWrongFalsely : Prop := blockOnceRow.holds Try.pinned (OpenSpec.ofChange blockOnceWrong)

/- THE SECOND FORM. 'bulk': how many values and letters a reading holds, each counted each time it is reached (what is shared counts as often as it is met; a slice's spare places count too). A statement '..UptoSaid' is the law's where the arguments, and the package variables that the reading takes, are together of bulk at most 1048576: NARROWER than '..Said'. Prove '..Said' where nothing that the law and all that it calls make is longer than what came in: it says more and counts as full. Else prove '..UptoSaid'. A law counts once. -/
mutual
def uptoBulk {H : Type} : DataW H → Nat
  | .lit (.string bytes) => bytes.length + 1
  | .lit _ => 1
  | .nil => 1
  | .ptr d => uptoBulk d + 1
  | .slice elems spare => uptoBulkAll elems + uptoBulkAll spare + 1
  | .agg parts => uptoBulkAll parts + 1
  | .iface _ d => uptoBulk d + 1
  | .map entries => uptoBulkEntries entries + 1
  | .held _ => 1
def uptoBulkAll {H : Type} : List (DataW H) → Nat
  | [] => 0
  | d :: r => uptoBulk d + uptoBulkAll r
def uptoBulkEntries {H : Type} : List (Lit × DataW H) → Nat
  | [] => 0
  | x :: r => uptoBulkEntry x + uptoBulkEntries r
def uptoBulkEntry {H : Type} : Lit × DataW H → Nat
  | (.string bytes, d) => bytes.length + uptoBulk d + 1
  | (_, d) => uptoBulk d + 1
 end
def uptoSmall : (H : Type) → List (DataW H) → Bool := fun _ ds => decide (uptoBulkAll ds ≤ 1048576)
def OpenSpec.upto (s : _root_.Go.ChangeSpec) : _root_.Go.OpenSpec := { _root_.Go.OpenSpec.ofChange s with cond := some uptoSmall }

/-- 'scullionlaw3.NvmSure', WHERE WHAT IT READS IS OF BULK AT MOST 1048576: true; the input reads as it did. -/
def nvmSureUptoRow : OpenClaim := { program := "ytffakdoobeegpaa", sum := "ab2342967ebdd7d65c26416a25c359974b227581f1a9574b7eb34bf93328c3aa", func := "scullion/scullionlaw3.NvmSure", spec := "nvmSure", apart := false, narrowed := true }
def NvmSureUptoSaid : Prop := nvmSureUptoRow.holds Try.pinned (OpenSpec.upto nvmSureSpec)

/-- 'scullionlaw3.NvmAll', WHERE WHAT IT READS IS OF BULK AT MOST 1048576: true; the input reads as it did. -/
def nvmAllUptoRow : OpenClaim := { program := "ytffakdoobeegpaa", sum := "ab2342967ebdd7d65c26416a25c359974b227581f1a9574b7eb34bf93328c3aa", func := "scullion/scullionlaw3.NvmAll", spec := "nvmAll", apart := false, narrowed := true }
def NvmAllUptoSaid : Prop := nvmAllUptoRow.holds Try.pinned (OpenSpec.upto nvmAllSpec)

/-- 'scullionlaw3.NvmFuses', WHERE WHAT IT READS IS OF BULK AT MOST 1048576: true; the input reads as it did. -/
def nvmFusesUptoRow : OpenClaim := { program := "ytffakdoobeegpaa", sum := "ab2342967ebdd7d65c26416a25c359974b227581f1a9574b7eb34bf93328c3aa", func := "scullion/scullionlaw3.NvmFuses", spec := "nvmFuses", apart := false, narrowed := true }
def NvmFusesUptoSaid : Prop := nvmFusesUptoRow.holds Try.pinned (OpenSpec.upto nvmFusesSpec)

/-- 'scullionlaw3.NvmEvicts', WHERE WHAT IT READS IS OF BULK AT MOST 1048576: true; the input reads as it did. -/
def nvmEvictsUptoRow : OpenClaim := { program := "ytffakdoobeegpaa", sum := "ab2342967ebdd7d65c26416a25c359974b227581f1a9574b7eb34bf93328c3aa", func := "scullion/scullionlaw3.NvmEvicts", spec := "nvmEvicts", apart := false, narrowed := true }
def NvmEvictsUptoSaid : Prop := nvmEvictsUptoRow.holds Try.pinned (OpenSpec.upto nvmEvictsSpec)

/-- 'scullionlaw3.NvmOf', WHERE WHAT IT READS IS OF BULK AT MOST 1048576: true; the input reads as it did. -/
def nvmOfUptoRow : OpenClaim := { program := "ytffakdoobeegpaa", sum := "ab2342967ebdd7d65c26416a25c359974b227581f1a9574b7eb34bf93328c3aa", func := "scullion/scullionlaw3.NvmOf", spec := "nvmOf", apart := false, narrowed := true }
def NvmOfUptoSaid : Prop := nvmOfUptoRow.holds Try.pinned (OpenSpec.upto nvmOfSpec)

/-- 'scullionlaw3.NvmNew', WHERE WHAT IT READS IS OF BULK AT MOST 1048576: true; the input reads as it did. -/
def nvmNewUptoRow : OpenClaim := { program := "ytffakdoobeegpaa", sum := "ab2342967ebdd7d65c26416a25c359974b227581f1a9574b7eb34bf93328c3aa", func := "scullion/scullionlaw3.NvmNew", spec := "nvmNew", inPlace := ["maps.clone"], apart := false, narrowed := true }
def NvmNewUptoSaid : Prop := nvmNewUptoRow.holds Try.pinned (OpenSpec.upto nvmNewSpec)

/-- 'scullionlaw4.RedoNeed', WHERE WHAT IT READS IS OF BULK AT MOST 1048576: true; the input reads as it did. -/
def redoNeedUptoRow : OpenClaim := { program := "ytffakdoobeegpaa", sum := "ab2342967ebdd7d65c26416a25c359974b227581f1a9574b7eb34bf93328c3aa", func := "scullion/scullionlaw4.RedoNeed", spec := "redoNeed", apart := false, narrowed := true }
def RedoNeedUptoSaid : Prop := redoNeedUptoRow.holds Try.pinned (OpenSpec.upto redoNeedSpec)

/-- 'scullionlaw4.RedoLast', WHERE WHAT IT READS IS OF BULK AT MOST 1048576: true; the input reads as it did. -/
def redoLastUptoRow : OpenClaim := { program := "ytffakdoobeegpaa", sum := "ab2342967ebdd7d65c26416a25c359974b227581f1a9574b7eb34bf93328c3aa", func := "scullion/scullionlaw4.RedoLast", spec := "redoLast", apart := false, narrowed := true }
def RedoLastUptoSaid : Prop := redoLastUptoRow.holds Try.pinned (OpenSpec.upto redoLastSpec)

/-- 'scullionlaw4.RedoSteps', WHERE WHAT IT READS IS OF BULK AT MOST 1048576: true; the input reads as it did. -/
def redoStepsUptoRow : OpenClaim := { program := "ytffakdoobeegpaa", sum := "ab2342967ebdd7d65c26416a25c359974b227581f1a9574b7eb34bf93328c3aa", func := "scullion/scullionlaw4.RedoSteps", spec := "redoSteps", apart := false, narrowed := true }
def RedoStepsUptoSaid : Prop := redoStepsUptoRow.holds Try.pinned (OpenSpec.upto redoStepsSpec)

/-- 'scullionlaw4.RedoRefused', WHERE WHAT IT READS IS OF BULK AT MOST 1048576: true; the input reads as it did. -/
def redoRefusedUptoRow : OpenClaim := { program := "ytffakdoobeegpaa", sum := "ab2342967ebdd7d65c26416a25c359974b227581f1a9574b7eb34bf93328c3aa", func := "scullion/scullionlaw4.RedoRefused", spec := "redoRefused", apart := false, narrowed := true }
def RedoRefusedUptoSaid : Prop := redoRefusedUptoRow.holds Try.pinned (OpenSpec.upto redoRefusedSpec)

/-- 'scullionlaw7.BlockLeast', WHERE WHAT IT READS IS OF BULK AT MOST 1048576: true; the input reads as it did. -/
def blockLeastUptoRow : OpenClaim := { program := "ytffakdoobeegpaa", sum := "ab2342967ebdd7d65c26416a25c359974b227581f1a9574b7eb34bf93328c3aa", func := "scullion/scullionlaw7.BlockLeast", spec := "blockLeast", unfollowed := true, recurses := true, apart := false, narrowed := true }
def BlockLeastUptoSaid : Prop := blockLeastUptoRow.holds Try.pinned (OpenSpec.upto blockLeastSpec)

/-- 'scullionlaw7.BlockCancels', WHERE WHAT IT READS IS OF BULK AT MOST 1048576: true; the input reads as it did. -/
def blockCancelsUptoRow : OpenClaim := { program := "ytffakdoobeegpaa", sum := "ab2342967ebdd7d65c26416a25c359974b227581f1a9574b7eb34bf93328c3aa", func := "scullion/scullionlaw7.BlockCancels", spec := "blockCancels", unfollowed := true, recurses := true, apart := false, narrowed := true }
def BlockCancelsUptoSaid : Prop := blockCancelsUptoRow.holds Try.pinned (OpenSpec.upto blockCancelsSpec)

/-- 'scullionlaw4.RedoNil', WHERE WHAT IT READS IS OF BULK AT MOST 1048576: true; the input reads as it did. -/
def redoNilUptoRow : OpenClaim := { program := "ytffakdoobeegpaa", sum := "ab2342967ebdd7d65c26416a25c359974b227581f1a9574b7eb34bf93328c3aa", func := "scullion/scullionlaw4.RedoNil", spec := "redoNil", apart := false, narrowed := true }
def RedoNilUptoSaid : Prop := redoNilUptoRow.holds Try.pinned (OpenSpec.upto redoNilSpec)

/-- 'scullionlaw4.RedoGoes', WHERE WHAT IT READS IS OF BULK AT MOST 1048576: true; the input reads as it did. -/
def redoGoesUptoRow : OpenClaim := { program := "ytffakdoobeegpaa", sum := "ab2342967ebdd7d65c26416a25c359974b227581f1a9574b7eb34bf93328c3aa", func := "scullion/scullionlaw4.RedoGoes", spec := "redoGoes", apart := false, narrowed := true }
def RedoGoesUptoSaid : Prop := redoGoesUptoRow.holds Try.pinned (OpenSpec.upto redoGoesSpec)

/-- 'scullionlaw4.RedoWrites', WHERE WHAT IT READS IS OF BULK AT MOST 1048576: true; the input reads as it did. -/
def redoWritesUptoRow : OpenClaim := { program := "ytffakdoobeegpaa", sum := "ab2342967ebdd7d65c26416a25c359974b227581f1a9574b7eb34bf93328c3aa", func := "scullion/scullionlaw4.RedoWrites", spec := "redoWrites", apart := false, narrowed := true }
def RedoWritesUptoSaid : Prop := redoWritesUptoRow.holds Try.pinned (OpenSpec.upto redoWritesSpec)

/-- 'scullionlaw4.RedoCrashes', WHERE WHAT IT READS IS OF BULK AT MOST 1048576: true; the input reads as it did. -/
def redoCrashesUptoRow : OpenClaim := { program := "ytffakdoobeegpaa", sum := "ab2342967ebdd7d65c26416a25c359974b227581f1a9574b7eb34bf93328c3aa", func := "scullion/scullionlaw4.RedoCrashes", spec := "redoCrashes", apart := false, narrowed := true }
def RedoCrashesUptoSaid : Prop := redoCrashesUptoRow.holds Try.pinned (OpenSpec.upto redoCrashesSpec)

/-- 'scullionlaw4.RedoRecovers', WHERE WHAT IT READS IS OF BULK AT MOST 1048576: true; the input reads as it did. -/
def redoRecoversUptoRow : OpenClaim := { program := "ytffakdoobeegpaa", sum := "ab2342967ebdd7d65c26416a25c359974b227581f1a9574b7eb34bf93328c3aa", func := "scullion/scullionlaw4.RedoRecovers", spec := "redoRecovers", apart := false, narrowed := true }
def RedoRecoversUptoSaid : Prop := redoRecoversUptoRow.holds Try.pinned (OpenSpec.upto redoRecoversSpec)

/-- 'scullionlaw7.BlockEntries', WHERE WHAT IT READS IS OF BULK AT MOST 1048576: true; the input reads as it did. -/
def blockEntriesUptoRow : OpenClaim := { program := "ytffakdoobeegpaa", sum := "ab2342967ebdd7d65c26416a25c359974b227581f1a9574b7eb34bf93328c3aa", func := "scullion/scullionlaw7.BlockEntries", spec := "blockEntries", unfollowed := true, recurses := true, apart := false, narrowed := true }
def BlockEntriesUptoSaid : Prop := blockEntriesUptoRow.holds Try.pinned (OpenSpec.upto blockEntriesSpec)

/-- 'scullionlaw7.BlockPlays', WHERE WHAT IT READS IS OF BULK AT MOST 1048576: true; the input reads as it did. -/
def blockPlaysUptoRow : OpenClaim := { program := "ytffakdoobeegpaa", sum := "ab2342967ebdd7d65c26416a25c359974b227581f1a9574b7eb34bf93328c3aa", func := "scullion/scullionlaw7.BlockPlays", spec := "blockPlays", unfollowed := true, recurses := true, apart := false, narrowed := true }
def BlockPlaysUptoSaid : Prop := blockPlaysUptoRow.holds Try.pinned (OpenSpec.upto blockPlaysSpec)

/-- 'scullionlaw7.BlockOnce', WHERE WHAT IT READS IS OF BULK AT MOST 1048576: true; the input reads as it did. -/
def blockOnceUptoRow : OpenClaim := { program := "ytffakdoobeegpaa", sum := "ab2342967ebdd7d65c26416a25c359974b227581f1a9574b7eb34bf93328c3aa", func := "scullion/scullionlaw7.BlockOnce", spec := "blockOnce", unfollowed := true, recurses := true, apart := false, narrowed := true }
def BlockOnceUptoSaid : Prop := blockOnceUptoRow.holds Try.pinned (OpenSpec.upto blockOnceSpec)

end Rows
end Go.Proofs.Ytffakdoobeegpaa
