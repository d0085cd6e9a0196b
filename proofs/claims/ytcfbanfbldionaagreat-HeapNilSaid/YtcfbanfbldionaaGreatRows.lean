/-
  No cell of these rows narrows 'for every input' (looked for: loops, veiled, ifaces, maps, wideKeys, modest, calm, conditions, laid).
  DERIVED. THE GIVEN ROWS OF THIS SEAT. 7 by the template 'for every input the law returns true; each argument reads behind the call as it read before'; 0 by the template 'total and deterministic' (their statements: YtcfbanfbldionaaGreatTotals.lean).
  GIVEN WITH THE SEED: the statements are not yours to turn. If you find one false, say at which input.
  Laid BY PROGRAM, IN A SANDBOX (cutbox-rows.mjs): the forced cells as the released guide's own fill.sh prints them over the translation e393be66b5ebc20f… (all of the seat's roots in one cut). By AI agents, Wed Nov 11 2026. No macro, syntax, notation, axiom, sorry.
-/
import Derived.Test.YtcfbanfbldionaaGreatChecked
import GoSem.Claim
import GoSem.ClaimJoined
import GoSem.ClaimMapViews
import Derived.JoinedTies
import Derived.KernelRfl
namespace Go.Proofs.YtcfbanfbldionaaGreat
/- THE CELL 'sum', in the pinned program and in every row, IS THE sha256 OF THE DUMP (.gsa) THAT YtcfbanfbldionaaGreatProg.lean LOADS. Nothing in Lean hashes anything: it is a label: what it is worth is what the hold of that sum in a sandbox is worth. -/
noncomputable def Tryz.pinned : Pinned := { name := "ytcfbanfbldionaagreat", sum := "e393be66b5ebc20f59517ef9f396df7891a82fece1d90325735d20eed39f00f9", checked := Tryz.checked }
namespace Rows
def none {H : Type} : Left H := { results := [], args := [] }

/-- 'scullionlaw22.HeapField': WHATEVER THE INPUT: true; the input reads as it did. -/
def heapFieldSpec : ChangeSpec := { name := "heapField", fn := fun _ => fun
  | [d1, d2, d3, d4, d5] => { results := [.lit (.bool true)], args := [d1, d2, d3, d4, d5] }
  | _ => none }
def heapFieldRow : OpenClaim := { program := "ytcfbanfbldionaagreat", sum := "e393be66b5ebc20f59517ef9f396df7891a82fece1d90325735d20eed39f00f9", func := "scullion/scullionlaw22.HeapField", spec := "heapField", inPlace := ["math.Float64frombits", "math.Float64bits"], unfollowed := true, recurses := true, apart := false }
def HeapFieldSaid : Prop := heapFieldRow.holds Tryz.pinned (OpenSpec.ofChange heapFieldSpec)

/-- ITS FALSE NEIGHBOUR: 'it returns false'. Refute it at one input. -/
def heapFieldWrong : ChangeSpec := { name := "heapField", fn := fun _ => fun
  | [d1, d2, d3, d4, d5] => { results := [.lit (.bool false)], args := [d1, d2, d3, d4, d5] }
  | _ => none }
def HeapFieldWrongFalsely : Prop := heapFieldRow.holds Tryz.pinned (OpenSpec.ofChange heapFieldWrong)

/-- 'scullionlaw22.HeapFormats': WHATEVER THE INPUT: true; the input reads as it did. -/
def heapFormatsSpec : ChangeSpec := { name := "heapFormats", fn := fun _ => fun
  | [d1, d2, d3] => { results := [.lit (.bool true)], args := [d1, d2, d3] }
  | _ => none }
def heapFormatsRow : OpenClaim := { program := "ytcfbanfbldionaagreat", sum := "e393be66b5ebc20f59517ef9f396df7891a82fece1d90325735d20eed39f00f9", func := "scullion/scullionlaw22.HeapFormats", spec := "heapFormats", inPlace := ["math.Float64frombits", "math.Float64bits"], unfollowed := true, recurses := true, apart := false }
def HeapFormatsSaid : Prop := heapFormatsRow.holds Tryz.pinned (OpenSpec.ofChange heapFormatsSpec)

/-- ITS FALSE NEIGHBOUR: 'it returns false'. Refute it at one input. -/
def heapFormatsWrong : ChangeSpec := { name := "heapFormats", fn := fun _ => fun
  | [d1, d2, d3] => { results := [.lit (.bool false)], args := [d1, d2, d3] }
  | _ => none }
def HeapFormatsWrongFalsely : Prop := heapFormatsRow.holds Tryz.pinned (OpenSpec.ofChange heapFormatsWrong)

/-- 'scullionlaw22.HeapTwice': WHATEVER THE INPUT: true; the input reads as it did. -/
def heapTwiceSpec : ChangeSpec := { name := "heapTwice", fn := fun _ => fun
  | [d1, d2] => { results := [.lit (.bool true)], args := [d1, d2] }
  | _ => none }
def heapTwiceRow : OpenClaim := { program := "ytcfbanfbldionaagreat", sum := "e393be66b5ebc20f59517ef9f396df7891a82fece1d90325735d20eed39f00f9", func := "scullion/scullionlaw22.HeapTwice", spec := "heapTwice", inPlace := ["math.Float64frombits", "math.Float64bits"], unfollowed := true, recurses := true, apart := false }
def HeapTwiceSaid : Prop := heapTwiceRow.holds Tryz.pinned (OpenSpec.ofChange heapTwiceSpec)

/-- ITS FALSE NEIGHBOUR: 'it returns false'. Refute it at one input. -/
def heapTwiceWrong : ChangeSpec := { name := "heapTwice", fn := fun _ => fun
  | [d1, d2] => { results := [.lit (.bool false)], args := [d1, d2] }
  | _ => none }
def HeapTwiceWrongFalsely : Prop := heapTwiceRow.holds Tryz.pinned (OpenSpec.ofChange heapTwiceWrong)

/-- 'scullionlaw22.HeapWeakens': WHATEVER THE INPUT: true; the input reads as it did. -/
def heapWeakensSpec : ChangeSpec := { name := "heapWeakens", fn := fun _ => fun
  | [d1, d2] => { results := [.lit (.bool true)], args := [d1, d2] }
  | _ => none }
def heapWeakensRow : OpenClaim := { program := "ytcfbanfbldionaagreat", sum := "e393be66b5ebc20f59517ef9f396df7891a82fece1d90325735d20eed39f00f9", func := "scullion/scullionlaw22.HeapWeakens", spec := "heapWeakens", inPlace := ["math.Float64frombits", "math.Float64bits"], unfollowed := true, recurses := true, apart := false }
def HeapWeakensSaid : Prop := heapWeakensRow.holds Tryz.pinned (OpenSpec.ofChange heapWeakensSpec)

/-- ITS FALSE NEIGHBOUR: 'it returns false'. Refute it at one input. -/
def heapWeakensWrong : ChangeSpec := { name := "heapWeakens", fn := fun _ => fun
  | [d1, d2] => { results := [.lit (.bool false)], args := [d1, d2] }
  | _ => none }
def HeapWeakensWrongFalsely : Prop := heapWeakensRow.holds Tryz.pinned (OpenSpec.ofChange heapWeakensWrong)

/-- 'scullionlaw22.HeapFull': WHATEVER THE INPUT: true; the input reads as it did. -/
def heapFullSpec : ChangeSpec := { name := "heapFull", fn := fun _ => fun
  | [d1, d2] => { results := [.lit (.bool true)], args := [d1, d2] }
  | _ => none }
def heapFullRow : OpenClaim := { program := "ytcfbanfbldionaagreat", sum := "e393be66b5ebc20f59517ef9f396df7891a82fece1d90325735d20eed39f00f9", func := "scullion/scullionlaw22.HeapFull", spec := "heapFull", inPlace := ["math.Float64frombits", "math.Float64bits"], unfollowed := true, recurses := true, apart := false }
def HeapFullSaid : Prop := heapFullRow.holds Tryz.pinned (OpenSpec.ofChange heapFullSpec)

/-- ITS FALSE NEIGHBOUR: 'it returns false'. Refute it at one input. -/
def heapFullWrong : ChangeSpec := { name := "heapFull", fn := fun _ => fun
  | [d1, d2] => { results := [.lit (.bool false)], args := [d1, d2] }
  | _ => none }
def HeapFullWrongFalsely : Prop := heapFullRow.holds Tryz.pinned (OpenSpec.ofChange heapFullWrong)

/-- 'scullionlaw22.HeapRefused': WHATEVER THE INPUT: true; the input reads as it did. -/
def heapRefusedSpec : ChangeSpec := { name := "heapRefused", fn := fun _ => fun
  | [d1, d2, d3, d4] => { results := [.lit (.bool true)], args := [d1, d2, d3, d4] }
  | _ => none }
def heapRefusedRow : OpenClaim := { program := "ytcfbanfbldionaagreat", sum := "e393be66b5ebc20f59517ef9f396df7891a82fece1d90325735d20eed39f00f9", func := "scullion/scullionlaw22.HeapRefused", spec := "heapRefused", inPlace := ["math.Float64frombits", "math.Float64bits"], unfollowed := true, recurses := true, apart := false }
def HeapRefusedSaid : Prop := heapRefusedRow.holds Tryz.pinned (OpenSpec.ofChange heapRefusedSpec)

/-- ITS FALSE NEIGHBOUR: 'it returns false'. Refute it at one input. -/
def heapRefusedWrong : ChangeSpec := { name := "heapRefused", fn := fun _ => fun
  | [d1, d2, d3, d4] => { results := [.lit (.bool false)], args := [d1, d2, d3, d4] }
  | _ => none }
def HeapRefusedWrongFalsely : Prop := heapRefusedRow.holds Tryz.pinned (OpenSpec.ofChange heapRefusedWrong)

/-- 'scullionlaw22.HeapNil': WHATEVER THE INPUT: true; the input reads as it did. -/
def heapNilSpec : ChangeSpec := { name := "heapNil", fn := fun _ => fun
  | [d1, d2] => { results := [.lit (.bool true)], args := [d1, d2] }
  | _ => none }
def heapNilRow : OpenClaim := { program := "ytcfbanfbldionaagreat", sum := "e393be66b5ebc20f59517ef9f396df7891a82fece1d90325735d20eed39f00f9", func := "scullion/scullionlaw22.HeapNil", spec := "heapNil", inPlace := ["math.Float64frombits", "math.Float64bits"], unfollowed := true, recurses := true, apart := false }
def HeapNilSaid : Prop := heapNilRow.holds Tryz.pinned (OpenSpec.ofChange heapNilSpec)

/-- ITS FALSE NEIGHBOUR: 'it returns false'. Refute it at one input. -/
def heapNilWrong : ChangeSpec := { name := "heapNil", fn := fun _ => fun
  | [d1, d2] => { results := [.lit (.bool false)], args := [d1, d2] }
  | _ => none }
def HeapNilWrongFalsely : Prop := heapNilRow.holds Tryz.pinned (OpenSpec.ofChange heapNilWrong)

/- THE SECOND FORM. 'bulk': how many values and letters a reading holds, each counted each time it is reached (what is shared counts as often as it is met; a slice's spare places count too). A statement '..UptoSaid' is the law's where the arguments, and the package variables that the reading takes, are together of bulk at most 1048576: NARROWER than '..Said'. Prove '..Said' where nothing that the law and all that it calls make is longer than what came in: it says more and counts as full. Else prove '..UptoSaid'. A law counts once. -/
mutual
def uptoBulk {H : Type} : DataW H → Nat
  | .lit (.string bytes) => bytes.length + 1
  | .lit _ => 1
  | .nil => 1
  | .ptr d => uptoBulk d + 1
  | .slice elems spare => uptoBulkAll elems + uptoBulkAll spare + 1
  | .agg parts => uptoBulkAll parts + 1
  | .iface _ d => uptoBulk d + 1
  | .map entries => uptoBulkEntries entries + 1
  | .held _ => 1
def uptoBulkAll {H : Type} : List (DataW H) → Nat
  | [] => 0
  | d :: r => uptoBulk d + uptoBulkAll r
def uptoBulkEntries {H : Type} : List (Lit × DataW H) → Nat
  | [] => 0
  | x :: r => uptoBulkEntry x + uptoBulkEntries r
def uptoBulkEntry {H : Type} : Lit × DataW H → Nat
  | (.string bytes, d) => bytes.length + uptoBulk d + 1
  | (_, d) => uptoBulk d + 1
 end
def uptoSmall : (H : Type) → List (DataW H) → Bool := fun _ ds => decide (uptoBulkAll ds ≤ 1048576)
def OpenSpec.upto (s : _root_.Go.ChangeSpec) : _root_.Go.OpenSpec := { _root_.Go.OpenSpec.ofChange s with cond := some uptoSmall }

/-- 'scullionlaw22.HeapField', WHERE WHAT IT READS IS OF BULK AT MOST 1048576: true; the input reads as it did. -/
def heapFieldUptoRow : OpenClaim := { program := "ytcfbanfbldionaagreat", sum := "e393be66b5ebc20f59517ef9f396df7891a82fece1d90325735d20eed39f00f9", func := "scullion/scullionlaw22.HeapField", spec := "heapField", inPlace := ["math.Float64frombits", "math.Float64bits"], unfollowed := true, recurses := true, apart := false, narrowed := true }
def HeapFieldUptoSaid : Prop := heapFieldUptoRow.holds Tryz.pinned (OpenSpec.upto heapFieldSpec)

/-- 'scullionlaw22.HeapFormats', WHERE WHAT IT READS IS OF BULK AT MOST 1048576: true; the input reads as it did. -/
def heapFormatsUptoRow : OpenClaim := { program := "ytcfbanfbldionaagreat", sum := "e393be66b5ebc20f59517ef9f396df7891a82fece1d90325735d20eed39f00f9", func := "scullion/scullionlaw22.HeapFormats", spec := "heapFormats", inPlace := ["math.Float64frombits", "math.Float64bits"], unfollowed := true, recurses := true, apart := false, narrowed := true }
def HeapFormatsUptoSaid : Prop := heapFormatsUptoRow.holds Tryz.pinned (OpenSpec.upto heapFormatsSpec)

/-- 'scullionlaw22.HeapTwice', WHERE WHAT IT READS IS OF BULK AT MOST 1048576: true; the input reads as it did. -/
def heapTwiceUptoRow : OpenClaim := { program := "ytcfbanfbldionaagreat", sum := "e393be66b5ebc20f59517ef9f396df7891a82fece1d90325735d20eed39f00f9", func := "scullion/scullionlaw22.HeapTwice", spec := "heapTwice", inPlace := ["math.Float64frombits", "math.Float64bits"], unfollowed := true, recurses := true, apart := false, narrowed := true }
def HeapTwiceUptoSaid : Prop := heapTwiceUptoRow.holds Tryz.pinned (OpenSpec.upto heapTwiceSpec)

/-- 'scullionlaw22.HeapWeakens', WHERE WHAT IT READS IS OF BULK AT MOST 1048576: true; the input reads as it did. -/
def heapWeakensUptoRow : OpenClaim := { program := "ytcfbanfbldionaagreat", sum := "e393be66b5ebc20f59517ef9f396df7891a82fece1d90325735d20eed39f00f9", func := "scullion/scullionlaw22.HeapWeakens", spec := "heapWeakens", inPlace := ["math.Float64frombits", "math.Float64bits"], unfollowed := true, recurses := true, apart := false, narrowed := true }
def HeapWeakensUptoSaid : Prop := heapWeakensUptoRow.holds Tryz.pinned (OpenSpec.upto heapWeakensSpec)

/-- 'scullionlaw22.HeapFull', WHERE WHAT IT READS IS OF BULK AT MOST 1048576: true; the input reads as it did. -/
def heapFullUptoRow : OpenClaim := { program := "ytcfbanfbldionaagreat", sum := "e393be66b5ebc20f59517ef9f396df7891a82fece1d90325735d20eed39f00f9", func := "scullion/scullionlaw22.HeapFull", spec := "heapFull", inPlace := ["math.Float64frombits", "math.Float64bits"], unfollowed := true, recurses := true, apart := false, narrowed := true }
def HeapFullUptoSaid : Prop := heapFullUptoRow.holds Tryz.pinned (OpenSpec.upto heapFullSpec)

/-- 'scullionlaw22.HeapRefused', WHERE WHAT IT READS IS OF BULK AT MOST 1048576: true; the input reads as it did. -/
def heapRefusedUptoRow : OpenClaim := { program := "ytcfbanfbldionaagreat", sum := "e393be66b5ebc20f59517ef9f396df7891a82fece1d90325735d20eed39f00f9", func := "scullion/scullionlaw22.HeapRefused", spec := "heapRefused", inPlace := ["math.Float64frombits", "math.Float64bits"], unfollowed := true, recurses := true, apart := false, narrowed := true }
def HeapRefusedUptoSaid : Prop := heapRefusedUptoRow.holds Tryz.pinned (OpenSpec.upto heapRefusedSpec)

/-- 'scullionlaw22.HeapNil', WHERE WHAT IT READS IS OF BULK AT MOST 1048576: true; the input reads as it did. -/
def heapNilUptoRow : OpenClaim := { program := "ytcfbanfbldionaagreat", sum := "e393be66b5ebc20f59517ef9f396df7891a82fece1d90325735d20eed39f00f9", func := "scullion/scullionlaw22.HeapNil", spec := "heapNil", inPlace := ["math.Float64frombits", "math.Float64bits"], unfollowed := true, recurses := true, apart := false, narrowed := true }
def HeapNilUptoSaid : Prop := heapNilUptoRow.holds Tryz.pinned (OpenSpec.upto heapNilSpec)

end Rows
end Go.Proofs.YtcfbanfbldionaaGreat
