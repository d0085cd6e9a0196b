/- scullionlaw4.RedoNeed: of any number: how many words a log for so many entries has is what the document says. No condition. -/
import Derived.Test.YtffakdoobeegpaaRedoNeed
import Derived.Test.YtffakdoobeegpaaArgs
import Derived.Test.YtffakdoobeegpaaSeat
import Derived.Test.YtffakdoobeegpaaSeatB
import Derived.Test.YtffakdoobeegpaaSeatC
import Derived.WalkKit
import Derived.ProofKit
import Derived.OpenShut
import Derived.ShutString
import Derived.ChangeOld
import Derived.Below
namespace Go.Proofs.Ytffakdoobeegpaa.redoNeed
open Go.ChangeShapes Go.WideShapes Go.ChangeAt Go.RowKit
open Go.Sl (open_nums)
set_option linter.unusedVariables false

set_option maxRecDepth 100000 in
theorem lifted (os : Os) (started : os.Started) (H : Type) (enc : TypeId × Value → H) :
    ReturnsInHanded {} Try.checked os 9 .any (Rows.redoNeedSpec.pre6 enc Try.prog Try.f9 Rows.redoNeedRow.domain false) (Rows.redoNeedSpec.post enc Try.prog Try.f9 false true false false) := by
  refine returnsInHanded_of_change (C := Try.checked) seat.own started (by kernel_rfl) Try.func9
    (ChangeSpec.witness6 (enc := enc) (C := Try.checked) false ⟨#[], #[.int .i64 0], []⟩ 9 (by kernel_rfl) (by kernel_rfl) (by kernel_rfl) (by kernel_rfl)) ?_
  intro W base args ds gs before hval0 hW hcnd _
  have hval : ∀ (j : Nat) t v, Try.f9.params[j]? = some t → args[j]? = some v → Value.okWide Try.prog W .any base t v := hval0
  have hW' := hW
  obtain ⟨p, q, hA0, hV, rfl, hfz, hnd⟩ := hW
  have hA : DataW.TrodAll enc Try.prog W 0 (fun _ => true) true Try.f9.params.toList args.toList ds p := hA0
  rw [Try.params9] at hA hval
  obtain ⟨v0, vs0, d0, ds0, p0, q0, hargs, rfl, rfl, h0, r0⟩ := trodAll_cons hA
  obtain ⟨rfl, rfl, rfl⟩ := trodAll_nil r0
  obtain rfl : args = #[v0] := by cases args; simp_all
  obtain ⟨rfl, rfl⟩ := trodVars_none hV
  obtain ⟨a0, rfl, rfl, rfl, w0⟩ := open_int Try.underlying3 (hval 0 3 v0 rfl rfl) h0
  clear hA0 hval0
  refine (Scul.redoNeed_walk W a0 (Scul.i64_wf w0)).mono fun e W' ⟨he, h⟩ => ?_
  have bel := Scul.below_of_old' h
  subst he
  exact ⟨_, rfl, _, _, _, [], _, [], hW', trodAll_mk1 (shut_bool Try.underlying4 _), (trodAll_cons_mk (shut_int Try.underlying3 w0) trodAll_mk0), rfl, bel.frame _, fun h => by cases h⟩

theorem k0 : Rows.redoNeedRow.wf (OpenSpec.ofChange Rows.redoNeedSpec) = true := by kernel_rfl
theorem k3 : Try.f9.params.all (Try.pinned.checked.prog.readableRec ·) = true := by kernel_rfl
theorem k4 : namedTie Try.pinned.checked.prog Rows.redoNeedRow.named Rows.redoNeedSpec.vars = true := by kernel_rfl
theorem k5 : (Rows.redoNeedRow.stops == []) = true := by kernel_rfl
theorem k6 : (Try.pinned.checked.prog.stops == []) = true := by kernel_rfl
theorem k7 : (Rows.redoNeedRow.knobs == []) = true := by kernel_rfl
theorem k8 : (Try.pinned.checked.prog.stopKnobs == []) = true := by kernel_rfl
theorem k9 : (Rows.redoNeedRow.inPlace == Try.pinned.checked.prog.inPlace 9) = true := by kernel_rfl
theorem k10 : (Rows.redoNeedRow.unfollowed == Try.pinned.checked.prog.unfollowed 9) = true := by kernel_rfl
theorem k11 : (Rows.redoNeedRow.recurses == Try.pinned.checked.prog.recurses 9) = true := by kernel_rfl
theorem k12 : (Rows.redoNeedRow.named == Try.pinned.checked.prog.varsNamed 9) = true := by kernel_rfl
theorem k13 : (Rows.redoNeedRow.maps == (Try.f9.params.toList ++ Rows.redoNeedSpec.plain.varTypes Try.pinned.checked.prog).any (Try.pinned.checked.prog.mapsRec ·)) = true := by kernel_rfl
theorem k14 : (Rows.redoNeedRow.ifaces == (Try.f9.params.toList ++ Rows.redoNeedSpec.plain.varTypes Try.pinned.checked.prog).any (Try.pinned.checked.prog.ifacesRec ·)) = true := by kernel_rfl
theorem k15 : (Rows.redoNeedRow.mapsOut == Try.pinned.checked.prog.mapsAmong Try.f9.resultTypes.toList) = true := by kernel_rfl
theorem k16 : (Rows.redoNeedRow.loops == (Try.f9.params.toList ++ Rows.redoNeedSpec.plain.varTypes Try.pinned.checked.prog).any (Try.pinned.checked.prog.loopsFrom ·)) = true := by kernel_rfl
theorem k17 : (Rows.redoNeedRow.wideKeys == (Try.f9.params.toList ++ Rows.redoNeedSpec.plain.varTypes Try.pinned.checked.prog ++ Try.f9.resultTypes.toList).any (Try.pinned.checked.prog.wideKeysFrom ·)) = true := by kernel_rfl
theorem k18 : Rows.redoNeedSpec.vars.all (Try.pinned.checked.prog.varReadable ·) = true := by kernel_rfl
theorem k19 : Try.f9.resultTypes.all (fun t => Try.pinned.checked.prog.readableRec t && decide (t < Try.pinned.checked.prog.types.size)) = true := by kernel_rfl
theorem k20 : (Rows.redoNeedRow.ifacesOut == Try.f9.resultTypes.toList.any (Try.pinned.checked.prog.ifacesRec ·)) = true := by kernel_rfl
theorem k21 : (Rows.redoNeedRow.loopsOut == Try.f9.resultTypes.toList.any (Try.pinned.checked.prog.loopsFrom ·)) = true := by kernel_rfl
theorem k22 : (Rows.redoNeedRow.plainKeys == Try.pinned.checked.prog.plainKeys) = true := by kernel_rfl
theorem k23 : Rows.redoNeedRow.shortTexts.isNone = true := by kernel_rfl
theorem k24 : Try.pinned.checked.prog.stopsHeard = true := by kernel_rfl
theorem k28 : (Rows.redoNeedRow.kinds == (if Rows.redoNeedRow.domain.isEmpty then [] else Try.f9.params.toList.map fun t => match Try.pinned.checked.prog.underlying t with | some (.int k) => some k | _ => none)) = true := by kernel_rfl
theorem k29 : (Rows.redoNeedRow.pinned == Rows.redoNeedRow.pinnedBy) = true := by kernel_rfl
theorem k30 : (Rows.redoNeedRow.veiled == (Try.f9.params.toList ++ Rows.redoNeedSpec.plain.varTypes Try.pinned.checked.prog ++ Try.f9.resultTypes.toList).any (Try.pinned.checked.prog.veiledRec ·)) = true := by kernel_rfl
theorem k31 : Rows.redoNeedRow.veiledFits Try.pinned.checked.prog Try.f9.params.toList (Try.f9.params.toList ++ Rows.redoNeedSpec.plain.varTypes Try.pinned.checked.prog ++ Try.f9.resultTypes.toList) = true := by kernel_rfl
set_option maxRecDepth 100000 in
theorem closed : joinedFacts Try.pinned.checked.prog 9 Try.f9 Rows.redoNeedSpec Rows.redoNeedRow = true := by
  unfold joinedFacts
  exact seat.and_mk (seat.and_mk (seat.and_mk (seat.and_mk (seat.and_mk (seat.and_mk (seat.and_mk (seat.and_mk (seat.and_mk (seat.and_mk (seat.and_mk (seat.and_mk (seat.and_mk (seat.and_mk (seat.and_mk (seat.and_mk (seat.and_mk (seat.and_mk (seat.and_mk (seat.and_mk (seat.and_mk (seat.and_mk (seat.and_mk (seat.and_mk (seat.and_mk (seat.and_mk (seat.and_mk (seat.and_mk (seat.and_mk (seat.and_mk (seat.and_mk k0 seat.laid) seat.rowed) k3) k4) k5) k6) k7) k8) k9) k10) k11) k12) k13) k14) k15) k16) k17) k18) k19) k20) k21) k22) k23) k24) seat.may) seat.lifts) seat.make) k28) k29) k30) k31

theorem over : Rows.redoNeedRow.holds Try.pinned (OpenSpec.ofChange Rows.redoNeedSpec) :=
  OpenClaim.holds_of_wide 9 Try.f9 rfl rfl rfl rfl rfl rfl rfl ⟨rfl, rfl, rfl, rfl, rfl⟩ rfl rfl rfl rfl rfl (by kernel_rfl) Try.func9 closed
    (of_decide_eq_true (by kernel_rfl)) (by unfold Func.isWrapper; first | (rw [if_pos (by decide +kernel)]; kernel_rfl) | (rw [if_neg (by decide +kernel)]; exact ⟨rfl, rfl⟩))
    (fun os started H enc _ => lifted os started H enc)

/-- The statement. -/
theorem proved : Rows.RedoNeedSaid := over
#print axioms proved
end Go.Proofs.Ytffakdoobeegpaa.redoNeed
