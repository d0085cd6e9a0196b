/- scullionlaw22.HeapNil: whatever number and writes: a heap that there isn't answers ErrArg (or zero values) to each call, and of no device none is opened. No condition. -/
import Derived.Test.YtcfbanfbldionaaGreatHeapNilQ21
import Derived.Test.YtcfbanfbldionaaGreatHeapNilQ3
import Derived.Test.YtcfbanfbldionaaGreatSeat
import Derived.Test.YtcfbanfbldionaaGreatSeatB
import Derived.Test.YtcfbanfbldionaaGreatSeatC
import Derived.WalkKit
import Derived.ProofKit
import Derived.OpenShut
import Derived.ShutString
import Derived.ChangeOld
import Derived.Below
namespace Go.Proofs.YtcfbanfbldionaaGreat.heapNil
open Go.ChangeShapes Go.WideShapes Go.ChangeAt Go.RowKit
open Go.Sl (open_nums)
set_option linter.unusedVariables false

set_option maxRecDepth 100000 in
theorem lifted (os : Os) (started : os.Started) (H : Type) (enc : TypeId × Value → H) :
    ReturnsInHanded {} Tryz.checked os 9 .any (Rows.heapNilSpec.pre6 enc Tryz.prog Tryz.f9 Rows.heapNilRow.domain false) (Rows.heapNilSpec.post enc Tryz.prog Tryz.f9 false true false false) := by
  refine returnsInHanded_of_change (C := Tryz.checked) seat.own started (by kernel_rfl) Tryz.func9
    (ChangeSpec.witness6 (enc := enc) (C := Tryz.checked) false ⟨#[], #[.int .i64 0, .slice none 0 0], []⟩ 9 (by kernel_rfl) (by kernel_rfl) (by kernel_rfl) (by kernel_rfl)) ?_
  intro W base args ds gs before hval0 hW hcnd _
  have hval : ∀ (j : Nat) t v, Tryz.f9.params[j]? = some t → args[j]? = some v → Value.okWide Tryz.prog W .any base t v := hval0
  have hW' := hW
  obtain ⟨p, q, hA0, hV, rfl, hfz, hnd⟩ := hW
  have hA : DataW.TrodAll enc Tryz.prog W 0 (fun _ => true) true Tryz.f9.params.toList args.toList ds p := hA0
  rw [Tryz.params9] at hA hval
  obtain ⟨v0, vs0, d0, ds0, p0, q0, hargs, rfl, rfl, h0, r0⟩ := trodAll_cons hA
  obtain ⟨v1, vs1, d1, ds1, p1, q1, rfl, rfl, rfl, h1, r1⟩ := trodAll_cons r0
  obtain ⟨rfl, rfl, rfl⟩ := trodAll_nil r1
  obtain rfl : args = #[v0, v1] := by cases args; simp_all
  obtain ⟨rfl, rfl⟩ := trodVars_none hV
  obtain ⟨a0, rfl, rfl, rfl, w0⟩ := open_int Tryz.underlying3 (hval 0 3 v0 rfl rfl) h0
  obtain ⟨o1, len1, c1, rfl⟩ := okWide_slice Tryz.underlying42 (hval 1 42 v1 rfl rfl)
  have k1 := h1
  have lt1 : ∀ x ∈ p1, x.block < W.heap.size := by obtain ⟨m, hm⟩ := k1; exact DataW.trod_lt m _ _ _ hm
  clear hA0 hval0
  refine (Scul.heapNil_walk W a0 o1 len1 c1 (Scul.i64_wf w0)).mono fun e W' ⟨he, h⟩ => ?_
  have bel := Scul.below_of_old' h
  subst he
  exact ⟨_, rfl, _, _, _, [], _, [], hW', trodAll_mk1 (shut_bool Tryz.underlying4 _), (trodAll_cons_mk (shut_int Tryz.underlying3 w0) (trodAll_cons_mk (Below.trod seat.laidOut (by kernel_rfl) (of_decide_eq_true (by kernel_rfl)) k1 bel lt1) trodAll_mk0)), rfl, bel.frame _, fun h => by cases h⟩

theorem k0 : Rows.heapNilRow.wf (OpenSpec.ofChange Rows.heapNilSpec) = true := by kernel_rfl
theorem k3 : Tryz.f9.params.all (Tryz.pinned.checked.prog.readableRec ·) = true := by kernel_rfl
theorem k4 : namedTie Tryz.pinned.checked.prog Rows.heapNilRow.named Rows.heapNilSpec.vars = true := by kernel_rfl
theorem k5 : (Rows.heapNilRow.stops == []) = true := by kernel_rfl
theorem k6 : (Tryz.pinned.checked.prog.stops == []) = true := by kernel_rfl
theorem k7 : (Rows.heapNilRow.knobs == []) = true := by kernel_rfl
theorem k8 : (Tryz.pinned.checked.prog.stopKnobs == []) = true := by kernel_rfl
theorem k9 : (Rows.heapNilRow.inPlace == Tryz.pinned.checked.prog.inPlace 9) = true := by kernel_rfl
theorem k10 : (Rows.heapNilRow.unfollowed == Tryz.pinned.checked.prog.unfollowed 9) = true := by kernel_rfl
theorem k11 : (Rows.heapNilRow.recurses == Tryz.pinned.checked.prog.recurses 9) = true := by kernel_rfl
theorem k12 : (Rows.heapNilRow.named == Tryz.pinned.checked.prog.varsNamed 9) = true := by kernel_rfl
theorem k13 : (Rows.heapNilRow.maps == (Tryz.f9.params.toList ++ Rows.heapNilSpec.plain.varTypes Tryz.pinned.checked.prog).any (Tryz.pinned.checked.prog.mapsRec ·)) = true := by kernel_rfl
theorem k14 : (Rows.heapNilRow.ifaces == (Tryz.f9.params.toList ++ Rows.heapNilSpec.plain.varTypes Tryz.pinned.checked.prog).any (Tryz.pinned.checked.prog.ifacesRec ·)) = true := by kernel_rfl
theorem k15 : (Rows.heapNilRow.mapsOut == Tryz.pinned.checked.prog.mapsAmong Tryz.f9.resultTypes.toList) = true := by kernel_rfl
theorem k16 : (Rows.heapNilRow.loops == (Tryz.f9.params.toList ++ Rows.heapNilSpec.plain.varTypes Tryz.pinned.checked.prog).any (Tryz.pinned.checked.prog.loopsFrom ·)) = true := by kernel_rfl
theorem k17 : (Rows.heapNilRow.wideKeys == (Tryz.f9.params.toList ++ Rows.heapNilSpec.plain.varTypes Tryz.pinned.checked.prog ++ Tryz.f9.resultTypes.toList).any (Tryz.pinned.checked.prog.wideKeysFrom ·)) = true := by kernel_rfl
theorem k18 : Rows.heapNilSpec.vars.all (Tryz.pinned.checked.prog.varReadable ·) = true := by kernel_rfl
theorem k19 : Tryz.f9.resultTypes.all (fun t => Tryz.pinned.checked.prog.readableRec t && decide (t < Tryz.pinned.checked.prog.types.size)) = true := by kernel_rfl
theorem k20 : (Rows.heapNilRow.ifacesOut == Tryz.f9.resultTypes.toList.any (Tryz.pinned.checked.prog.ifacesRec ·)) = true := by kernel_rfl
theorem k21 : (Rows.heapNilRow.loopsOut == Tryz.f9.resultTypes.toList.any (Tryz.pinned.checked.prog.loopsFrom ·)) = true := by kernel_rfl
theorem k22 : (Rows.heapNilRow.plainKeys == Tryz.pinned.checked.prog.plainKeys) = true := by kernel_rfl
theorem k23 : Rows.heapNilRow.shortTexts.isNone = true := by kernel_rfl
theorem k24 : Tryz.pinned.checked.prog.stopsHeard = true := by kernel_rfl
theorem k28 : (Rows.heapNilRow.kinds == (if Rows.heapNilRow.domain.isEmpty then [] else Tryz.f9.params.toList.map fun t => match Tryz.pinned.checked.prog.underlying t with | some (.int k) => some k | _ => none)) = true := by kernel_rfl
theorem k29 : (Rows.heapNilRow.pinned == Rows.heapNilRow.pinnedBy) = true := by kernel_rfl
theorem k30 : (Rows.heapNilRow.veiled == (Tryz.f9.params.toList ++ Rows.heapNilSpec.plain.varTypes Tryz.pinned.checked.prog ++ Tryz.f9.resultTypes.toList).any (Tryz.pinned.checked.prog.veiledRec ·)) = true := by kernel_rfl
theorem k31 : Rows.heapNilRow.veiledFits Tryz.pinned.checked.prog Tryz.f9.params.toList (Tryz.f9.params.toList ++ Rows.heapNilSpec.plain.varTypes Tryz.pinned.checked.prog ++ Tryz.f9.resultTypes.toList) = true := by kernel_rfl
set_option maxRecDepth 100000 in
theorem closed : joinedFacts Tryz.pinned.checked.prog 9 Tryz.f9 Rows.heapNilSpec Rows.heapNilRow = true := by
  unfold joinedFacts
  exact seat.and_mk (seat.and_mk (seat.and_mk (seat.and_mk (seat.and_mk (seat.and_mk (seat.and_mk (seat.and_mk (seat.and_mk (seat.and_mk (seat.and_mk (seat.and_mk (seat.and_mk (seat.and_mk (seat.and_mk (seat.and_mk (seat.and_mk (seat.and_mk (seat.and_mk (seat.and_mk (seat.and_mk (seat.and_mk (seat.and_mk (seat.and_mk (seat.and_mk (seat.and_mk (seat.and_mk (seat.and_mk (seat.and_mk (seat.and_mk (seat.and_mk k0 seat.laid) seat.rowed) k3) k4) k5) k6) k7) k8) k9) k10) k11) k12) k13) k14) k15) k16) k17) k18) k19) k20) k21) k22) k23) k24) seat.may) seat.lifts) seat.make) k28) k29) k30) k31

theorem over : Rows.heapNilRow.holds Tryz.pinned (OpenSpec.ofChange Rows.heapNilSpec) :=
  OpenClaim.holds_of_wide 9 Tryz.f9 rfl rfl rfl rfl rfl rfl rfl ⟨rfl, rfl, rfl, rfl, rfl⟩ rfl rfl rfl rfl rfl (by kernel_rfl) Tryz.func9 closed
    (of_decide_eq_true (by kernel_rfl)) (by unfold Func.isWrapper; first | (rw [if_pos (by decide +kernel)]; kernel_rfl) | (rw [if_neg (by decide +kernel)]; exact ⟨rfl, rfl⟩))
    (fun os started H enc _ => lifted os started H enc)

/-- The statement. -/
theorem proved : Rows.HeapNilSaid := over
#print axioms proved
end Go.Proofs.YtcfbanfbldionaaGreat.heapNil
