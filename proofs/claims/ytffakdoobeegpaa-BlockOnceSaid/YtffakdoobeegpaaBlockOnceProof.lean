/- scullionlaw7.BlockOnce: NO BLOCK TWICE: whatever config, used blocks and numbers of words: what is reserved is neither used nor reserved, and big enough; each is told till there is none; what is published and released is as it was. No condition. -/
import Derived.Test.YtffakdoobeegpaaBlockOnceQ8
import Derived.Test.YtffakdoobeegpaaBlockOnceQ3
import Derived.Test.YtffakdoobeegpaaSeat
import Derived.Test.YtffakdoobeegpaaSeatB
import Derived.Test.YtffakdoobeegpaaSeatC
import Derived.WalkKit
import Derived.ProofKit
import Derived.OpenShut
import Derived.ShutString
import Derived.ChangeOld
import Derived.Below
namespace Go.Proofs.Ytffakdoobeegpaa.blockOnce
open Go.ChangeShapes Go.WideShapes Go.ChangeAt Go.RowKit
open Go.Sl (open_nums)
set_option linter.unusedVariables false

set_option maxRecDepth 100000 in
theorem lifted (os : Os) (started : os.Started) (H : Type) (enc : TypeId × Value → H) :
    ReturnsInHanded {} Try.checked os 22 .any (Rows.blockOnceSpec.pre6 enc Try.prog Try.f22 Rows.blockOnceRow.domain false) (Rows.blockOnceSpec.post enc Try.prog Try.f22 false true false false) := by
  refine returnsInHanded_of_change (C := Try.checked) seat.own started (by kernel_rfl) Try.func22
    (ChangeSpec.witness6 (enc := enc) (C := Try.checked) false ⟨#[], #[.agg #[.int .i64 0, .int .i64 0, .int .i64 0, .int .i64 0], .slice none 0 0, .slice none 0 0], []⟩ 22 (by kernel_rfl) (by kernel_rfl) (by kernel_rfl) (by kernel_rfl)) ?_
  intro W base args ds gs before hval0 hW hcnd _
  have hval : ∀ (j : Nat) t v, Try.f22.params[j]? = some t → args[j]? = some v → Value.okWide Try.prog W .any base t v := hval0
  have hW' := hW
  obtain ⟨p, q, hA0, hV, rfl, hfz, hnd⟩ := hW
  have hA : DataW.TrodAll enc Try.prog W 0 (fun _ => true) true Try.f22.params.toList args.toList ds p := hA0
  rw [Try.params22] at hA hval
  obtain ⟨v0, vs0, d0, ds0, p0, q0, hargs, rfl, rfl, h0, r0⟩ := trodAll_cons hA
  obtain ⟨v1, vs1, d1, ds1, p1, q1, rfl, rfl, rfl, h1, r1⟩ := trodAll_cons r0
  obtain ⟨v2, vs2, d2, ds2, p2, q2, rfl, rfl, rfl, h2, r2⟩ := trodAll_cons r1
  obtain ⟨rfl, rfl, rfl⟩ := trodAll_nil r2
  obtain rfl : args = #[v0, v1, v2] := by cases args; simp_all
  obtain ⟨rfl, rfl⟩ := trodVars_none hV
  have k0 := h0
  have lt0 : ∀ x ∈ p0, x.block < W.heap.size := by obtain ⟨m, hm⟩ := k0; exact DataW.trod_lt m _ _ _ hm
  obtain ⟨a0, b0, c0, e0, rfl⟩ := Scul.open_a4 (hval 0 65 v0 rfl rfl) h0
  obtain ⟨o1, len1, c1, rfl⟩ := okWide_slice Try.underlying23 (hval 1 23 v1 rfl rfl)
  have k1 := h1
  have lt1 : ∀ x ∈ p1, x.block < W.heap.size := by obtain ⟨m, hm⟩ := k1; exact DataW.trod_lt m _ _ _ hm
  obtain ⟨l1, rfl, rd1, w1⟩ := open_nums Try.underlying23 Try.underlying27 (by kernel_rfl) h1
  obtain ⟨o2, len2, c2, rfl⟩ := okWide_slice Try.underlying66 (hval 2 66 v2 rfl rfl)
  have k2 := h2
  have lt2 : ∀ x ∈ p2, x.block < W.heap.size := by obtain ⟨m, hm⟩ := k2; exact DataW.trod_lt m _ _ _ hm
  obtain ⟨l2, rfl, rd2, w2⟩ := open_nums Try.underlying66 Try.underlying3 (by kernel_rfl) h2
  clear hA0 hval0
  refine (Scul.blockOnce_walk W a0 b0 c0 e0 l1 o1 c1 l2 o2 c2 rd1 (fun x hx => Scul.u64_wf (w1 x hx)) rd2 (fun x hx => Scul.i64_wf (w2 x hx))).mono fun e W' ⟨he, h⟩ => ?_
  have bel := Scul.below_of_old' h
  subst he
  exact ⟨_, rfl, _, _, _, [], _, [], hW', trodAll_mk1 (shut_bool Try.underlying4 _), (trodAll_cons_mk (Below.trod seat.laidOut (by kernel_rfl) (of_decide_eq_true (by kernel_rfl)) k0 bel lt0) (trodAll_cons_mk (Below.trod seat.laidOut (by kernel_rfl) (of_decide_eq_true (by kernel_rfl)) k1 bel lt1) (trodAll_cons_mk (Below.trod seat.laidOut (by kernel_rfl) (of_decide_eq_true (by kernel_rfl)) k2 bel lt2) trodAll_mk0))), rfl, bel.frame _, fun h => by cases h⟩

theorem k0 : Rows.blockOnceRow.wf (OpenSpec.ofChange Rows.blockOnceSpec) = true := by kernel_rfl
theorem k3 : Try.f22.params.all (Try.pinned.checked.prog.readableRec ·) = true := by kernel_rfl
theorem k4 : namedTie Try.pinned.checked.prog Rows.blockOnceRow.named Rows.blockOnceSpec.vars = true := by kernel_rfl
theorem k5 : (Rows.blockOnceRow.stops == []) = true := by kernel_rfl
theorem k6 : (Try.pinned.checked.prog.stops == []) = true := by kernel_rfl
theorem k7 : (Rows.blockOnceRow.knobs == []) = true := by kernel_rfl
theorem k8 : (Try.pinned.checked.prog.stopKnobs == []) = true := by kernel_rfl
theorem k9 : (Rows.blockOnceRow.inPlace == Try.pinned.checked.prog.inPlace 22) = true := by kernel_rfl
theorem k10 : (Rows.blockOnceRow.unfollowed == Try.pinned.checked.prog.unfollowed 22) = true := by kernel_rfl
theorem k11 : (Rows.blockOnceRow.recurses == Try.pinned.checked.prog.recurses 22) = true := by kernel_rfl
theorem k12 : (Rows.blockOnceRow.named == Try.pinned.checked.prog.varsNamed 22) = true := by kernel_rfl
theorem k13 : (Rows.blockOnceRow.maps == (Try.f22.params.toList ++ Rows.blockOnceSpec.plain.varTypes Try.pinned.checked.prog).any (Try.pinned.checked.prog.mapsRec ·)) = true := by kernel_rfl
theorem k14 : (Rows.blockOnceRow.ifaces == (Try.f22.params.toList ++ Rows.blockOnceSpec.plain.varTypes Try.pinned.checked.prog).any (Try.pinned.checked.prog.ifacesRec ·)) = true := by kernel_rfl
theorem k15 : (Rows.blockOnceRow.mapsOut == Try.pinned.checked.prog.mapsAmong Try.f22.resultTypes.toList) = true := by kernel_rfl
theorem k16 : (Rows.blockOnceRow.loops == (Try.f22.params.toList ++ Rows.blockOnceSpec.plain.varTypes Try.pinned.checked.prog).any (Try.pinned.checked.prog.loopsFrom ·)) = true := by kernel_rfl
theorem k17 : (Rows.blockOnceRow.wideKeys == (Try.f22.params.toList ++ Rows.blockOnceSpec.plain.varTypes Try.pinned.checked.prog ++ Try.f22.resultTypes.toList).any (Try.pinned.checked.prog.wideKeysFrom ·)) = true := by kernel_rfl
theorem k18 : Rows.blockOnceSpec.vars.all (Try.pinned.checked.prog.varReadable ·) = true := by kernel_rfl
theorem k19 : Try.f22.resultTypes.all (fun t => Try.pinned.checked.prog.readableRec t && decide (t < Try.pinned.checked.prog.types.size)) = true := by kernel_rfl
theorem k20 : (Rows.blockOnceRow.ifacesOut == Try.f22.resultTypes.toList.any (Try.pinned.checked.prog.ifacesRec ·)) = true := by kernel_rfl
theorem k21 : (Rows.blockOnceRow.loopsOut == Try.f22.resultTypes.toList.any (Try.pinned.checked.prog.loopsFrom ·)) = true := by kernel_rfl
theorem k22 : (Rows.blockOnceRow.plainKeys == Try.pinned.checked.prog.plainKeys) = true := by kernel_rfl
theorem k23 : Rows.blockOnceRow.shortTexts.isNone = true := by kernel_rfl
theorem k24 : Try.pinned.checked.prog.stopsHeard = true := by kernel_rfl
theorem k28 : (Rows.blockOnceRow.kinds == (if Rows.blockOnceRow.domain.isEmpty then [] else Try.f22.params.toList.map fun t => match Try.pinned.checked.prog.underlying t with | some (.int k) => some k | _ => none)) = true := by kernel_rfl
theorem k29 : (Rows.blockOnceRow.pinned == Rows.blockOnceRow.pinnedBy) = true := by kernel_rfl
theorem k30 : (Rows.blockOnceRow.veiled == (Try.f22.params.toList ++ Rows.blockOnceSpec.plain.varTypes Try.pinned.checked.prog ++ Try.f22.resultTypes.toList).any (Try.pinned.checked.prog.veiledRec ·)) = true := by kernel_rfl
theorem k31 : Rows.blockOnceRow.veiledFits Try.pinned.checked.prog Try.f22.params.toList (Try.f22.params.toList ++ Rows.blockOnceSpec.plain.varTypes Try.pinned.checked.prog ++ Try.f22.resultTypes.toList) = true := by kernel_rfl
set_option maxRecDepth 100000 in
theorem closed : joinedFacts Try.pinned.checked.prog 22 Try.f22 Rows.blockOnceSpec Rows.blockOnceRow = true := by
  unfold joinedFacts
  exact seat.and_mk (seat.and_mk (seat.and_mk (seat.and_mk (seat.and_mk (seat.and_mk (seat.and_mk (seat.and_mk (seat.and_mk (seat.and_mk (seat.and_mk (seat.and_mk (seat.and_mk (seat.and_mk (seat.and_mk (seat.and_mk (seat.and_mk (seat.and_mk (seat.and_mk (seat.and_mk (seat.and_mk (seat.and_mk (seat.and_mk (seat.and_mk (seat.and_mk (seat.and_mk (seat.and_mk (seat.and_mk (seat.and_mk (seat.and_mk (seat.and_mk k0 seat.laid) seat.rowed) k3) k4) k5) k6) k7) k8) k9) k10) k11) k12) k13) k14) k15) k16) k17) k18) k19) k20) k21) k22) k23) k24) seat.may) seat.lifts) seat.make) k28) k29) k30) k31

theorem over : Rows.blockOnceRow.holds Try.pinned (OpenSpec.ofChange Rows.blockOnceSpec) :=
  OpenClaim.holds_of_wide 22 Try.f22 rfl rfl rfl rfl rfl rfl rfl ⟨rfl, rfl, rfl, rfl, rfl⟩ rfl rfl rfl rfl rfl (by kernel_rfl) Try.func22 closed
    (of_decide_eq_true (by kernel_rfl)) (by unfold Func.isWrapper; first | (rw [if_pos (by decide +kernel)]; kernel_rfl) | (rw [if_neg (by decide +kernel)]; exact ⟨rfl, rfl⟩))
    (fun os started H enc _ => lifted os started H enc)

/-- The statement. -/
theorem proved : Rows.BlockOnceSaid := over
#print axioms proved
end Go.Proofs.Ytffakdoobeegpaa.blockOnce
