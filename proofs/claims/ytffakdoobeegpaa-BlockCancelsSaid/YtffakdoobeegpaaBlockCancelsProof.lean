/- scullionlaw7.BlockCancels: whatever config, used blocks and number of words: what is reserved and cancelled is as it was; the same is reserved again. No condition. -/
import Derived.Test.YtffakdoobeegpaaBlockCancelsQ7
import Derived.Test.YtffakdoobeegpaaBlockCancelsQ3
import Derived.Test.YtffakdoobeegpaaSeat
import Derived.Test.YtffakdoobeegpaaSeatB
import Derived.Test.YtffakdoobeegpaaSeatC
import Derived.WalkKit
import Derived.ProofKit
import Derived.OpenShut
import Derived.ShutString
import Derived.ChangeOld
import Derived.Below
namespace Go.Proofs.Ytffakdoobeegpaa.blockCancels
open Go.ChangeShapes Go.WideShapes Go.ChangeAt Go.RowKit
open Go.Sl (open_nums)
set_option linter.unusedVariables false

set_option maxRecDepth 100000 in
theorem lifted (os : Os) (started : os.Started) (H : Type) (enc : TypeId × Value → H) :
    ReturnsInHanded {} Try.checked os 14 .any (Rows.blockCancelsSpec.pre6 enc Try.prog Try.f14 Rows.blockCancelsRow.domain false) (Rows.blockCancelsSpec.post enc Try.prog Try.f14 false true false false) := by
  refine returnsInHanded_of_change (C := Try.checked) seat.own started (by kernel_rfl) Try.func14
    (ChangeSpec.witness6 (enc := enc) (C := Try.checked) false ⟨#[], #[.agg #[.int .i64 0, .int .i64 0, .int .i64 0, .int .i64 0], .slice none 0 0, .int .i64 0], []⟩ 14 (by kernel_rfl) (by kernel_rfl) (by kernel_rfl) (by kernel_rfl)) ?_
  intro W base args ds gs before hval0 hW hcnd _
  have hval : ∀ (j : Nat) t v, Try.f14.params[j]? = some t → args[j]? = some v → Value.okWide Try.prog W .any base t v := hval0
  have hW' := hW
  obtain ⟨p, q, hA0, hV, rfl, hfz, hnd⟩ := hW
  have hA : DataW.TrodAll enc Try.prog W 0 (fun _ => true) true Try.f14.params.toList args.toList ds p := hA0
  rw [Try.params14] at hA hval
  obtain ⟨v0, vs0, d0, ds0, p0, q0, hargs, rfl, rfl, h0, r0⟩ := trodAll_cons hA
  obtain ⟨v1, vs1, d1, ds1, p1, q1, rfl, rfl, rfl, h1, r1⟩ := trodAll_cons r0
  obtain ⟨v2, vs2, d2, ds2, p2, q2, rfl, rfl, rfl, h2, r2⟩ := trodAll_cons r1
  obtain ⟨rfl, rfl, rfl⟩ := trodAll_nil r2
  obtain rfl : args = #[v0, v1, v2] := by cases args; simp_all
  obtain ⟨rfl, rfl⟩ := trodVars_none hV
  have k0 := h0
  have lt0 : ∀ x ∈ p0, x.block < W.heap.size := by obtain ⟨m, hm⟩ := k0; exact DataW.trod_lt m _ _ _ hm
  obtain ⟨a0, b0, c0, e0, rfl⟩ := Scul.open_a4 (hval 0 65 v0 rfl rfl) h0
  obtain ⟨o1, len1, c1, rfl⟩ := okWide_slice Try.underlying23 (hval 1 23 v1 rfl rfl)
  have k1 := h1
  have lt1 : ∀ x ∈ p1, x.block < W.heap.size := by obtain ⟨m, hm⟩ := k1; exact DataW.trod_lt m _ _ _ hm
  obtain ⟨l1, rfl, rd1, w1⟩ := open_nums Try.underlying23 Try.underlying27 (by kernel_rfl) h1
  obtain ⟨a2, rfl, rfl, rfl, w2⟩ := open_int Try.underlying3 (hval 2 3 v2 rfl rfl) h2
  clear hA0 hval0
  refine (Scul.blockCancels_walk W a0 b0 c0 e0 l1 o1 c1 a2 rd1 (fun x hx => Scul.u64_wf (w1 x hx)) (Scul.i64_wf w2)).mono fun e W' ⟨he, h⟩ => ?_
  have bel := Scul.below_of_old' h
  subst he
  exact ⟨_, rfl, _, _, _, [], _, [], hW', trodAll_mk1 (shut_bool Try.underlying4 _), (trodAll_cons_mk (Below.trod seat.laidOut (by kernel_rfl) (of_decide_eq_true (by kernel_rfl)) k0 bel lt0) (trodAll_cons_mk (Below.trod seat.laidOut (by kernel_rfl) (of_decide_eq_true (by kernel_rfl)) k1 bel lt1) (trodAll_cons_mk (shut_int Try.underlying3 w2) trodAll_mk0))), rfl, bel.frame _, fun h => by cases h⟩

theorem k0 : Rows.blockCancelsRow.wf (OpenSpec.ofChange Rows.blockCancelsSpec) = true := by kernel_rfl
theorem k3 : Try.f14.params.all (Try.pinned.checked.prog.readableRec ·) = true := by kernel_rfl
theorem k4 : namedTie Try.pinned.checked.prog Rows.blockCancelsRow.named Rows.blockCancelsSpec.vars = true := by kernel_rfl
theorem k5 : (Rows.blockCancelsRow.stops == []) = true := by kernel_rfl
theorem k6 : (Try.pinned.checked.prog.stops == []) = true := by kernel_rfl
theorem k7 : (Rows.blockCancelsRow.knobs == []) = true := by kernel_rfl
theorem k8 : (Try.pinned.checked.prog.stopKnobs == []) = true := by kernel_rfl
theorem k9 : (Rows.blockCancelsRow.inPlace == Try.pinned.checked.prog.inPlace 14) = true := by kernel_rfl
theorem k10 : (Rows.blockCancelsRow.unfollowed == Try.pinned.checked.prog.unfollowed 14) = true := by kernel_rfl
theorem k11 : (Rows.blockCancelsRow.recurses == Try.pinned.checked.prog.recurses 14) = true := by kernel_rfl
theorem k12 : (Rows.blockCancelsRow.named == Try.pinned.checked.prog.varsNamed 14) = true := by kernel_rfl
theorem k13 : (Rows.blockCancelsRow.maps == (Try.f14.params.toList ++ Rows.blockCancelsSpec.plain.varTypes Try.pinned.checked.prog).any (Try.pinned.checked.prog.mapsRec ·)) = true := by kernel_rfl
theorem k14 : (Rows.blockCancelsRow.ifaces == (Try.f14.params.toList ++ Rows.blockCancelsSpec.plain.varTypes Try.pinned.checked.prog).any (Try.pinned.checked.prog.ifacesRec ·)) = true := by kernel_rfl
theorem k15 : (Rows.blockCancelsRow.mapsOut == Try.pinned.checked.prog.mapsAmong Try.f14.resultTypes.toList) = true := by kernel_rfl
theorem k16 : (Rows.blockCancelsRow.loops == (Try.f14.params.toList ++ Rows.blockCancelsSpec.plain.varTypes Try.pinned.checked.prog).any (Try.pinned.checked.prog.loopsFrom ·)) = true := by kernel_rfl
theorem k17 : (Rows.blockCancelsRow.wideKeys == (Try.f14.params.toList ++ Rows.blockCancelsSpec.plain.varTypes Try.pinned.checked.prog ++ Try.f14.resultTypes.toList).any (Try.pinned.checked.prog.wideKeysFrom ·)) = true := by kernel_rfl
theorem k18 : Rows.blockCancelsSpec.vars.all (Try.pinned.checked.prog.varReadable ·) = true := by kernel_rfl
theorem k19 : Try.f14.resultTypes.all (fun t => Try.pinned.checked.prog.readableRec t && decide (t < Try.pinned.checked.prog.types.size)) = true := by kernel_rfl
theorem k20 : (Rows.blockCancelsRow.ifacesOut == Try.f14.resultTypes.toList.any (Try.pinned.checked.prog.ifacesRec ·)) = true := by kernel_rfl
theorem k21 : (Rows.blockCancelsRow.loopsOut == Try.f14.resultTypes.toList.any (Try.pinned.checked.prog.loopsFrom ·)) = true := by kernel_rfl
theorem k22 : (Rows.blockCancelsRow.plainKeys == Try.pinned.checked.prog.plainKeys) = true := by kernel_rfl
theorem k23 : Rows.blockCancelsRow.shortTexts.isNone = true := by kernel_rfl
theorem k24 : Try.pinned.checked.prog.stopsHeard = true := by kernel_rfl
theorem k28 : (Rows.blockCancelsRow.kinds == (if Rows.blockCancelsRow.domain.isEmpty then [] else Try.f14.params.toList.map fun t => match Try.pinned.checked.prog.underlying t with | some (.int k) => some k | _ => none)) = true := by kernel_rfl
theorem k29 : (Rows.blockCancelsRow.pinned == Rows.blockCancelsRow.pinnedBy) = true := by kernel_rfl
theorem k30 : (Rows.blockCancelsRow.veiled == (Try.f14.params.toList ++ Rows.blockCancelsSpec.plain.varTypes Try.pinned.checked.prog ++ Try.f14.resultTypes.toList).any (Try.pinned.checked.prog.veiledRec ·)) = true := by kernel_rfl
theorem k31 : Rows.blockCancelsRow.veiledFits Try.pinned.checked.prog Try.f14.params.toList (Try.f14.params.toList ++ Rows.blockCancelsSpec.plain.varTypes Try.pinned.checked.prog ++ Try.f14.resultTypes.toList) = true := by kernel_rfl
set_option maxRecDepth 100000 in
theorem closed : joinedFacts Try.pinned.checked.prog 14 Try.f14 Rows.blockCancelsSpec Rows.blockCancelsRow = true := by
  unfold joinedFacts
  exact seat.and_mk (seat.and_mk (seat.and_mk (seat.and_mk (seat.and_mk (seat.and_mk (seat.and_mk (seat.and_mk (seat.and_mk (seat.and_mk (seat.and_mk (seat.and_mk (seat.and_mk (seat.and_mk (seat.and_mk (seat.and_mk (seat.and_mk (seat.and_mk (seat.and_mk (seat.and_mk (seat.and_mk (seat.and_mk (seat.and_mk (seat.and_mk (seat.and_mk (seat.and_mk (seat.and_mk (seat.and_mk (seat.and_mk (seat.and_mk (seat.and_mk k0 seat.laid) seat.rowed) k3) k4) k5) k6) k7) k8) k9) k10) k11) k12) k13) k14) k15) k16) k17) k18) k19) k20) k21) k22) k23) k24) seat.may) seat.lifts) seat.make) k28) k29) k30) k31

theorem over : Rows.blockCancelsRow.holds Try.pinned (OpenSpec.ofChange Rows.blockCancelsSpec) :=
  OpenClaim.holds_of_wide 14 Try.f14 rfl rfl rfl rfl rfl rfl rfl ⟨rfl, rfl, rfl, rfl, rfl⟩ rfl rfl rfl rfl rfl (by kernel_rfl) Try.func14 closed
    (of_decide_eq_true (by kernel_rfl)) (by unfold Func.isWrapper; first | (rw [if_pos (by decide +kernel)]; kernel_rfl) | (rw [if_neg (by decide +kernel)]; exact ⟨rfl, rfl⟩))
    (fun os started H enc _ => lifted os started H enc)

/-- The statement. -/
theorem proved : Rows.BlockCancelsSaid := over
#print axioms proved
end Go.Proofs.Ytffakdoobeegpaa.blockCancels
