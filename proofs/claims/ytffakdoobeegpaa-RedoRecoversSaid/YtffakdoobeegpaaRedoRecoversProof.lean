/- scullionlaw4.RedoRecovers: whatever words, mark and entries as a log, area and fuse: what Recover and Clean answer, the steps, and each word behind a crash are what the document says. No condition. -/
import Derived.Test.YtffakdoobeegpaaRedoRecovers
import Derived.Test.YtffakdoobeegpaaArgs
import Derived.Test.YtffakdoobeegpaaSeat
import Derived.Test.YtffakdoobeegpaaSeatB
import Derived.Test.YtffakdoobeegpaaSeatC
import Derived.WalkKit
import Derived.ProofKit
import Derived.OpenShut
import Derived.ShutString
import Derived.ChangeOld
import Derived.Below
namespace Go.Proofs.Ytffakdoobeegpaa.redoRecovers
open Go.ChangeShapes Go.WideShapes Go.ChangeAt Go.RowKit
open Go.Sl (open_nums)
set_option linter.unusedVariables false

set_option maxRecDepth 100000 in
theorem lifted (os : Os) (started : os.Started) (H : Type) (enc : TypeId × Value → H) :
    ReturnsInHanded {} Try.checked os 19 .any (Rows.redoRecoversSpec.pre6 enc Try.prog Try.f19 Rows.redoRecoversRow.domain false) (Rows.redoRecoversSpec.post enc Try.prog Try.f19 false true false false) := by
  refine returnsInHanded_of_change (C := Try.checked) seat.own started (by kernel_rfl) Try.func19
    (ChangeSpec.witness6 (enc := enc) (C := Try.checked) false ⟨#[], #[.slice none 0 0, .int .i64 0, .int .i64 0, .int .u64 0, .slice none 0 0, .int .i64 0], []⟩ 19 (by kernel_rfl) (by kernel_rfl) (by kernel_rfl) (by kernel_rfl)) ?_
  intro W base args ds gs before hval0 hW hcnd _
  have hval : ∀ (j : Nat) t v, Try.f19.params[j]? = some t → args[j]? = some v → Value.okWide Try.prog W .any base t v := hval0
  have hW' := hW
  obtain ⟨p, q, hA0, hV, rfl, hfz, hnd⟩ := hW
  have hA : DataW.TrodAll enc Try.prog W 0 (fun _ => true) true Try.f19.params.toList args.toList ds p := hA0
  rw [Try.params19] at hA hval
  obtain ⟨v0, vs0, d0, ds0, p0, q0, hargs, rfl, rfl, h0, r0⟩ := trodAll_cons hA
  obtain ⟨v1, vs1, d1, ds1, p1, q1, rfl, rfl, rfl, h1, r1⟩ := trodAll_cons r0
  obtain ⟨v2, vs2, d2, ds2, p2, q2, rfl, rfl, rfl, h2, r2⟩ := trodAll_cons r1
  obtain ⟨v3, vs3, d3, ds3, p3, q3, rfl, rfl, rfl, h3, r3⟩ := trodAll_cons r2
  obtain ⟨v4, vs4, d4, ds4, p4, q4, rfl, rfl, rfl, h4, r4⟩ := trodAll_cons r3
  obtain ⟨v5, vs5, d5, ds5, p5, q5, rfl, rfl, rfl, h5, r5⟩ := trodAll_cons r4
  obtain ⟨rfl, rfl, rfl⟩ := trodAll_nil r5
  obtain rfl : args = #[v0, v1, v2, v3, v4, v5] := by cases args; simp_all
  obtain ⟨rfl, rfl⟩ := trodVars_none hV
  obtain ⟨o0, len0, c0, rfl⟩ := okWide_slice Try.underlying23 (hval 0 23 v0 rfl rfl)
  have k0 := h0
  have lt0 : ∀ x ∈ p0, x.block < W.heap.size := by obtain ⟨m, hm⟩ := k0; exact DataW.trod_lt m _ _ _ hm
  obtain ⟨l0, rfl, rd0, w0⟩ := open_nums Try.underlying23 Try.underlying27 (by kernel_rfl) h0
  obtain ⟨a1, rfl, rfl, rfl, w1⟩ := open_int Try.underlying3 (hval 1 3 v1 rfl rfl) h1
  obtain ⟨a2, rfl, rfl, rfl, w2⟩ := open_int Try.underlying3 (hval 2 3 v2 rfl rfl) h2
  obtain ⟨a3, rfl, rfl, rfl, w3⟩ := open_int Try.underlying27 (hval 3 27 v3 rfl rfl) h3
  obtain ⟨o4, len4, c4, rfl⟩ := okWide_slice Try.underlying55 (hval 4 55 v4 rfl rfl)
  have k4 := h4
  have lt4 : ∀ x ∈ p4, x.block < W.heap.size := by obtain ⟨m, hm⟩ := k4; exact DataW.trod_lt m _ _ _ hm
  obtain ⟨l4, rfl, rd4⟩ := Scul.open_entries h4
  obtain ⟨a5, rfl, rfl, rfl, w5⟩ := open_int Try.underlying3 (hval 5 3 v5 rfl rfl) h5
  clear hA0 hval0
  refine (Scul.redoRecovers_walk W l0 o0 c0 a1 a2 a3 l4 o4 c4 a5 rd0 (fun x hx => Scul.u64_wf (w0 x hx)) (Scul.i64_wf w1) (Scul.i64_wf w2) (Scul.u64_wf w3) rd4 (Scul.i64_wf w5)).mono fun e W' ⟨he, h⟩ => ?_
  have bel := Scul.below_of_old' h
  subst he
  exact ⟨_, rfl, _, _, _, [], _, [], hW', trodAll_mk1 (shut_bool Try.underlying4 _), (trodAll_cons_mk (Below.trod seat.laidOut (by kernel_rfl) (of_decide_eq_true (by kernel_rfl)) k0 bel lt0) (trodAll_cons_mk (shut_int Try.underlying3 w1) (trodAll_cons_mk (shut_int Try.underlying3 w2) (trodAll_cons_mk (shut_int Try.underlying27 w3) (trodAll_cons_mk (Below.trod seat.laidOut (by kernel_rfl) (of_decide_eq_true (by kernel_rfl)) k4 bel lt4) (trodAll_cons_mk (shut_int Try.underlying3 w5) trodAll_mk0)))))), rfl, bel.frame _, fun h => by cases h⟩

theorem k0 : Rows.redoRecoversRow.wf (OpenSpec.ofChange Rows.redoRecoversSpec) = true := by kernel_rfl
theorem k3 : Try.f19.params.all (Try.pinned.checked.prog.readableRec ·) = true := by kernel_rfl
theorem k4 : namedTie Try.pinned.checked.prog Rows.redoRecoversRow.named Rows.redoRecoversSpec.vars = true := by kernel_rfl
theorem k5 : (Rows.redoRecoversRow.stops == []) = true := by kernel_rfl
theorem k6 : (Try.pinned.checked.prog.stops == []) = true := by kernel_rfl
theorem k7 : (Rows.redoRecoversRow.knobs == []) = true := by kernel_rfl
theorem k8 : (Try.pinned.checked.prog.stopKnobs == []) = true := by kernel_rfl
theorem k9 : (Rows.redoRecoversRow.inPlace == Try.pinned.checked.prog.inPlace 19) = true := by kernel_rfl
theorem k10 : (Rows.redoRecoversRow.unfollowed == Try.pinned.checked.prog.unfollowed 19) = true := by kernel_rfl
theorem k11 : (Rows.redoRecoversRow.recurses == Try.pinned.checked.prog.recurses 19) = true := by kernel_rfl
theorem k12 : (Rows.redoRecoversRow.named == Try.pinned.checked.prog.varsNamed 19) = true := by kernel_rfl
theorem k13 : (Rows.redoRecoversRow.maps == (Try.f19.params.toList ++ Rows.redoRecoversSpec.plain.varTypes Try.pinned.checked.prog).any (Try.pinned.checked.prog.mapsRec ·)) = true := by kernel_rfl
theorem k14 : (Rows.redoRecoversRow.ifaces == (Try.f19.params.toList ++ Rows.redoRecoversSpec.plain.varTypes Try.pinned.checked.prog).any (Try.pinned.checked.prog.ifacesRec ·)) = true := by kernel_rfl
theorem k15 : (Rows.redoRecoversRow.mapsOut == Try.pinned.checked.prog.mapsAmong Try.f19.resultTypes.toList) = true := by kernel_rfl
theorem k16 : (Rows.redoRecoversRow.loops == (Try.f19.params.toList ++ Rows.redoRecoversSpec.plain.varTypes Try.pinned.checked.prog).any (Try.pinned.checked.prog.loopsFrom ·)) = true := by kernel_rfl
theorem k17 : (Rows.redoRecoversRow.wideKeys == (Try.f19.params.toList ++ Rows.redoRecoversSpec.plain.varTypes Try.pinned.checked.prog ++ Try.f19.resultTypes.toList).any (Try.pinned.checked.prog.wideKeysFrom ·)) = true := by kernel_rfl
theorem k18 : Rows.redoRecoversSpec.vars.all (Try.pinned.checked.prog.varReadable ·) = true := by kernel_rfl
theorem k19 : Try.f19.resultTypes.all (fun t => Try.pinned.checked.prog.readableRec t && decide (t < Try.pinned.checked.prog.types.size)) = true := by kernel_rfl
theorem k20 : (Rows.redoRecoversRow.ifacesOut == Try.f19.resultTypes.toList.any (Try.pinned.checked.prog.ifacesRec ·)) = true := by kernel_rfl
theorem k21 : (Rows.redoRecoversRow.loopsOut == Try.f19.resultTypes.toList.any (Try.pinned.checked.prog.loopsFrom ·)) = true := by kernel_rfl
theorem k22 : (Rows.redoRecoversRow.plainKeys == Try.pinned.checked.prog.plainKeys) = true := by kernel_rfl
theorem k23 : Rows.redoRecoversRow.shortTexts.isNone = true := by kernel_rfl
theorem k24 : Try.pinned.checked.prog.stopsHeard = true := by kernel_rfl
theorem k28 : (Rows.redoRecoversRow.kinds == (if Rows.redoRecoversRow.domain.isEmpty then [] else Try.f19.params.toList.map fun t => match Try.pinned.checked.prog.underlying t with | some (.int k) => some k | _ => none)) = true := by kernel_rfl
theorem k29 : (Rows.redoRecoversRow.pinned == Rows.redoRecoversRow.pinnedBy) = true := by kernel_rfl
theorem k30 : (Rows.redoRecoversRow.veiled == (Try.f19.params.toList ++ Rows.redoRecoversSpec.plain.varTypes Try.pinned.checked.prog ++ Try.f19.resultTypes.toList).any (Try.pinned.checked.prog.veiledRec ·)) = true := by kernel_rfl
theorem k31 : Rows.redoRecoversRow.veiledFits Try.pinned.checked.prog Try.f19.params.toList (Try.f19.params.toList ++ Rows.redoRecoversSpec.plain.varTypes Try.pinned.checked.prog ++ Try.f19.resultTypes.toList) = true := by kernel_rfl
set_option maxRecDepth 100000 in
theorem closed : joinedFacts Try.pinned.checked.prog 19 Try.f19 Rows.redoRecoversSpec Rows.redoRecoversRow = true := by
  unfold joinedFacts
  exact seat.and_mk (seat.and_mk (seat.and_mk (seat.and_mk (seat.and_mk (seat.and_mk (seat.and_mk (seat.and_mk (seat.and_mk (seat.and_mk (seat.and_mk (seat.and_mk (seat.and_mk (seat.and_mk (seat.and_mk (seat.and_mk (seat.and_mk (seat.and_mk (seat.and_mk (seat.and_mk (seat.and_mk (seat.and_mk (seat.and_mk (seat.and_mk (seat.and_mk (seat.and_mk (seat.and_mk (seat.and_mk (seat.and_mk (seat.and_mk (seat.and_mk k0 seat.laid) seat.rowed) k3) k4) k5) k6) k7) k8) k9) k10) k11) k12) k13) k14) k15) k16) k17) k18) k19) k20) k21) k22) k23) k24) seat.may) seat.lifts) seat.make) k28) k29) k30) k31

theorem over : Rows.redoRecoversRow.holds Try.pinned (OpenSpec.ofChange Rows.redoRecoversSpec) :=
  OpenClaim.holds_of_wide 19 Try.f19 rfl rfl rfl rfl rfl rfl rfl ⟨rfl, rfl, rfl, rfl, rfl⟩ rfl rfl rfl rfl rfl (by kernel_rfl) Try.func19 closed
    (of_decide_eq_true (by kernel_rfl)) (by unfold Func.isWrapper; first | (rw [if_pos (by decide +kernel)]; kernel_rfl) | (rw [if_neg (by decide +kernel)]; exact ⟨rfl, rfl⟩))
    (fun os started H enc _ => lifted os started H enc)

/-- The statement. -/
theorem proved : Rows.RedoRecoversSaid := over
#print axioms proved
end Go.Proofs.Ytffakdoobeegpaa.redoRecovers
