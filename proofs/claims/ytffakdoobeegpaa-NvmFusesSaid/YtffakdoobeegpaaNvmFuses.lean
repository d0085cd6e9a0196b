/- scullionlaw3.NvmFuses: whatever calls and number: with a fuse of n steps the power goes at just the nth step, each call from there on answers ErrDown and none before does, and a crash brings the power back. No condition. -/
import Derived.Test.YtffakdoobeegpaaNvmK
import Derived.Test.YtffakdoobeegpaaNvmL
import Derived.Deep.RegionHeld3
namespace Scul
open Go Go.Sl Go.RowKit Go.Proofs
section
variable {E : Env} {F : HP}
set_option maxRecDepth 100000 in
set_option maxHeartbeats 4000000 in
theorem nvmFuses_walk (w : World) (l : List CallA) (ao : Option Addr) (c : Nat) (n0 : Int) (hl : RdC w (.slice ao l.length c) l) (_ : I64 n0) :
    Calls Try.prog 5 #[.slice ao l.length c, .int .i64 n0] w fun e w' => e = .returned (.bool true) ∧ Sat w.env w' (old w) := by
  have hs := Sat.init w
  have HL := Lib.hid hl
  clear hl
  go_enter Try.func5, Try.ntmps5
  go_wp2_with fail
  obtain ⟨j, hj, hj30⟩ := Dev.pick_idx n0 30 (by omega) (by omega)
  replace hj : wrap64 ((IntKind.u64.wrap n0).tmod 30) = (j : Int) := hj
  obtain ⟨n, hn⟩ : ∃ n : Nat, n = j + 1 := ⟨_, rfl⟩
  have hj2 : wrap64 ((j : Int) + 1) = (n : Int) := by unfold wrap64; omega
  rw [hj, hj2]
  have hn1 : 0 < n := by omega
  have hn2 : n ≤ 30 := by omega
  clear hj hj2 hj30 hn
  refine (new_nat _ 24 (by omega) hs).mono ?_
  rintro e w1 ⟨b, rfl, h1⟩
  go_wp2_with fail
  refine (fuse_calls _ n (by omega) h1).mono ?_
  rintro e w2 ⟨rfl, h2⟩
  have hinv := Dev.fuse_new 24 n hn1
  generalize (Dev.new 24).setFuse n = d0 at *
  clear h1
  go_wp2_with fail
  go_loopw [6, 7] (fun kv iv wr => ∃ (k i : Nat) (d : Dev), k ≤ i ∧ i ≤ 60 ∧ kv = .int .i64 k ∧ iv = .int .i64 i ∧ Dev.FuseInv n k d ∧ Sat w.env wr (dev b d * old w)) (fun _ iv _ => 60 - (intOf iv).toNat)
  case atStart => exact ⟨0, 0, _, Nat.le_refl _, Nat.zero_le _, rfl, rfl, hinv, h2⟩
  case round =>
    clear hinv h2 d0
    obtain ⟨k, i, d, hki, hi, rfl, rfl, hinv, hw⟩ := hrel
    have HI := Lib.hid hinv
    clear hinv
    by_cases hlt : i < l.length ∧ i < 60
    · obtain ⟨hlt, hlt2⟩ := hlt
      obtain ⟨bb, o, rfl, c0, c1, c2, c3⟩ := RdC.nth (HL.out.old hw.right) i hlt
      have hx : U64 l[i].word := HL.out.2 _ (List.getElem_mem hlt)
      have hk : ∀ W, Sat w.env W (old w) → W.cell? ⟨bb, o + i * 4 + 1, none⟩ = some (.int .i64 l[i].at_) ∧ W.cell? ⟨bb, o + i * 4 + 2, none⟩ = some (.int .u64 l[i].word) := by
        intro W hW
        obtain ⟨bb', o', hbo, _, q1, q2, _⟩ := RdC.nth (HL.out.old hW) i hlt
        cases hbo
        exact ⟨q1, q2⟩
      obtain ⟨cc, hcc⟩ : ∃ cc, cc = l[i] := ⟨_, rfl⟩
      rw [← hcc] at c0 c1 c2 c3 hx hk
      have HK := Lib.hid hk
      clear hk
      obtain ⟨ca, cat, cw, cp⟩ := cc
      simp only at c0 c1 c2 c3 hx HK
      clear hcc
      have hme : 60 - (intOf (Value.int IntKind.i64 (i + 1))).toNat < 60 - (intOf (Value.int IntKind.i64 i)).toNat := by simp only [intOf]; omega
      have HME := Lib.hid hme
      clear hme
      rcases (show ca = 0 ∨ ca = 1 ∨ ca = 2 ∨ (ca ≠ 0 ∧ ca ≠ 1 ∧ ca ≠ 2) from by omega) with rfl | rfl | rfl | ⟨q0, q1, q2⟩
      · go_wp2_with fail
        go_region_held3 (fun W => W.cell? ⟨bb, o + i * 4 + 1, none⟩ = some (.int .i64 cat) ∧ W.cell? ⟨bb, o + i * 4 + 2, none⟩ = some (.int .u64 cw))
          (first | exact ⟨c1, c2⟩ | exact ⟨d1, d2⟩)
          ((go_at_call 24; refine (store_calls _ cat cw hx hw.drew).mono ?_; rintro e w2 ⟨rfl, h2⟩; obtain ⟨d1, d2⟩ := HK.out _ h2.right))
        clear d1 d2
        obtain ⟨d', hd'⟩ : ∃ d', d' = d.store cat cw := ⟨_, rfl⟩
        obtain ⟨e', he'⟩ : ∃ e', e' = d.storeE cat := ⟨_, rfl⟩
        have hinv' : Dev.FuseInv n (k + 1) d' := by rw [hd']; exact Dev.fuse_store HI.out (by omega) _ _
        have hE : Dev.FuseE n (k + 1) e' := by rw [he']; exact (Dev.fuse_E HI.out (by omega)).1 _
        rw [← hd'] at h2
        rw [← he']
        clear hd' he' HI hw
        have HI' := Lib.hid hinv'
        have hst : d'.steps = k + 1 := hinv'.1
        by_cases hnk : n ≤ k + 1
        · have hdn : d'.down = true := by rw [hinv'.2.1]; simpa using hnk
          have he7 : e' = 7 := hE.2 hnk
          have hge : (n : Int) ≤ k + 1 := by omega
          subst he7
          clear hinv' hE hnk
          go_wp2_with fail
          refine (steps_calls _ h2).mono ?_
          rintro e w3 ⟨rfl, rfl⟩
          rw [hst]
          go_wp2_with fail
          refine (down_calls _ h2).mono ?_
          rintro e w3 ⟨rfl, rfl⟩
          rw [hdn]
          go_wp2_with fail
          exact ⟨⟨k + 1, i + 1, d', by omega, by omega, rfl, rfl, HI'.out, h2⟩, HME.out⟩
        · have hdn : d'.down = false := by rw [hinv'.2.1]; simpa using hnk
          have he7 : (e' == 7) = false := by rw [beq_eq_false_iff_ne]; exact fun h => hnk (hE.1 h)
          have hge : (k : Int) + 1 < n := by omega
          clear hinv' hE hnk
          go_wp2_with fail
          refine (steps_calls _ h2).mono ?_
          rintro e w3 ⟨rfl, rfl⟩
          rw [hst]
          go_wp2_with fail
          refine (down_calls _ h2).mono ?_
          rintro e w3 ⟨rfl, rfl⟩
          rw [hdn]
          go_wp2_with fail
          exact ⟨⟨k + 1, i + 1, d', by omega, by omega, rfl, rfl, HI'.out, h2⟩, HME.out⟩
      · go_wp2_with fail
        refine (flush_calls _ _ hw).mono ?_
        rintro e w2 ⟨rfl, h2⟩
        obtain ⟨d', hd'⟩ : ∃ d', d' = d.flush cat := ⟨_, rfl⟩
        obtain ⟨e', he'⟩ : ∃ e', e' = d.flushE cat := ⟨_, rfl⟩
        have hinv' : Dev.FuseInv n (k + 1) d' := by rw [hd']; exact Dev.fuse_flush HI.out (by omega) _
        have hE : Dev.FuseE n (k + 1) e' := by rw [he']; exact (Dev.fuse_E HI.out (by omega)).2.1 _
        rw [← hd'] at h2
        rw [← he']
        clear hd' he' HI hw
        have HI' := Lib.hid hinv'
        have hst : d'.steps = k + 1 := hinv'.1
        by_cases hnk : n ≤ k + 1
        · have hdn : d'.down = true := by rw [hinv'.2.1]; simpa using hnk
          have he7 : e' = 7 := hE.2 hnk
          have hge : (n : Int) ≤ k + 1 := by omega
          subst he7
          clear hinv' hE hnk
          go_wp2_with fail
          refine (steps_calls _ h2).mono ?_
          rintro e w3 ⟨rfl, rfl⟩
          rw [hst]
          go_wp2_with fail
          refine (down_calls _ h2).mono ?_
          rintro e w3 ⟨rfl, rfl⟩
          rw [hdn]
          go_wp2_with fail
          exact ⟨⟨k + 1, i + 1, d', by omega, by omega, rfl, rfl, HI'.out, h2⟩, HME.out⟩
        · have hdn : d'.down = false := by rw [hinv'.2.1]; simpa using hnk
          have he7 : (e' == 7) = false := by rw [beq_eq_false_iff_ne]; exact fun h => hnk (hE.1 h)
          have hge : (k : Int) + 1 < n := by omega
          clear hinv' hE hnk
          go_wp2_with fail
          refine (steps_calls _ h2).mono ?_
          rintro e w3 ⟨rfl, rfl⟩
          rw [hst]
          go_wp2_with fail
          refine (down_calls _ h2).mono ?_
          rintro e w3 ⟨rfl, rfl⟩
          rw [hdn]
          go_wp2_with fail
          exact ⟨⟨k + 1, i + 1, d', by omega, by omega, rfl, rfl, HI'.out, h2⟩, HME.out⟩
      · go_wp2_with fail
        refine (fence_calls _ hw).mono ?_
        rintro e w2 ⟨rfl, h2⟩
        obtain ⟨d', hd'⟩ : ∃ d', d' = d.fence := ⟨_, rfl⟩
        obtain ⟨e', he'⟩ : ∃ e', e' = d.fenceE := ⟨_, rfl⟩
        have hinv' : Dev.FuseInv n (k + 1) d' := by rw [hd']; exact Dev.fuse_fence HI.out (by omega)
        have hE : Dev.FuseE n (k + 1) e' := by rw [he']; exact (Dev.fuse_E HI.out (by omega)).2.2
        rw [← hd'] at h2
        rw [← he']
        clear hd' he' HI hw
        have HI' := Lib.hid hinv'
        have hst : d'.steps = k + 1 := hinv'.1
        by_cases hnk : n ≤ k + 1
        · have hdn : d'.down = true := by rw [hinv'.2.1]; simpa using hnk
          have he7 : e' = 7 := hE.2 hnk
          have hge : (n : Int) ≤ k + 1 := by omega
          subst he7
          clear hinv' hE hnk
          go_wp2_with fail
          refine (steps_calls _ h2).mono ?_
          rintro e w3 ⟨rfl, rfl⟩
          rw [hst]
          go_wp2_with fail
          refine (down_calls _ h2).mono ?_
          rintro e w3 ⟨rfl, rfl⟩
          rw [hdn]
          go_wp2_with fail
          exact ⟨⟨k + 1, i + 1, d', by omega, by omega, rfl, rfl, HI'.out, h2⟩, HME.out⟩
        · have hdn : d'.down = false := by rw [hinv'.2.1]; simpa using hnk
          have he7 : (e' == 7) = false := by rw [beq_eq_false_iff_ne]; exact fun h => hnk (hE.1 h)
          have hge : (k : Int) + 1 < n := by omega
          clear hinv' hE hnk
          go_wp2_with fail
          refine (steps_calls _ h2).mono ?_
          rintro e w3 ⟨rfl, rfl⟩
          rw [hst]
          go_wp2_with fail
          refine (down_calls _ h2).mono ?_
          rintro e w3 ⟨rfl, rfl⟩
          rw [hdn]
          go_wp2_with fail
          exact ⟨⟨k + 1, i + 1, d', by omega, by omega, rfl, rfl, HI'.out, h2⟩, HME.out⟩
      · have q0 : (ca == 0) = false := by simpa using q0
        have q1 : (ca == 1) = false := by simpa using q1
        have q2 : (ca == 2) = false := by simpa using q2
        go_wp2_with fail
        exact ⟨⟨k, i + 1, d, by omega, by omega, rfl, rfl, HI.out, hw⟩, HME.out⟩
    rcases (show (l.length : Int) ≤ i ∨ ((i : Int) < l.length ∧ 60 ≤ i) from by omega) with q | ⟨q, q2⟩
    all_goals
      clear hki hi HL hlt HI
      go_wp2_with fail
      refine (crash_calls _ _ [] (by simp) (fun W _ => Rd.empty W 1) hw).mono ?_
      rintro e w3 ⟨rfl, h3⟩
      have hup := Dev.up_crash d []
      generalize d.crash [] = d3 at *
      go_wp2_with fail
      refine (down_calls _ h3).mono ?_
      rintro e w4 ⟨rfl, rfl⟩
      rw [hup.1]
      go_wp2_with fail
      refine (fence_calls _ h3).mono ?_
      rintro e w5 ⟨rfl, h5⟩
      rw [Dev.fence_upE hup]
      go_wp2_with fail
      refine (awake3_calls _ h5).mono ?_
      rintro e w6 ⟨rfl, h6⟩
      go_wp2_with fail
      go_ret
      exact ⟨rfl, h6.right⟩
end
end Scul
