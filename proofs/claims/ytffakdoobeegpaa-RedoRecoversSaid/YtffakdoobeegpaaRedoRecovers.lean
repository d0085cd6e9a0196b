/- scullionlaw4.RedoRecovers: whatever words, mark and entries as a log, area and fuse: what Recover and Clean answer, the steps, and each word behind a crash are what the document says. No condition. -/
import Derived.Test.YtffakdoobeegpaaRedoWrites
import Derived.Test.YtffakdoobeegpaaRedoP
namespace Scul
open Go Go.Sl Go.RowKit Go.Proofs
namespace Dev
theorem run_len (d : Dev) (ops : List DOp) : (d.run ops).1.read.length = d.read.length := by
  induction ops generalizing d with
  | nil => rfl
  | cons o r ih =>
    rw [run_cons]
    split
    · rw [ih, op_len]
    · exact op_len d o
end Dev
theorem recover_len (d : Dev) (frm til : Int) : (Redo.recover d frm til).1.read.length = d.read.length := by
  unfold Redo.recover
  split
  · rfl
  · split
    · rfl
    · split <;> exact Dev.run_len _ _
section
variable {E : Env} {w : World} {F : HP} {b : Nat} {d : Dev}
set_option maxRecDepth 100000 in
set_option maxHeartbeats 8000000 in
theorem redoRecovers_walk (w : World) (lw : List Int) (ao : Option Addr) (c : Nat) (frm til mark : Int) (l : List Ent) (bo : Option Addr) (bc : Nat) (fuse : Int) (hrw : Rd w 1 (.slice ao lw.length c) lw.length (u64s lw)) (hU : ∀ x ∈ lw, U64 x)
    (hfI : I64 frm) (htI : I64 til) (hmk : U64 mark) (hrl : RdE w (.slice bo l.length bc) l) (hfu : I64 fuse) :
    Calls Try.prog 19 #[.slice ao lw.length c, .int .i64 frm, .int .i64 til, .int .u64 mark, .slice bo l.length bc, .int .i64 fuse] w fun e w' => e = .returned (.bool true) ∧ Sat w.env w' (old w) := by
  have hs := Sat.init w
  have hmw := hrw.most
  have hml := hrl.1.most
  have HRW := Lib.hid hrw; have HU := Lib.hid hU; have HFI := Lib.hid hfI; have HTI := Lib.hid htI; have HRL := Lib.hid hrl; have HFU := Lib.hid hfu; have HMK := Lib.hid hmk
  clear hrw hU hfI htI hrl hfu hmk
  by_cases h1 : 120 < lw.length
  · have h1' : (120 : Int) < lw.length := by omega
    go_enter Try.func19, Try.ntmps19
    go_wp2_with fail
    refine (awake4_calls _ hs).mono ?_
    rintro e w1 ⟨rfl, h2⟩
    go_wp2_with fail
    go_ret
    exact ⟨rfl, h2⟩
  · have h1' : ¬ (120 : Int) < lw.length := by omega
    by_cases h2 : 40 < l.length
    · have h2' : (40 : Int) < l.length := by omega
      go_enter Try.func19, Try.ntmps19
      go_wp2_with fail
      refine (awake4_calls _ hs).mono ?_
      rintro e w1 ⟨rfl, h2⟩
      go_wp2_with fail
      go_ret
      exact ⟨rfl, h2⟩
    · have h2' : ¬ (40 : Int) < l.length := by omega
      have H00 : Hid (Sat w.env w (words (.slice none 0 0) [] * old w)) := Lib.hid (hs.row_nil 27 1)
      have B1 : Hid (([] : List Int).length + lw.length ≤ 1000000) := Lib.hid (by simp; omega)
      clear hs
      go_enter Try.func19, Try.ntmps19
      go_upto_region 4 with (at_builtin; refine wpl_app64 rfl _ _ rfl H00.out rfl HRW.out rfl B1.out ?_; intro r1 e1 a1 c1 w1 hA1)
      have hr1 : r1 = lw := by rw [e1.out]; rfl
      subst hr1
      have hsat := hA1
      have H1 := Lib.hid hA1
      clear H00 B1 e1 hA1
      have hl1 : r1.length ≤ 120 := by omega
      obtain ⟨B, hB⟩ : ∃ B, B = decide (0 ≤ frm ∧ frm < (r1.length : Int)) := ⟨_, rfl⟩
      have HB := Lib.hid hB
      go_cut [44] (fun s44 wx => s44 = .bool B ∧ wx = w1)
      case first =>
        clear hB
        by_cases hf0 : 0 ≤ frm
        · by_cases hf1 : frm < (r1.length : Int)
          · have hBt : B = true := by rw [HB.out]; simp [hf0, hf1]
            subst hBt
            go_wp2_with fail
            go_meet
            exact ⟨rfl, rfl⟩
          · have hBt : B = false := by rw [HB.out]; simp [hf1]
            subst hBt
            go_wp2_with fail
            go_meet
            exact ⟨by simp, rfl⟩
        · have hBt : B = false := by rw [HB.out]; simp [hf0]
          subst hBt
          go_wp2_with fail
          go_meet
          exact ⟨by simp, rfl⟩
      case rest =>
        obtain ⟨rfl, rfl⟩ := hcut
        rename World => w1
        clear hB
        go_upto_if 44 with fail
        go_cut [] (fun wx => ∃ wl : List Int, wl.length = r1.length ∧ (∀ x ∈ wl, U64 x) ∧ Sat w.env wx (words (.slice a1 r1.length c1) wl * old w))
        case first =>
          cases B with
          | false =>
            go_wp2_with fail
            go_meet
            exact ⟨r1, rfl, HU.out, H1.out⟩
          | true =>
            have hin := of_decide_eq_true HB.out.symm
            obtain ⟨f, rfl⟩ : ∃ f : Nat, frm = f := ⟨frm.toNat, by omega⟩
            have hfl : f < r1.length := by omega
            obtain ⟨ga, ca, heq, hca⟩ := words_at H1.out f hfl
            simp only [Value.slice.injEq, true_and] at heq
            obtain ⟨rfl, rfl⟩ := heq
            have cc := words_cell H1.out f hfl
            have ff := words_free H1.out f
            have h2 := words_set H1.out f mark hfl
            have hfi : (f : Int) < r1.length := by omega
            obtain ⟨wl, hwl⟩ : ∃ wl, wl = r1.set f mark := ⟨_, rfl⟩
            have hwll : wl.length = r1.length := by rw [hwl, List.length_set]
            have hwU : ∀ x ∈ wl, U64 x := by
              rw [hwl]
              intro x hx
              rcases List.mem_or_eq_of_mem_set hx with hx | rfl
              · exact HU.out x hx
              · exact HMK.out
            rw [← hwl] at h2
            have H2 := Lib.hid h2; have HWLL := Lib.hid hwll; have HWU := Lib.hid hwU
            clear h2 hwl hwll hwU hin HB hsat
            go_wp2_with fail
            clear cc ff
            go_loopw [51] (fun iv wr => ∃ (i : Nat) (wl : List Int), i ≤ l.length ∧ iv = .int .i64 i ∧ wl.length = r1.length ∧ (∀ x ∈ wl, U64 x) ∧ Sat w.env wr (words (.slice (some ⟨ga, 0, none⟩) r1.length c1) wl * old w)) (fun iv _ => l.length - (intOf iv).toNat)
            case atStart => exact ⟨0, wl, Nat.zero_le _, rfl, HWLL.out, HWU.out, H2.out⟩
            case round =>
              clear H2 HWLL HWU
              obtain ⟨i, wl, hi, rfl, hwll, hwU, hw⟩ := hrel
              have HWU := Lib.hid hwU
              clear hwU
              by_cases hlt : i < l.length
              · have hre := HRL.out.old hw.right
                obtain ⟨bb, o, rfl, c0, c1'⟩ := RdE.nth hre i hlt
                have hx : U64 l[i].word := hre.2.1 _ (List.getElem_mem hlt)
                obtain ⟨cat, hcat⟩ : ∃ x, x = l[i].at_ := ⟨_, rfl⟩
                obtain ⟨cw, hcw⟩ : ∃ x, x = l[i].word := ⟨_, rfl⟩
                rw [← hcat] at c0; rw [← hcw] at c1' hx
                clear hcat hcw hre
                obtain ⟨k, hk⟩ : ∃ k, k = f + 8 + 2 * i := ⟨_, rfl⟩
                have HKI : Hid ((f : Int) + 8 + 2 * (i : Int) = (k : Int)) := Lib.hid (by omega)
                have ha := hw.alloc (.cells #[.int .i64 cat, .int .u64 cw] 58)
                generalize hxb : wr.heap.size = xb at ha
                have x0 := ha.cell 0 rfl
                have x1 := ha.cell 1 rfl
                have hlti : (i : Int) < l.length := by omega
                have HX := Lib.hid hx; have HA := Lib.hid ha
                have hf40 : (f : Int) < 4096 := by omega
                clear hx hw ha
                by_cases hkl : k + 1 < r1.length
                · have hkl' : (k : Int) + 1 < r1.length := by omega
                  have hkk : k < r1.length := by omega
                  have hA0 : Sat w.env (wr.alloc (.cells #[.int .i64 cat, .int .u64 cw] 58)) (words (.slice (some ⟨ga, 0, none⟩) wl.length c1) wl * (pt xb (.cells #[.int .i64 cat, .int .u64 cw] 58) * old w)) := by rw [hwll]; exact Sat.swap HA.out
                  have hne : ga ≠ xb := by
                    obtain ⟨_, ⟨h0, _⟩ | ⟨g1, cap, cur, hv, _, _, _, _, hp⟩⟩ := Sat.row_cases hA0
                    · cases h0
                    · simp only [Value.slice.injEq, Option.some.injEq, Addr.mk.injEq, and_true, true_and] at hv
                      rw [hv.1]
                      exact Sat.apart hp
                  have hne2 : xb ≠ ga := fun h => hne h.symm
                  have ck := words_cell hA0 k (by omega)
                  have ck1 := words_cell hA0 (k + 1) (by omega)
                  have fk := words_free hA0 k
                  have fk1 := words_free hA0 (k + 1)
                  have h3 := words_set hA0 k (IntKind.u64.wrap cat) (by omega)
                  have hl3 : wl.length = (wl.set k (IntKind.u64.wrap cat)).length := by rw [List.length_set]
                  rw [hl3] at h3
                  have h4 := words_set h3 (k + 1) cw (by rw [List.length_set]; omega)
                  rw [← hl3, hwll] at h4
                  obtain ⟨wl2, hwl2⟩ : ∃ wl2, wl2 = (wl.set k (IntKind.u64.wrap cat)).set (k + 1) cw := ⟨_, rfl⟩
                  have hl2 : wl2.length = r1.length := by rw [hwl2, List.length_set, List.length_set, hwll]
                  have hU2 : ∀ x ∈ wl2, U64 x := by
                    rw [hwl2]
                    intro x hx
                    rcases List.mem_or_eq_of_mem_set hx with hx | rfl
                    · rcases List.mem_or_eq_of_mem_set hx with hx | rfl
                      · exact HWU.out x hx
                      · exact u64_wrap cat
                    · exact HX.out
                  rw [← hwl2] at h4
                  have H4 := Lib.hid (Sat.mid h4); have HL2 := Lib.hid hl2; have HU2 := Lib.hid hU2
                  have hk1 : ((k + 1 : Nat) : Int) = (k : Int) + 1 := by omega
                  clear h3 h4 hl3 hwl2 hl2 hU2 hA0 hwll hk
                  go_upto_region 10 with fail
                  rw [HKI.out]
                  go_wp2_with fail
                  go_region
                  all_goals go_wp2_with fail
                  all_goals exact ⟨⟨i + 1, wl2, by omega, rfl, HL2.out, HU2.out, H4.out⟩, by simp only [intOf]; omega⟩
                · have hkl' : ¬ (k : Int) + 1 < r1.length := by omega
                  have hkl4 : (r1.length : Int) ≤ (k : Int) + 1 := by omega
                  have hkl3 : decide ((k : Int) + 1 < (r1.length : Int)) = false := by simp; omega
                  have HK := Lib.hid hk
                  have hk9 : k ≤ 300 := by omega
                  clear hk
                  go_upto_region 10 with fail
                  rw [HKI.out]
                  go_wp2_with fail
                  exact ⟨⟨i + 1, wl, by omega, rfl, hwll, HWU.out, Sat.right HA.out⟩, by simp only [intOf]; omega⟩
              · obtain rfl : i = l.length := by omega
                go_wp2_with fail
                go_meet
                exact ⟨wl, hwll, HWU.out, hw⟩
        case rest =>
          obtain ⟨wl, hwll, hwU, hw⟩ := hcut
          have HWU := Lib.hid hwU
          rw [← hwll] at hw ⊢
          have hlw : wl.length ≤ 120 := by omega
          have HRD : Hid (∀ W, Sat w.env W (words (.slice a1 wl.length c1) wl * old w) → Rd W 1 (.slice a1 wl.length c1) wl.length (u64s wl)) := Lib.hid fun W hW => Sat.rd hW
          have hcl1 : wl.length = r1.length := hwll
          clear hwll hwU H1 hsat HB hcl1 hl1
          go_wp2_with fail
          refine (laid_calls _ wl a1 c1 (by omega) HWU.out HRD.out hw).mono ?_
          rintro e w2 ⟨b, r, rfl, h3⟩
          obtain ⟨F0, hF0⟩ : ∃ F0 : HP, F0 = words (.slice a1 wl.length c1) wl * old w := ⟨_, rfl⟩
          rw [← hF0] at h3
          obtain ⟨d1, hd1⟩ : ∃ d1, d1 = (Dev.laid wl).setFuse fuse := ⟨_, rfl⟩
          have HDL : Hid (d1.read.length = wl.length) := Lib.hid (by rw [hd1]; rfl)
          have HF0 := Lib.hid hF0
          clear hF0 HRD hw HRL
          go_upto_if 89 with fail
          go_cut [] (fun wx => Sat w.env wx (dev b d1 * (rdev r d1 * F0)))
          case first =>
            by_cases h0 : 0 < fuse
            · have HD := Lib.hid hd1
              clear hd1
              go_wp2_with fail
              refine (fuse_calls _ fuse HFU.out.2 h3).mono ?_
              rintro e w3 ⟨rfl, h4⟩
              obtain ⟨v0, cc, ff, h5⟩ := rfuse_set HFU.out h0 (Sat.swap h4)
              rw [← HD.out] at h5
              have H5 := Lib.hid (Sat.swap h5)
              clear h3 h4 h5
              go_wp2_with fail
              go_meet
              exact H5.out
            · have hd2 : d1 = Dev.laid wl := by rw [hd1]; exact setFuse_of rfl (by omega)
              rw [← hd2] at h3
              have H3 := Lib.hid h3
              clear hd1 hd2 h3
              go_wp2_with fail
              go_meet
              exact H3.out
          case rest =>
            have hC := hcut
            clear hd1 h3 hcut
            go_wp2_with fail
            refine (recover_calls _ frm til hC).mono ?_
            rintro e w3 ⟨rfl, h4⟩
            go_wp2_with fail
            refine (rrecover_calls _ frm til (Sat.swap h4)).mono ?_
            rintro e w4 ⟨rfl, h5⟩
            have HRLEN := Lib.hid (recover_len d1 frm til)
            obtain ⟨⟨d2, k2, e2⟩, hq⟩ : ∃ q, q = Redo.recover d1 frm til := ⟨_, rfl⟩
            rw [← hq] at h5 HRLEN ⊢
            simp only at h5 HRLEN ⊢
            have h6 : Sat w.env w4 (dev b d2 * (rdev r d2 * F0)) := Sat.swap h5
            have c2 := (rdev_cells h5).1
            have HST : Hid (∀ k, Calls Try.prog 34 #[.pointer (some ⟨b, 0, none⟩)] (w4.drewN k) fun e w' => e = .returned (.int .i64 d2.steps) ∧ w' = w4.drewN k) := Lib.hid fun k => steps_calls _ (h6.drewN k)
            have H6 := Lib.hid h6
            clear hq hC h4 h5 h6
            go_wp2_with fail
            go_quiet ((go_at_call 34; exact Calls.quiet_of_same (HST.out _)))
            rename Nat => nq
            have h7 := H6.out.drewN nq
            refine atSat _ h7 fun W h7 => ?_
            clear H6 HST c2
            go_wp2_with fail
            refine (clean_calls _ frm til h7).mono ?_
            rintro e w5 ⟨rfl, h8⟩
            go_wp2_with fail
            refine (rload_calls _ frm (Sat.swap h8)).mono ?_
            rintro e w6 ⟨rfl, rfl⟩
            obtain ⟨CE, hCE⟩ : ∃ C, C = Redo.cleanE d2 frm til := ⟨_, rfl⟩
            obtain ⟨CB, hCB⟩ : ∃ C, C = Redo.cleanB d2 frm til := ⟨_, rfl⟩
            obtain ⟨X, hX⟩ : ∃ X, X = d2.load frm := ⟨_, rfl⟩
            obtain ⟨Y, hY⟩ : ∃ Y, Y = d2.loadE frm := ⟨_, rfl⟩
            obtain ⟨M, hM⟩ : ∃ M, M = Redo.may d2 frm til := ⟨_, rfl⟩
            have e1 : CE = if M = false then 1 else Y := by rw [hCE, hM, hY]; rfl
            have e2 : CB = (decide (CE = 0) && decide (X = 0)) := by rw [hCB, hX, hCE]; rfl
            have e3 : M = decide (0 ≤ frm ∧ frm < til ∧ til ≤ (wl.length : Int) ∧ frm % 8 = 0) := by rw [hM]; unfold Redo.may; rw [HRLEN.out, HDL.out]
            rw [← hCE, ← hCB, ← hX, ← hY]
            have E1 := Lib.hid e1; have E2 := Lib.hid e2; have E3 := Lib.hid e3; have H8 := Lib.hid h8
            clear hCE hCB hX hY hM e1 e2 e3 h7 h8
            go_upto_region 23 with fail
            go_cut [158] (fun s wx => s = .bool (!M) ∧ wx = w6)
            case first =>
              have done : Hid (∀ B, M = B → Hid (M = B)) := Lib.hid fun B h => Lib.hid h
              by_cases a1 : frm < 0
              · have HM := done.out false (by rw [E3.out]; simp; omega)
                go_wp2_with fail
                go_meet
                exact ⟨by rw [HM.out]; rfl, rfl⟩
              · by_cases a2 : til ≤ frm
                · have HM := done.out false (by rw [E3.out]; simp; omega)
                  go_wp2_with fail
                  go_meet
                  exact ⟨by rw [HM.out]; rfl, rfl⟩
                · by_cases a3 : (wl.length : Int) < til
                  · have HM := done.out false (by rw [E3.out]; simp; omega)
                    go_wp2_with fail
                    go_meet
                    exact ⟨by rw [HM.out]; rfl, rfl⟩
                  · have hm : frm.tmod 8 = frm % 8 := Int.tmod_eq_emod_of_nonneg (by omega)
                    by_cases a4 : frm % 8 = 0
                    · have HM := done.out true (by rw [E3.out]; simp; omega)
                      rw [a4] at hm
                      clear a4
                      go_wp2_with fail
                      go_meet
                      exact ⟨by rw [HM.out]; rfl, rfl⟩
                    · have HM := done.out false (by rw [E3.out]; simp; omega)
                      have hm2 : ¬ frm.tmod 8 = 0 := by rw [hm]; exact a4
                      have hm3 : (frm.tmod 8 != 0) = true := by simpa using hm2
                      have HA4 := Lib.hid a4
                      clear a4 hm
                      go_wp2_with fail
                      go_meet
                      exact ⟨by rw [HM.out, show (frm % 8 != 0) = true by simpa using HA4.out]; rfl, rfl⟩
            case rest =>
              obtain ⟨rfl, rfl⟩ := hcut
              rename World => w6
              have RD0 : Hid (∀ W : World, Rd W 1 (.slice none 0 0) ([] : List Int).length (u8s [])) := Lib.hid fun W => ⟨rfl, Nat.zero_le _, .inl ⟨rfl, none, 0, rfl, fun _ => rfl⟩⟩
              cases M with
              | false =>
                have hCE : CE = 1 := by rw [E1.out]; rfl
                subst hCE
                have hCB : CB = false := by rw [E2.out]; rfl
                subst hCB
                go_wp2_with fail
                refine (crash_calls _ _ [] (by simp) (fun W hW => RD0.out W) H8.out).mono ?_
                rintro e w7 ⟨rfl, h7⟩
                go_wp2_with fail
                refine (rcrash_calls _ _ [] (by simp) (fun W hW => RD0.out W) (Sat.swap h7)).mono ?_
                rintro e w8 ⟨rfl, h8⟩
                have h9 : Sat w.env w8 (dev b (d2.crash []) * (rdev r (d2.crash []) * F0)) := Sat.swap h8
                generalize d2.crash [] = d3 at h9
                clear h7 h8
                go_wp2_with fail
                refine (wordsD_calls _ h9).mono ?_
                rintro e w9 ⟨v9, rfl, h10⟩
                go_wp2_with fail
                refine (rwords_calls _ (h10.ac (B := rdev r d3 * (words v9 d3.sure * (dev b d3 * F0))) (by ac_rfl))).mono ?_
                rintro e w10 ⟨v10, rfl, h11⟩
                have r9 : Rd w10 1 v9 d3.sure.length (u64s d3.sure) := h11.right.right.rd
                have r10 : Rd w10 1 v10 d3.sure.length (u64s d3.sure) := h11.rd
                go_wp2_with fail
                refine (same_calls _ _ _ _ _ r9 r10).mono ?_
                rintro e w11 ⟨rfl, n11, rfl⟩
                rw [decide_eq_true rfl]
                go_wp2_with fail
                have h12 : Sat w.env (w10.drewN n11) (old w) := by
                  have := (h11.right.right.right.right).drewN n11
                  rw [HF0.out] at this
                  exact this.right
                refine (awake4_calls _ h12).mono ?_
                rintro e w12 ⟨rfl, h13⟩
                go_wp2_with fail
                go_ret
                exact ⟨rfl, h13⟩
              | true =>
                have hCE : CE = Y := by rw [E1.out]; rfl
                have HCE := Lib.hid hCE
                subst hCE
                by_cases hy : CE = 0
                · by_cases hx : X = 0
                  · have hCB : CB = true := by rw [E2.out]; simp [hy, hx]
                    subst hCB hy hx
                    go_wp2_with fail
                    refine (crash_calls _ _ [] (by simp) (fun W hW => RD0.out W) H8.out).mono ?_
                    rintro e w7 ⟨rfl, h7⟩
                    go_wp2_with fail
                    refine (rcrash_calls _ _ [] (by simp) (fun W hW => RD0.out W) (Sat.swap h7)).mono ?_
                    rintro e w8 ⟨rfl, h8⟩
                    have h9 : Sat w.env w8 (dev b (d2.crash []) * (rdev r (d2.crash []) * F0)) := Sat.swap h8
                    generalize d2.crash [] = d3 at h9
                    clear h7 h8
                    go_wp2_with fail
                    refine (wordsD_calls _ h9).mono ?_
                    rintro e w9 ⟨v9, rfl, h10⟩
                    go_wp2_with fail
                    refine (rwords_calls _ (h10.ac (B := rdev r d3 * (words v9 d3.sure * (dev b d3 * F0))) (by ac_rfl))).mono ?_
                    rintro e w10 ⟨v10, rfl, h11⟩
                    have r9 : Rd w10 1 v9 d3.sure.length (u64s d3.sure) := h11.right.right.rd
                    have r10 : Rd w10 1 v10 d3.sure.length (u64s d3.sure) := h11.rd
                    go_wp2_with fail
                    refine (same_calls _ _ _ _ _ r9 r10).mono ?_
                    rintro e w11 ⟨rfl, n11, rfl⟩
                    rw [decide_eq_true rfl]
                    go_wp2_with fail
                    have h12 : Sat w.env (w10.drewN n11) (old w) := by
                      have := (h11.right.right.right.right).drewN n11
                      rw [HF0.out] at this
                      exact this.right
                    refine (awake4_calls _ h12).mono ?_
                    rintro e w12 ⟨rfl, h13⟩
                    go_wp2_with fail
                    go_ret
                    exact ⟨rfl, h13⟩
                  · have hCB : CB = false := by rw [E2.out]; simp [hx]
                    have hx2 : (X == 0) = false := by rw [beq_eq_false_iff_ne]; exact hx
                    subst hCB hy
                    go_wp2_with fail
                    refine (crash_calls _ _ [] (by simp) (fun W hW => RD0.out W) H8.out).mono ?_
                    rintro e w7 ⟨rfl, h7⟩
                    go_wp2_with fail
                    refine (rcrash_calls _ _ [] (by simp) (fun W hW => RD0.out W) (Sat.swap h7)).mono ?_
                    rintro e w8 ⟨rfl, h8⟩
                    have h9 : Sat w.env w8 (dev b (d2.crash []) * (rdev r (d2.crash []) * F0)) := Sat.swap h8
                    generalize d2.crash [] = d3 at h9
                    clear h7 h8
                    go_wp2_with fail
                    refine (wordsD_calls _ h9).mono ?_
                    rintro e w9 ⟨v9, rfl, h10⟩
                    go_wp2_with fail
                    refine (rwords_calls _ (h10.ac (B := rdev r d3 * (words v9 d3.sure * (dev b d3 * F0))) (by ac_rfl))).mono ?_
                    rintro e w10 ⟨v10, rfl, h11⟩
                    have r9 : Rd w10 1 v9 d3.sure.length (u64s d3.sure) := h11.right.right.rd
                    have r10 : Rd w10 1 v10 d3.sure.length (u64s d3.sure) := h11.rd
                    go_wp2_with fail
                    refine (same_calls _ _ _ _ _ r9 r10).mono ?_
                    rintro e w11 ⟨rfl, n11, rfl⟩
                    rw [decide_eq_true rfl]
                    go_wp2_with fail
                    have h12 : Sat w.env (w10.drewN n11) (old w) := by
                      have := (h11.right.right.right.right).drewN n11
                      rw [HF0.out] at this
                      exact this.right
                    refine (awake4_calls _ h12).mono ?_
                    rintro e w12 ⟨rfl, h13⟩
                    go_wp2_with fail
                    go_ret
                    exact ⟨rfl, h13⟩
                · have hCB : CB = false := by rw [E2.out]; simp [hy]
                  have hy2 : (CE == 0) = false := by rw [beq_eq_false_iff_ne]; exact hy
                  subst hCB
                  go_wp2_with fail
                  refine (crash_calls _ _ [] (by simp) (fun W hW => RD0.out W) H8.out).mono ?_
                  rintro e w7 ⟨rfl, h7⟩
                  go_wp2_with fail
                  refine (rcrash_calls _ _ [] (by simp) (fun W hW => RD0.out W) (Sat.swap h7)).mono ?_
                  rintro e w8 ⟨rfl, h8⟩
                  have h9 : Sat w.env w8 (dev b (d2.crash []) * (rdev r (d2.crash []) * F0)) := Sat.swap h8
                  generalize d2.crash [] = d3 at h9
                  clear h7 h8
                  go_wp2_with fail
                  refine (wordsD_calls _ h9).mono ?_
                  rintro e w9 ⟨v9, rfl, h10⟩
                  go_wp2_with fail
                  refine (rwords_calls _ (h10.ac (B := rdev r d3 * (words v9 d3.sure * (dev b d3 * F0))) (by ac_rfl))).mono ?_
                  rintro e w10 ⟨v10, rfl, h11⟩
                  have r9 : Rd w10 1 v9 d3.sure.length (u64s d3.sure) := h11.right.right.rd
                  have r10 : Rd w10 1 v10 d3.sure.length (u64s d3.sure) := h11.rd
                  go_wp2_with fail
                  refine (same_calls _ _ _ _ _ r9 r10).mono ?_
                  rintro e w11 ⟨rfl, n11, rfl⟩
                  rw [decide_eq_true rfl]
                  go_wp2_with fail
                  have h12 : Sat w.env (w10.drewN n11) (old w) := by
                    have := (h11.right.right.right.right).drewN n11
                    rw [HF0.out] at this
                    exact this.right
                  refine (awake4_calls _ h12).mono ?_
                  rintro e w12 ⟨rfl, h13⟩
                  go_wp2_with fail
                  go_ret
                  exact ⟨rfl, h13⟩
end
end Scul
