/- Lemmas and contracts for scullion's BlockPlays: BlockPlays. -/
import Derived.Test.YtffakdoobeegpaaBlockPlaysQ9
/- scullionlaw7.BlockPlays: whatever config, used blocks and calls: each answer is the document's; behind each what is used, reserved, free. No condition. -/
namespace Scul
open Go Go.Sl Go.RowKit Go.Proofs
section
variable {E : Env} {w : World} {F : HP}
set_option maxRecDepth 100000 in
set_option maxHeartbeats 4000000 in
theorem blockPlays_walk (w : World) (n0 n1 n2 n3 : Int) (lu : List Int) (uo : Option Addr) (uc : Nat) (l : List CallB) (bo : Option Addr) (bc : Nat)
    (hru : Rd w 1 (.slice uo lu.length uc) lu.length (u64s lu)) (hU : ∀ x ∈ lu, U64 x) (hrl : RdCB w (.slice bo l.length bc) l) :
    Calls Try.prog 21 #[.agg #[.int .i64 n0, .int .i64 n1, .int .i64 n2, .int .i64 n3], .slice uo lu.length uc, .slice bo l.length bc] w fun e w' => e = .returned (.bool true) ∧ Sat w.env w' (old w) := by
  have hs := Sat.init w
  have hmu := hru.most
  have hml := hrl.1.most
  have H0 := Lib.hid (hs.alloc (.cells #[.int .i64 n0, .int .i64 n1, .int .i64 n2, .int .i64 n3] 65))
  obtain ⟨c, hc⟩ : ∃ c, c = cfg7 n0 n1 n2 n3 := ⟨_, rfl⟩
  have hm := cfg7_may n0 n1 n2 n3
  rw [← hc] at hm
  have HM := Lib.hid hm
  have HOK := Lib.hid (Cfg.ok_of_may hm)
  have HNR := Lib.hid (Cfg.ok_of_may hm).toNear
  have HCF : Hid (∀ W, Sat w.env W (old w) → Calls Try.prog 46 #[.agg #[.int .i64 n0, .int .i64 n1, .int .i64 n2, .int .i64 n3]] W fun e w' => ∃ kv ks, e = .returned (.agg (cfgCells kv c)) ∧ ks.map (·.2) = c.kinds ∧ (∃ a cc, kv = .slice a ks.length cc) ∧ Sat w.env w' (kindsR kv ks * old w)) := Lib.hid fun W hW => by rw [hc]; exact config7_calls W n0 n1 n2 n3 hW
  have HRU := Lib.hid hru; have HRL := Lib.hid hrl; have HUU := Lib.hid hU
  have HKN : Hid (∀ ks : List (Value × List Int), ks.map (·.2) = c.kinds → ks.length = c.kinds.length) := Lib.hid fun ks h => by rw [← h, List.length_map]
  clear hs hc hm hru hrl hU
  go_enter Try.func21, Try.ntmps21
  go_wp2_with fail
  refine (HCF.out _ H0.out.right).mono ?_
  rintro e w1 ⟨kv, ks, rfl, hk, ⟨ka, kc, rfl⟩, h1⟩
  have hkl := HKN.out ks hk
  have HLY : Hid (∀ (W : World) (F : HP), Sat w.env W F → Calls Try.prog 70 #[.agg (cfgCells (.slice ka ks.length kc) c)] W fun e w' => ∃ b, e = .returned (.pointer (some ⟨b, 0, none⟩)) ∧ Sat w.env w' (rlay b c * F)) := Lib.hid fun W F hW => by
    rw [hkl]
    exact (r6lay_calls W c ka kc HNR.out hW).mono fun e w' ⟨b, he, h⟩ => ⟨b, he, Sat.mkExl (A := fun kv : Value => pt b (.cells (rlCellsA kv c) 159)) _ h⟩
  have HK := Lib.hid hk
  clear hkl hk
  simp only [cfgCells]
  go_wp2_with fail
  refine (layNewD_calls _ c ks _ HK.out (Sat.swap (h1.alloc _)) HM.out).mono ?_
  rintro e w2 ⟨lb, rfl, h2⟩
  have H2 := Lib.hid h2
  clear h1 h2
  have k0 : w2.cell? ⟨w1.heap.size, 0, none⟩ = some (.slice ka ks.length kc) := H2.out.right.cell 0 rfl
  have k1 : w2.cell? ⟨w1.heap.size, 1, none⟩ = some (.int .i64 c.n0) := H2.out.right.cell 1 rfl
  have k2 : w2.cell? ⟨w1.heap.size, 2, none⟩ = some (.int .i64 c.n1) := H2.out.right.cell 2 rfl
  have k3 : w2.cell? ⟨w1.heap.size, 3, none⟩ = some (.int .i64 c.n2) := H2.out.right.cell 3 rfl
  have k4 : w2.cell? ⟨w1.heap.size, 4, none⟩ = some (.int .i64 c.n3) := H2.out.right.cell 4 rfl
  have k5 : w2.cell? ⟨w1.heap.size, 5, none⟩ = some (.int .i64 c.roots) := H2.out.right.cell 5 rfl
  have k6 : w2.cell? ⟨w1.heap.size, 6, none⟩ = some (.int .i64 c.weaks) := H2.out.right.cell 6 rfl
  have k7 : w2.cell? ⟨w1.heap.size, 7, none⟩ = some (.int .i64 c.log) := H2.out.right.cell 7 rfl
  go_wp2_with fail
  refine (HLY.out _ _ H2.out).mono ?_
  rintro e w3 ⟨rl, rfl, h3⟩
  clear k0 k1 k2 k3 k4 k5 k6 k7 H2 HK
  go_wp2_with fail
  refine (unpack_calls _ 1000 (by omega) lu _ HUU.out (fun W hW => Rd.old HRU.out hW.right.right.right) h3).mono ?_
  rintro e w4 ⟨bv, rfl, h4⟩
  clear h3
  go_wp2_with fail
  refine (newTable_calls _ _ _ HNR.out (Sat.swap h4)).mono ?_
  rintro e w5 ⟨m, rfl, h5⟩
  clear h4
  obtain ⟨U, hUl⟩ : ∃ U, U = fitB c.count.toNat (unpackW 1000 lu) := ⟨_, rfl⟩
  rw [← hUl] at h5
  have hUl2 : U.length = c.count.toNat := by rw [hUl]; simp [fitB]
  obtain ⟨Z, hZ⟩ : ∃ Z, Z = List.replicate c.count.toNat false := ⟨_, rfl⟩
  rw [← hZ] at h5
  obtain ⟨CB, hCB⟩ : ∃ CB, CB = pt w1.heap.size (Obj.cells #[Value.slice ka ks.length kc, .int .i64 c.n0, .int .i64 c.n1, .int .i64 c.n2, .int .i64 c.n3, .int .i64 c.roots, .int .i64 c.weaks, .int .i64 c.log] 72) := ⟨_, rfl⟩
  rw [← hCB] at h5
  have h5' := (h5.ac (B := boolR bv (unpackW 1000 lu) * (CB * (lay lb c * (rtab m rl U Z * (rlay rl c * old w))))) (by ac_rfl)).right.right
  have H5 := Lib.hid h5'
  have hZ2 : Z.length = c.count.toNat := by rw [hZ, List.length_replicate]
  have hdis : Dis U Z := by rw [hZ]; exact Dis.start U _
  have HZ := Lib.hid hZ
  clear h5 hCB h5' hZ
  go_wp2_with fail
  refine (mOf_calls _ 1000 lu (.slice uo lu.length uc) HUU.out (fun W hW => Rd.old HRU.out hW.right.right.right) H5.out).mono ?_
  rintro e w6 ⟨ub, rfl, h6⟩
  go_wp2_with fail
  refine (blkNewD_calls (lb := lb) (c := c) _ ub _ (Sat.swap h6)).mono ?_
  rintro e w7 ⟨t, rfl, h7⟩
  have hcl : clampB 1000 = 1000 := by decide +kernel
  rw [hcl, ← hUl, ← HZ.out] at h7
  have H7 : Hid (Sat w.env w7 (ps7 t lb m rl c U Z U Z (old w))) := Lib.hid h7
  have HI : Hid (U.length = c.count.toNat ∧ Z.length = c.count.toNat ∧ Dis U Z) := Lib.hid ⟨hUl2, hZ2, hdis⟩
  have HAW : Hid (∀ W, Sat w.env W (old w) → Calls Try.prog 49 #[] W fun e w' => e = .returned (.bool true) ∧ Sat w.env w' (old w)) := Lib.hid fun W h => awake7_calls W h
  clear h6 h7 hcl hUl hUl2 hZ2 hdis H5 HZ H0 HLY HCF HKN HUU HRU hmu
  obtain ⟨n, hn⟩ : ∃ n, n = l.length := ⟨_, rfl⟩
  rw [← hn] at HRL hml ⊢
  have HN := Lib.hid hn
  clear hn
  go_upto_block 0 with fail
  go_cut [] (fun wx => ∃ U R : List Bool, (U.length = c.count.toNat ∧ R.length = c.count.toNat ∧ Dis U R) ∧ Sat w.env wx (ps7 t lb m rl c U R U R (old w)))
  case first =>
    as_aux_lemma =>
      go_wp2_with fail
      go_loopw [12] (fun iv wr => ∃ (k : Nat) (U R : List Bool), k ≤ n ∧ iv = .int .i64 k ∧ (U.length = c.count.toNat ∧ R.length = c.count.toNat ∧ Dis U R) ∧ Sat w.env wr (ps7 t lb m rl c U R U R (old w))) (fun iv _ => n - (RowKit.intOf iv).toNat)
      case atStart => exact ⟨0, U, Z, Nat.zero_le _, rfl, HI.out, H7.out⟩
      case round =>
        clear H7 HI
        clear U Z
        obtain ⟨k, U, R, hk, rfl, hi, hw⟩ := hrel
        have HW := Lib.hid hw; have HI := Lib.hid hi
        clear hw hi
        by_cases hlt : k < n
        · by_cases h60 : k < 60
          · have h60' : (k : Int) < 60 := by omega
            have hk2 : k < l.length := by rw [← HN.out]; exact hlt
            have hrc := HRL.out
            rw [HN.out] at hrc
            obtain ⟨bb, o, hbo, cx1, cx2, cx3⟩ := RdCB.nth (hrc.old (ps7_frame HW.out)) k hk2
            subst hbo
            obtain ⟨⟨xa, xk, hxv⟩, hxr⟩ := hrc.2 l[k] (List.getElem_mem hk2)
            rw [hxv] at cx3 hxr
            generalize l[k] = x at *
            obtain ⟨act, xn, xv, xl⟩ := x
            simp only at cx1 cx2 cx3 hxr hxv
            subst hxv
            have HXR := Lib.hid hxr
            have hxm := hxr.most
            clear hrc hxr
            obtain ⟨xln, hxln⟩ : ∃ xln, xln = xl.length := ⟨_, rfl⟩
            have HXL := Lib.hid hxln
            rw [← hxln] at cx3 hxm
            clear hxln
            have HA : Hid (Sat w.env (wr.alloc (.cells #[.int .i64 act, .int .i64 xn, .slice xa xln xk] 108)) (ps7 t lb m rl c U R U R (pt wr.heap.size (.cells #[.int .i64 act, .int .i64 xn, .slice xa xln xk] 108) * old w))) := Lib.hid (by
              have h5 := HW.out.alloc (.cells #[.int .i64 act, .int .i64 xn, .slice xa xln xk] 108)
              unfold ps7 at h5 ⊢
              exact h5.ac (by ac_rfl))
            by_cases h40 : 40 < xln
            · have h40' : (40 : Int) < xln := by omega
              have HB : Hid (Sat w.env (wr.alloc (.cells #[.int .i64 act, .int .i64 xn, .slice xa xln xk] 108)) (ps7 t lb m rl c U R U R (old w))) := Lib.hid (HW.out.alloc (.cells #[.int .i64 act, .int .i64 xn, .slice xa xln xk] 108)).right
              go_wp2_with fail
              exact ⟨⟨k + 1, U, R, by omega, by go_num, HI.out, HB.out⟩, by simp [RowKit.intOf]; omega⟩
            have h40' : ¬ (40 : Int) < xln := by omega
            obtain ⟨xb, hxb⟩ : ∃ xb, xb = wr.heap.size := ⟨_, rfl⟩
            go_upto_block 2 with fail
            rw [← hxb] at HA ⊢
            clear hxb HW cx1 cx2 cx3
            refine atSat _ HA.out fun W hW => ?_
            obtain ⟨FX, hFX⟩ : ∃ FX, FX = pt xb (.cells #[.int .i64 act, .int .i64 xn, .slice xa xln xk] 108) * old w := ⟨_, rfl⟩
            rw [← hFX] at hW
            have HX : Hid (∀ W, Sat w.env W FX → W.cell? ⟨xb, 0, none⟩ = some (.int .i64 act) ∧ W.cell? ⟨xb, 1, none⟩ = some (.int .i64 xn) ∧ W.cell? ⟨xb, 2, none⟩ = some (.slice xa xln xk)) := Lib.hid fun W h => by
              rw [hFX] at h
              exact ⟨h.cell 0 rfl, h.cell 1 rfl, h.cell 2 rfl⟩
            have HV : Hid (∀ W, Sat w.env W FX → Rd W 1 (.slice xa xl.length xk) xl.length (i64s xl)) := Lib.hid fun W h => by
              rw [hFX] at h
              exact Rd.old HXR.out h.right
            have HO : Hid (∀ W, Sat w.env W FX → Sat w.env W (old w)) := Lib.hid fun W h => by
              rw [hFX] at h
              exact h.right
            have HFD : Hid (∀ W U R, Sat w.env W (ps7 t lb m rl c U R U R FX) → Sat w.env W (ps7 t lb m rl c U R U R (old w))) := Lib.hid fun W U R h => by
              rw [hFX] at h
              exact ps7_drop h
            have HWW := Lib.hid hW
            clear hFX hW HA
            have c0 : 0 < c.count := HOK.out.some
            go_cut [] (fun wx => ∃ U R : List Bool, (U.length = c.count.toNat ∧ R.length = c.count.toNat ∧ Dis U R) ∧ Sat w.env wx (ps7 t lb m rl c U R U R FX))
            case first =>
              obtain ⟨x0, x1, x2⟩ := HX.out _ (ps7_frame HWW.out)
              by_cases e0 : act = 0
              · subst e0
                have HR := Lib.hid (ps7_reserve W xn HI.out.1 HI.out.2.1 HWW.out)
                have HR6 : Hid (∀ W, Sat w.env W (ps7 t lb m rl c U (c.reserveR U R xn) U R FX) → Calls Try.prog 72 #[.pointer (some ⟨m, 0, none⟩), .int .i64 xn] W fun e w' => e = .returned (.tuple #[.int .i64 (c.reserveA U R xn), .int .i64 (c.reserveE U R xn)]) ∧ Sat w.env w' (ps7 t lb m rl c U (c.reserveR U R xn) U (c.reserveR U R xn) FX)) := Lib.hid fun W h => ps7_reserve6 W xn HI.out.1 HI.out.2.1 h
                have HI2 : Hid (U.length = c.count.toNat ∧ (c.reserveR U R xn).length = c.count.toNat ∧ Dis U (c.reserveR U R xn)) := Lib.hid ⟨HI.out.1, by rw [Cfg.reserveR_length]; exact HI.out.2.1, HI.out.2.2.reserve HNR.out xn⟩
                generalize c.reserveA U R xn = A at *
                generalize c.reserveE U R xn = EE at *
                generalize c.reserveR U R xn = R2 at *
                go_wp2_with fail
                refine HR.out.mono ?_
                rintro e w8 ⟨rfl, h8⟩
                obtain ⟨y0, y1, y2⟩ := HX.out _ (ps7_frame h8)
                have HC := Lib.hid (HR6.out _ h8)
                clear h8 HR HR6
                go_wp2_with fail
                refine HC.out.mono ?_
                rintro e w9 ⟨rfl, h9⟩
                have H9 := Lib.hid h9
                clear h9 HC
                go_wp2_with fail
                go_meet
                exact ⟨_, _, HI2.out, H9.out⟩
              have e0' : (act == 0) = false := by simpa using e0
              by_cases e1 : act = 1
              · subst e1
                obtain ⟨cn, hcn⟩ : ∃ cn, cn = c.count.toNat := ⟨_, rfl⟩
                have hcn0 : 0 < cn := by omega
                have HCN := Lib.hid hcn
                obtain ⟨ub2, kb, uc2, kc2, hT, hs⟩ := turn_at hcn0 (HI.out.1.trans hcn.symm) (HI.out.2.1.trans hcn.symm) (ps7_ref HWW.out)
                obtain ⟨CL, hCL⟩ : ∃ CL, CL = pt m (.cells #[.pointer (some ⟨rl, 0, none⟩), .slice (some ⟨ub2, 0, none⟩) cn uc2, .slice (some ⟨kb, 0, none⟩) cn kc2] 110) * (boolR (.slice (some ⟨ub2, 0, none⟩) cn uc2) U * (boolR (.slice (some ⟨kb, 0, none⟩) cn kc2) R * (rlay rl c * (tab t lb U R * (lay lb c * FX))))) := ⟨_, rfl⟩
                rw [← hCL] at hs
                have HS := Lib.hid hs
                have hcl : ∀ W, Sat w.env W CL → Sat w.env W (pt m (.cells #[.pointer (some ⟨rl, 0, none⟩), .slice (some ⟨ub2, 0, none⟩) cn uc2, .slice (some ⟨kb, 0, none⟩) cn kc2] 110) * (boolR (.slice (some ⟨ub2, 0, none⟩) cn uc2) U * (boolR (.slice (some ⟨kb, 0, none⟩) cn kc2) R * (rlay rl c * (tab t lb U R * (lay lb c * FX)))))) := fun W h => by rwa [hCL] at h
                have hq1 : ∀ x : At w.env CL, x.W.cell? ⟨m, 2, none⟩ = some (.slice (some ⟨kb, 0, none⟩) cn kc2) := fun x => by
                  have := hcl _ x.ok
                  exact this.cell 2 rfl
                have hq2 : ∀ x : At w.env CL, x.W.cell? ⟨xb, 1, none⟩ = some (.int .i64 xn) := fun x => by
                  have := hcl _ x.ok
                  exact (HX.out _ this.right.right.right.right.right.right).2.1
                have hq3 : ∀ j : Nat, xn = j → j < cn → ∀ x : At w.env CL, x.W.cell? ⟨kb, j, none⟩ = some (.bool (getB R xn)) := fun j hj hlt x => by
                  have := hcl _ x.ok
                  have h2 := this.right.right
                  have hl : R.length = cn := HI.out.2.1.trans hcn.symm
                  rw [hj, getB_nat]
                  rw [← hl] at h2
                  exact boolR_cell h2 j (by rw [hl]; exact hlt)
                have HQ3 := Lib.hid hq3
                have HBK : Hid (∀ W, Sat w.env W CL → Sat w.env W (ps7 t lb m rl c U R U R FX)) := Lib.hid fun W h => by
                  rw [hCL] at h
                  exact ps7_of (rtab_mk h)
                have hkc := hT.hkc
                have hgo : ∀ h : ¬ (0 ≤ xn ∧ xn < cn), getB R xn = false := fun h => getB_out R xn (by rw [HI.out.2.1, ← hcn]; exact h)
                have HGO := Lib.hid hgo
                have hcn2 : cn ≤ 2048 := by
                  have := (Cfg.near_places HNR.out).2.2.2.2.2.2.2.2.2.2.1
                  omega
                clear hCL hs hT hq3 hgo hcn hcl
                go_upto_region 23 with fail
                go_cut [18] (fun s wx => s = .bool (getB R xn) ∧ Sat w.env wx CL)
                case first =>
                  clear x0 x1 x2
                  by_cases hn0 : 0 ≤ xn
                  · obtain ⟨j, rfl⟩ := Int.eq_ofNat_of_zero_le hn0
                    by_cases hn1 : j < cn
                    · have hq3 := HQ3.out j rfl hn1
                      have hn1' : decide ((j : Int) < cn) = true := by simpa using hn1
                      generalize getB R (j : Int) = gg at *
                      refine wp_region_class HS.out (by kernel_rfl) (by kernel_rfl) fun ne => ?_
                      repeat (go_big_quiet_step (fail))
                      refine wpQuiet_nil ?_
                      rintro _ ⟨⟨w10, h11⟩, rfl⟩
                      go_wp2_with fail
                      go_meet
                      exact ⟨by first | rfl | trivial | (rw [HG.out]) | exact congrArg Value.bool HG.out.symm, h11⟩
                    · have hn1' : decide ((j : Int) < cn) = false := by simpa using hn1
                      have HG := Lib.hid (HGO.out (by omega))
                      refine wp_region_class HS.out (by kernel_rfl) (by kernel_rfl) fun ne => ?_
                      repeat (go_big_quiet_step (fail))
                      refine wpQuiet_nil ?_
                      rintro _ ⟨⟨w10, h11⟩, rfl⟩
                      go_wp2_with fail
                      go_meet
                      exact ⟨by first | rfl | trivial | (rw [HG.out]) | exact congrArg Value.bool HG.out.symm, h11⟩
                  · have hn0' : decide (0 ≤ xn) = false := by simpa using hn0
                    have HG := Lib.hid (HGO.out (by omega))
                    refine wp_region_class HS.out (by kernel_rfl) (by kernel_rfl) fun ne => ?_
                    repeat (go_big_quiet_step (fail))
                    refine wpQuiet_nil ?_
                    rintro _ ⟨⟨w10, h11⟩, rfl⟩
                    go_wp2_with fail
                    go_meet
                    exact ⟨by first | rfl | trivial | (rw [HG.out]) | exact congrArg Value.bool HG.out.symm, h11⟩
                case rest =>
                  as_aux_lemma =>
                    obtain ⟨rfl, h11⟩ := hcut
                    rename World => W
                    clear hq1 hq2 HQ3 HS x0 x1 x2 HGO
                    have H11 := Lib.hid (HBK.out _ h11)
                    clear h11 HBK
                    have HCC := ps7_cancel _ xn H11.out
                    rw [setsB_false] at HCC
                    have HC2 := Lib.hid HCC
                    obtain ⟨x0, x1, x2⟩ := HX.out _ (ps7_frame H11.out)
                    have HDC := Lib.hid (HI.out.2.2.cancel xn)
                    clear HCC
                    cases hg : getB R xn with
                    | false =>
                      have HSN : Hid (setB R xn false = R) := Lib.hid (setB_none hg)
                      rw [hg, HSN.out] at HC2
                      clear hg
                      go_wp2_with fail
                      refine HC2.out.mono ?_
                      rintro e w8 ⟨rfl, h8⟩
                      have H8 := Lib.hid h8
                      clear h8
                      go_wp2_with fail
                      go_meet
                      exact ⟨U, R, HI.out, H8.out⟩
                    | true =>
                      rw [hg] at HC2
                      have hin := getB_in hg
                      clear hg
                      go_wp2_with fail
                      refine HC2.out.mono ?_
                      rintro e w8 ⟨rfl, h8⟩
                      clear HC2
                      obtain ⟨y0, y1, y2⟩ := HX.out _ (ps7_frame h8)
                      obtain ⟨ub3, kb3, uc3, kc3, hT, hs⟩ := turn_at hcn0 (HI.out.1.trans HCN.out.symm) (HI.out.2.1.trans HCN.out.symm) (ps7_ref h8)
                      have hRl : R.length = cn := HI.out.2.1.trans HCN.out.symm
                      obtain ⟨j, rfl⟩ := Int.eq_ofNat_of_zero_le hin.1
                      have hjn : j < cn := by omega
                      have hb3 : Sat w.env w8 (boolR (.slice (some ⟨kb3, 0, none⟩) R.length kc3) R * (pt m (.cells #[.pointer (some ⟨rl, 0, none⟩), .slice (some ⟨ub3, 0, none⟩) cn uc3, .slice (some ⟨kb3, 0, none⟩) cn kc3] 110) * (boolR (.slice (some ⟨ub3, 0, none⟩) cn uc3) U * (rlay rl c * (tab t lb U (setB R (j : Int) false) * (lay lb c * FX)))))) := by
                        rw [hRl]; exact hs.ac (by ac_rfl)
                      have z2 : w8.cell? ⟨m, 2, none⟩ = some (.slice (some ⟨kb3, 0, none⟩) cn kc3) := hT.c2
                      have zk := boolR_cell hb3 j (by omega)
                      have zf := boolR_free hb3 j
                      have HST : Hid (∀ W, Sat w.env W (boolR (.slice (some ⟨kb3, 0, none⟩) R.length kc3) R * (pt m (.cells #[.pointer (some ⟨rl, 0, none⟩), .slice (some ⟨ub3, 0, none⟩) cn uc3, .slice (some ⟨kb3, 0, none⟩) cn kc3] 110) * (boolR (.slice (some ⟨ub3, 0, none⟩) cn uc3) U * (rlay rl c * (tab t lb U (setB R (j : Int) false) * (lay lb c * FX)))))) →
                          Sat w.env (W.setCell ⟨kb3, j, none⟩ (.bool false)) (ps7 t lb m rl c U (setB R (j : Int) false) U (setB R (j : Int) false) FX)) := Lib.hid fun W h => by
                        have h5 := boolR_set h j false (by omega)
                        rw [List.length_set, hRl] at h5
                        have hjR : j < R.length := by omega
                        have e : setB R (j : Int) false = R.set j false := setB_nat hjR false
                        rw [← e] at h5
                        exact ps7_of (rtab_mk (h5.ac (B := pt m (.cells #[.pointer (some ⟨rl, 0, none⟩), .slice (some ⟨ub3, 0, none⟩) cn uc3, .slice (some ⟨kb3, 0, none⟩) cn kc3] 110) * (boolR (.slice (some ⟨ub3, 0, none⟩) cn uc3) U * (boolR (.slice (some ⟨kb3, 0, none⟩) cn kc3) (setB R (j : Int) false) * (rlay rl c * (tab t lb U (setB R (j : Int) false) * (lay lb c * FX)))))) (by ac_rfl)))
                      have HB3 := Lib.hid hb3
                      have HRL3 : Hid ((setB R (j : Int) false).length = c.count.toNat) := Lib.hid (by rw [setB_length]; exact HI.out.2.1)
                      clear hb3 hs hT h8 hRl hin x0 x1 x2
                      generalize R.getD j false = fz at *
                      go_upto_region 27 with fail
                      go_region
                      all_goals
                        go_wp2_with fail
                        go_meet
                        exact ⟨U, setB R (j : Int) false, ⟨HI.out.1, HRL3.out, HDC.out⟩, HST.out _ HB3.out⟩
              have e1' : (act == 1) = false := by simpa using e1
              by_cases e2 : act = 2
              · subst e2
                have HP := Lib.hid (ps7_publish W xl xa xk HV.out HI.out.2.1 HWW.out)
                have HT1 := Lib.hid (ps7_turnT W xl xa xk HV.out c0 HI.out.1 HI.out.2.1 HWW.out)
                rw [← HXL.out] at HP HT1
                go_wp2_with fail
                refine HP.out.mono ?_
                rintro e w8 (⟨hm, rfl, rfl⟩ | ⟨hm, v, rfl, h8⟩)
                · clear HP
                  go_wp2_with fail
                  refine HT1.out.mono ?_
                  rintro e w9 (⟨_, rfl, rfl⟩ | ⟨hm2, _⟩)
                  · clear HT1 hm
                    go_wp2_with fail
                    refine (same7_calls _ [] 0 none none 0 0 rfl rdE_nil rdE_nil).mono ?_
                    rintro e w10 ⟨rfl, q, rfl⟩
                    have H9 := Lib.hid (HWW.out.drewN q)
                    go_wp2_with fail
                    go_meet
                    exact ⟨U, R, HI.out, H9.out⟩
                  · rw [hm] at hm2; cases hm2
                · obtain ⟨va, vc, rfl⟩ := entRow_val (ps7_frame h8)
                  rw [turnE_length] at h8 ⊢
                  obtain ⟨y0, y1, y2⟩ := HX.out _ (ps7_frame h8).right
                  have HT := Lib.hid (ps7_turnT w8 xl xa xk (fun W h => HV.out W h.right) c0 HI.out.1 HI.out.2.1 h8)
                  rw [← HXL.out] at HT
                  have HM := Lib.hid hm
                  clear HP HT1 h8 hm
                  go_wp2_with fail
                  refine HT.out.mono ?_
                  rintro e w9 (⟨hm2, _⟩ | ⟨_, v2, rfl, h9⟩)
                  · rw [HM.out] at hm2; cases hm2
                  rw [chgE_turn HNR.out HI.out.1 (may_out HI.out.2.2 (by rw [HI.out.1, HI.out.2.1]) HM.out)] at h9
                  obtain ⟨vb, vd, rfl⟩ := entRow_val (ps7_frame h9)
                  rw [turnE_length] at h9 ⊢
                  have HS := Lib.hid (same7_calls w9 (turnE c (setAll U xl true) (wordsOf xl)) (wordsOf xl).length va vb vc vd (turnE_length _ _ _).symm (by have := Sat.rd (ps7_frame h9).right; rwa [turnE_length] at this) (by have := Sat.rd (ps7_frame h9); rwa [turnE_length] at this))
                  have H9 := Lib.hid (ps7_drop (ps7_drop h9))
                  clear h9 HT y0 y1 y2
                  go_wp2_with fail
                  refine HS.out.mono ?_
                  rintro e w10 ⟨rfl, q, rfl⟩
                  have H10 := Lib.hid (H9.out.drewN q)
                  clear H9 HS
                  go_wp2_with fail
                  go_meet
                  exact ⟨setAll U xl true, setAll R xl false, ⟨by rw [setAll_length]; exact HI.out.1, by rw [setAll_length]; exact HI.out.2.1, HI.out.2.2.publish xl (by rw [HI.out.1, HI.out.2.1])⟩, H10.out⟩
              have e2' : (act == 2) = false := by simpa using e2
              have HP := Lib.hid (ps7_release W xl xa xk HV.out HI.out.1 HWW.out)
              have HT1 := Lib.hid (ps7_turnF W xl xa xk HV.out c0 HI.out.1 HI.out.2.1 HWW.out)
              rw [← HXL.out] at HP HT1
              go_wp2_with fail
              refine HP.out.mono ?_
              rintro e w8 (⟨hm, rfl, rfl⟩ | ⟨hm, v, rfl, h8⟩)
              · clear HP
                go_wp2_with fail
                refine HT1.out.mono ?_
                rintro e w9 (⟨_, rfl, rfl⟩ | ⟨hm2, _⟩)
                · clear HT1 hm
                  go_wp2_with fail
                  refine (same7_calls _ [] 0 none none 0 0 rfl rdE_nil rdE_nil).mono ?_
                  rintro e w10 ⟨rfl, q, rfl⟩
                  have H9 := Lib.hid (HWW.out.drewN q)
                  go_wp2_with fail
                  go_meet
                  exact ⟨U, R, HI.out, H9.out⟩
                · rw [hm] at hm2; cases hm2
              · obtain ⟨va, vc, rfl⟩ := entRow_val (ps7_frame h8)
                rw [turnE_length] at h8 ⊢
                obtain ⟨y0, y1, y2⟩ := HX.out _ (ps7_frame h8).right
                have HT := Lib.hid (ps7_turnF w8 xl xa xk (fun W h => HV.out W h.right) c0 HI.out.1 HI.out.2.1 h8)
                rw [← HXL.out] at HT
                have HM := Lib.hid hm
                clear HP HT1 h8 hm
                go_wp2_with fail
                refine HT.out.mono ?_
                rintro e w9 (⟨hm2, _⟩ | ⟨_, v2, rfl, h9⟩)
                · rw [HM.out] at hm2; cases hm2
                rw [chgE_turn HNR.out HI.out.1 (may_used HM.out)] at h9
                obtain ⟨vb, vd, rfl⟩ := entRow_val (ps7_frame h9)
                rw [turnE_length] at h9 ⊢
                have HS := Lib.hid (same7_calls w9 (turnE c (setAll U xl false) (wordsOf xl)) (wordsOf xl).length va vb vc vd (turnE_length _ _ _).symm (by have := Sat.rd (ps7_frame h9).right; rwa [turnE_length] at this) (by have := Sat.rd (ps7_frame h9); rwa [turnE_length] at this))
                have H9 := Lib.hid (ps7_drop (ps7_drop h9))
                clear h9 HT y0 y1 y2
                go_wp2_with fail
                refine HS.out.mono ?_
                rintro e w10 ⟨rfl, q, rfl⟩
                have H10 := Lib.hid (H9.out.drewN q)
                clear H9 HS
                go_wp2_with fail
                go_meet
                exact ⟨setAll U xl false, setAll R xl false, ⟨by rw [setAll_length]; exact HI.out.1, by rw [setAll_length]; exact HI.out.2.1, HI.out.2.2.release xl (by rw [HI.out.1, HI.out.2.1])⟩, H10.out⟩
            case rest =>
              as_aux_lemma =>
                clear HX HV HWW HI HXR
                clear U R
                obtain ⟨U, R, hi, hw⟩ := hcut
                rename World => W
                have HI := Lib.hid hi; have HW := Lib.hid hw
                have HEND : Hid (∀ q, Sat w.env (W.drewN q) (ps7 t lb m rl c U R U R (old w))) := Lib.hid fun q => (HFD.out _ _ _ hw).drewN q
                clear hi hw HFD
                go_wp2_with fail
                go_loopw [182] (fun iv wr => ∃ j q : Nat, j ≤ 4 ∧ iv = .int .i64 j ∧ wr = W.drewN q) (fun iv _ => 4 - (RowKit.intOf iv).toNat)
                case atStart => exact ⟨0, 0, by omega, rfl, rfl⟩
                case round =>
                  obtain ⟨j, q, hj, rfl, rfl⟩ := hrel
                  by_cases hlt4 : j < 4
                  · have hlt4' : (j : Int) < 4 := by omega
                    have HF1 := Lib.hid (ps7_free _ (j : Int) (HW.out.drewN q))
                    have HF2 : Hid (∀ q2, Calls Try.prog 76 #[.pointer (some ⟨m, 0, none⟩), .int .i64 j] (W.drewN (q + q2)) fun e w' => e = .returned (.int .i64 (c.free U R j)) ∧ ∃ q3, w' = (W.drewN (q + q2)).drewN q3) := Lib.hid fun q2 => ps7_free6 _ (j : Int) (by omega) hlt4' HI.out.1 HI.out.2.1 (HW.out.drewN (q + q2))
                    generalize c.free U R (j : Int) = fr at *
                    go_wp2_with fail
                    refine HF1.out.mono ?_
                    rintro e w8 ⟨rfl, q2, rfl⟩
                    go_wp2_with fail
                    refine (HF2.out q2).mono ?_
                    rintro e w9 ⟨rfl, q3, rfl⟩
                    go_wp2_with fail
                    exact ⟨⟨j + 1, q + q2 + q3, by omega, by go_num, by simp [Nat.add_assoc]⟩, by simp [RowKit.intOf]; omega⟩
                  · obtain rfl : j = 4 := by omega
                    have HE := Lib.hid (HEND.out q)
                    go_wp2_with fail
                    exact ⟨⟨k + 1, U, R, by omega, by go_num, HI.out, HE.out⟩, by simp [RowKit.intOf]; omega⟩
          · have h60' : ¬ (k : Int) < 60 := by omega
            go_wp2_with fail
            go_meet
            exact ⟨U, R, HI.out, HW.out⟩
        · obtain rfl : k = n := by omega
          go_wp2_with fail
          go_meet
          exact ⟨U, R, HI.out, HW.out⟩
  case rest =>
    as_aux_lemma =>
      clear H7 HI
      clear U Z
      obtain ⟨U, R, hi, hw⟩ := hcut
      rename World => W
      have HI := Lib.hid hi
      have hcn0 := HOK.out.some
      obtain ⟨cn, hcn⟩ : ∃ cn, cn = c.count.toNat := ⟨_, rfl⟩
      have hcn1 : 0 < cn := by omega
      obtain ⟨ub2, kb, uc2, kc2, hT, hs⟩ := turn_at hcn1 (hi.1.trans hcn.symm) (hi.2.1.trans hcn.symm) (ps7_ref hw)
      have hUl : U.length = cn := hi.1.trans hcn.symm
      have hRl : R.length = cn := hi.2.1.trans hcn.symm
      obtain ⟨CL, hCL⟩ : ∃ CL, CL = pt m (.cells #[.pointer (some ⟨rl, 0, none⟩), .slice (some ⟨ub2, 0, none⟩) cn uc2, .slice (some ⟨kb, 0, none⟩) cn kc2] 110) * (boolR (.slice (some ⟨ub2, 0, none⟩) cn uc2) U * (boolR (.slice (some ⟨kb, 0, none⟩) cn kc2) R * (rlay rl c * (tab t lb U R * (lay lb c * old w))))) := ⟨_, rfl⟩
      rw [← hCL] at hs
      have HS := Lib.hid hs
      have hcl : ∀ W, Sat w.env W CL → Sat w.env W (pt m (.cells #[.pointer (some ⟨rl, 0, none⟩), .slice (some ⟨ub2, 0, none⟩) cn uc2, .slice (some ⟨kb, 0, none⟩) cn kc2] 110) * (boolR (.slice (some ⟨ub2, 0, none⟩) cn uc2) U * (boolR (.slice (some ⟨kb, 0, none⟩) cn kc2) R * (rlay rl c * (tab t lb U R * (lay lb c * old w)))))) := fun W h => by rwa [hCL] at h
      have hbk : ∀ W, Sat w.env W CL → Sat w.env W (ps7 t lb m rl c U R U R (old w)) := fun W h => ps7_of (rtab_mk (hcl W h))
      have hq1 : ∀ x : At w.env CL, x.W.cell? ⟨m, 1, none⟩ = some (.slice (some ⟨ub2, 0, none⟩) cn uc2) := fun x => (hcl _ x.ok).cell 1 rfl
      have hq2 : ∀ x : At w.env CL, x.W.cell? ⟨m, 2, none⟩ = some (.slice (some ⟨kb, 0, none⟩) cn kc2) := fun x => (hcl _ x.ok).cell 2 rfl
      have HQU : Hid (∀ j : Nat, j < cn → ∀ x : At w.env CL, x.W.cell? ⟨ub2, j, none⟩ = some (.bool (getB U j))) := Lib.hid fun j hlt x => by
        have h2 := (hcl _ x.ok).right
        rw [getB_nat]
        rw [← hUl] at h2
        exact boolR_cell h2 j (by omega)
      have HQK : Hid (∀ j : Nat, j < cn → ∀ x : At w.env CL, x.W.cell? ⟨kb, j, none⟩ = some (.bool (getB R j))) := Lib.hid fun j hlt x => by
        have h2 := (hcl _ x.ok).right.right
        rw [getB_nat]
        rw [← hRl] at h2
        exact boolR_cell h2 j (by omega)
      have HUS : Hid (∀ W (i : Int), Sat w.env W CL → Calls Try.prog 53 #[.pointer (some ⟨t, 0, none⟩), .int .i64 i] W fun e w' => e = .returned (.bool (getB U i)) ∧ Sat w.env w' CL) := Lib.hid fun W i h => (used_calls W i (hbk W h)).mono fun _ _ ⟨h1, h2⟩ => ⟨h1, h2 ▸ h⟩
      have HRS : Hid (∀ W (i : Int), Sat w.env W CL → Calls Try.prog 54 #[.pointer (some ⟨t, 0, none⟩), .int .i64 i] W fun e w' => e = .returned (.bool (getB R i)) ∧ Sat w.env w' CL) := Lib.hid fun W i h => (reserved_calls W i (hbk W h)).mono fun _ _ ⟨h1, h2⟩ => ⟨h1, h2 ▸ h⟩
      have HFR : Hid (∀ W (i : Int), c.free U R i = 0 → Sat w.env W CL → Calls Try.prog 56 #[.pointer (some ⟨t, 0, none⟩), .int .i64 i] W fun e w' => e = .returned (.int .i64 0) ∧ ∃ q, w' = W.drewN q) := Lib.hid fun W i h0 h => by
        have := ps7_free W i (hbk W h)
        rwa [h0] at this
      have HBT : Hid (∀ W, Sat w.env W CL → Calls Try.prog 65 #[.pointer (some ⟨t, 0, none⟩)] W fun e w' => ∃ b, e = .returned (.pointer (some ⟨b, 0, none⟩)) ∧ Sat w.env w' (bm b U * CL)) := Lib.hid fun W h => by
        have h4 := (hcl W h).ac (B := tab t lb U R * (lay lb c * (pt m (.cells #[.pointer (some ⟨rl, 0, none⟩), .slice (some ⟨ub2, 0, none⟩) cn uc2, .slice (some ⟨kb, 0, none⟩) cn kc2] 110) * (boolR (.slice (some ⟨ub2, 0, none⟩) cn uc2) U * (boolR (.slice (some ⟨kb, 0, none⟩) cn kc2) R * (rlay rl c * old w)))))) (by ac_rfl)
        refine (bits_calls W h4).mono fun e w' ⟨b, he, h6⟩ => ⟨b, he, ?_⟩
        rw [hCL]
        exact h6.ac (by ac_rfl)
      have HOW : Hid (∀ W, Sat w.env W CL → Sat w.env W (old w)) := Lib.hid fun W h => ps7_frame (hbk W h)
      have HF1 : Hid (c.free U R (-1) = 0) := Lib.hid rfl
      have HF4 : Hid (c.free U R 4 = 0) := Lib.hid rfl
      have HG1 : Hid (getB U (-1) = false) := Lib.hid (getB_out U _ (by omega))
      have HG2 : Hid (getB R (cn : Int) = false) := Lib.hid (getB_out R _ (by omega))
      have k1 : W.cell? ⟨m, 1, none⟩ = some (.slice (some ⟨ub2, 0, none⟩) cn uc2) := hT.c1
      have huc := hT.huc; have hkc := hT.hkc
      have hcn2 : cn ≤ 2048 := by
        have := (Cfg.near_places HNR.out).2.2.2.2.2.2.2.2.2.2.1
        omega
      have HUL := Lib.hid hUl; have HCLE := Lib.hid hcl; have HBK := Lib.hid hbk
      clear hi hw hcn hT hs hUl hRl hCL hcl hbk hcn0
      go_wp2_with fail
      go_loopw [198] (fun iv wr => ∃ b : Nat, b ≤ cn ∧ iv = .int .i64 b ∧ Sat w.env wr CL) (fun iv _ => cn - (RowKit.intOf iv).toNat)
      case atStart => exact ⟨0, Nat.zero_le _, rfl, HS.out⟩
      case round =>
        clear k1 HS
        obtain ⟨b, hb, rfl, hw⟩ := hrel
        rename World => W
        have HW := Lib.hid hw
        clear hw
        by_cases hlt : b < cn
        · have hq3 := HQU.out b hlt
          have hq4 := HQK.out b hlt
          have HU2 : Hid (∀ W, Sat w.env W CL → Calls Try.prog 53 #[.pointer (some ⟨t, 0, none⟩), .int .i64 b] W fun e w' => e = .returned (.bool (getB U (b : Int))) ∧ Sat w.env w' CL) := Lib.hid fun W h => HUS.out W _ h
          have HR2 : Hid (∀ W, Sat w.env W CL → Calls Try.prog 54 #[.pointer (some ⟨t, 0, none⟩), .int .i64 b] W fun e w' => e = .returned (.bool (getB R (b : Int))) ∧ Sat w.env w' CL) := Lib.hid fun W h => HRS.out W _ h
          generalize getB U (b : Int) = g1 at *
          generalize getB R (b : Int) = g2 at *
          go_upto_region 42 with fail
          go_cut [224] (fun s wx => s = .bool false ∧ Sat w.env wx CL)
          case first =>
            as_aux_lemma =>
              refine wp_region_class HW.out (by kernel_rfl) (by kernel_rfl) fun ne => ?_
              repeat (go_big_quiet_step ((first | (go_at_call 53; exact At.call (HU2.out _ (At.ok _))) | (go_at_call 54; exact At.call (HR2.out _ (At.ok _))))))
              refine wpQuiet_nil ?_
              rintro _ ⟨⟨w10, h11⟩, rfl⟩
              go_wp2_with fail
              go_meet
              exact ⟨by first | rfl | simp, h11⟩
          case rest =>
            obtain ⟨rfl, h11⟩ := hcut
            go_wp2_with fail
            exact ⟨⟨b + 1, by omega, by go_num, h11⟩, by simp [RowKit.intOf]; omega⟩
        · obtain rfl : b = cn := by omega
          have HU2 : Hid (∀ W, Sat w.env W CL → Calls Try.prog 53 #[.pointer (some ⟨t, 0, none⟩), .int .i64 (-1)] W fun e w' => e = .returned (.bool false) ∧ Sat w.env w' CL) := Lib.hid fun W h => by
            have := HUS.out W (-1) h
            rwa [HG1.out] at this
          have HR2 : Hid (∀ W, Sat w.env W CL → Calls Try.prog 54 #[.pointer (some ⟨t, 0, none⟩), .int .i64 b] W fun e w' => e = .returned (.bool false) ∧ Sat w.env w' CL) := Lib.hid fun W h => by
            have := HRS.out W b h
            rwa [HG2.out] at this
          have HPK : Hid (∀ W v, Sat w.env W (words v (packW U) * CL) → Calls Try.prog 77 #[.slice (some ⟨ub2, 0, none⟩) b uc2] W fun e w' => ∃ v', e = .returned v' ∧ Sat w.env w' (words v' (packW U) * (words v (packW U) * CL))) := Lib.hid fun W v h => by
            refine pack_calls W U _ (by rw [HUL.out]; omega) (fun W hW => ?_) h
            have h6 := Sat.rd (HCLE.out W hW.right).right
            rw [HUL.out] at h6 ⊢
            exact h6
          have HSM : Hid (∀ W v v', Sat w.env W (words v' (packW U) * (words v (packW U) * CL)) → Calls Try.prog 29 #[v, v'] W fun e w' => e = .returned (.bool true) ∧ Sat w.env w' CL) := Lib.hid fun W v v' h => by
            have := same_calls W (packW U) (packW U) v v' (Sat.rd h.right) (Sat.rd h)
            rw [decide_eq_true rfl] at this
            exact this.mono fun e w' ⟨h1, n, h2⟩ => ⟨h1, h2 ▸ h.right.right.drewN n⟩
          have HFA : Hid (∀ W (i : Int), c.free U R i = 0 → Sat w.env W CL → Calls Try.prog 56 #[.pointer (some ⟨t, 0, none⟩), .int .i64 i] W fun e w' => e = .returned (.int .i64 0) ∧ Sat w.env w' CL) := Lib.hid fun W i h0 h => (HFR.out W i h0 h).mono fun e w' ⟨h1, n, h2⟩ => ⟨h1, h2 ▸ h.drewN n⟩
          have HAW2 : Hid (∀ W, Sat w.env W CL → Calls Try.prog 49 #[] W fun e w' => e = .returned (.bool true) ∧ Sat w.env w' CL) := Lib.hid fun W h => awake7_calls W h
          have HBW : Hid (∀ W b9, Sat w.env W (bm b9 U * CL) → Calls Try.prog 66 #[.pointer (some ⟨b9, 0, none⟩)] W fun e w' => ∃ a cc, e = .returned (.slice a ((U.length + 63) / 64) cc) ∧ Sat w.env w' (words (.slice a ((U.length + 63) / 64) cc) (packW U) * CL)) := Lib.hid fun W b9 h => bitWords_calls W b9 U h
          have HK1 : Hid (∀ W, Sat w.env W CL → W.cell? ⟨m, 1, none⟩ = some (.slice (some ⟨ub2, 0, none⟩) b uc2)) := Lib.hid fun W h => hq1 ⟨W, h⟩
          clear HQU HQK HUS HRS HFR HG1 HG2 HAW HCLE HUL HBK hq1 hq2
          have k1 := HK1.out _ HW.out
          go_upto_region 45 with fail
          go_region_held3 (fun W => W.cell? ⟨m, 1, none⟩ = some (.slice (some ⟨ub2, 0, none⟩) b uc2)) (first | exact k1 | exact k8 | exact k9 | exact k10 | exact k11 | exact HK1.out _ h12.right.right | exact HK1.out _ h13 | exact HK1.out _ h16 | exact HK1.out _ h14) (first
            | (go_at_call 53; refine (HU2.out _ (by first | exact HW.out | exact Sat.drew HW.out)).mono ?_; rintro e w8 ⟨rfl, h8⟩; have k8 := HK1.out _ h8)
            | (go_at_call 54; refine (HR2.out _ h8).mono ?_; rintro e w9 ⟨rfl, h9⟩; have k9 := HK1.out _ h9)
            | (go_at_call 65; refine (HBT.out _ h9).mono ?_; rintro e w10 ⟨b9, rfl, h10⟩; have k10 := HK1.out _ h10.right)
            | (go_at_call 66; refine (HBW.out _ _ h10).mono ?_; rintro e w11 ⟨wa, wc, rfl, h11⟩; have k11 := HK1.out _ h11.right)
            | (go_at_call 77; refine (HPK.out _ _ h11).mono ?_; rintro e w12 ⟨pv, rfl, h12⟩)
            | (go_at_call 29; refine (HSM.out _ _ _ h12).mono ?_; rintro e w13 ⟨rfl, h13⟩)
            | (go_at_call 56; refine (HFA.out _ _ (by first | exact HF1.out | exact HF4.out) (by first | exact h14 | exact h13)).mono ?_; rintro e w14 ⟨rfl, h14⟩)
            | (go_at_call 49; refine (HAW2.out _ h14).mono ?_; rintro e w16 ⟨rfl, h16⟩))
          all_goals
            go_wp2_with fail
            go_ret
            exact ⟨rfl, HOW.out _ h16⟩
end
end Scul
