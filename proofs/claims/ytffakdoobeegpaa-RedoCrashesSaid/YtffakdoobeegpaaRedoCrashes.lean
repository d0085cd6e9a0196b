/- scullionlaw4.RedoCrashes: whatever words, entries, fuses and picks: behind a crash at any step of a row's writing, and of each recovery, and a last recovery, all entries stand or none, and no other word has changed; what was answered stands. No condition. -/
import Derived.Test.YtffakdoobeegpaaRedoS
import Derived.Test.YtffakdoobeegpaaRowsIn
import Derived.Test.YtffakdoobeegpaaRedoRefused
import Derived.Test.YtffakdoobeegpaaRedoGoes
import Derived.Deep.CutBlock
import Derived.Deep.DeepCutAuto
import Derived.Deep.RegionHeld3
import Derived.Test.YtffakdoobeegpaaClsAt
namespace Scul
open Go Go.Sl Go.RowKit Go.Proofs
section
variable {E : Env} {w : World} {F : HP} {b : Nat} {d : Dev}
theorem wrap_le (x : Int) : wrap64 x ≤ 9223372036854775807 := by unfold wrap64; omega
theorem clean_setFuse {d : Dev} (h : Redo.Clean d) (n : Int) : Redo.Clean (d.setFuse n) := ⟨h.up, h.sure, h.fl⟩
theorem rd_int {w : World} {ao : Option Addr} {c : Nat} {l : List Int} (h : Rd w 1 (.slice ao l.length c) l.length (l.map (Value.int .i64))) (k : Nat) (hk : k < l.length) : ∃ bb o, ao = some ⟨bb, o, none⟩ ∧ w.cell? ⟨bb, o + k, none⟩ = some (.int .i64 (l.getD k 0)) := by
  obtain ⟨bb, o, rfl, hc⟩ := Rd.at h (by omega)
  exact ⟨bb, o, rfl, hc k _ (by simp [hk])⟩
set_option maxRecDepth 100000 in
set_option maxHeartbeats 0 in
theorem redoCrashes_walk (w : World) (lw : List Int) (ao : Option Addr) (c : Nat) (l : List Ent) (bo : Option Addr) (bc : Nat) (fl : List Int) (fo : Option Addr) (fc : Nat) (pl : List (Value × List Int)) (po : Option Addr) (pc : Nat)
    (hrw : Rd w 1 (.slice ao lw.length c) lw.length (u64s lw)) (hU : ∀ x ∈ lw, U64 x) (hrl : RdE w (.slice bo l.length bc) l) (hfl : Rd w 1 (.slice fo fl.length fc) fl.length (fl.map (Value.int .i64))) (_ : ∀ x ∈ fl, I64 x) (hpl : RdPicks w (.slice po pl.length pc) pl) :
    Calls Try.prog 18 #[.slice ao lw.length c, .slice bo l.length bc, .slice fo fl.length fc, .slice po pl.length pc] w fun e w' => e = .returned (.bool true) ∧ Sat w.env w' (old w) := by
  have hs := Sat.init w
  have hmw := hrw.most
  have hml := hrl.1.most
  have hmf := hfl.most
  have hmp := hpl.1.most
  have HRL := Lib.hid hrl; have HFL := Lib.hid hfl; have HPL := Lib.hid hpl
  clear hrl hfl hpl
  obtain ⟨k, hk⟩ : ∃ k, k = min 60 lw.length := ⟨_, rfl⟩
  have hk2 := rd_min hrw k (by omega)
  obtain ⟨x, hx⟩ : ∃ x, x = lw.take k := ⟨_, rfl⟩
  have hxl : x.length = k := by rw [hx, List.length_take]; omega
  rw [← hx] at hk2
  have hUx : ∀ y ∈ x, U64 y := fun y hy => hU y (List.mem_of_mem_take (by rw [← hx]; exact hy))
  have hmk := run_make64 64 64 rfl (by omega)
  go_enter Try.func18, Try.ntmps18
  go_upto_if 30 with fail
  go_cut [0] (fun s0 wx => s0 = .slice ao k c ∧ wx = w)
  case first =>
    by_cases h60 : 60 < lw.length
    · obtain ⟨bb, o, rfl, _⟩ := Rd.at hrw (by omega)
      obtain ⟨_, c', hv, hc⟩ := hrw.val
      simp only [Value.slice.injEq, true_and] at hv
      obtain ⟨rfl, rfl⟩ := hv
      have h1 : (60 : Int) < lw.length := by omega
      have h2 : (60 : Int) ≤ c := by omega
      have h3 : k = 60 := by omega
      clear hk hk2 hrw hs h60 hc
      go_wp2_with fail
      go_meet
      exact ⟨by rw [h3], rfl⟩
    · have h1 : ¬ (60 : Int) < lw.length := by omega
      have h3 : k = lw.length := by omega
      clear hk hk2 hrw hs h60
      go_wp2_with fail
      go_meet
      exact ⟨by rw [h3], rfl⟩
  case rest =>
    obtain ⟨rfl, rfl⟩ := hcut
    rename World => w
    have HXL := Lib.hid (show x.length ≤ 60 by omega)
    have HS := Lib.hid hs
    rw [← hxl] at hk2 ⊢
    have HR0 := Lib.hid hk2
    clear hk2 hrw hs hk hx hxl hU
    go_upto_if 37 with fail
    obtain ⟨m, hm⟩ : ∃ m, m = min 24 l.length := ⟨_, rfl⟩
    go_cut [1] (fun s1 wx => s1 = .slice bo m bc ∧ wx = w)
    case first =>
      have hle := HRL.out.1
      by_cases h60 : 24 < l.length
      · obtain ⟨bb, o, rfl, _⟩ := Rd.at hle (by omega)
        obtain ⟨_, c', hv, hc⟩ := hle.val
        simp only [Value.slice.injEq, true_and] at hv
        obtain ⟨rfl, rfl⟩ := hv
        have h1 : (24 : Int) < l.length := by omega
        have h2 : (24 : Int) ≤ bc := by omega
        have h3 : m = 24 := by omega
        clear hm hle h60 hc
        go_wp2_with fail
        go_meet
        exact ⟨by rw [h3], rfl⟩
      · have h1 : ¬ (24 : Int) < l.length := by omega
        have h3 : m = l.length := by omega
        clear hm hle h60
        go_wp2_with fail
        go_meet
        exact ⟨by rw [h3], rfl⟩
    case rest =>
      obtain ⟨rfl, rfl⟩ := hcut
      rename World => w
      have hle := RdE.take HRL.out m (by omega)
      obtain ⟨l', hl'⟩ : ∃ l', l' = l.take m := ⟨_, rfl⟩
      have hll : l'.length = m := by rw [hl', List.length_take]; omega
      rw [← hl'] at hle
      have hm24 : l'.length ≤ 24 := by omega
      rw [← hll]
      have HLE := Lib.hid hle
      obtain ⟨z, hz⟩ : ∃ z, z = List.replicate 64 (0 : Int) := ⟨_, rfl⟩
      have hzl : z.length = 64 := by rw [hz]; exact List.length_replicate
      have h0 := words_zeros (k := 64) (by omega) (HS.out.alloc (.cells (zeros 64) 27))
      rw [← hz] at h0
      have H0 := Lib.hid h0
      have HR := Lib.hid (HR0.out.alloc (.cells (zeros 64) 27))
      have B1 := Lib.hid (show z.length + x.length ≤ 1000000 by have := HXL.out; omega)
      have HZ := Lib.hid hz
      have HZL := Lib.hid hzl
      clear hle hl' hm hll HRL hz hzl h0
      go_upto_region 7 with (at_builtin; refine wpl_app64 rfl _ _ rfl H0.out rfl HR.out rfl B1.out ?_; intro all e1 a1 c1 w1 hA1)
      have hn : all.length = 64 + x.length := by rw [e1.out, List.length_append, HZL.out]
      have hn64 : 64 ≤ all.length ∧ all.length ≤ 124 := by have := HXL.out; omega
      have ha0 : all[0]? = some 0 := by rw [e1.out, HZ.out]; rfl
      have haU : ∀ y ∈ all, U64 y := by
        rw [e1.out, HZ.out]
        intro y hy
        rcases List.mem_append.1 hy with hy | hy
        · rw [List.eq_of_mem_replicate hy]; unfold U64; omega
        · exact hUx y hy
      have H3 : Hid (Sat w.env w1 (words (.slice none 0 0) [] * (words (.slice a1 all.length c1) all * old w))) := Lib.hid (hA1.row_nil 27 1)
      have HR3 : Hid (Rd w1 1 (.slice a1 all.length c1) all.length (u64s all)) := Lib.hid (Sat.rd hA1)
      have B3 : Hid (([] : List Int).length + all.length ≤ 1000000) := Lib.hid (by simp; omega)
      have HN := Lib.hid hn64; have HA0 := Lib.hid ha0; have HAU := Lib.hid haU; have HNX := Lib.hid hn
      clear hn hn64 ha0 haU hA1 e1 HZ HZL B1 HR H0 hUx HR0 HS
      go_upto_region 8 with (at_builtin; refine wpl_app64 rfl _ _ rfl H3.out rfl HR3.out rfl B3.out ?_; intro wn e4 a4 c4 w4 h4)
      have hwn : wn = all := by rw [e4.out]; rfl
      rw [hwn] at h4 ⊢
      have hent := entRow_nil h4
      have hadd : (64 : Int) + (x.length : Int) = (all.length : Int) := by have := HNX.out; omega
      have hx60 : x.length ≤ 60 := HXL.out
      clear e4 hwn h4 H3 HR3 B3
      go_wp2_with fail
      go_loopw [47, 12] (fun iv gv wr => ∃ (i : Nat) (g : List Ent), i ≤ l'.length ∧ iv = .int .i64 i ∧ g.length ≤ i ∧ (∀ x ∈ g, (64 : Int) ≤ x.at_ ∧ x.at_ < all.length ∧ U64 x.word) ∧
        Sat w.env wr (entRow gv g * (words (.slice a4 all.length c4) (Dev.sets all (Redo.ents g)) * (words (.slice a1 all.length c1) all * old w)))) (fun iv _ _ => l'.length - (intOf iv).toNat)
      case atStart => exact ⟨0, [], Nat.zero_le _, rfl, Nat.zero_le _, by simp, hent⟩
      case round =>
        clear hent
        obtain ⟨i, g, hi, rfl, hgl, hg, hw⟩ := hrel
        have HG := Lib.hid hg
        clear hg
        by_cases hlt : i < l'.length
        · have hre := HLE.out.old hw.right.right.right
          obtain ⟨bb, o, rfl, c0, c1'⟩ := RdE.nth hre i hlt
          have hx : U64 l'[i].word := hre.2.1 _ (List.getElem_mem hlt)
          obtain ⟨cat, hcat⟩ : ∃ x, x = l'[i].at_ := ⟨_, rfl⟩
          obtain ⟨cw, hcw⟩ : ∃ x, x = l'[i].word := ⟨_, rfl⟩
          rw [← hcat] at c0; rw [← hcw] at c1' hx
          clear hcat hcw hre
          have HW := Lib.hid hw; have HX := Lib.hid hx
          have skip : Hid ((∃ (i_1 : Nat) (g : List Ent), i_1 ≤ l'.length ∧ Value.int IntKind.i64 (↑i + 1) = .int .i64 i_1 ∧ g.length ≤ i_1 ∧ (∀ x ∈ g, (64 : Int) ≤ x.at_ ∧ x.at_ < all.length ∧ U64 x.word) ∧
              Sat w.env (wr.alloc (.cells #[.int .i64 cat, .int .u64 cw] 58)) (entRow u12 g * (words (.slice a4 all.length c4) (Dev.sets all (Redo.ents g)) * (words (.slice a1 all.length c1) all * old w)))) ∧
              l'.length - (intOf (Value.int IntKind.i64 (↑i + 1))).toNat < l'.length - (intOf (Value.int IntKind.i64 ↑i)).toNat) :=
            Lib.hid ⟨⟨i + 1, g, by omega, rfl, by omega, HG.out, Sat.right (hw.alloc _)⟩, by simp only [intOf]; omega⟩
          clear hw hx
          by_cases h1 : 64 ≤ cat
          · by_cases h2 : cat < (all.length : Int)
            · obtain ⟨P, rfl⟩ : ∃ P : Nat, cat = P := ⟨cat.toNat, by omega⟩
              have HB := Lib.hid (show g.length + 1 ≤ 1000000 by omega)
              clear skip
              go_upto_region 14 with (at_builtin; refine wpl_pushE rfl _ _ rfl (Sat.swap2 (Sat.alloc2 HW.out _ _)) rfl rfl HB.out ?_; intro g' e3 a5 c5 w5 h5)
              have x0 := (Sat.right h5).cell 0 rfl
              have x1 := (Sat.right h5).cell 1 rfl
              have hsl : (Dev.sets all (Redo.ents g)).length = all.length := Dev.sets_len _ _
              obtain ⟨s1, hs1⟩ : ∃ s1, s1 = Dev.sets all (Redo.ents g) := ⟨_, rfl⟩
              rw [← hs1] at h5 hsl
              have h6 : Sat w.env w5 (words (.slice a4 s1.length c4) s1 * (entRow (.slice a5 g'.length c5) g' * (pt wr.heap.size (.cells #[.int .i64 P, .int .u64 cw] 58) * (words (.slice a1 all.length c1) all * old w)))) := by
                rw [hsl]
                exact h5.ac (by ac_rfl)
              have hPl : P < s1.length := by omega
              obtain ⟨g4, c4', heq, _⟩ := words_at h6 P hPl
              simp only [Value.slice.injEq, true_and] at heq
              obtain ⟨rfl, rfl⟩ := heq
              have cc := words_cell h6 P hPl
              have ff := words_free h6 P
              have h7 := words_set h6 P cw hPl
              rw [hsl] at h7
              have hP0 : (0 : Int) ≤ (P : Int) := by omega
              have hP9 : (P : Int) < (all.length : Int) := h2
              have H7 : Hid (Sat w.env (w5.setCell ⟨g4, P, none⟩ (.int .u64 cw)) (entRow (.slice a5 g'.length c5) g' * (words (.slice (some ⟨g4, 0, none⟩) all.length c4) (s1.set P cw) * (words (.slice a1 all.length c1) all * old w)))) := Lib.hid
                (Sat.right (h7.ac (B := pt wr.heap.size (.cells #[.int .i64 P, .int .u64 cw] 58) * (entRow (.slice a5 g'.length c5) g' * (words (.slice (some ⟨g4, 0, none⟩) all.length c4) (s1.set P cw) * (words (.slice a1 all.length c1) all * old w)))) (by ac_rfl)))
              have HS1 := Lib.hid hs1
              clear h5 h6 h7 hs1 hPl hsl
              go_wp2_with fail
              refine ⟨⟨i + 1, g', by omega, rfl, ?_, ?_, ?_⟩, by simp only [intOf]; omega⟩
              · rw [e3.out, List.length_append]; simp; omega
              · rw [e3.out]
                intro y hy
                rcases List.mem_append.1 hy with hy | hy
                · exact HG.out y hy
                · rw [List.mem_singleton] at hy
                  rw [hy]
                  exact ⟨h1, h2, HX.out⟩
              · have e : Dev.sets all (Redo.ents g') = s1.set P cw := by
                  rw [e3.out, HS1.out, ents_append, Dev.sets_append]
                  rfl
                rw [e]
                exact H7.out
            · go_wp2_with fail
              exact skip.out
          · go_wp2_with fail
            exact skip.out
        · obtain rfl : i = l'.length := by omega
          obtain ⟨ga, gc, rfl⟩ := entRow_val hw
          have hfit : g = [] ∨ Redo.Fit 64 all.length g := .inr ⟨by omega, HN.out.1, fun x hx => ⟨(HG.out x hx).1, (HG.out x hx).2.1⟩⟩
          obtain ⟨want, hwant⟩ : ∃ want, want = Dev.sets all (Redo.ents g) := ⟨_, rfl⟩
          have hwl : want.length = all.length := by rw [hwant]; exact Dev.sets_len _ _
          rw [← hwant] at hw
          have hA : Sat w.env wr (words (.slice a1 all.length c1) all * (words (.slice a4 all.length c4) want * (entRow (.slice ga g.length gc) g * old w))) := hw.ac (by ac_rfl)
          obtain ⟨F0, hF0⟩ : ∃ F0 : HP, F0 = words (.slice a1 all.length c1) all * (words (.slice a4 all.length c4) want * (entRow (.slice ga g.length gc) g * old w)) := ⟨_, rfl⟩
          rw [← hF0] at hA
          have HRD : Hid (∀ W, Sat w.env W F0 → Rd W 1 (.slice a1 all.length c1) all.length (u64s all)) := Lib.hid (fun W hW => by rw [hF0] at hW; exact Sat.rd hW)
          have HRG : Hid (∀ W, Sat w.env W F0 → RdE W (.slice ga g.length gc) g) := Lib.hid (fun W hW => by
            rw [hF0] at hW
            exact entRow_rd hW.right.right (fun x hx => (HG.out x hx).2.2) (fun x hx => by have := HG.out x hx; have := HN.out; unfold I64; omega))
          have HOLD : Hid (∀ W, Sat w.env W F0 → Sat w.env W (old w)) := Lib.hid (fun W hW => by rw [hF0] at hW; exact hW.right.right.right)
          have HF0 := Lib.hid hF0; have HWANT := Lib.hid hwant; have HWL := Lib.hid hwl; have HFIT := Lib.hid hfit; have HA := Lib.hid hA
          have hg24 : g.length ≤ 24 := by omega
          clear hwant hwl hF0 hfit hA hw hlt hi hadd HNX
          go_wp2_with fail
          refine (laid_calls _ all a1 c1 (by have := HN.out; omega) HAU.out HRD.out HA.out).mono ?_
          rintro e w2 ⟨b, r, rfl, h2⟩
          have H2 := Lib.hid (Sat.mid h2)
          clear h2
          go_upto_if 79 with fail
          go_cut [] (fun wx => ∃ d1 : Dev, Redo.Clean d1 ∧ d1.read = all ∧ Sat w.env wx (dev b d1 * F0))
          case first =>
            by_cases hf0 : 0 < fl.length
            · obtain ⟨bb, o, rfl, cf⟩ := rd_int (Rd.old HFL.out (HOLD.out _ H2.out.right)) 0 hf0
              rw [Nat.add_zero] at cf
              generalize fl.getD 0 0 = f0 at cf
              have hfi : (0 : Int) < (fl.length : Int) := by omega
              have hfn : ¬ fl.length = 0 := by omega
              go_wp2_with fail
              refine (fuse_calls _ _ (wrap_le _) H2.out).mono ?_
              rintro e w3 ⟨rfl, h3⟩
              have H3 := Lib.hid h3
              clear h3
              go_wp2_with fail
              go_meet
              exact ⟨_, clean_setFuse (Redo.laid_clean all) _, rfl, H3.out⟩
            · have hfi : ¬ (0 : Int) < (fl.length : Int) := by omega
              go_wp2_with fail
              go_meet
              exact ⟨_, Redo.laid_clean all, rfl, H2.out⟩
          case rest =>
            obtain ⟨d1, hc1, hr1, h3⟩ := hcut
            have HC1 := Lib.hid hc1; have HR1 := Lib.hid hr1
            clear hc1 hr1 H2 HA
            go_wp2_with fail
            refine (write_calls _ 0 64 g ga gc (by unfold I64; omega) (by unfold I64; omega) HRG.out h3).mono ?_
            rintro e w3 ⟨rfl, h4⟩
            have hws := Redo.write_st HFIT.out HN.out.1 (by have := HN.out; omega) HA0.out d1 HC1.out HR1.out _ rfl (dev_ok h4)
            obtain ⟨⟨d2, e2⟩, hq⟩ : ∃ q, q = Redo.write d1 0 64 g := ⟨_, rfl⟩
            rw [← hq] at h4 hws ⊢
            simp only at h4 hws ⊢
            obtain ⟨ans, hans⟩ : ∃ ans : Bool, (ans = true ∧ e2 = 0 ∨ ans = false ∧ e2 = 7) ∧ Redo.After d2 (Redo.St ans all g) := by
              rcases hws with ⟨h1, h2⟩ | ⟨h1, h2⟩
              · exact ⟨true, .inl ⟨rfl, h1⟩, h2⟩
              · exact ⟨false, .inr ⟨rfl, h1⟩, h2⟩
            have HANS := Lib.hid hans.1
            have HAFT := Lib.hid hans.2
            have H4 := Lib.hid h4
            clear hws hq hans h3 h4
            go_upto_region 20 with fail
            go_cut [97] (fun s wx => s = .bool false ∧ wx = w3)
            case first =>
              rcases HANS.out with ⟨_, rfl⟩ | ⟨_, rfl⟩
              · go_wp2_with fail
                go_meet
                exact ⟨rfl, rfl⟩
              · go_wp2_with fail
                go_meet
                exact ⟨rfl, rfl⟩
            case rest =>
              obtain ⟨rfl, rfl⟩ := hcut
              go_wp2_with fail
              have hmp2 := hmp
              go_loopw [18] (fun iv wr => ∃ (i : Nat) (d : Dev), i ≤ 6 ∧ iv = .int .i64 i ∧ Redo.After d (Redo.St ans all g) ∧ Sat w.env wr (dev b d * F0)) (fun iv _ => 6 - (intOf iv).toNat)
              case atStart => exact ⟨0, d2, by omega, rfl, HAFT.out, H4.out⟩
              case round =>
                clear H4 HAFT hmp2
                obtain ⟨i, d, hi, rfl, haft, hw⟩ := hrel
                have HAFT := Lib.hid haft
                have HW := Lib.hid hw
                clear haft hw
                by_cases hlt : i < 6
                · have hlti : (i : Int) < 6 := by omega
                  go_upto_if 105 with fail
                  go_cut [19] (fun s19 wx => wx = wr ∧ ∃ p : List Int, (∃ a c, s19 = .slice a p.length c) ∧ (∀ x ∈ p, U8 x) ∧ ∀ W, Sat w.env W F0 → Rd W 1 s19 p.length (u8s p))
                  case first =>
                    by_cases hip : i < pl.length
                    · obtain ⟨bb, o, rfl, cp⟩ := RdPicks.nth (HPL.out.old (HOLD.out _ HW.out.right)) i hip
                      have hpv := HPL.out.2 _ (List.getElem_mem hip)
                      have hpr : ∀ W, Sat w.env W F0 → Rd W 1 pl[i].1 pl[i].2.length (u8s pl[i].2) := fun W hW => Rd.old hpv.2.1 (HOLD.out W hW)
                      obtain ⟨⟨pa, pca, hpe⟩, _, hp8⟩ := hpv
                      rw [hpe] at cp hpr
                      generalize pl[i].2 = p at cp hpr hp8
                      have HPR := Lib.hid hpr; have HP8 := Lib.hid hp8
                      clear hpr hp8 hpe
                      have hipi : (i : Int) < pl.length := by omega
                      go_wp2_with fail
                      go_meet
                      exact ⟨rfl, p, ⟨_, _, rfl⟩, HP8.out, HPR.out⟩
                    · have hipi : ¬ (i : Int) < pl.length := by omega
                      go_wp2_with fail
                      go_meet
                      exact ⟨rfl, [], ⟨_, _, rfl⟩, by simp, fun W _ => ⟨rfl, Nat.zero_le _, .inl ⟨rfl, none, 0, rfl, fun _ => rfl⟩⟩⟩
                  case rest =>
                    obtain ⟨rfl, p, ⟨pa, pca, rfl⟩, hp8, hpr⟩ := hcut
                    rename World => wr
                    have HP8 := Lib.hid hp8; have HPR := Lib.hid hpr
                    clear hp8 hpr
                    go_wp2_with fail
                    refine (crash_calls _ _ p HP8.out HPR.out HW.out).mono ?_
                    rintro e w5 ⟨rfl, h5⟩
                    have hcl : Redo.Clean (d.crash p) := ⟨rfl, rfl, rfl⟩
                    have hst : Redo.St ans all g (d.crash p).read := HAFT.out p
                    generalize d.crash p = d3 at h5 hcl hst
                    have HCL := Lib.hid hcl; have HST := Lib.hid hst; have H5 := Lib.hid h5
                    clear hcl hst h5 HP8 HPR HW HAFT
                    go_upto_if 117 with fail
                    go_cut [] (fun wx => ∃ d4 : Dev, Redo.Clean d4 ∧ d4.read = d3.read ∧ Sat w.env wx (dev b d4 * F0))
                    case first =>
                      by_cases hif : i + 1 < fl.length
                      · obtain ⟨bb, o, rfl, cf⟩ := rd_int (Rd.old HFL.out (HOLD.out _ H5.out.right)) (i + 1) hif
                        generalize fl.getD (i + 1) 0 = f0 at cf
                        have hifi : (i : Int) + 1 < fl.length := by omega
                        have hadd1 : o + (i + 1) = o + i + 1 := by omega
                        rw [hadd1] at cf
                        go_wp2_with fail
                        refine (fuse_calls _ _ (wrap_le _) H5.out).mono ?_
                        rintro e w6 ⟨rfl, h6⟩
                        have H6 := Lib.hid h6
                        clear h6
                        go_wp2_with fail
                        go_meet
                        exact ⟨_, clean_setFuse HCL.out _, rfl, H6.out⟩
                      · have hifi : ¬ (i : Int) + 1 < fl.length := by omega
                        go_wp2_with fail
                        go_meet
                        exact ⟨_, HCL.out, rfl, H5.out⟩
                    case rest =>
                      obtain ⟨d4, hc4, hr4, h6⟩ := hcut
                      have HC4 := Lib.hid hc4; have HR4 := Lib.hid hr4
                      clear hc4 hr4 H5 HCL
                      go_wp2_with fail
                      refine (recover_calls _ 0 64 h6).mono ?_
                      rintro e w7 ⟨rfl, h7⟩
                      have hrs := Redo.recover_st HFIT.out HN.out.1 (by have := HN.out; omega) d4 HC4.out (by rw [HR4.out]; exact HST.out) _ rfl (dev_ok h7)
                      obtain ⟨⟨d5, k5, e5⟩, hq⟩ : ∃ q, q = Redo.recover d4 0 64 := ⟨_, rfl⟩
                      rw [← hq] at h7 hrs ⊢
                      simp only at h7 hrs ⊢
                      have HE5 := Lib.hid hrs.1; have HA5 := Lib.hid hrs.2; have H7 := Lib.hid h7
                      clear hrs hq h6 h7
                      have fin : Hid ((∃ (i_1 : Nat) (d : Dev), i_1 ≤ 6 ∧ Value.int IntKind.i64 (↑i + 1) = .int .i64 i_1 ∧ Redo.After d (Redo.St ans all g) ∧ Sat w.env w7 (dev b d * F0)) ∧ 6 - (intOf (Value.int IntKind.i64 (↑i + 1))).toNat < 6 - (intOf (Value.int IntKind.i64 ↑i)).toNat) :=
                        Lib.hid ⟨⟨i + 1, d5, by omega, rfl, HA5.out, H7.out⟩, by simp only [intOf]; omega⟩
                      rcases HE5.out with rfl | rfl
                      · go_wp2_with fail
                        exact fin.out
                      · go_wp2_with fail
                        exact fin.out
                · have hlti : ¬ (i : Int) < 6 := by omega
                  have HRD0 : Hid (∀ W : World, Rd W 1 (.slice none 0 0) ([] : List Int).length (u8s [])) := Lib.hid fun W => ⟨rfl, Nat.zero_le _, .inl ⟨rfl, none, 0, rfl, fun _ => rfl⟩⟩
                  go_wp2_with fail
                  refine (crash_calls _ _ [] (by simp) (fun W _ => HRD0.out W) HW.out).mono ?_
                  rintro e w5 ⟨rfl, h5⟩
                  have hru := Redo.recover_up HFIT.out HN.out.1 (by have := HN.out; omega) (d.crash []) (Dev.up_crash d []) ⟨rfl, rfl, rfl⟩ (HAFT.out []) _ rfl
                  have HRU := Lib.hid hru
                  generalize d.crash [] = d3 at h5 HRU
                  clear hru HW HAFT
                  go_wp2_with fail
                  refine (recover_calls _ 0 64 h5).mono ?_
                  rintro e w6 ⟨rfl, h6⟩
                  have hru := HRU.out
                  obtain ⟨⟨d4, k4, e4⟩, hq⟩ : ∃ q, q = Redo.recover d3 0 64 := ⟨_, rfl⟩
                  rw [← hq] at h6 hru ⊢
                  simp only at h6 hru ⊢
                  obtain ⟨rfl, hc4, hl4, hz4, hdat⟩ := hru
                  have hidle := Redo.recover_idle d4 hc4.up (by rw [hl4]; exact HN.out.1) hz4
                  have HC4 := Lib.hid hc4; have HL4 := Lib.hid hl4; have HZ4 := Lib.hid hz4; have HDAT := Lib.hid hdat; have HIDLE := Lib.hid hidle
                  clear hq HRU h5 hc4 hl4 hz4 hdat hidle
                  go_wp2_with fail
                  refine (recover_calls _ 0 64 h6).mono ?_
                  rintro e w7 ⟨rfl, h7⟩
                  rw [HIDLE.out] at h7 ⊢
                  simp only at h7 ⊢
                  clear h6
                  go_wp2_with fail
                  refine (wordsD_calls _ h7).mono ?_
                  rintro e w8 ⟨v8, rfl, h8⟩
                  have h9 : Sat w.env w8 (words v8 d4.read * F0) := by rw [← HC4.out.sure]; exact Sat.mid h8
                  obtain ⟨sr, hsr⟩ : ∃ sr, sr = d4.read := ⟨_, rfl⟩
                  rw [← hsr] at h9
                  have hsl : sr.length = all.length := by rw [hsr]; exact HL4.out
                  obtain ⟨gA, cA, rfl, hcA⟩ := words_at h9 0 (by rw [hsl]; have := HN.out; omega)
                  have h10 := h9
                  rw [HF0.out] at h10
                  have h11 : Sat w.env w8 (words (.slice a4 want.length c4) want * (words (.slice (some ⟨gA, 0, none⟩) sr.length cA) sr * (words (.slice a1 all.length c1) all * old w))) := by
                    rw [HWL.out]
                    have : Sat w.env w8 (entRow (.slice ga g.length gc) g * (words (.slice a4 all.length c4) want * (words (.slice (some ⟨gA, 0, none⟩) sr.length cA) sr * (words (.slice a1 all.length c1) all * old w)))) := h10.ac (by ac_rfl)
                    exact this.right
                  obtain ⟨g4, c4', heq, hc4⟩ := words_at h11 0 (by rw [HWL.out]; have := HN.out; omega)
                  simp only [Value.slice.injEq, true_and] at heq
                  obtain ⟨rfl, rfl⟩ := heq
                  obtain ⟨g1, c1', heq, hc1⟩ := words_at (Sat.right (Sat.right h11)) 0 (by have := HN.out; omega)
                  simp only [Value.slice.injEq, true_and] at heq
                  obtain ⟨rfl, rfl⟩ := heq
                  have c0 := words_cell h9 0 (by rw [hsl]; have := HN.out; omega)
                  have hz0 : sr.getD 0 0 = 0 := by rw [hsr, List.getD_eq_getElem?_getD, HZ4.out]; rfl
                  rw [hz0] at c0
                  have rS := rd_tail_if (Sat.rd h9) 64 (by rw [hsl]; exact HN.out.1)
                  have rW := rd_tail_if (Sat.rd h11) 64 (by rw [HWL.out]; exact HN.out.1)
                  have rA := rd_tail_if (Sat.rd (Sat.right (Sat.right h11))) 64 HN.out.1
                  rw [hsl] at rS hcA ⊢
                  rw [HWL.out] at rW hc4
                  obtain ⟨aS, haS⟩ : ∃ a : Option Addr, (if cA = 64 then some (⟨gA, 0, none⟩ : Addr) else some ⟨gA, 64, none⟩) = a := ⟨_, rfl⟩
                  obtain ⟨aW, haW⟩ : ∃ a : Option Addr, (if c4 = 64 then some (⟨g4, 0, none⟩ : Addr) else some ⟨g4, 64, none⟩) = a := ⟨_, rfl⟩
                  obtain ⟨aA, haA⟩ : ∃ a : Option Addr, (if c1 = 64 then some (⟨g1, 0, none⟩ : Addr) else some ⟨g1, 64, none⟩) = a := ⟨_, rfl⟩
                  rw [haS] at rS; rw [haW] at rW; rw [haA] at rA
                  obtain ⟨DN, hDN⟩ : ∃ B, B = decide (sr.drop 64 = want.drop 64) := ⟨_, rfl⟩
                  have hor : DN = true ∨ (e2 = 7 ∧ sr.drop 64 = all.drop 64) := by
                    rcases HDAT.out with hd | ⟨ha, hd⟩
                    · left
                      rw [hDN, decide_eq_true_iff]
                      refine List.ext_getElem? fun i => ?_
                      rw [List.getElem?_drop, List.getElem?_drop, hsr, hd _ (by omega), HWANT.out]
                    · right
                      refine ⟨?_, ?_⟩
                      · rcases HANS.out with ⟨h1, _⟩ | ⟨_, h2⟩
                        · rw [h1] at ha; cases ha
                        · exact h2
                      · refine List.ext_getElem? fun i => ?_
                        rw [List.getElem?_drop, List.getElem?_drop, hsr, hd _ (by omega)]
                  have HE1 : Hid (∀ W : World, (∀ a, W.cell? a = w8.cell? a) → Calls Try.prog 29 #[.slice aS (all.length - 64) (cA - 64), .slice aW (all.length - 64) (c4 - 64)] W fun e w' => e = .returned (.bool DN) ∧ ∃ m, w' = W.drewN m) := Lib.hid fun W hW => by
                    have := same_calls W _ _ _ _ (rS.of_cells hW) (rW.of_cells hW)
                    rwa [← hDN] at this
                  obtain ⟨R, hR⟩ : ∃ R, R = words (.slice (some ⟨gA, 0, none⟩) sr.length cA) sr * F0 := ⟨_, rfl⟩
                  have KEY : ∀ x : At w.env R, x.W.cell? ⟨gA, 0, none⟩ = some (.int .u64 0) := by
                    intro x
                    obtain ⟨W, h⟩ := x
                    rw [hR] at h
                    have := words_cell h 0 (by rw [hsl]; have := HN.out; omega)
                    rwa [hz0] at this
                  have HE3 : Hid (sr.drop 64 = all.drop 64 → ∀ W, Sat w.env W R → Calls Try.prog 29 #[.slice aS (all.length - 64) (cA - 64), .slice aA (all.length - 64) (c1 - 64)] W fun e w' => e = .returned (.bool true) ∧ Sat w.env w' R) := Lib.hid fun he W hW => by
                    have k9 := hW
                    rw [hR] at k9
                    have k10 := k9.right
                    rw [HF0.out] at k10
                    have qS := rd_tail_if (Sat.rd k9) 64 (by rw [hsl]; exact HN.out.1)
                    have qA := rd_tail_if (Sat.rd k10) 64 HN.out.1
                    rw [hsl, haS] at qS
                    rw [haA] at qA
                    have := same_calls W _ _ _ _ qS qA
                    rw [decide_eq_true he] at this
                    exact this.mono fun e w' ⟨h1, m, h2⟩ => ⟨h1, by rw [h2]; exact hW.drewN m⟩
                  have HAW : Hid (∀ W, Sat w.env W R → Calls Try.prog 42 #[] W fun e w' => e = .returned (.bool true) ∧ Sat w.env w' R) := Lib.hid fun W h => awake4_calls W h
                  have HR9 : Hid (Sat w.env w8 R) := Lib.hid (by rw [hR]; exact h9)
                  have HRO : Hid (∀ W, Sat w.env W R → Sat w.env W (old w)) := Lib.hid fun W hW => HOLD.out _ (by rw [hR] at hW; exact hW.right)
                  have l0 : (64 : Int) ≤ (all.length : Int) := by have := HN.out; omega
                  have l1 : (all.length : Int) ≤ (cA : Int) := by omega
                  have l2 : (all.length : Int) ≤ (c4 : Int) := by omega
                  have l3 : (all.length : Int) ≤ (c1 : Int) := by omega
                  have l4 : (0 : Int) < (all.length : Int) := by omega
                  have HOR := Lib.hid hor
                  clear h7 h8 h9 h10 h11 rS rW rA hcA hc4 hc1 hsl hsr hDN hor hz0 hR c0
                  go_upto_region 44 with fail
                  go_quiet ((go_at_call 29; exact Calls.quiet_of (HE1.out _ (by intro a; rfl))))
                  go_upto_region 45 with fail
                  go_cut [8] (fun s wx => s = .bool true ∧ Sat w.env wx (old w))
                  case first =>
                    cases DN with
                    | true =>
                      refine wp_region_class (HR9.out.drewN nq) (by kernel_rfl) (by kernel_rfl) fun ne => ?_
                      repeat (go_big_quiet_step ((go_at_call 42; exact At.call (HAW.out _ (At.ok _)))))
                      refine wpQuiet_nil ?_
                      rintro _ ⟨⟨w9, h11⟩, rfl⟩
                      go_wp2_with fail
                      go_meet
                      exact ⟨rfl, HRO.out _ h11⟩
                    | false =>
                      obtain ⟨rfl, hsame⟩ := HOR.out.resolve_left (by simp)
                      have HE4 := Lib.hid (HE3.out hsame)
                      clear hsame
                      refine wp_region_class (HR9.out.drewN nq) (by kernel_rfl) (by kernel_rfl) fun ne => ?_
                      repeat (go_big_quiet_step ((first | (go_at_call 29; exact At.call (HE4.out _ (At.ok _))) | (go_at_call 42; exact At.call (HAW.out _ (At.ok _))))))
                      refine wpQuiet_nil ?_
                      rintro _ ⟨⟨w9, h11⟩, rfl⟩
                      go_wp2_with fail
                      go_meet
                      exact ⟨rfl, HRO.out _ h11⟩
                  case rest =>
                    obtain ⟨rfl, h12⟩ := hcut
                    go_wp2_with fail
                    go_ret
                    exact ⟨rfl, h12⟩
end
end Scul
