/- scullionlaw4.RedoGoes: whatever words, rows of entries and picks: row behind row: each that is not refused stands, the later over the earlier; a crash changes nothing of it. No condition. -/
import Derived.Test.YtffakdoobeegpaaRowsIn
import Derived.Test.YtffakdoobeegpaaRedoG
import Derived.Test.YtffakdoobeegpaaRedoQ
import Derived.Deep.CutBlock
import Derived.Deep.RegionHeld3
import Derived.Deep.DeepCutAuto
namespace Scul
open Go Go.Sl Go.RowKit Go.Proofs
theorem ents_append (l m : List Ent) : Redo.ents (l ++ m) = Redo.ents l ++ Redo.ents m := by simp [Redo.ents]
/-- Are the first i entries words behind the log? -/
def inB (n : Nat) (l : List Ent) (i : Nat) : Bool := (l.take i).all fun x => decide ((64 : Int) ≤ x.at_) && decide (x.at_ < (n : Int))
theorem inB_succ (n : Nat) (l : List Ent) (i : Nat) (hi : i < l.length) : inB n l (i + 1) = (inB n l i && decide ((64 : Int) ≤ l[i].at_) && decide (l[i].at_ < (n : Int))) := by
  unfold inB
  rw [List.take_succ_eq_append_getElem hi, List.all_append, List.all_cons, List.all_nil, Bool.and_true, Bool.and_assoc]
/-- The device between rows. -/
structure GoesOk (n : Nat) (d : Dev) (k : Nat) (wn : List Int) : Prop where
  up : d.Up
  clean : Redo.Clean d
  len : d.read.length = n
  mark : d.read.getD 0 0 = 0
  steps : d.steps = k
  wlen : wn.length = n
  data : ∀ i, 64 ≤ i → d.read[i]? = wn[i]?
theorem goes_step {n : Nat} {d : Dev} {k : Nat} {wn : List Int} (h : GoesOk n d k wn) (hn : 64 ≤ n) (hn2 : n ≤ 1000) (hk : k ≤ 50000) (l : List Ent) (hl : l.length ≤ 20) (R : Dev × Int) (hR : R = Redo.write d 0 64 l) :
    (inB n l l.length = false → R = (d, 1)) ∧ (inB n l l.length = true → R.2 = 0 ∧ ∃ k', k' ≤ k + 200 ∧ GoesOk n R.1 k' (Dev.sets wn (Redo.ents l))) := by
  have e := Redo.write0 (T := 64) (n := n) d h.up.1 h.len (by omega) (by omega) hn l
  have e' : R = if ¬ (∀ x ∈ l, (64 : Int) ≤ x.at_ ∧ x.at_ < n) then (d, 1) else if l = [] then (d, 0) else d.run (Redo.writeOps 0 l) := by
    have e2 : R = Redo.write d 0 ((64 : Nat) : Int) l := hR
    rw [e2, e, if_neg (by omega)]
    split
    · rename_i hh; exact (if_pos hh).symm
    · rename_i hh
      refine Eq.trans (if_neg (fun h2 => h2 h.mark)) ?_
      exact (if_neg hh).symm
  have hb : inB n l l.length = decide (∀ x ∈ l, (64 : Int) ≤ x.at_ ∧ x.at_ < n) := by
    unfold inB
    rw [List.take_length, Bool.eq_iff_iff, List.all_eq_true, decide_eq_true_iff]
    refine forall_congr' fun x => forall_congr' fun _ => ?_
    simp
  rw [hb]
  subst e'
  by_cases hin : ∀ x ∈ l, (64 : Int) ≤ x.at_ ∧ x.at_ < n
  · rw [if_neg (fun h => h hin)]
    refine ⟨fun h => (by rw [decide_eq_true hin] at h; cases h), fun _ => ?_⟩
    by_cases hl0 : l = []
    · rw [if_pos hl0]
      subst hl0
      exact ⟨rfl, k, by omega, h⟩
    · rw [if_neg hl0]
      have hf : Redo.Fit 64 n l := ⟨by omega, hn, hin⟩
      obtain ⟨h1, h2, h3, h4, h5⟩ := Redo.write_up hf d h.up h.clean h.len k h.steps (by omega)
      have hlen := Redo.writeOps_len l
      have hle := Redo.onceA_le [] l
      refine ⟨h1, k + (Redo.writeOps 0 l).length, by omega, h2, h3, ?_, ?_, h5, ?_, fun i hi => ?_⟩
      · rw [h4, Redo.put_len, h.len]
      · rw [h4, List.getD_eq_getElem?_getD, Redo.put_zero _ _ (by simp [Redo.put1, Redo.put2, Dev.sets_len, h.len]; omega)]
        rfl
      · rw [Dev.sets_len, h.wlen]
      · rw [h4, Redo.put_data hf d.read i hi]
        exact Dev.sets_congr _ _ _ _ (h.data i hi)
  · rw [if_pos hin]
    exact ⟨fun _ => rfl, fun h => by rw [decide_eq_false hin] at h; cases h⟩
/-- What is behind the first k of what reads, also where nothing is. -/
theorem rd_tail_if {w : World} {g c : Nat} {l : List Int} (h : Rd w 1 (.slice (some ⟨g, 0, none⟩) l.length c) l.length (u64s l)) (k : Nat) (hk : k ≤ l.length) :
    Rd w 1 (.slice (if c = k then some ⟨g, 0, none⟩ else some ⟨g, k, none⟩) (l.length - k) (c - k)) (l.drop k).length (u64s (l.drop k)) := by
  have h2 := Rd.cut h k l.length hk (Nat.le_refl _) (ao := if c = k then some ⟨g, 0, none⟩ else some ⟨g, k, none⟩) (fun h => by rw [if_neg h]; simp) (fun h => ⟨0, by rw [if_pos h]⟩) rfl rfl
  have e : ((u64s l).drop k).take (l.length - k) = u64s (l.drop k) := by
    rw [List.take_of_length_le (by simp [u64s])]
    simp [u64s]
  rw [e] at h2
  rw [List.length_drop]
  exact h2
section
variable {E : Env} {w : World} {F : HP} {b : Nat} {d : Dev}
set_option maxRecDepth 100000 in
set_option maxHeartbeats 8000000 in
theorem redoGoes_walk (w : World) (lw : List Int) (ao : Option Addr) (c : Nat) (rows : List (Value × List Ent)) (bo : Option Addr) (bc : Nat) (p : List Int) (pv : Value) (hrw : Rd w 1 (.slice ao lw.length c) lw.length (u64s lw)) (hU : ∀ x ∈ lw, U64 x)
    (hrr : RdRows w (.slice bo rows.length bc) rows) (hp : Rd w 1 pv p.length (u8s p)) (hp8 : ∀ x ∈ p, U8 x) :
    Calls Try.prog 16 #[.slice ao lw.length c, .slice bo rows.length bc, pv] w fun e w' => e = .returned (.bool true) ∧ Sat w.env w' (old w) := by
  have hs := Sat.init w
  have hmw := hrw.most
  have hml := hrr.1.most
  obtain ⟨k, hk⟩ : ∃ k, k = min 40 lw.length := ⟨_, rfl⟩
  have hk2 := rd_min hrw k (by omega)
  obtain ⟨x, hx⟩ : ∃ x, x = lw.take k := ⟨_, rfl⟩
  have hxl : x.length = k := by rw [hx, List.length_take]; omega
  rw [← hx] at hk2
  have hUx : ∀ y ∈ x, U64 y := fun y hy => hU y (List.mem_of_mem_take (by rw [← hx]; exact hy))
  have hmk := run_make64 64 64 rfl (by omega)
  obtain ⟨pa, pc, rfl, _⟩ := hp.val
  have HRR := Lib.hid hrr; have HPP := Lib.hid hp; have HP8 := Lib.hid hp8
  clear hrr hp hp8
  go_enter Try.func16, Try.ntmps16
  go_upto_if 24 with fail
  go_cut [0] (fun s0 wx => s0 = .slice ao k c ∧ wx = w)
  case first =>
    by_cases h60 : 40 < lw.length
    · obtain ⟨bb, o, rfl, _⟩ := Rd.at hrw (by omega)
      obtain ⟨_, c', hv, hc⟩ := hrw.val
      simp only [Value.slice.injEq, true_and] at hv
      obtain ⟨rfl, rfl⟩ := hv
      have h1 : (40 : Int) < lw.length := by omega
      have h2 : (40 : Int) ≤ c := by omega
      have h3 : k = 40 := by omega
      clear hk hk2 hrw hs h60 hc
      go_wp2_with fail
      go_meet
      exact ⟨by rw [h3], rfl⟩
    · have h1 : ¬ (40 : Int) < lw.length := by omega
      have h3 : k = lw.length := by omega
      clear hk hk2 hrw hs h60
      go_wp2_with fail
      go_meet
      exact ⟨by rw [h3], rfl⟩
  case rest =>
    obtain ⟨rfl, rfl⟩ := hcut
    rename World => w
    obtain ⟨z, hz⟩ : ∃ z, z = List.replicate 64 (0 : Int) := ⟨_, rfl⟩
    have hzl : z.length = 64 := by rw [hz]; exact List.length_replicate
    have h0 := words_zeros (k := 64) (by omega) (hs.alloc (.cells (zeros 64) 27))
    rw [← hz] at h0
    have H0 := Lib.hid h0
    have HR := Lib.hid (hk2.alloc (.cells (zeros 64) 27))
    have B1 := Lib.hid (show z.length + x.length ≤ 1000000 by omega)
    have HXL := Lib.hid (show x.length ≤ 40 by omega)
    have HZ := Lib.hid hz
    have HZL := Lib.hid hzl
    clear hk2 hrw hs hk hx hxl hU hz hzl h0
    go_upto_region 4 with (at_builtin; refine wpl_app64 rfl _ _ rfl H0.out rfl HR.out rfl B1.out ?_; intro all e1 a1 c1 w1 hA1)
    have hn : all.length = 64 + x.length := by rw [e1.out, List.length_append, HZL.out]
    have hn64 : 64 ≤ all.length ∧ all.length ≤ 104 := by have := HXL.out; omega
    have ha0 : all.getD 0 0 = 0 := by rw [e1.out, HZ.out]; rfl
    have haU : ∀ y ∈ all, U64 y := by
      rw [e1.out, HZ.out]
      intro y hy
      rcases List.mem_append.1 hy with hy | hy
      · rw [List.eq_of_mem_replicate hy]; unfold U64; omega
      · exact hUx y hy
    have HN := Lib.hid hn64; have HA0 := Lib.hid ha0; have HAU := Lib.hid haU; have HA1 := Lib.hid hA1
    have HRD : Hid (∀ W, Sat w.env W (words (.slice a1 all.length c1) all * old w) → Rd W 1 (.slice a1 all.length c1) all.length (u64s all)) := Lib.hid fun W hW => Sat.rd hW
    clear hn hn64 ha0 haU hA1 e1 HZ HZL HXL B1 HR H0 hUx
    go_wp2_with fail
    refine (laid_calls _ all a1 c1 (by have := HN.out; omega) HAU.out HRD.out HA1.out).mono ?_
    rintro e w2 ⟨b, r, rfl, h2⟩
    have h3 : Sat w.env w2 (words (.slice none 0 0) [] * (dev b (Dev.laid all) * (words (.slice a1 all.length c1) all * old w))) := (Sat.mid h2).row_nil 27 1
    have H3 := Lib.hid h3
    have HR3 : Hid (Rd w2 1 (.slice a1 all.length c1) all.length (u64s all)) := Lib.hid (HRD.out _ h2.right.right)
    have B3 : Hid (([] : List Int).length + all.length ≤ 1000000) := Lib.hid (by have := HN.out; simp; omega)
    clear h2 h3 HRD HA1
    go_upto_region 6 with (at_builtin; refine wpl_app64 rfl _ _ rfl H3.out rfl HR3.out rfl B3.out ?_; intro wn e4 a4 c4 w4 h4)
    have hwn : wn = all := by rw [e4.out]; rfl
    have h5 : Sat w.env w4 (dev b (Dev.laid all) * (words (.slice a4 all.length c4) all * old w)) := by
      rw [hwn] at h4
      exact Sat.swap (Sat.mid (Sat.swap2 h4))
    rw [hwn]
    have hgo : GoesOk all.length (Dev.laid all) (all.length + Dev.lines all.length + 1) all := ⟨Dev.laid_up all, Redo.laid_clean all, rfl, HA0.out, rfl, rfl, fun i _ => rfl⟩
    have hsteps : all.length + Dev.lines all.length + 1 ≤ 1000 := by have := HN.out; unfold Dev.lines; omega
    have HGO := Lib.hid hgo; have HST := Lib.hid hsteps
    clear e4 hwn h4 H3 HR3 B3 hgo hsteps
    generalize Dev.laid all = d0 at HGO h5
    generalize all.length + Dev.lines all.length + 1 = k0 at HGO HST
    obtain ⟨n, hnn⟩ : ∃ n, n = all.length := ⟨_, rfl⟩
    rw [← hnn] at HGO HN h5 ⊢
    have HAN := Lib.hid hnn
    clear hnn
    have HRC : Hid (∀ i (hi : i < rows.length), ∃ a c, rows[i].1 = .slice a rows[i].2.length c) := Lib.hid fun i hi => (HRR.out.2 _ (List.getElem_mem hi)).1
    have HRE : Hid (∀ W, Sat w.env W (old w) → ∀ i (hi : i < rows.length), RdE W rows[i].1 rows[i].2) := Lib.hid fun W hW i hi => ((HRR.out.old hW).2 _ (List.getElem_mem hi)).2
    go_wp2_with fail
    go_loopw [39] (fun iv wr => ∃ (i : Nat) (d : Dev) (k : Nat) (wn : List Int), i ≤ rows.length ∧ iv = .int .i64 i ∧ k ≤ 1000 + 200 * min i 6 ∧ GoesOk n d k wn ∧ Sat w.env wr (dev b d * (words (.slice a4 n c4) wn * old w))) (fun iv _ => rows.length - (intOf iv).toNat)
    case atStart => exact ⟨0, d0, k0, all, Nat.zero_le _, rfl, by have := HST.out; omega, HGO.out, h5⟩
    case round =>
      clear h5 HST HGO
      obtain ⟨i, d, k1, wn, hi, rfl, hk1, hgo, hw⟩ := hrel
      have HGO := Lib.hid hgo; have HK1 := Lib.hid hk1; have HW := Lib.hid hw
      clear hgo hk1
      by_cases hlt : i < rows.length
      · obtain ⟨bb, o, rfl, cr⟩ := RdRows.nth (HRR.out.old hw.right.right) i hlt
        obtain ⟨ra, rc, hrv⟩ := HRC.out i hlt
        obtain ⟨l, hl⟩ : ∃ l, l = rows[i].2 := ⟨_, rfl⟩
        rw [← hl] at hrv
        rw [hrv] at cr
        have HREi : Hid (∀ W, Sat w.env W (old w) → RdE W (.slice ra l.length rc) l) := Lib.hid fun W hW => by
          have := HRE.out W hW i hlt
          rw [hrv, ← hl] at this
          exact this
        have skip : Hid ((∃ (i_1 : Nat) (d : Dev) (k : Nat) (wn : List Int), i_1 ≤ rows.length ∧ Value.int IntKind.i64 (↑i + 1) = .int .i64 i_1 ∧ k ≤ 1000 + 200 * min i_1 6 ∧ GoesOk n d k wn ∧ Sat w.env wr (dev b d * (words (.slice a4 n c4) wn * old w))) ∧
            rows.length - (intOf (Value.int IntKind.i64 (↑i + 1))).toNat < rows.length - (intOf (Value.int IntKind.i64 ↑i)).toNat) :=
          Lib.hid ⟨⟨i + 1, d, k1, wn, by omega, rfl, by have := HK1.out; omega, HGO.out, HW.out⟩, by simp only [intOf]; omega⟩
        have hlm := (HREi.out _ hw.right.right).1.most
        clear hrv hl hw
        by_cases h6 : (6 : Int) ≤ i
        · go_wp2_with fail
          exact skip.out
        · by_cases h20 : (20 : Int) < l.length
          · go_wp2_with fail
            exact skip.out
          · have hl20 : l.length ≤ 20 := by omega
            clear skip
            go_wp2_with fail
            go_loopw [53, 13] (fun jv bv wr => ∃ j : Nat, j ≤ l.length ∧ jv = .int .i64 j ∧ bv = .bool (inB n l j) ∧ Sat w.env wr (dev b d * (words (.slice a4 n c4) wn * old w))) (fun jv _ _ => l.length - (intOf jv).toNat)
            case atStart => exact ⟨0, Nat.zero_le _, rfl, rfl, HW.out⟩
            case round =>
              clear HW
              obtain ⟨j, hj, rfl, rfl, hw⟩ := hrel
              by_cases hltj : j < l.length
              · obtain ⟨bb2, o2, rfl, c0, c1'⟩ := RdE.nth (HREi.out _ hw.right.right) j hltj
                have HNX := Lib.hid (inB_succ n l j hltj)
                obtain ⟨cat, hcat⟩ : ∃ x, x = l[j].at_ := ⟨_, rfl⟩
                obtain ⟨cw, hcw⟩ : ∃ x, x = l[j].word := ⟨_, rfl⟩
                rw [← hcat] at c0 HNX; rw [← hcw] at c1'
                clear hcat hcw
                have HA := Lib.hid (Sat.right (hw.alloc (.cells #[.int .i64 cat, .int .u64 cw] 58)))
                clear hw
                have fin : Hid (∀ (W : World) (bv : Value), bv = .bool (inB n l (j + 1)) → Sat w.env W (dev b d * (words (.slice a4 n c4) wn * old w)) → (∃ j_1 : Nat, j_1 ≤ l.length ∧ Value.int IntKind.i64 (↑j + 1) = .int .i64 j_1 ∧ bv = .bool (inB n l j_1) ∧ Sat w.env W (dev b d * (words (.slice a4 n c4) wn * old w))) ∧
                    l.length - (intOf (Value.int IntKind.i64 (↑j + 1))).toNat < l.length - (intOf (Value.int IntKind.i64 ↑j)).toNat) :=
                  Lib.hid fun W bv hb hs => ⟨⟨j + 1, by omega, rfl, hb, hs⟩, by simp only [intOf]; omega⟩
                generalize inB n l j = B at HNX
                cases B with
                | false =>
                  go_wp2_with fail
                  exact fin.out _ _ (by rw [HNX.out]; rfl) HA.out
                | true =>
                  by_cases h1 : 64 ≤ cat
                  · by_cases h2 : cat < (n : Int)
                    · go_wp2_with fail
                      exact fin.out _ _ (by rw [HNX.out]; simp [h1, h2]) HA.out
                    · go_wp2_with fail
                      exact fin.out _ _ (by rw [HNX.out]; simp [h2]) HA.out
                  · go_wp2_with fail
                    exact fin.out _ _ (by rw [HNX.out]; simp [h1]) HA.out
              · obtain rfl : j = l.length := by omega
                have hstep := goes_step HGO.out HN.out.1 (by have := HN.out; omega) (by have := HK1.out; omega) l hl20 _ rfl
                have HSTEP := Lib.hid hstep
                have HREF : Hid (∀ W, Sat w.env W (words (.slice a4 n c4) wn * old w) → RdE W (.slice ra l.length rc) l) := Lib.hid fun W hW => HREi.out W hW.right
                clear hstep hltj hj
                go_wp2_with fail
                refine (write_calls _ 0 64 l ra rc (by unfold I64; omega) (by unfold I64; omega) HREF.out hw).mono ?_
                rintro e w5 ⟨rfl, h6'⟩
                have hstep := HSTEP.out
                generalize Redo.write d 0 64 l = R at h6' hstep ⊢
                obtain ⟨d2, e2⟩ := R
                simp only at h6' hstep ⊢
                have hin : inB n l l.length = true → ∀ x ∈ l, (64 : Int) ≤ x.at_ ∧ x.at_ < n := by
                  intro h x hx
                  unfold inB at h
                  rw [List.take_length] at h
                  have := List.all_eq_true.1 h x hx
                  simpa using this
                generalize inB n l l.length = B at hstep hin ⊢
                clear HSTEP HREF hw
                cases B with
                | false =>
                  have hR := hstep.1 rfl
                  simp only [Prod.mk.injEq] at hR
                  obtain ⟨rfl, rfl⟩ := hR
                  have H6 := Lib.hid h6'
                  clear hstep h6' hin
                  go_wp2_with fail
                  exact ⟨⟨i + 1, _, k1, wn, by omega, rfl, by have := HK1.out; omega, HGO.out, H6.out⟩, by simp only [intOf]; omega⟩
                | true =>
                  obtain ⟨he, k2, hk2, hgo2⟩ := hstep.2 rfl
                  have he : e2 = 0 := he
                  subst he
                  have HGO2 := Lib.hid hgo2
                  have HWL : Hid (wn.length = n) := Lib.hid HGO.out.wlen
                  have HIN : Hid (∀ x ∈ l, (64 : Int) ≤ x.at_ ∧ x.at_ < n) := Lib.hid (hin rfl)
                  have H6 := Lib.hid h6'
                  clear hstep hgo2 h6' hin
                  go_wp2_with fail
                  go_loopw [89] (fun jv wr => ∃ (j : Nat) (wn2 : List Int), j ≤ l.length ∧ jv = .int .i64 j ∧ wn2 = Dev.sets wn (Redo.ents (l.take j)) ∧ wn2.length = n ∧ Sat w.env wr (dev b d2 * (words (.slice a4 n c4) wn2 * old w))) (fun jv _ => l.length - (intOf jv).toNat)
                  case atStart => exact ⟨0, wn, Nat.zero_le _, rfl, rfl, HWL.out, H6.out⟩
                  case round =>
                    clear H6
                    obtain ⟨j, wn2, hj, rfl, hwn2, hwl2, hw⟩ := hrel
                    have HWN2 := Lib.hid hwn2
                    clear hwn2
                    by_cases hltj : j < l.length
                    · have hre := HREi.out _ hw.right.right
                      obtain ⟨bb2, o2, rfl, c0, c1'⟩ := RdE.nth hre j hltj
                      have hin2 := HIN.out _ (List.getElem_mem hltj)
                      obtain ⟨P, hP⟩ : ∃ P : Nat, l[j].at_ = P := ⟨l[j].at_.toNat, by omega⟩
                      rw [hP] at c0 hin2
                      obtain ⟨cw, hcw⟩ : ∃ x, x = l[j].word := ⟨_, rfl⟩
                      rw [← hcw] at c1'
                      have HNX : Hid (wn2.set P cw = Dev.sets wn (Redo.ents (l.take (j + 1)))) := Lib.hid (by
                        rw [HWN2.out, List.take_succ_eq_append_getElem hltj, ents_append, Dev.sets_append]
                        show _ = (Dev.sets wn (Redo.ents (l.take j))).set (l[j].at_).toNat l[j].word
                        rw [hP, hcw]
                        rfl)
                      have hPl : P < wn2.length := by omega
                      have hA0 : Sat w.env (wr.alloc (.cells #[.int .i64 P, .int .u64 cw] 58)) (words (.slice a4 wn2.length c4) wn2 * (dev b d2 * (pt wr.heap.size (.cells #[.int .i64 P, .int .u64 cw] 58) * old w))) := by
                        rw [hwl2]
                        exact (hw.alloc (.cells #[.int .i64 P, .int .u64 cw] 58)).ac (by ac_rfl)
                      obtain ⟨g4, c4', heq, _⟩ := words_at hA0 P hPl
                      simp only [Value.slice.injEq, true_and] at heq
                      obtain ⟨rfl, rfl⟩ := heq
                      have cc := words_cell hA0 P hPl
                      have ff := words_free hA0 P
                      have h7 := words_set hA0 P cw hPl
                      rw [hwl2] at h7
                      have H7 : Hid (Sat w.env ((wr.alloc (.cells #[.int .i64 P, .int .u64 cw] 58)).setCell ⟨g4, P, none⟩ (.int .u64 cw)) (dev b d2 * (words (.slice (some ⟨g4, 0, none⟩) n c4) (wn2.set P cw) * old w))) := Lib.hid (Sat.swap (Sat.mid (Sat.swap2 (Sat.swap (h7.ac (B := dev b d2 * (words (.slice (some ⟨g4, 0, none⟩) n c4) (wn2.set P cw) * (pt wr.heap.size (.cells #[.int .i64 P, .int .u64 cw] 58) * old w))) (by ac_rfl))))))
                      have hP0 : (P : Int) < n := hin2.2
                      clear hA0 h7 hP hcw hin2 hre hw hPl
                      go_wp2_with fail
                      exact ⟨⟨j + 1, _, by omega, rfl, HNX.out, by rw [List.length_set]; exact hwl2, H7.out⟩, by simp only [intOf]; omega⟩
                    · obtain rfl : j = l.length := by omega
                      have hfull : wn2 = Dev.sets wn (Redo.ents l) := by rw [HWN2.out, List.take_length]
                      have H7 := Lib.hid hw
                      have HGO3 : Hid (GoesOk n d2 k2 wn2) := Lib.hid (by rw [hfull]; exact HGO2.out)
                      clear hw hfull hltj hj
                      go_wp2_with fail
                      exact ⟨⟨i + 1, d2, k2, wn2, by omega, rfl, by have := HK1.out; omega, HGO3.out, H7.out⟩, by simp only [intOf]; omega⟩
      · obtain rfl : i = rows.length := by omega
        have hcs : d.crashSure p = d.read := by rw [Dev.crash_none d HGO.out.clean.fl HGO.out.clean.sure.symm, HGO.out.clean.sure]
        have hPW : ∀ W, Sat w.env W (words (.slice a4 n c4) wn * old w) → Rd W 1 (.slice pa p.length pc) p.length (u8s p) := fun W hW => Rd.old HPP.out hW.right
        have HPW := Lib.hid hPW
        have HCS := Lib.hid hcs
        clear hw hlt hi hcs hPW
        go_wp2_with fail
        refine (crash_calls _ _ p HP8.out HPW.out HW.out).mono ?_
        rintro e w5 ⟨rfl, h6⟩
        have hc1 : (d.crash p).down = false := rfl
        have hc2 : (d.crash p).read = d.read := HCS.out
        have hc3 : (d.crash p).sure = d.read := HCS.out
        generalize d.crash p = d3 at h6 hc1 hc2 hc3
        have hl0 := Redo.load0 d3 hc1 0 (by rw [hc2, HGO.out.len]; have := HN.out; omega)
        have hmay : Redo.may d3 0 64 = true := Redo.may0 (T := 64) d3 (by omega) (by rw [hc2, HGO.out.len]; exact HN.out.1)
        have hcE : Redo.cleanE d3 0 64 = 0 := by unfold Redo.cleanE; rw [hmay]; exact hl0.1
        have hcB : Redo.cleanB d3 0 64 = true := by
          unfold Redo.cleanB
          rw [hcE]
          have : d3.load 0 = 0 := by
            have h1 : d3.load 0 = d3.read.getD 0 0 := hl0.2
            rw [h1, hc2, HGO.out.mark]
          rw [this]
          rfl
        have HC3 := Lib.hid hc3; have HCE := Lib.hid hcE; have HCB := Lib.hid hcB
        clear hc1 hc2 hc3 hl0 hmay hcE hcB
        go_wp2_with fail
        refine (clean_calls _ 0 64 h6).mono ?_
        rintro e w6 ⟨rfl, h7⟩
        rw [HCE.out, HCB.out]
        go_wp2_with fail
        refine (wordsD_calls _ h7).mono ?_
        rintro e w7 ⟨v7, rfl, h8⟩
        rw [HC3.out] at h8
        have h9 : Sat w.env w7 (words v7 d.read * (words (.slice a4 n c4) wn * old w)) := Sat.mid h8
        obtain ⟨sr, hsr⟩ : ∃ sr, sr = d.read := ⟨_, rfl⟩
        rw [← hsr] at h9
        have hsl : sr.length = n := by rw [hsr]; exact HGO.out.len
        have hn1 := HN.out
        obtain ⟨gA, cA, rfl, hcA⟩ := words_at h9 0 (by omega)
        have h10 : Sat w.env w7 (words (.slice a4 wn.length c4) wn * (words (.slice (some ⟨gA, 0, none⟩) sr.length cA) sr * old w)) := by rw [HGO.out.wlen]; exact Sat.swap h9
        obtain ⟨g4, c4', heq, hc4⟩ := words_at h10 0 (by rw [HGO.out.wlen]; omega)
        simp only [Value.slice.injEq, true_and] at heq
        obtain ⟨rfl, rfl⟩ := heq
        have HF : Hid (Sat w.env w7 (old w)) := Lib.hid h9.right.right
        have rA := rd_tail_if (Sat.rd h9) 64 (by omega)
        have rW := rd_tail_if (Sat.rd h10) 64 (by rw [HGO.out.wlen]; omega)
        rw [hsl] at rA hcA ⊢
        rw [HGO.out.wlen] at rW hc4
        have hsame : sr.drop 64 = wn.drop 64 := by
          refine List.ext_getElem? fun i => ?_
          rw [List.getElem?_drop, List.getElem?_drop, hsr, HGO.out.data _ (by omega)]
        obtain ⟨aA, haA⟩ : ∃ a : Option Addr, (if cA = 64 then some (⟨gA, 0, none⟩ : Addr) else some ⟨gA, 64, none⟩) = a := ⟨_, rfl⟩
        obtain ⟨aW, haW⟩ : ∃ a : Option Addr, (if c4 = 64 then some (⟨g4, 0, none⟩ : Addr) else some ⟨g4, 64, none⟩) = a := ⟨_, rfl⟩
        rw [haA] at rA; rw [haW] at rW
        have HE : Hid (∀ W : World, (∀ a, W.cell? a = w7.cell? a) → Calls Try.prog 29 #[.slice aA (n - 64) (cA - 64), .slice aW (n - 64) (c4 - 64)] W fun e w' => e = .returned (.bool true) ∧ ∃ m, w' = W.drewN m) := Lib.hid fun W hW => by
          have := same_calls W _ _ _ _ (rA.of_cells hW) (rW.of_cells hW)
          rwa [decide_eq_true hsame] at this
        have HAW : Hid (∀ W, Sat w.env W (old w) → Calls Try.prog 42 #[] W fun e w' => e = .returned (.bool true) ∧ Sat w.env w' (old w)) := Lib.hid fun W h => awake4_calls W h
        have l0 : (64 : Int) ≤ (n : Int) := by omega
        have l1 : (n : Int) ≤ (cA : Int) := by omega
        have l2 : (n : Int) ≤ (c4 : Int) := by omega
        clear h7 h8 h9 h10 rA rW hsame hcA hc4 hsl hsr hn1
        go_upto_region 29 with fail
        go_cut [6] (fun s wx => s = .bool true ∧ Sat w.env wx (old w))
        case first =>
          go_region_held3 (fun _ => True) (trivial) (first
            | (go_at_call 29; refine (HE.out _ (by intro a; rfl)).mono ?_; rintro e w8 ⟨rfl, m8, rfl⟩)
            | (go_at_call 42; refine (HAW.out _ (by first | exact HF.out | exact HF.out.drew | exact HF.out.drewN _ | exact HF.out.drew.drewN _ | exact (HF.out.drewN _).drew)).mono ?_; rintro e w9 ⟨rfl, h11⟩))
          all_goals
            go_wp2_with fail
            go_meet
            exact ⟨rfl, h11⟩
        case rest =>
          obtain ⟨rfl, h12⟩ := hcut
          go_wp2_with fail
          go_ret
          exact ⟨rfl, h12⟩
end
end Scul
