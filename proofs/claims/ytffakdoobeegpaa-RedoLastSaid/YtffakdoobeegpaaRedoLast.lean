/- scullionlaw4.RedoLast: whatever words and entries: of entries to one word the last stands; in which order entries of unlike words are makes no difference. No condition. -/
import Derived.Test.YtffakdoobeegpaaLawKit
import Derived.Test.YtffakdoobeegpaaRedoQ
import Derived.Deep.CutBlock
import Derived.Deep.DeepCutAuto
import Derived.Deep.RegionHeld3
namespace Scul
open Go Go.Sl Go.RowKit Go.Proofs
namespace Dev
theorem sets_filter (l : List Int) (S : List (Int × Int)) (i : Nat) : (sets l S)[i]? = (sets l (S.filter fun p => p.1.toNat = i))[i]? := by
  induction S generalizing l with
  | nil => rfl
  | cons p S ih =>
    rw [sets_cons, ih, List.filter_cons]
    by_cases h : p.1.toNat = i
    · rw [if_pos (by simpa using h), sets_cons]
    · rw [if_neg (by simpa using h)]
      exact sets_congr _ _ _ _ (List.getElem?_set_ne h)
/-- at most one entry of a word: then the order is no matter. -/
theorem sets_reverse (l : List Int) (S : List (Int × Int)) (i : Nat) (h : (S.filter fun p => p.1.toNat = i).length < 2) : (sets l S.reverse)[i]? = (sets l S)[i]? := by
  rw [sets_filter, sets_filter l S, List.filter_reverse]
  generalize S.filter (fun p => p.1.toNat = i) = T at h
  match T, h with
  | [], _ => rfl
  | [p], _ => rfl
end Dev
theorem ents_reverse (l : List Ent) : Redo.ents l.reverse = (Redo.ents l).reverse := by simp [Redo.ents]
/-- how many entries a word has. -/
def cntE (l : List Ent) (i : Int) : Nat := (l.filter fun x => x.at_ = i).length
theorem cntE_push (l : List Ent) (x : Ent) (i : Int) : cntE (l ++ [x]) i = cntE l i + if x.at_ = i then 1 else 0 := by
  unfold cntE
  rw [List.filter_append, List.length_append]
  congr 1
  by_cases h : x.at_ = i <;> simp [h]
theorem cntE_ents (l : List Ent) (i : Nat) (h : ∀ x ∈ l, 0 ≤ x.at_) : ((Redo.ents l).filter fun p => p.1.toNat = i).length = cntE l i := by
  unfold cntE Redo.ents
  rw [List.filter_map, List.length_map]
  congr 1
  refine List.filter_congr fun x hx => ?_
  have := h x hx
  simp only [Function.comp]
  rw [Bool.eq_iff_iff, decide_eq_true_iff, decide_eq_true_iff]
  omega
theorem cntE_le (l : List Ent) (i : Int) : cntE l i ≤ l.length := List.length_filter_le _ _
section
variable {E : Env} {w : World} {F : HP} {b : Nat} {d : Dev}
theorem rd_block {w : World} {xb : Nat} {m : List Int} {t : TypeId} {f : Nat × Nat} {R : HP} (h : Sat E w (pt xb (.cells (u64s m).toArray t f) * R)) (hm : m.length ≤ 1000) : Rd w 1 (.slice (some ⟨xb, 0, none⟩) m.length m.length) m.length (u64s m) :=
  ⟨by simp [u64s], by simp only [maxLen] at *; omega, .inr ⟨xb, 0, _, rfl, Nat.le_refl _, fun j u hu => by rw [Nat.zero_add]; exact h.cell j (by simpa using hu)⟩⟩
/-- an index of a word of a row from 64 on, picked by a number whatsoever. -/
theorem pick64 (a : Int) (K : Nat) (h0 : 0 < K) (hK : K ≤ 1000) : ∃ P : Nat, 64 ≤ P ∧ P < 64 + K ∧ wrap64 (64 + wrap64 ((IntKind.u64.wrap a).tmod (K : Int))) = (P : Int) := by
  obtain ⟨j, hj, hjK⟩ := Dev.pick_idx a K h0 (by omega)
  refine ⟨64 + j, by omega, by omega, ?_⟩
  rw [hj]
  clear hj
  unfold wrap64
  omega
theorem last_law (all : List Int) (g : List Ent) (hall : all.length ≤ 1000) (h64 : 64 ≤ all.length) (h0 : all.getD 0 0 = 0) (hl : g.length ≤ 20) (hat : ∀ x ∈ g, (64 : Int) ≤ x.at_ ∧ x.at_ < all.length) (R : Dev × Int) (hR : R = Redo.write (Dev.laid all) 0 64 g) :
    R.2 = 0 ∧ R.1.sure.length = all.length ∧ ∀ i, 64 ≤ i → R.1.sure[i]? = (Dev.sets all (Redo.ents g))[i]? := by
  have e := Redo.write0 (T := 64) (n := all.length) (Dev.laid all) rfl rfl (by omega) (by omega) h64 g
  have e' : R = if g = [] then (Dev.laid all, 0) else (Dev.laid all).run (Redo.writeOps 0 g) := by
    have e2 : R = Redo.write (Dev.laid all) 0 ((64 : Nat) : Int) g := hR
    rw [e2, e, if_neg (by omega), if_neg (fun h => h hat)]
    exact if_neg (show ¬ all.getD 0 0 ≠ 0 from fun h => h h0)
  subst e'
  by_cases hn : g = []
  · rw [if_pos hn]
    subst hn
    exact ⟨rfl, rfl, fun i _ => rfl⟩
  · rw [if_neg hn]
    have hf : Redo.Fit 64 all.length g := ⟨by omega, h64, hat⟩
    obtain ⟨h1, _, h3, h4, _⟩ := Redo.write_up hf (Dev.laid all) (Dev.laid_up all) (Redo.laid_clean all) rfl (all.length + Dev.lines all.length + 1) rfl (by unfold Dev.lines; omega)
    refine ⟨h1, ?_, fun i hi => ?_⟩
    · rw [h3.sure, h4, Redo.put_len]; rfl
    · rw [h3.sure, h4]
      exact Redo.put_data hf all i hi

set_option maxRecDepth 100000 in
set_option maxHeartbeats 4000000 in
theorem redoLast_walk (w : World) (lw : List Int) (ao : Option Addr) (c : Nat) (l : List Ent) (bo : Option Addr) (bc : Nat) (hrw : Rd w 1 (.slice ao lw.length c) lw.length (u64s lw)) (hU : ∀ x ∈ lw, U64 x) (hrl : RdE w (.slice bo l.length bc) l) :
    Calls Try.prog 10 #[.slice ao lw.length c, .slice bo l.length bc] w fun e w' => e = .returned (.bool true) ∧ Sat w.env w' (old w) := by
  have hs := Sat.init w
  have hmw := hrw.most
  have hml := hrl.1.most
  obtain ⟨k, hk⟩ : ∃ k, k = min 30 lw.length := ⟨_, rfl⟩
  have hk2 := rd_min hrw k (by omega)
  obtain ⟨x, hx⟩ : ∃ x, x = lw.take k := ⟨_, rfl⟩
  have hxl : x.length = k := by rw [hx, List.length_take]; omega
  rw [← hx] at hk2
  have hUx : ∀ y ∈ x, U64 y := fun y hy => hU y (List.mem_of_mem_take (by rw [← hx]; exact hy))
  have hmk := run_make64 64 64 rfl (by omega)
  go_enter Try.func10, Try.ntmps10
  go_upto_if 22 with fail
  go_cut [0] (fun s0 wx => s0 = .slice ao k c ∧ wx = w)
  case first =>
    by_cases h60 : 30 < lw.length
    · obtain ⟨bb, o, rfl, _⟩ := Rd.at hrw (by omega)
      obtain ⟨_, c', hv, hc⟩ := hrw.val
      simp only [Value.slice.injEq, true_and] at hv
      obtain ⟨rfl, rfl⟩ := hv
      have h1 : (30 : Int) < lw.length := by omega
      have h2 : (30 : Int) ≤ c := by omega
      have h3 : k = 30 := by omega
      clear hk hk2 hrl hrw hs h60 hc
      go_wp2_with fail
      go_meet
      exact ⟨by rw [h3], rfl⟩
    · have h1 : ¬ (30 : Int) < lw.length := by omega
      have h3 : k = lw.length := by omega
      clear hk hk2 hrl hrw hs h60
      go_wp2_with fail
      go_meet
      exact ⟨by rw [h3], rfl⟩
  case rest =>
    obtain ⟨rfl, rfl⟩ := hcut
    rename World => w
    have H00 : Hid (Sat w.env w (words (.slice none 0 0) [] * old w)) := Lib.hid (hs.row_nil 27 1)
    have HR := Lib.hid hk2
    have HXL := Lib.hid (show x.length ≤ 30 by omega)
    have B1 : Hid (([] : List Int).length + x.length ≤ 1000000) := Lib.hid (by simp; omega)
    have HRL := Lib.hid hrl
    have hmm := @run_makeMap Try.prog
    clear hk2 hrw hs hk hx hxl hU hrl
    go_upto_region 4 with (at_builtin; first | (refine wpl_app64 rfl _ _ rfl H00.out rfl HR.out rfl B1.out ?_; intro r1 e1 a1 c1 w1 h1) | (refine wpl_app64 rfl _ _ rfl (m := [1, 2, 3]) (Sat.swap (Sat.alloc h1 _)) rfl (rd_block (m := [1, 2, 3]) (Sat.alloc h1 _) (by decide)) rfl (by rw [e1.out]; have := HXL.out; simp; omega) ?_; intro ww e2 a2 c2 w2 h2))
    have hww : ww.length = x.length + 3 := by rw [e2.out, e1.out]; simp
    have hUw : ∀ y ∈ ww, U64 y := by
      rw [e2.out, e1.out]
      intro y hy
      rcases List.mem_append.1 hy with hy | hy
      · exact hUx y (by simpa using hy)
      · simp at hy; unfold U64; omega
    have h2' := h2.alloc (.cells (zeros 64) 27)
    have h0 := words_zeros (k := 64) (by omega) h2'
    obtain ⟨z, hz⟩ : ∃ z, z = List.replicate 64 (0 : Int) := ⟨_, rfl⟩
    have hzl : z.length = 64 := by rw [hz]; exact List.length_replicate
    rw [← hz] at h0
    have H0 := Lib.hid h0
    have HR2 : Hid (Rd (w2.alloc (.cells (zeros 64) 27)) 1 (.slice a2 ww.length c2) ww.length (u64s ww)) := Lib.hid (Sat.rd (Sat.right h0))
    have B2 := Lib.hid (show z.length + ww.length ≤ 1000000 by have := HXL.out; omega)
    have HWW := Lib.hid hww
    have HUW := Lib.hid hUw
    have HZ := Lib.hid hz; have HZL := Lib.hid hzl
    clear h2 h2' h0 e1 e2 hww hUw hUx H00 HR B1 h1 hz hzl
    go_upto_region 6 with (at_builtin; refine wpl_app64 rfl _ _ rfl H0.out rfl HR2.out rfl B2.out ?_; intro all e3 a3 c3 w3 h3)
    have hall : all.length = 64 + ww.length := by rw [e3.out, List.length_append, HZL.out]
    have ha0 : all.getD 0 0 = 0 := by rw [e3.out, HZ.out]; rfl
    have haU : ∀ y ∈ all, U64 y := by
      rw [e3.out, HZ.out]
      intro y hy
      rcases List.mem_append.1 hy with hy | hy
      · rw [List.eq_of_mem_replicate hy]; unfold U64; omega
      · exact HUW.out y hy
    have hK1 : 0 < ww.length := by have := HWW.out; omega
    have hK2 : ww.length ≤ 33 := by have := HWW.out; have := HXL.out; omega
    have h3' : Sat w.env w3 (words (.slice none 0 0) [] * (words (.slice a3 all.length c3) all * (pt (w1.heap.size) (.cells #[.int .u64 1, .int .u64 2, .int .u64 3] 27) * old w))) := (Sat.mid h3).row_nil 27 1
    have H3 := Lib.hid h3'
    have HRA : Hid (Rd w3 1 (.slice a3 all.length c3) all.length (u64s all)) := Lib.hid (Sat.rd h3)
    have B3 : Hid (([] : List Int).length + all.length ≤ 1000000) := Lib.hid (by simp; omega)
    have HALL := Lib.hid hall; have HA0 := Lib.hid ha0; have HAU := Lib.hid haU
    clear hall ha0 haU h3 h3' H0 HR2 B2 HUW HZ HZL e3 HXL HWW
    go_upto_region 8 with (at_builtin; refine wpl_app64 rfl _ _ rfl H3.out rfl HRA.out rfl B3.out ?_; intro wn e4 a4 c4 w4 h4)
    have hwn : wn = all := by rw [e4.out]; rfl
    have h5 : Sat w.env w4 (words (.slice a4 all.length c4) all * (words (.slice a3 all.length c3) all * old w)) := by
      have := Sat.mid (Sat.swap2 h4)
      rw [hwn] at this
      exact this
    rw [hwn]
    have hmap := h5.imap_new
    generalize hmb : w4.heap.size = mb at hmap
    have hent := entRow_nil hmap
    clear e4 hwn h4 H3 HRA B3 hmm hmap h5
    go_wp2_with fail
    go_loopw [37, 6] (fun iv gv wr => ∃ (i : Nat) (g : List Ent) (m : List (Int × Value)), i ≤ l.length ∧ iv = .int .i64 i ∧ (g.length ≤ i ∧ g.length ≤ 20) ∧ (∀ x ∈ g, (64 : Int) ≤ x.at_ ∧ x.at_ < all.length ∧ U64 x.word) ∧ (∀ j : Int, m.lookup j = if cntE g j = 0 then none else some (.int .i64 (cntE g j : Nat))) ∧
      Sat w.env wr (entRow gv g * (imap mb m * (words (.slice a4 all.length c4) (Dev.sets all (Redo.ents g)) * (words (.slice a3 all.length c3) all * old w))))) (fun iv _ _ => l.length - (intOf iv).toNat)
    case atStart => exact ⟨0, [], [], Nat.zero_le _, rfl, by simp, by simp, by simp [cntE], hent⟩
    case round =>
      clear hent
      obtain ⟨i, g, m, hi, rfl, hgl, hg, hm, hw⟩ := hrel
      have HG := Lib.hid hg; have HGL := Lib.hid hgl; have HM := Lib.hid hm
      clear hg hgl hm
      by_cases hlt : i < l.length
      · have hre := HRL.out.old hw.right.right.right.right
        obtain ⟨bb, o, rfl, c0, c1⟩ := RdE.nth hre i hlt
        have hx : U64 l[i].word := hre.2.1 _ (List.getElem_mem hlt)
        obtain ⟨cat, hcat⟩ : ∃ x, x = l[i].at_ := ⟨_, rfl⟩
        obtain ⟨cw, hcw⟩ : ∃ x, x = l[i].word := ⟨_, rfl⟩
        rw [← hcat] at c0; rw [← hcw] at c1 hx
        clear hcat hcw hre
        by_cases h24 : i < 20
        · obtain ⟨P, hP1, hP2, hP⟩ := pick64 cat ww.length hK1 (by omega)
          have HP := Lib.hid hP
          have hKu : IntKind.u64.wrap (ww.length : Int) = ww.length := by
            clear hP
            simp only [IntKind.wrap, IntKind.bits, IntKind.signed]
            simp
            omega
          clear hP
          have hK0 : ¬ (ww.length : Int) = 0 := by omega
          have HW := Lib.hid hw; have HX := Lib.hid hx
          have h24' : (i : Int) < 20 := by omega
          have HB := Lib.hid (show g.length + 1 ≤ 1000000 by have := HGL.out; omega)
          clear hw hx
          go_upto_region 13 with fail
          rw [HP.out]
          clear hKu c0 c1
          go_upto_region 14 with (at_builtin; refine wpl_pushE rfl _ _ rfl (Sat.swap2 (Sat.alloc2 HW.out _ _)) rfl rfl HB.out ?_; intro g' e3 a5 c5 w5 h5)
          have x0 := (Sat.right h5).cell 0 rfl
          have x1 := (Sat.right h5).cell 1 rfl
          have hsl : (Dev.sets all (Redo.ents g)).length = all.length := Dev.sets_len _ _
          obtain ⟨s1, hs1⟩ : ∃ s1, s1 = Dev.sets all (Redo.ents g) := ⟨_, rfl⟩
          rw [← hs1] at h5 hsl
          have h6 : Sat w.env w5 (words (.slice a4 s1.length c4) s1 * (entRow (.slice a5 g'.length c5) g' * (pt wr.heap.size (.cells #[.int .i64 P, .int .u64 cw] 58) * (imap mb m * (words (.slice a3 all.length c3) all * old w))))) := by
            rw [hsl]
            exact h5.ac (by ac_rfl)
          have hPl : P < s1.length := by have := HALL.out; omega
          obtain ⟨g4, c4', heq, _⟩ := words_at h6 P hPl
          simp only [Value.slice.injEq, true_and] at heq
          obtain ⟨rfl, rfl⟩ := heq
          have cc := words_cell h6 P hPl
          have ff := words_free h6 P
          have h7 := words_set h6 P cw hPl
          have hsl' : (s1.length : Int) = all.length := by omega
          rw [hsl] at h7
          have hP0 : (0 : Int) ≤ (P : Int) := by omega
          have hP9 : (P : Int) < (all.length : Int) := by omega
          have H7 := Lib.hid h7
          have HS1 := Lib.hid hs1
          clear h5 h6 h7 hs1 hPl
          go_upto_region 15 with fail
          have h8 := (Sat.right (Sat.right H7.out)).cell 0 rfl
          have h9 : Sat w.env (w5.setCell ⟨g4, P, none⟩ (.int .u64 cw)) (imap mb m * (entRow (.slice a5 g'.length c5) g' * (pt wr.heap.size (.cells #[.int .i64 P, .int .u64 cw] 58) * (words (.slice (some ⟨g4, 0, none⟩) all.length c4) (s1.set P cw) * (words (.slice a3 all.length c3) all * old w))))) := H7.out.ac (by ac_rfl)
          clear h8 x0 x1 cc ff
          refine atSat _ h9 fun W h9 => ?_
          have h8 : W.cell? ⟨wr.heap.size, 0, none⟩ = some (.int .i64 P) := (Sat.right (Sat.right h9)).cell 0 rfl
          have hlk := run_lookup_sl h9 Try.underlying56 Try.underlying3 (z := .int .i64 0) (by kernel_rfl) (P : Int) false
          have hlk2 : (m.lookup (P : Int)).getD (.int .i64 0) = .int .i64 (cntE g P : Nat) := by
            rw [HM.out]
            split
            · rename_i h0; rw [h0]; rfl
            · rfl
          simp only [Bool.false_eq_true, if_false] at hlk
          rw [hlk2] at hlk
          obtain ⟨cn, hcn⟩ : ∃ cn, cn = cntE g P := ⟨_, rfl⟩
          rw [← hcn] at hlk
          have hcn20 : cn ≤ 20 := by have := cntE_le g P; have := HGL.out; omega
          have H9 := Lib.hid h9; have HCN := Lib.hid hcn
          clear h9 hlk2 H7 hcn
          go_wp2_with ((with_reducible show Oper.upon _ _ _ _ _ (Result.andThen (Sem.run _ (Instr.mapUpdate _ _ _ _) _) _)); obtain ⟨w6, hrun, h10, _⟩ := run_mapUpdate_sl H9.out Try.underlying56 Try.underlying3 (P : Int) (.int .i64 ((cn : Int) + 1)); rw [hrun]; simp only [Result.andThen_ok, Oper.upon_skip])
          clear hlk
          refine ⟨⟨i + 1, g', mput m (P : Int) (.int .i64 ((cn : Int) + 1)), by omega, rfl, ?_, ?_, ?_, ?_⟩, by simp only [intOf]; omega⟩
          · rw [e3.out, List.length_append]; have := HGL.out; simp; omega
          · rw [e3.out]
            intro y hy
            rcases List.mem_append.1 hy with hy | hy
            · exact HG.out y hy
            · rw [List.mem_singleton] at hy
              rw [hy]
              have := HALL.out
              exact ⟨by show (64 : Int) ≤ (P : Int); omega, by show (P : Int) < _; omega, HX.out⟩
          · intro q
            have ec : cntE (g ++ [Ent.mk P cw]) q = cntE g q + if (P : Int) = q then 1 else 0 := cntE_push _ _ _
            rw [e3.out, ec, lookup_mput, HM.out]
            by_cases hq : q = P
            · rw [if_pos hq, hq, if_pos rfl, if_neg (by omega), ← HCN.out]
              simp
            · rw [if_neg hq, if_neg (fun h : (P : Int) = q => hq h.symm), Nat.add_zero]
          · have e : Dev.sets all (Redo.ents g') = s1.set P cw := by
              rw [e3.out, HS1.out]
              unfold Redo.ents
              rw [List.map_append, Dev.sets_append]
              rfl
            rw [e]
            have h11 : Sat w.env w6 (pt wr.heap.size (.cells #[.int .i64 P, .int .u64 cw] 58) * (entRow (.slice a5 g'.length c5) g' * (imap mb (mput m (P : Int) (.int .i64 ((cn : Int) + 1))) * (words (.slice (some ⟨g4, 0, none⟩) all.length c4) (s1.set P cw) * (words (.slice a3 all.length c3) all * old w))))) := h10.ac (by ac_rfl)
            exact h11.right
        · have h24' : ¬ (i : Int) < 20 := by omega
          have HW := Lib.hid hw
          clear hw hx h24
          go_wp2_with fail
          exact ⟨⟨i + 1, g, m, by omega, rfl, by have := HGL.out; omega, HG.out, HM.out, Sat.right (Sat.alloc HW.out _)⟩, by simp only [intOf]; omega⟩
      · obtain rfl : i = l.length := by omega
        obtain ⟨ga, gc, rfl⟩ := entRow_val hw
        obtain ⟨R0, hR0⟩ : ∃ R0 : HP, R0 = imap mb m * (words (.slice a4 all.length c4) (Dev.sets all (Redo.ents g)) * (words (.slice a3 all.length c3) all * old w)) := ⟨_, rfl⟩
        have hw2 := Sat.row_nil hw 58 2
        rw [← hR0] at hw2
        have HR0 := Lib.hid hR0
        clear hR0 hlt hi hw
        go_upto_region 17 with fail
        go_wp2_with fail
        go_loopw [72, 7] (fun iv bv wr => ∃ i : Nat, i ≤ g.length ∧ iv = .int .i64 i ∧ Sat w.env wr (entRow bv (g.reverse.take i) * (entRow (.slice ga g.length gc) g * R0))) (fun iv _ _ => g.length - (intOf iv).toNat)
        case atStart => exact ⟨0, Nat.zero_le _, rfl, hw2⟩
        case round =>
          clear hw2
          obtain ⟨i, hi, rfl, hw⟩ := hrel
          by_cases hlt : i < g.length
          · obtain ⟨q, hq⟩ : ∃ q, q = g.length - 1 - i := ⟨_, rfl⟩
            have hqi : (g.length : Int) - 1 - (i : Int) = (q : Int) := by omega
            have hql : q < g.length := by omega
            have hre := entRow_rd (Sat.swap hw) (fun x hx => (HG.out x hx).2.2) (fun x hx => by have := HG.out x hx; have := HALL.out; unfold I64; omega)
            obtain ⟨bb, o, rfl, c0, c1⟩ := RdE.nth hre q hql
            have HRV : Hid (g.reverse.take (i + 1) = g.reverse.take i ++ [Ent.mk g[q].at_ g[q].word]) := by
              refine Lib.hid ?_
              rw [List.take_succ_eq_append_getElem (by simpa using hlt)]
              congr 2
              rw [List.getElem_reverse]
              simp only [hq]
            have hrl2 : (g.reverse.take i).length + 1 ≤ 1000000 := by have := HGL.out; rw [List.length_take, List.length_reverse]; omega
            have HB := Lib.hid hrl2
            obtain ⟨cat, hcat⟩ : ∃ x, x = g[q].at_ := ⟨_, rfl⟩
            obtain ⟨cw, hcw⟩ : ∃ x, x = g[q].word := ⟨_, rfl⟩
            rw [← hcat] at c0 HRV; rw [← hcw] at c1 HRV
            have HW := Lib.hid hw
            have hq0 : (q : Int) < g.length := by omega
            have h20 : g.length ≤ 20 := HGL.out.2
            have hlti : (i : Int) < g.length := by omega
            clear hcat hcw hre hq hw hrl2 hql
            go_wp2_with (at_builtin; refine wpl_pushE rfl _ _ rfl (Sat.alloc HW.out _) rfl rfl HB.out ?_; intro g' e3 a5 c5 w5 h5)
            exact ⟨⟨i + 1, by omega, rfl, by rw [HRV.out, ← e3.out]; exact h5⟩, by simp only [intOf]; omega⟩
          · obtain rfl : i = g.length := by omega
            have hrv : g.reverse.take g.length = g.reverse := List.take_of_length_le (by simp)
            rw [hrv] at hw
            obtain ⟨ba, bcc, rfl⟩ := entRow_val hw
            have hbl : g.reverse.length = g.length := by simp
            obtain ⟨gr, hgr⟩ : ∃ gr, gr = g.reverse := ⟨_, rfl⟩
            rw [← hgr] at hw hbl ⊢
            rw [HR0.out] at hw
            have hA : Sat w.env wr (words (.slice a3 all.length c3) all * (entRow (.slice ba gr.length bcc) gr * (entRow (.slice ga g.length gc) g * (imap mb m * (words (.slice a4 all.length c4) (Dev.sets all (Redo.ents g)) * old w))))) := hw.ac (by ac_rfl)
            have HGR := Lib.hid hgr; have HGL2 := Lib.hid hbl
            obtain ⟨F0, hF0⟩ : ∃ F0 : HP, F0 = words (.slice a3 all.length c3) all * (entRow (.slice ba gr.length bcc) gr * (entRow (.slice ga g.length gc) g * (imap mb m * (words (.slice a4 all.length c4) (Dev.sets all (Redo.ents g)) * old w)))) := ⟨_, rfl⟩
            rw [← hF0] at hA
            have HF0 := Lib.hid hF0
            have HRD : Hid (∀ W, Sat w.env W F0 → Rd W 1 (.slice a3 all.length c3) all.length (u64s all)) := Lib.hid (fun W hW => by rw [hF0] at hW; exact Sat.rd hW)
            have hgI : ∀ x ∈ g, I64 x.at_ := fun x hx => by have := HG.out x hx; have := HALL.out; unfold I64; omega
            have HRG : Hid (∀ W, Sat w.env W F0 → RdE W (.slice ga g.length gc) g) := Lib.hid (fun W hW => by
              rw [hF0] at hW
              exact entRow_rd hW.right.right (fun x hx => (HG.out x hx).2.2) hgI)
            have HRR : Hid (∀ W, Sat w.env W F0 → RdE W (.slice ba gr.length bcc) gr) := Lib.hid (fun W hW => by
              rw [hF0] at hW
              exact entRow_rd hW.right (fun x hx => (HG.out x (by rw [hgr] at hx; simpa using hx)).2.2) (fun x hx => hgI x (by rw [hgr] at hx; simpa using hx)))
            have hlawA := last_law all g (by have := HALL.out; omega) (by have := HALL.out; omega) HA0.out HGL.out.2 (fun x hx => ⟨(HG.out x hx).1, (HG.out x hx).2.1⟩) _ rfl
            have hlawB := last_law all gr (by have := HALL.out; omega) (by have := HALL.out; omega) HA0.out (by have := HGL.out.2; omega) (fun x hx => by rw [hgr] at hx; have := HG.out x (by simpa using hx); exact ⟨this.1, this.2.1⟩) _ rfl
            have HLA := Lib.hid hlawA; have HLB := Lib.hid hlawB
            clear hlawA hlawB hgr hbl hw hrv hF0 hi hlt hgI
            go_wp2_with fail
            refine (laid_calls _ all a3 c3 (by have := HALL.out; omega) HAU.out HRD.out hA).mono ?_
            rintro e w5 ⟨b1, q1, rfl, h5⟩
            have H5 : Hid (∀ W, Sat w.env W (dev b1 (Dev.laid all) * (rdev q1 (Dev.laid all) * F0)) → Rd W 1 (.slice a3 all.length c3) all.length (u64s all)) := Lib.hid (fun W hW => HRD.out W hW.right.right)
            clear hA
            go_wp2_with fail
            refine (laid_calls _ all a3 c3 (by have := HALL.out; omega) HAU.out H5.out h5).mono ?_
            rintro e w6 ⟨b2, q2, rfl, h6⟩
            have h6' : Sat w.env w6 (dev b1 (Dev.laid all) * (dev b2 (Dev.laid all) * F0)) := Sat.swap (Sat.mid (Sat.swap2 (Sat.mid h6)))
            have HG1 : Hid (∀ W, Sat w.env W (dev b2 (Dev.laid all) * F0) → RdE W (.slice ga g.length gc) g) := Lib.hid (fun W hW => HRG.out W hW.right)
            clear h5 h6 H5
            go_wp2_with fail
            refine (write_calls _ 0 64 g ga gc (by unfold I64; omega) (by unfold I64; omega) HG1.out h6').mono ?_
            rintro e w7 ⟨rfl, h7⟩
            rw [HLA.out.1]
            have HA2 := Lib.hid HLA.out.2
            generalize (Redo.write (Dev.laid all) 0 64 g).1 = dA at h7 HA2
            have HG2 : Hid (∀ W, Sat w.env W (dev b1 dA * F0) → RdE W (.slice ba gr.length bcc) gr) := Lib.hid (fun W hW => HRR.out W hW.right)
            clear HG1 HLA h6'
            go_wp2_with fail
            refine (write_calls _ 0 64 gr ba bcc (by unfold I64; omega) (by unfold I64; omega) HG2.out (Sat.swap h7)).mono ?_
            rintro e w8 ⟨rfl, h8⟩
            rw [HLB.out.1]
            have HB2 := Lib.hid HLB.out.2
            generalize (Redo.write (Dev.laid all) 0 64 gr).1 = dB at h8 HB2
            clear HG2 HLB h7
            go_wp2_with fail
            refine (wordsD_calls _ (Sat.swap h8)).mono ?_
            rintro e w9 ⟨vA, rfl, h9⟩
            go_wp2_with fail
            refine (wordsD_calls _ (h9.ac (B := dev b2 dB * (words vA dA.sure * (dev b1 dA * F0))) (by ac_rfl))).mono ?_
            rintro e w10 ⟨vB, rfl, h10⟩
            have h11 : Sat w.env w10 (words vA dA.sure * (words vB dB.sure * F0)) := by
              have : Sat w.env w10 (dev b2 dB * (dev b1 dA * (words vA dA.sure * (words vB dB.sure * F0)))) := h10.ac (by ac_rfl)
              exact this.right.right
            obtain ⟨sA, hsA⟩ : ∃ sA, sA = dA.sure := ⟨_, rfl⟩
            obtain ⟨sB, hsB⟩ : ∃ sB, sB = dB.sure := ⟨_, rfl⟩
            rw [← hsA] at HA2 h11; rw [← hsB] at HB2 h11
            clear hsA hsB h10 h9 h8
            have hal9 : 64 < all.length := by have := HALL.out; omega
            obtain ⟨gA, cA, rfl, hcA⟩ := words_at h11 0 (by rw [HA2.out.1]; omega)
            have h12 := Sat.swap h11
            obtain ⟨gB, cB, rfl, hcB⟩ := words_at h12 0 (by rw [HB2.out.1]; omega)
            have hsl : (Dev.sets all (Redo.ents g)).length = all.length := Dev.sets_len _ _
            obtain ⟨sW, hsW⟩ : ∃ sW, sW = Dev.sets all (Redo.ents g) := ⟨_, rfl⟩
            have h13 : Sat w.env w10 (words (.slice a4 all.length c4) sW * (imap mb m * (words (.slice (some ⟨gA, 0, none⟩) sA.length cA) sA * (words (.slice (some ⟨gB, 0, none⟩) sB.length cB) sB * (words (.slice a3 all.length c3) all * (entRow (.slice ba gr.length bcc) gr * (entRow (.slice ga g.length gc) g * old w))))))) := by
              rw [HF0.out, ← hsW] at h11
              exact h11.ac (by ac_rfl)
            rw [← hsW] at hsl
            obtain ⟨g4, c4', heq, hc4⟩ := words_at h13 0 (by rw [hsl]; omega)
            simp only [Value.slice.injEq] at heq
            obtain ⟨rfl, hx9, rfl⟩ := heq
            clear hx9
            have rA := rd_tail (Sat.rd h11) 64 (by rw [HA2.out.1]; omega) (by have := HA2.out.1; omega)
            have rW : Rd w10 1 (.slice (some ⟨g4, 0, none⟩) sW.length c4) sW.length (u64s sW) := by
              have := Sat.rd h13
              rw [← hsl] at this
              exact this
            have rW2 := rd_tail rW 64 (by rw [hsl]; omega) (by omega)
            rw [HA2.out.1] at rA hcA ⊢
            rw [HB2.out.1] at hcB ⊢
            rw [hsl] at rW2 hc4
            have hsame : sA.drop 64 = sW.drop 64 := by
              refine List.ext_getElem? fun i => ?_
              rw [List.getElem?_drop, List.getElem?_drop, HA2.out.2 _ (by omega), hsW]
            have HE : Hid (∀ k, Calls Try.prog 29 #[.slice (some ⟨gA, 64, none⟩) (all.length - 64) (cA - 64), .slice (some ⟨g4, 64, none⟩) (all.length - 64) (c4 - 64)] (w10.drewN k) fun e w' => e = .returned (.bool true) ∧ ∃ n, w' = (w10.drewN k).drewN n) := Lib.hid fun k => by
              have := same_calls (w10.drewN k) _ _ _ _ (rA.of_cells (fun _ => rfl)) (rW2.of_cells (fun _ => rfl))
              rwa [decide_eq_true hsame] at this
            have l0 : (64 : Int) ≤ (all.length : Int) := by omega
            have l1 : (all.length : Int) ≤ (cA : Int) := by omega
            have l2 : (all.length : Int) ≤ (c4 : Int) := by omega
            have l3 : ¬ cA = 64 := by omega
            have l4 : ¬ c4 = 64 := by omega
            have H13 := Lib.hid h13; have HSW := Lib.hid hsW; have HSL := Lib.hid hsl; have HAL9 := Lib.hid hal9
            clear h11 h12 h13 hsW hsl rA rW rW2 hsame hal9 hcA hcB hc4
            go_upto_region 27 with fail
            go_quiet ((go_at_call 29; exact Calls.quiet_of (HE.out _)))
            go_wp2_with fail
            obtain ⟨RR, hRR⟩ : ∃ RR : HP, RR = words (.slice (some ⟨g4, 0, none⟩) all.length c4) sW * (imap mb m * (words (.slice (some ⟨gA, 0, none⟩) sA.length cA) sA * (words (.slice (some ⟨gB, 0, none⟩) sB.length cB) sB * (words (.slice a3 all.length c3) all * (entRow (.slice ba gr.length bcc) gr * (entRow (.slice ga g.length gc) g * old w)))))) := ⟨_, rfl⟩
            have h14 := H13.out
            rw [← hRR] at h14
            have HRR2 := Lib.hid hRR
            clear hRR H13
            go_loopw [19] (fun iv wr => ∃ i : Nat, 64 ≤ i ∧ i ≤ all.length ∧ iv = .int .i64 i ∧ Sat w.env wr RR) (fun iv _ => all.length - (intOf iv).toNat)
            case atStart => exact ⟨64, Nat.le_refl _, by have := HAL9.out; omega, rfl, h14⟩
            case round =>
              clear h14 HE l0 l1 l2 l3 l4
              obtain ⟨i, hi1, hi2, rfl, hw⟩ := hrel
              by_cases hlt : i < all.length
              · have hw2 := hw
                rw [HRR2.out] at hw2
                have hwA : Sat w.env wr (words (.slice (some ⟨gA, 0, none⟩) sA.length cA) sA * (imap mb m * (words (.slice (some ⟨gB, 0, none⟩) sB.length cB) sB * old w))) := by
                  have : Sat w.env wr (words (.slice (some ⟨g4, 0, none⟩) all.length c4) sW * (words (.slice a3 all.length c3) all * (entRow (.slice ba gr.length bcc) gr * (entRow (.slice ga g.length gc) g * (words (.slice (some ⟨gA, 0, none⟩) sA.length cA) sA * (imap mb m * (words (.slice (some ⟨gB, 0, none⟩) sB.length cB) sB * old w))))))) := hw2.ac (by ac_rfl)
                  exact this.right.right.right.right
                have cA' := words_cell hwA i (by rw [HA2.out.1]; exact hlt)
                have cB' := words_cell (Sat.right (Sat.right hwA)) i (by rw [HB2.out.1]; exact hlt)
                have hlk := fun k => run_lookup_sl ((Sat.swap hwA).drewN k) Try.underlying56 Try.underlying3 (z := .int .i64 0) (by kernel_rfl) (i : Int) false
                have hlk2 : (m.lookup (i : Int)).getD (.int .i64 0) = .int .i64 (cntE g i : Nat) := by
                  rw [HM.out]
                  split
                  · rename_i h0; rw [h0]; rfl
                  · rfl
                simp only [Bool.false_eq_true, if_false] at hlk
                rw [hlk2] at hlk
                have heq : cntE g i < 2 → sA.getD i 0 = sB.getD i 0 := by
                  intro hc
                  rw [List.getD_eq_getElem?_getD, List.getD_eq_getElem?_getD, HA2.out.2 i hi1, HB2.out.2 i hi1, HGR.out, ents_reverse, Dev.sets_reverse]
                  rw [cntE_ents g i (fun x hx => by have := HG.out x hx; omega)]
                  exact hc
                obtain ⟨cn, hcn⟩ : ∃ cn, cn = cntE g i := ⟨_, rfl⟩
                rw [← hcn] at hlk heq
                obtain ⟨vA, hvA⟩ : ∃ vA, vA = sA.getD i 0 := ⟨_, rfl⟩
                obtain ⟨vB, hvB⟩ : ∃ vB, vB = sB.getD i 0 := ⟨_, rfl⟩
                rw [← hvA] at cA' heq; rw [← hvB] at cB' heq
                have HW := Lib.hid hw
                have hlti : (i : Int) < all.length := by omega
                have hi0 : (0 : Int) ≤ i := by omega
                have h97 : all.length ≤ 97 := by have := HALL.out; omega
                clear hw hw2 hwA hlk2 hcn hvA hvB hi2
                by_cases hc2 : cn < 2
                · have hveq := heq hc2
                  subst hveq
                  have hc2' : (cn : Int) < 2 := by omega
                  clear heq hc2
                  go_wp2_with fail
                  go_quiet (fail)
                  go_wp2_with fail
                  exact ⟨⟨i + 1, by omega, by omega, rfl, HW.out.drewN _⟩, by simp only [intOf]; omega⟩
                · have hc2' : (2 : Int) ≤ cn := by omega
                  have hc3 : ¬ (cn : Int) < 2 := by omega
                  have hc4 : decide ((cn : Int) < 2) = false := by simpa using hc2'
                  clear heq hc2
                  go_wp2_with fail
                  go_quiet (fail)
                  go_wp2_with fail
                  exact ⟨⟨i + 1, by omega, by omega, rfl, HW.out.drewN _⟩, by simp only [intOf]; omega⟩
              · have hge : ¬ (i : Int) < all.length := by omega
                have hfin : Sat w.env wr (old w) := by
                  rw [HRR2.out] at hw
                  exact hw.right.right.right.right.right.right.right
                clear hw
                go_wp2_with fail
                refine (awake4_calls _ hfin).mono ?_
                rintro e w11 ⟨rfl, h11⟩
                go_wp2_with fail
                go_ret
                exact ⟨rfl, h11⟩
end
end Scul
