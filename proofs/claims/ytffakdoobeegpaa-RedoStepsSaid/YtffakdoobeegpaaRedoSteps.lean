/- scullionlaw4.RedoSteps: whatever words and entries: a row of entries takes two steps for each entry, one for each of its lines in the log, one for each entry done, one for each line of those, and eight; of no entry none. No condition. -/
import Derived.Test.YtffakdoobeegpaaLawKit
import Derived.Test.YtffakdoobeegpaaRedoQ
import Derived.Deep.CutBlock
import Derived.Deep.DeepCutAuto
namespace Scul
open Go Go.Sl Go.RowKit Go.Proofs
section
variable {E : Env} {w : World} {F : HP} {b : Nat} {d : Dev}
/-- The entries that are good, with the lines that they are in. -/
def lineMap (l : List Ent) : List (Int × Value) := l.foldl (fun m x => mput m (x.at_ / 8) (.int .i64 1)) []
theorem lineMap_push (l : List Ent) (x : Ent) : lineMap (l ++ [x]) = mput (lineMap l) (x.at_ / 8) (.int .i64 1) := by simp [lineMap]
theorem lineMap_len (l : List Ent) : (lineMap l).length = (Redo.onceA [] l).length := by
  have := Redo.onceA_len [] l ([] : List (Int × Value)) (.int .i64 1) (by simp)
  simpa [lineMap] using this
/-- how many steps it takes. -/
def stepsOf (l : List Ent) : Nat := if l = [] then 0 else 2 * l.length + (2 * l.length + 7) / 8 + l.length + (lineMap l).length + 8
theorem steps_law (all : List Int) (l : List Ent) (hall : all.length ≤ 1000) (h64 : 64 ≤ all.length) (h0 : all.getD 0 0 = 0) (hl : l.length ≤ 24) (hat : ∀ x ∈ l, (64 : Int) ≤ x.at_ ∧ x.at_ < all.length) :
    (Redo.write (Dev.laid all) 0 64 l).2 = 0 ∧ (Redo.write (Dev.laid all) 0 64 l).1.steps = (Dev.laid all).steps + stepsOf l := by
  have e := Redo.write0 (T := 64) (n := all.length) (Dev.laid all) rfl rfl (by omega) (by omega) h64 l
  have e' : Redo.write (Dev.laid all) 0 64 l = if l = [] then (Dev.laid all, 0) else (Dev.laid all).run (Redo.writeOps 0 l) := by
    have e2 : Redo.write (Dev.laid all) 0 64 l = Redo.write (Dev.laid all) 0 ((64 : Nat) : Int) l := rfl
    rw [e2, e, if_neg (by omega), if_neg (fun h => h hat)]
    exact if_neg (show ¬ all.getD 0 0 ≠ 0 from fun h => h h0)
  rw [e']
  unfold stepsOf
  by_cases hn : l = []
  · rw [if_pos hn, if_pos hn]
    exact ⟨rfl, by simp⟩
  · rw [if_neg hn, if_neg hn]
    have hsub : (Redo.onceA [] l).length ≤ l.length := by
      have : ∀ (met : List Int) (l : List Ent), (Redo.onceA met l).length ≤ l.length := by
        intro met l
        induction l generalizing met with
        | nil => exact Nat.le_refl _
        | cons x r ih =>
          unfold Redo.onceA
          split
          · have := ih met; simp only [List.length_cons]; omega
          · have := ih (x.at_ / 8 :: met); simp only [List.length_cons]; omega
      exact this [] l
    have hln : Dev.lines all.length ≤ 1000 := by unfold Dev.lines; omega
    have hlen := Redo.writeOps_len l
    have hv : ∀ o ∈ Redo.writeOps 0 l, Dev.validOp (Dev.laid all).read.length o := by
      intro o ho
      rw [Redo.writeOps_eq] at ho
      have hL : (Dev.laid all).read.length = all.length := rfl
      rw [hL]
      have seg : ∀ (S : List (Int × Int)) (A : List Int), (∀ p ∈ S, 0 ≤ p.1 ∧ p.1 < (all.length : Int)) → (∀ a ∈ A, 0 ≤ a ∧ a < (all.length : Int)) → o ∈ Dev.segOps S A → Dev.validOp all.length o := by
        intro S A hS hA ho
        unfold Dev.segOps at ho
        rcases List.mem_append.1 ho with ho | ho
        · obtain ⟨p, hp, rfl⟩ := List.mem_map.1 ho
          exact hS p hp
        · rcases List.mem_append.1 ho with ho | ho
          · obtain ⟨p, hp, rfl⟩ := List.mem_map.1 ho
            exact hA p hp
          · rw [List.mem_singleton] at ho; subst ho; trivial
      rcases List.mem_append.1 ho with ho | ho
      · refine seg _ _ (fun p hp => ?_) (fun a ha => ?_) ho
        · have := Redo.entSets_mem _ _ _ hp; omega
        · have := Redo.flA_mem ha; omega
      · rcases List.mem_append.1 ho with ho | ho
        · exact seg _ _ (by simp; omega) (by simp; omega) ho
        · rcases List.mem_append.1 ho with ho | ho
          · refine seg _ _ (fun p hp => ?_) (fun a ha => ?_) ho
            · obtain ⟨x, hx, rfl⟩ := List.mem_map.1 hp
              have := hat x hx
              simp only; omega
            · obtain ⟨x, hx, rfl⟩ := Redo.onceA_mem ha
              have := hat x hx
              omega
          · exact seg _ _ (by simp; omega) (by simp; omega) ho
    obtain ⟨h1, _, h3⟩ := Dev.run_up (Dev.laid_up all) (all.length + Dev.lines all.length + 1) rfl (Redo.writeOps 0 l) hv (by omega)
    refine ⟨h1, ?_⟩
    rw [h3]
    show _ = ((all.length + Dev.lines all.length + 1 : Nat) : Int) + _
    rw [lineMap_len]
    omega

theorem wnat (x : Int) (k : Nat) (hk : k < 1000000) (h : x = k) : wrap64 x = k := by subst h; unfold wrap64; omega
theorem want_eq (n e : Nat) (hn : n ≤ 24) (he : e ≤ 24) : wrap64 (wrap64 (wrap64 (wrap64 (wrap64 (wrap64 (2 * (n : Int)) + wrap64 ((wrap64 (wrap64 (wrap64 (2 * (n : Int)) + 8) - 1)).tdiv 8)) + (n : Int)) + (e : Int)) + 7) + 1) = ((2 * n + (2 * n + 7) / 8 + n + e + 8 : Nat) : Int) := by
  have h1 : wrap64 (2 * (n : Int)) = ((2 * n : Nat) : Int) := wnat _ _ (by omega) (by omega)
  rw [h1]; clear h1
  have h2 : wrap64 (((2 * n : Nat) : Int) + 8) = ((2 * n + 8 : Nat) : Int) := wnat _ _ (by omega) (by omega)
  rw [h2]; clear h2
  have h3 : wrap64 (((2 * n + 8 : Nat) : Int) - 1) = ((2 * n + 7 : Nat) : Int) := wnat _ _ (by omega) (by omega)
  rw [h3]; clear h3
  have h4 : ((2 * n + 7 : Nat) : Int).tdiv 8 = (((2 * n + 7) / 8 : Nat) : Int) := (Int.tdiv_eq_ediv_of_nonneg (by omega)).trans (by omega)
  rw [h4]; clear h4
  have h5 : wrap64 (((2 * n + 7) / 8 : Nat) : Int) = (((2 * n + 7) / 8 : Nat) : Int) := wnat _ _ (by omega) rfl
  rw [h5]; clear h5
  have h6 : wrap64 (((2 * n : Nat) : Int) + (((2 * n + 7) / 8 : Nat) : Int)) = ((2 * n + (2 * n + 7) / 8 : Nat) : Int) := wnat _ _ (by omega) (by omega)
  rw [h6]; clear h6
  have h7 : wrap64 (((2 * n + (2 * n + 7) / 8 : Nat) : Int) + (n : Int)) = ((2 * n + (2 * n + 7) / 8 + n : Nat) : Int) := wnat _ _ (by omega) (by omega)
  rw [h7]; clear h7
  have h8 : wrap64 (((2 * n + (2 * n + 7) / 8 + n : Nat) : Int) + (e : Int)) = ((2 * n + (2 * n + 7) / 8 + n + e : Nat) : Int) := wnat _ _ (by omega) (by omega)
  rw [h8]; clear h8
  have h9 : wrap64 (((2 * n + (2 * n + 7) / 8 + n + e : Nat) : Int) + 7) = ((2 * n + (2 * n + 7) / 8 + n + e + 7 : Nat) : Int) := wnat _ _ (by omega) (by omega)
  rw [h9]; clear h9
  exact wnat _ _ (by omega) (by omega)
theorem line_of (j : Nat) (h : j < 1000) : ∃ L : Int, L = (64 + (j : Int)) / 8 ∧ (64 + (j : Int)).tdiv 8 = L ∧ wrap64 L = L :=
  ⟨_, rfl, Int.tdiv_eq_ediv_of_nonneg (by omega), by unfold wrap64; omega⟩
set_option maxRecDepth 100000 in
set_option maxHeartbeats 4000000 in
theorem redoSteps_walk (w : World) (lw : List Int) (ao : Option Addr) (c : Nat) (l : List Ent) (bo : Option Addr) (bc : Nat) (hrw : Rd w 1 (.slice ao lw.length c) lw.length (u64s lw)) (hU : ∀ x ∈ lw, U64 x) (hrl : RdE w (.slice bo l.length bc) l) :
    Calls Try.prog 11 #[.slice ao lw.length c, .slice bo l.length bc] w fun e w' => e = .returned (.bool true) ∧ Sat w.env w' (old w) := by
  have hs := Sat.init w
  have hmw := hrw.most
  have hml := hrl.1.most
  obtain ⟨k, hk⟩ : ∃ k, k = min 60 lw.length := ⟨_, rfl⟩
  have hk2 := rd_min hrw k (by omega)
  obtain ⟨x, hx⟩ : ∃ x, x = lw.take k := ⟨_, rfl⟩
  have hxl : x.length = k := by rw [hx, List.length_take]; omega
  rw [← hx] at hk2
  have hUx : ∀ y ∈ x, U64 y := fun y hy => hU y (List.mem_of_mem_take (by rw [← hx]; exact hy))
  have hmk := run_make64 64 64 rfl (by omega)
  go_enter Try.func11, Try.ntmps11
  go_upto_if 17 with fail
  go_cut [0] (fun s0 wx => s0 = .slice ao k c ∧ wx = w)
  case first =>
    by_cases h60 : 60 < lw.length
    · obtain ⟨bb, o, rfl, _⟩ := Rd.at hrw (by omega)
      obtain ⟨_, c', hv, hc⟩ := hrw.val
      simp only [Value.slice.injEq, true_and] at hv
      obtain ⟨rfl, rfl⟩ := hv
      have h1 : (60 : Int) < lw.length := by omega
      have h2 : (60 : Int) ≤ c := by omega
      have h3 : k = 60 := by omega
      clear hk hk2 hrl hrw hs h60 hc
      go_wp2_with fail
      go_meet
      exact ⟨by rw [h3], rfl⟩
    · have h1 : ¬ (60 : Int) < lw.length := by omega
      have h3 : k = lw.length := by omega
      clear hk hk2 hrl hrw hs h60
      go_wp2_with fail
      go_meet
      exact ⟨by rw [h3], rfl⟩
  case rest =>
    obtain ⟨rfl, rfl⟩ := hcut
    obtain ⟨z, hz⟩ : ∃ z, z = List.replicate 64 (0 : Int) := ⟨_, rfl⟩
    have hzl : z.length = 64 := by rw [hz]; exact List.length_replicate
    have h0 := words_zeros (k := 64) (by omega) (hs.alloc (.cells (zeros 64) 27))
    rw [← hz] at h0
    have H0 := Lib.hid h0
    have HR := Lib.hid (hk2.alloc (.cells (zeros 64) 27))
    have B1 := Lib.hid (show z.length + x.length ≤ 1000000 by omega)
    have HXL := Lib.hid (show x.length ≤ 60 by omega)
    have HZ := Lib.hid hz
    have HZL := Lib.hid hzl
    have hmm := @run_makeMap Try.prog
    clear hk2 hrw hs hk hx hxl hU hz hzl h0
    go_wp2_with (at_builtin; first | (refine wpl_app64 rfl _ _ rfl H0.out rfl HR.out rfl B1.out ?_; intro r1 e1 a1 c1 w1 h1) | (refine wpl_push64 rfl _ _ rfl (Sat.alloc h1 _) rfl rfl (by have := e1.out; have := HXL.out; have := HZL.out; rw [e1.out, List.length_append]; omega) ?_; intro all e2 a2 c2 w2 h2))
    obtain ⟨K, hK⟩ : ∃ K, K = x.length + 1 := ⟨_, rfl⟩
    have hall : all.length = 64 + K := by rw [e2.out, e1.out]; have := HZL.out; simp only [List.length_append, List.length_cons, List.length_nil]; omega
    have HA0 : Hid (all.getD 0 0 = 0) := by
      refine Lib.hid ?_
      rw [e2.out, e1.out, HZ.out]
      rfl
    have HAU : Hid (∀ y ∈ all, U64 y) := by
      refine Lib.hid ?_
      rw [e2.out, e1.out, HZ.out]
      intro y hy
      rcases List.mem_append.1 hy with hy | hy
      · rcases List.mem_append.1 hy with hy | hy
        · rw [List.eq_of_mem_replicate hy]; unfold U64; omega
        · exact hUx y hy
      · rw [List.mem_singleton] at hy; rw [hy]; unfold U64; omega
    have hK1 : 0 < K := by omega
    have hK2 : K ≤ 61 := by have := HXL.out; omega
    have hmap := h2.imap_new
    generalize hmb : w2.heap.size = mb at hmap
    have hrl' := hrl
    have HRL := Lib.hid hrl
    have hent := entRow_nil hmap
    clear e1 e2 h1 H0 HR B1 HXL HZ HZL hUx hK hmm hrl hrl' hmap h2
    go_loopw [28, 6] (fun iv gv wr => ∃ (i : Nat) (g : List Ent), i ≤ l.length ∧ iv = .int .i64 i ∧ (g.length ≤ i ∧ g.length ≤ 24) ∧ (∀ x ∈ g, (64 : Int) ≤ x.at_ ∧ x.at_ < all.length ∧ U64 x.word) ∧ Sat wc.env wr (entRow gv g * (imap mb (lineMap g) * (words (.slice a2 all.length c2) all * old wc)))) (fun iv _ _ => l.length - (intOf iv).toNat)
    case atStart => exact ⟨0, [], Nat.zero_le _, rfl, by simp, by simp, hent⟩
    case round =>
      clear hent
      obtain ⟨i, g, hi, rfl, hgl, hg, hw⟩ := hrel
      have HG := Lib.hid hg; have HGL := Lib.hid hgl
      clear hg hgl
      by_cases hlt : i < l.length
      · have hre := HRL.out.old hw.right.right.right
        obtain ⟨bb, o, rfl, c0, c1⟩ := RdE.nth hre i hlt
        have hx : U64 l[i].word := hre.2.1 _ (List.getElem_mem hlt)
        obtain ⟨cat, hcat⟩ : ∃ x, x = l[i].at_ := ⟨_, rfl⟩
        obtain ⟨cw, hcw⟩ : ∃ x, x = l[i].word := ⟨_, rfl⟩
        rw [← hcat] at c0; rw [← hcw] at c1 hx
        clear hcat hcw hre
        by_cases h24 : i < 24
        · obtain ⟨j, hj, hjK⟩ := Dev.pick_idx cat K hK1 (by omega)
          have hKi : (all.length : Int) - 64 = (K : Int) := by omega
          have hKu : IntKind.u64.wrap (K : Int) = K := by
            simp only [IntKind.wrap, IntKind.bits, IntKind.signed]
            simp
            omega
          have hK0 : ¬ (K : Int) = 0 := by omega
          have h64j : wrap64 (64 + (j : Int)) = 64 + (j : Int) := by unfold wrap64; omega
          have HW := Lib.hid hw; have HX := Lib.hid hx
          have h24' : (i : Int) < 24 := by omega
          have hwk : wrap64 (K : Int) = K := by unfold wrap64; omega
          have HJ := Lib.hid hj; have H64 := Lib.hid h64j
          have HB := Lib.hid (show g.length + 1 ≤ 1000000 by have := HGL.out; clear hj hKu h64j hwk; omega)
          obtain ⟨L, hL, hdiv, hwL⟩ := line_of j (by clear hj hKu h64j hwk; omega)
          have HL := Lib.hid hL
          have HDIV := Lib.hid hdiv
          have HWL := Lib.hid hwL
          have HALL := Lib.hid hall
          clear hj h64j hwk hL hdiv hwL hall
          go_upto_region 11 with fail
          rw [HJ.out, H64.out]
          have hdiv := HDIV.out
          have hwL := HWL.out
          go_wp2_with (first
            | (at_builtin; refine wpl_pushE rfl _ _ rfl (Sat.swap2 (Sat.alloc2 HW.out _ _)) rfl rfl HB.out ?_; intro g' e3 a3 c3 w3 h3; have x0 := (Sat.right h3).cell 0 rfl)
            | ((with_reducible show Oper.upon _ _ _ _ _ (Result.andThen (Sem.run _ (Instr.mapUpdate _ _ _ _) _) _)); obtain ⟨w4, hrun, h4, _⟩ := run_mapUpdate_sl (Sat.swap (Sat.swap2 h3)) Try.underlying56 Try.underlying3 L (.int .i64 1); rw [hrun]; simp only [Result.andThen_ok, Oper.upon_skip]))
          clear hKu hdiv hwL
          refine ⟨⟨i + 1, g', by omega, rfl, ?_, ?_, ?_⟩, by simp only [intOf]; omega⟩
          · rw [e3.out, List.length_append]; have := HGL.out; simp; omega
          · rw [e3.out]
            intro y hy
            rcases List.mem_append.1 hy with hy | hy
            · exact HG.out y hy
            · rw [List.mem_singleton] at hy
              rw [hy]
              have := HALL.out
              exact ⟨by show (64 : Int) ≤ 64 + (j : Int); omega, by show 64 + (j : Int) < _; omega, HX.out⟩
          · have e : lineMap g' = mput (lineMap g) L (.int .i64 1) := by rw [e3.out, lineMap_push, HL.out]
            rw [e]
            exact Sat.mid (Sat.swap2 (Sat.swap h4))
        · have h24' : ¬ (i : Int) < 24 := by omega
          have HW := Lib.hid hw
          clear hw hx h24
          go_wp2_with fail
          exact ⟨⟨i + 1, g, by omega, rfl, by have := HGL.out; omega, HG.out, Sat.right (Sat.alloc HW.out _)⟩, by simp only [intOf]; omega⟩
      · obtain rfl : i = l.length := by omega
        have HW := Lib.hid hw
        have hwr := hw.ac (B := words (.slice a2 all.length c2) all * (entRow u6 g * (imap mb (lineMap g) * old wc))) (by ac_rfl)
        have HRA := Lib.hid hwr
        have HALL := Lib.hid hall
        obtain ⟨ga, gc, rfl⟩ := entRow_val hw
        clear hlt hi hw hwr hall
        go_wp2_with fail
        have HRD : Hid (∀ W, Sat wc.env W (words (.slice a2 all.length c2) all * (entRow (.slice ga g.length gc) g * (imap mb (lineMap g) * old wc))) → Rd W 1 (.slice a2 all.length c2) all.length (u64s all)) := Lib.hid (fun W hW => (Sat.rd (R := emp) (by rw [sep_emp]; exact hW.left)))
        refine (laid_calls _ all a2 c2 (by have := HALL.out; omega) HAU.out HRD.out HRA.out).mono ?_
        rintro e w5 ⟨b, r, rfl, h5⟩
        have hlaw := steps_law all g (by have := HALL.out; omega) (by have := HALL.out; omega) HA0.out HGL.out.2 (fun x hx => ⟨(HG.out x hx).1, (HG.out x hx).2.1⟩)
        obtain ⟨S, hS⟩ : ∃ S, S = (Dev.laid all).steps := ⟨_, rfl⟩
        have hSn : 0 ≤ S ∧ S ≤ 1000 := by rw [hS]; show 0 ≤ ((all.length + Dev.lines all.length + 1 : Nat) : Int) ∧ ((all.length + Dev.lines all.length + 1 : Nat) : Int) ≤ 1000; have := HALL.out; unfold Dev.lines; omega
        rw [← hS] at hlaw
        have HLAW := Lib.hid hlaw; have HS := Lib.hid hS; have HSN := Lib.hid hSn
        have hre : ∀ W, Sat wc.env W (rdev r (Dev.laid all) * (words (.slice a2 all.length c2) all * (entRow (.slice ga g.length gc) g * (imap mb (lineMap g) * old wc)))) → RdE W (.slice ga g.length gc) g := fun W hW =>
          entRow_rd (F := imap mb (lineMap g) * old wc) (hW.right.right) (fun x hx => (HG.out x hx).2.2) (fun x hx => by have := HG.out x hx; have := HALL.out; unfold I64; omega)
        have HRE := Lib.hid hre
        clear hlaw hS hSn hre HRA
        go_wp2_with fail
        refine (steps_calls _ h5).mono ?_
        rintro e w6 ⟨rfl, rfl⟩
        rw [← HS.out]
        go_wp2_with fail
        refine (write_calls _ 0 64 g ga gc (by unfold I64; omega) (by unfold I64; omega) HRE.out h5).mono ?_
        rintro e w7 ⟨rfl, h7⟩
        rw [HLAW.out.1]
        have HST := Lib.hid HLAW.out.2
        generalize (Redo.write (Dev.laid all) 0 64 g).1 = d2 at h7 HST
        have HML : Hid ((imap mb (lineMap g) : HP) = imap mb (lineMap g)) := Lib.hid rfl
        have hm7 := Sat.right (Sat.right (Sat.right (Sat.right h7)))
        clear HLAW h5 HML
        obtain ⟨es, clock, hes, _, _, _, hp⟩ := Sat.imap_open (Sat.swap (Sat.right (Sat.right (Sat.right h7))))
        have hb := hp.at
        have hesl : es.size = (lineMap g).length := by have := congrArg List.length hes; simpa [reads] using this
        have HESL := Lib.hid hesl
        have HD : Hid (d2.steps = S + stepsOf g) := HST
        obtain ⟨ST, hST⟩ : ∃ ST, ST = stepsOf g := ⟨_, rfl⟩
        have HSTE := Lib.hid hST
        have hle : (lineMap g).length ≤ 24 := by
          rw [lineMap_len]
          have : ∀ (met : List Int) (l : List Ent), (Redo.onceA met l).length ≤ l.length := by
            intro met l
            induction l generalizing met with
            | nil => exact Nat.le_refl _
            | cons x r ih =>
              unfold Redo.onceA
              split
              · have := ih met; simp only [List.length_cons]; omega
              · have := ih (x.at_ / 8 :: met); simp only [List.length_cons]; omega
          have := this [] g
          have := HGL.out.2
          omega
        have hst : (g.length = 0 → ST = 0) ∧ (0 < g.length → ST = 2 * g.length + (2 * g.length + 7) / 8 + g.length + es.size + 8) := by
          rw [hST, hesl]
          unfold stepsOf
          refine ⟨fun h => by rw [if_pos (List.eq_nil_of_length_eq_zero h)], fun h => by rw [if_neg (by intro h2; rw [h2] at h; simp at h)]⟩
        have HSTV := Lib.hid hst
        have hST9 : ST ≤ 1000 := by have := HGL.out.2; rcases Nat.eq_zero_or_pos g.length with h | h; · rw [hst.1 h]; omega
                                    · rw [hst.2 h, hesl]; omega
        have hfin : wrap64 (d2.steps - S) = (ST : Int) := by
          rw [HD.out, ← hST]; have := HSN.out; unfold wrap64; omega
        have HFIN := Lib.hid hfin
        have HES9 := Lib.hid (show es.size ≤ 24 by omega)
        clear hST hesl hes hp hst hfin hle hST9 HST
        by_cases hg0 : g.length = 0
        · have hg0' : (g.length : Int) = 0 := by omega
          go_upto_region 22 with fail
          have hf : wrap64 (d2.steps - S) = 0 := by rw [HFIN.out, HSTV.out.1 hg0]; rfl
          go_wp2_with fail
          refine (steps_calls _ h7).mono ?_
          rintro e w8 ⟨rfl, rfl⟩
          go_wp2_with fail
          refine (awake4_calls _ h7.right.right.right.right.right).mono ?_
          rintro e w9 ⟨rfl, h9⟩
          go_wp2_with fail
          go_ret
          exact ⟨rfl, h9⟩
        · have hg0' : 0 < (g.length : Int) := by omega
          have hlen : ∀ W : World, W.heap = w7.heap → (Builtin.len_ #[56] 3 #[.map (some mb)]).run Try.prog W = .ok (goInt es.size) W := fun W hW => run_len_map _ _ _ _ _ _ (by kernel_rfl) (by rw [hW]; exact hb)
          have HLEN := Lib.hid hlen
          clear hlen
          go_upto_region 22 with ((with_reducible show Oper.upon _ _ _ _ _ (Result.andThen (Sem.run _ (Builtin.len_ _ _ _) _) _)); rw [HLEN.out _ rfl]; simp only [Result.andThen_ok, Oper.upon_value])
          rw [want_eq g.length es.size HGL.out.2 HES9.out, ← HSTV.out.2 (by omega)]
          have hf : wrap64 (d2.steps - S) = (ST : Int) := HFIN.out
          clear hb
          go_wp2_with fail
          refine (steps_calls _ h7).mono ?_
          rintro e w8 ⟨rfl, rfl⟩
          go_wp2_with fail
          refine (awake4_calls _ h7.right.right.right.right.right).mono ?_
          rintro e w9 ⟨rfl, h9⟩
          go_wp2_with fail
          go_ret
          exact ⟨rfl, h9⟩
end
end Scul
