/- The document's own log: Write, Recover. -/
import Derived.Test.YtffakdoobeegpaaRefE
import Derived.Test.YtffakdoobeegpaaRedoNeed
namespace Scul
open Go Go.Sl Go.RowKit Go.Proofs
section
variable {E : Env} {w : World} {F : HP} {b : Nat} {d : Dev}
theorem rdev_ok (h : Sat E w (rdev b d * F)) : d.Ok := by obtain ⟨q, hq, _⟩ := rdev_open h; exact hq.1
theorem fits_eq (frm til : Int) (n : Nat) : Redo.fits frm til n = (decide ((n : Int) ≤ 1024) && decide (Redo.need n ≤ wrap64 (til - frm))) := by
  unfold Redo.fits
  rw [Bool.eq_iff_iff]
  simp only [decide_eq_true_iff, Bool.and_eq_true]
theorem flOps_line {a b : Nat} (h8 : a % 8 = 0) (h : a < b) : Redo.flOps a b = .fl (a : Int) :: Redo.flOps (a + 8) b := by
  rw [Redo.flOps_step h]
  congr 2
  omega
set_option maxRecDepth 100000 in
set_option maxHeartbeats 4000000 in
/-- from the row's checks on. -/
theorem rwrite_calls (w : World) (frm til : Int) (l : List Ent) (ao : Option Addr) (c : Nat) (hfI : I64 frm) (htI : I64 til) (hE : ∀ W, Sat E W F → RdE W (.slice ao l.length c) l) (h : Sat E w (rdev b d * F)) :
    Calls Try.prog 60 #[.pointer (some ⟨b, 0, none⟩), .int .i64 frm, .int .i64 til, .slice ao l.length c] w fun e w' => e = .returned (.int .i64 (Redo.write d frm til l).2) ∧ Sat E w' (rdev b (Redo.write d frm til l).1 * F) := by
  obtain ⟨R, hR⟩ : ∃ R, R = Redo.write d frm til l := ⟨_, rfl⟩
  rw [← hR]
  unfold Redo.write at hR
  have hm := (hE w h.right).1.most
  have hmost := (rdev_ok h).most
  have HE := Lib.hid hE
  clear hE
  go_enter Try.func60, Try.ntmps60
  go_wp2_with fail
  refine (area_calls _ frm til h).mono ?_
  rintro e w1 ⟨rfl, rfl⟩
  obtain ⟨B, hB⟩ : ∃ B, B = Redo.may d frm til := ⟨_, rfl⟩
  rw [← hB] at hR ⊢
  cases B with
  | false =>
    rw [if_pos rfl] at hR
    have HR := Lib.hid hR
    have H := Lib.hid h
    clear hR hB h hfI htI
    go_wp2_with fail
    go_ret
    exact ⟨by rw [HR.out]; rfl, by rw [HR.out]; exact H.out⟩
  | true =>
    obtain ⟨hf0, hft, htl, hf8⟩ := Redo.may_fact hB.symm
    obtain ⟨f, rfl⟩ : ∃ f : Nat, frm = f := ⟨frm.toNat, by omega⟩
    rw [if_neg (by simp), fits_eq] at hR
    have hsub : wrap64 (til - (f : Int)) = til - f := by clear hR hfI htI; unfold wrap64; omega
    rw [hsub] at hR
    have HSUB := Lib.hid hsub
    clear hB hfI htI hsub
    have hf8' : f % 8 = 0 := by omega
    have hf9 : f ≤ 65536 := by omega
    have ht9 : til ≤ 65536 := by omega
    clear hf8
    by_cases hn : (l.length : Int) ≤ 1024
    · have hn' : ¬ (1024 : Int) < l.length := by omega
      rw [decide_eq_true hn, Bool.true_and] at hR
      have HR := Lib.hid hR
      have H := Lib.hid h
      clear hR h
      go_wp2_with fail
      refine (rneed_calls _ _).mono ?_
      rintro e w2 ⟨rfl, rfl⟩
      have hR := HR.out
      obtain ⟨ND, hND⟩ : ∃ ND, ND = Redo.need l.length := ⟨_, rfl⟩
      rw [← hND] at hR ⊢
      have HND := Lib.hid hND
      clear hND HR
      by_cases hfit : ND ≤ til - (f : Int)
      · have hfit' : ¬ til - (f : Int) < ND := by omega
        rw [decide_eq_true hfit, if_neg (by simp)] at hR
        have HR := Lib.hid hR
        clear hR
        go_wp2_with fail
        have hroom : f + 8 + 2 * l.length ≤ 65536 := by
          have := HND.out
          unfold Redo.need at this
          rw [if_neg (by omega)] at this
          omega
        have HROOM := Lib.hid hroom
        clear hroom hfit hfit'
        go_loopw [37] (fun iv wr => ∃ i : Nat, i ≤ l.length ∧ iv = .int .i64 i ∧ ((l.take i).all fun x => Redo.mayAt d f til x.at_) = true ∧ Sat E wr (rdev b d * F)) (fun iv _ => l.length - (intOf iv).toNat)
        case atStart => exact ⟨0, Nat.zero_le _, rfl, rfl, H.out⟩
        case round =>
          clear H
          obtain ⟨i, hi, rfl, hall, hw⟩ := hrel
          have HALL := Lib.hid hall
          clear hall
          by_cases hlt : i < l.length
          · have hre := HE.out _ hw.right
            obtain ⟨bb, o, rfl, c0, c1⟩ := RdE.nth hre i hlt
            have HNX : Hid (((l.take (i + 1)).all fun x => Redo.mayAt d f til x.at_) = (Redo.mayAt d f til l[i].at_)) := Lib.hid (by
              rw [List.take_succ_eq_append_getElem hlt, List.all_append, HALL.out]
              simp)
            have HBAD : Hid (Redo.mayAt d f til l[i].at_ = false → (l.all fun x => Redo.mayAt d f til x.at_) = false) := Lib.hid fun hb => by
              rw [← Bool.not_eq_true, List.all_eq_true]
              intro ha
              have := ha _ (List.getElem_mem hlt)
              rw [hb] at this
              cases this
            obtain ⟨cat, hcat⟩ : ∃ x, x = l[i].at_ := ⟨_, rfl⟩
            obtain ⟨cw, hcw⟩ : ∃ x, x = l[i].word := ⟨_, rfl⟩
            rw [← hcat] at c0 HNX HBAD; rw [← hcw] at c1
            clear hcat hcw hre
            have ha := Sat.swap (hw.alloc (.cells #[.int .i64 cat, .int .u64 cw] 58))
            have HA := Lib.hid (Sat.mid ha)
            clear hw
            go_wp2_with fail
            refine (bad_calls _ cat f til ha).mono ?_
            rintro e w3 ⟨rfl, rfl⟩
            obtain ⟨B, hB⟩ : ∃ B, B = Redo.mayAt d f til cat := ⟨_, rfl⟩
            rw [← hB] at HNX HBAD ⊢
            clear hB ha
            cases B with
            | true =>
              go_wp2_with fail
              exact ⟨⟨i + 1, by omega, rfl, HNX.out, HA.out⟩, by simp only [intOf]; omega⟩
            | false =>
              have hR : R = (d, 1) := by rw [HR.out, if_pos (HBAD.out rfl)]
              have HR2 := Lib.hid hR
              clear hR HR
              go_wp2_with fail
              go_ret
              exact ⟨by rw [HR2.out]; rfl, by rw [HR2.out]; exact HA.out⟩
          · obtain rfl : i = l.length := by omega
            have hR := HR.out
            have hall := HALL.out
            rw [List.take_length] at hall
            rw [hall, if_neg (by simp)] at hR
            have HR2 := Lib.hid hR
            have HMAY : Hid (∀ x ∈ l, 0 ≤ x.at_) := Lib.hid fun x hx => by
              have := List.all_eq_true.1 hall x hx
              unfold Redo.mayAt at this
              have := of_decide_eq_true this
              omega
            have hX := Redo.load_u64 (rdev_ok hw) (f : Int)
            have H := Lib.hid hw
            clear hR hall HALL HR hlt hi hw
            go_wp2_with fail
            refine (rload_calls _ _ H.out).mono ?_
            rintro e w4 ⟨rfl, rfl⟩
            have hR := HR2.out
            obtain ⟨X, hXX⟩ : ∃ X, X = d.load (f : Int) := ⟨_, rfl⟩
            obtain ⟨Y, hY⟩ : ∃ Y, Y = d.loadE (f : Int) := ⟨_, rfl⟩
            rw [← hXX, ← hY] at hR
            rw [← hXX, ← hY]
            clear hX hXX hY HR2
            by_cases hy : Y = 0
            · subst hy
              rw [if_neg (by simp)] at hR
              by_cases hx : X = 0
              · subst hx
                rw [if_neg (by simp)] at hR
                by_cases hl0 : l = []
                · have hl1 : (l.length : Int) = 0 := by rw [hl0]; rfl
                  rw [if_pos hl0] at hR
                  have HR2 := Lib.hid hR
                  clear hR hl0
                  go_wp2_with fail
                  go_ret
                  exact ⟨by rw [HR2.out]; rfl, by rw [HR2.out]; exact H.out⟩
                · have hl1 : ¬ l.length = 0 := fun h => hl0 (List.eq_nil_of_length_eq_zero h)
                  have hl2 : ((l.length : Int) == 0) = false := by rw [beq_eq_false_iff_ne]; omega
                  have hl3 : ¬ (l.length : Int) = 0 := by omega
                  rw [if_neg hl0] at hR
                  have hal := H.out.alloc (.cells #[.pointer (some ⟨b, 0, none⟩), .int .i64 0] 147)
                  generalize htb : w4.heap.size = tb at hal
                  have htr : Sat E _ (tried tb b (d, 0) * F) := tried_mk hal
                  have hR0 : Dev.goOn (d, 0) (Redo.entOps ((f : Int) + 8) l ++ (Redo.flOps (f + 8) (f + 8 + 2 * l.length) ++ ([.fe] ++ (Redo.markOps f l.length ++ Redo.doOps f l)))) = R := by
                    rw [Dev.goOn_zero, hR, Int.toNat_natCast]
                    unfold Redo.writeOps Redo.putOps
                    simp only [List.append_assoc]
                  have HR0 := Lib.hid hR0
                  have hlu : IntKind.u64.wrap (l.length : Int) = l.length := by
                    clear HSUB
                    simp only [IntKind.wrap, IntKind.bits, IntKind.signed]
                    simp
                    omega
                  have HLU := Lib.hid hlu
                  clear hR hl0 hal hR0 hlu H
                  go_wp2_with fail
                  go_loopw [69] (fun iv wr => ∃ (i : Nat) (q1 : Dev × Int), i ≤ l.length ∧ iv = .int .i64 i ∧ Dev.goOn q1 (Redo.entOps ((f : Int) + 8 + 2 * i) (l.drop i) ++ (Redo.flOps (f + 8) (f + 8 + 2 * l.length) ++ ([.fe] ++ (Redo.markOps f l.length ++ Redo.doOps f l)))) = R ∧ Sat E wr (tried tb b q1 * F)) (fun iv _ => l.length - (intOf iv).toNat)
                  case atStart => exact ⟨0, _, Nat.zero_le _, rfl, by rw [List.drop_zero]; simpa using HR0.out, htr⟩
                  case round =>
                    clear htr HR0
                    obtain ⟨i, q1, hi, rfl, hr, hw⟩ := hrel
                    by_cases hlt : i < l.length
                    · have hre := HE.out _ hw.right
                      obtain ⟨bb, o, rfl, c0, c1⟩ := RdE.nth hre i hlt
                      have hx : U64 l[i].word := hre.2.1 _ (List.getElem_mem hlt)
                      rw [List.drop_eq_getElem_cons hlt] at hr
                      obtain ⟨cat, hcat⟩ : ∃ x, x = l[i].at_ := ⟨_, rfl⟩
                      obtain ⟨cw, hcw⟩ : ∃ x, x = l[i].word := ⟨_, rfl⟩
                      unfold Redo.entOps at hr
                      rw [← hcat, ← hcw, List.cons_append, List.cons_append, Dev.goOn_cons, Dev.goOn_cons] at hr
                      rw [← hcat] at c0; rw [← hcw] at c1 hx
                      clear hcat hcw hre
                      have ha := hw.alloc (.cells #[.int .i64 cat, .int .u64 cw] 58)
                      generalize hxb : wr.heap.size = xb at ha
                      have HRR := Lib.hid hr
                      have HX := Lib.hid hx
                      have hro := HROOM.out
                      clear hr hw hx
                      go_wp2_with fail
                      refine (tstore_calls _ tb b q1 ((f : Int) + 8 + 2 * i) (IntKind.u64.wrap cat) (u64_wrap cat) (Sat.swap ha)).mono ?_
                      rintro e w5 ⟨rfl, h5⟩
                      have x1 := (Sat.right h5).cell 1 rfl
                      go_wp2_with fail
                      refine (tstore_calls _ tb b _ ((f : Int) + 8 + 2 * i + 1) cw HX.out h5).mono ?_
                      rintro e w6 ⟨rfl, h6⟩
                      go_wp2_with fail
                      refine ⟨⟨i + 1, _, by omega, rfl, ?_, Sat.mid h6⟩, by simp only [intOf]; omega⟩
                      rw [show (f : Int) + 8 + 2 * ((i + 1 : Nat) : Int) = (f : Int) + 8 + 2 * i + 2 by omega]
                      exact HRR.out
                    · obtain rfl : i = l.length := by omega
                      rw [List.drop_length] at hr
                      have hr' : Dev.goOn q1 (Redo.flOps (f + 8) (f + 8 + 2 * l.length) ++ ([.fe] ++ (Redo.markOps f l.length ++ Redo.doOps f l))) = R := hr
                      have HRR := Lib.hid hr'
                      clear hr hr' hlt hi
                      go_wp2_with fail
                      go_loopw [17] (fun iv wr => ∃ (j : Nat) (q1 : Dev × Int), 8 * j < 2 * l.length + 8 ∧ iv = .int .i64 (8 * j : Nat) ∧ Dev.goOn q1 (Redo.flOps (f + 8 + 8 * j) (f + 8 + 2 * l.length) ++ ([.fe] ++ (Redo.markOps f l.length ++ Redo.doOps f l))) = R ∧ Sat E wr (tried tb b q1 * F)) (fun iv _ => 2 * l.length - (intOf iv).toNat)
                      case atStart => exact ⟨0, q1, by omega, rfl, HRR.out, hw⟩
                      case round =>
                        clear hw HRR
                        obtain ⟨j, q1, hj, rfl, hr, hw⟩ := hrel
                        obtain ⟨k, hk⟩ : ∃ k, k = 8 * j := ⟨_, rfl⟩
                        rw [← hk] at hr ⊢
                        have hro := HROOM.out
                        by_cases hlt : k < 2 * l.length
                        · have hlti : (k : Int) < 2 * (l.length : Int) := by omega
                          rw [flOps_line (by omega) (by omega), List.cons_append, Dev.goOn_cons, show ((f + 8 + k : Nat) : Int) = (f : Int) + 8 + k by omega] at hr
                          have HRR := Lib.hid hr
                          have HK := Lib.hid hk
                          have HJ := Lib.hid (show 8 * (j + 1) < 2 * l.length + 8 by omega)
                          clear hr hk hj
                          go_wp2_with fail
                          refine (tflush_calls _ tb b q1 _ hw).mono ?_
                          rintro e w5 ⟨rfl, h5⟩
                          go_wp2_with fail
                          refine ⟨⟨j + 1, _, HJ.out, by rw [HK.out]; congr 1 <;> omega, ?_, h5⟩, by simp only [intOf]; omega⟩
                          rw [show f + 8 + 8 * (j + 1) = f + 8 + k + 8 by have := HK.out; omega]
                          exact HRR.out
                        · have hlti : ¬ (k : Int) < 2 * (l.length : Int) := by omega
                          rw [Redo.flOps_done (by omega)] at hr
                          have hr' : Dev.goOn (Dev.goOn (Dev.goOn (Dev.goOn (Dev.goOn q1 [.fe]) [.st f l.length]) [.fl f]) [.fe]) (Redo.doOps f l) = R := by
                            rw [← hr, ← Dev.goOn_append, ← Dev.goOn_append, ← Dev.goOn_append, ← Dev.goOn_append]
                            rfl
                          have HRR := Lib.hid hr'
                          have hlU := HLU.out
                          clear hr hr' hk hj
                          go_wp2_with fail
                          refine (tfence_calls _ tb b q1 hw).mono ?_
                          rintro e w5 ⟨rfl, h5⟩
                          go_wp2_with fail
                          refine (tstore_calls _ tb b _ (f : Int) (l.length : Int) (by unfold U64; omega) h5).mono ?_
                          rintro e w6 ⟨rfl, h6⟩
                          go_wp2_with fail
                          refine (tflush_calls _ tb b _ (f : Int) h6).mono ?_
                          rintro e w7 ⟨rfl, h7⟩
                          go_wp2_with fail
                          refine (tfence_calls _ tb b _ h7).mono ?_
                          rintro e w8 ⟨rfl, h8⟩
                          go_wp2_with fail
                          refine (done_calls _ tb b _ (f : Int) l ao c (by omega) HMAY.out HE.out h8).mono ?_
                          rintro e w9 ⟨rfl, h9⟩
                          rw [HRR.out] at h9
                          have h10 := tried_open h9
                          have c1 := h10.cell 1 rfl
                          have HF := Lib.hid h10.right
                          clear h9 h10 hlU
                          go_wp2_with fail
                          go_ret
                          exact ⟨rfl, HF.out⟩
              · rw [if_pos hx] at hR
                have hb : (X != 0) = true := by simpa using hx
                have HR2 := Lib.hid hR
                clear hR
                go_wp2_with fail
                go_ret
                exact ⟨by rw [HR2.out]; rfl, by rw [HR2.out]; exact H.out⟩
            · rw [if_pos hy] at hR
              have hb : (Y != 0) = true := by simpa using hy
              have HR2 := Lib.hid hR
              clear hR
              go_wp2_with fail
              go_ret
              exact ⟨by rw [HR2.out]; rfl, by rw [HR2.out]; exact H.out⟩
      · have hfit' : til - (f : Int) < ND := by omega
        rw [decide_eq_false hfit, if_pos rfl] at hR
        have HR := Lib.hid hR
        clear hR hfit
        go_wp2_with fail
        go_ret
        exact ⟨by rw [HR.out]; rfl, by rw [HR.out]; exact H.out⟩
    · have hn' : (1024 : Int) < l.length := by omega
      rw [decide_eq_false hn, Bool.false_and, if_pos rfl] at hR
      have HR := Lib.hid hR
      have H := Lib.hid h
      clear hR h hn
      go_wp2_with fail
      go_ret
      exact ⟨by rw [HR.out]; rfl, by rw [HR.out]; exact H.out⟩
set_option maxRecDepth 100000 in
set_option maxHeartbeats 4000000 in
theorem rrecover_calls (w : World) (frm til : Int) (h : Sat E w (rdev b d * F)) :
    Calls Try.prog 63 #[.pointer (some ⟨b, 0, none⟩), .int .i64 frm, .int .i64 til] w fun e w' => e = .returned (.tuple #[.int .i64 (Redo.recover d frm til).2.1, .int .i64 (Redo.recover d frm til).2.2]) ∧ Sat E w' (rdev b (Redo.recover d frm til).1 * F) := by
  obtain ⟨R, hR⟩ : ∃ R, R = Redo.recover d frm til := ⟨_, rfl⟩
  rw [← hR]
  have hok := rdev_ok h
  have hmost := hok.most
  have hfa := Redo.entL_facts hok frm til
  unfold Redo.recover at hR
  go_enter Try.func63, Try.ntmps63
  go_wp2_with fail
  refine (area_calls _ frm til h).mono ?_
  rintro e w1 ⟨rfl, rfl⟩
  obtain ⟨B, hB⟩ : ∃ B, B = Redo.may d frm til := ⟨_, rfl⟩
  rw [← hB] at hR ⊢
  cases B with
  | false =>
    rw [if_pos rfl] at hR
    have HR2 := Lib.hid hR
    have H := Lib.hid h
    clear hR hB hfa hok h
    go_wp2_with fail
    go_ret2
    exact ⟨by rw [HR2.out]; rfl, by rw [HR2.out]; exact H.out⟩
  | true =>
    obtain ⟨hf0, hft, htl, hf8⟩ := Redo.may_fact hB.symm
    obtain ⟨f, rfl⟩ : ∃ f : Nat, frm = f := ⟨frm.toNat, by omega⟩
    rw [if_neg (by simp)] at hR
    have hX := Redo.load_u64 hok (f : Int)
    obtain ⟨L, hL⟩ : ∃ L, L = Redo.entL d f til := ⟨_, rfl⟩
    obtain ⟨YE, hYE⟩ : ∃ YE, YE = Redo.entE d f til := ⟨_, rfl⟩
    rw [← hL, ← hYE] at hR
    rw [← hL] at hfa
    have hL3 : YE = 0 → L = Redo.entsOf d f (d.load f).toNat := fun h => by rw [hL]; unfold Redo.entL; rw [if_pos (by rw [← hYE]; exact h)]
    unfold Redo.entE at hYE
    have HR := Lib.hid hR; have HFA := Lib.hid hfa; have HOK := Lib.hid hok; have HYE := Lib.hid hYE; have HL3 := Lib.hid hL3
    have HTL := Lib.hid htl
    have H := Lib.hid h
    have hf9 : f ≤ 65536 := by omega
    have ht9 : til ≤ 65536 := by omega
    clear hR hfa hok hL hYE hL3 hB h hf8 htl
    go_wp2_with fail
    refine (rload_calls _ _ H.out).mono ?_
    rintro e w2 ⟨rfl, rfl⟩
    have hYE := HYE.out
    obtain ⟨X, hXX⟩ : ∃ X, X = d.load (f : Int) := ⟨_, rfl⟩
    obtain ⟨Y, hY⟩ : ∃ Y, Y = d.loadE (f : Int) := ⟨_, rfl⟩
    rw [← hXX, ← hY] at hYE
    rw [← hXX] at HL3 hX
    rw [← hXX, ← hY]
    have HYY := Lib.hid hY
    have bad : Hid (∀ Z : Int, Z ≠ 0 → YE = Z → R = (d, 0, Z)) := Lib.hid fun Z hz hy => by rw [HR.out, if_pos (.inl (by rw [hy]; exact hz)), hy]
    clear hXX hY HYE
    by_cases hy : Y = 0
    · subst hy
      rw [if_neg (by simp)] at hYE
      obtain ⟨n, rfl⟩ : ∃ n : Nat, X = n := ⟨X.toNat, by have := hX.1; omega⟩
      by_cases h2 : 1024 < (n : Int)
      · rw [if_pos h2] at hYE
        have HR2 := Lib.hid (bad.out 8 (by decide) hYE)
        clear hYE hX
        go_wp2_with fail
        go_ret2
        exact ⟨by rw [HR2.out]; rfl, by rw [HR2.out]; exact H.out⟩
      · rw [if_neg h2] at hYE
        have h3 : (n : Int) ≤ 1024 := by omega
        have h4 : ¬ 1024 < (n : Int) := h2
        have hsub : wrap64 (til - (f : Int)) = til - f := by clear hYE hX; unfold wrap64; omega
        have hfe := fits_eq (f : Int) til n
        rw [decide_eq_true h3, Bool.true_and, hsub] at hfe
        have HFE := Lib.hid hfe
        have HYE := Lib.hid hYE
        clear hYE hX hsub hfe h2
        go_wp2_with fail
        refine (rneed_calls _ _).mono ?_
        rintro e w3 ⟨rfl, rfl⟩
        have hfe := HFE.out
        have hYE := HYE.out
        obtain ⟨ND, hND⟩ : ∃ ND, ND = Redo.need n := ⟨_, rfl⟩
        rw [← hND] at hfe ⊢
        have HND := Lib.hid hND
        clear hND HYE HFE
        by_cases hfit : ND ≤ til - (f : Int)
        · have hfit' : ¬ til - (f : Int) < ND := by omega
          rw [decide_eq_true hfit] at hfe
          rw [hfe, if_neg (by simp)] at hYE
          obtain ⟨hn1, _⟩ := Redo.fits_fact (n := n) (by omega) hft ht9 hfe
          have HYE := Lib.hid hYE
          have hent := entRow_nil H.out
          clear hYE hfe H
          go_wp2_with fail
          clear hfit hfit'
          go_loopw [44, 10] (fun iv ov wr => ∃ i : Nat, i ≤ n ∧ iv = .int .i64 i ∧ ((List.range i).all fun i => Redo.okAt d f til i) = true ∧ Sat E wr (entRow ov (Redo.entsOf d f i) * (rdev b d * F))) (fun iv _ _ => n - (intOf iv).toNat)
          case atStart => exact ⟨0, Nat.zero_le _, rfl, rfl, hent⟩
          case round =>
            clear hent
            obtain ⟨i, hi, rfl, hall, hw⟩ := hrel
            have HALL := Lib.hid hall
            clear hall
            by_cases hlt : i < n
            · have hll := HTL.out
              have hmay1 : d.loadE ((f : Int) + 8 + 2 * i) = 0 := Redo.load_in HYY.out.symm (by omega)
              have hmay2 : d.loadE ((f : Int) + 8 + 2 * i + 1) = 0 := Redo.load_in HYY.out.symm (by omega)
              have hX1 := Redo.load_u64 HOK.out ((f : Int) + 8 + 2 * i)
              have HNX : Hid (Redo.entAt d f i = ⟨d.load ((f : Int) + 8 + 2 * i), d.load ((f : Int) + 8 + 2 * i + 1)⟩) := Lib.hid rfl
              have HOKI : Hid (Redo.okAt d f til i = (decide ((Redo.entAt d f i).at_ ≤ 65536) && Redo.mayAt d f til (Redo.entAt d f i).at_)) := Lib.hid rfl
              have hd : Sat E wr (rdev b d * (entRow u10 (Redo.entsOf d f i) * F)) := Sat.swap hw
              have hlti : (i : Int) < n := by omega
              clear hll
              go_wp2_with fail
              refine (rload_calls _ _ hd).mono ?_
              rintro e w3 ⟨rfl, rfl⟩
              obtain ⟨X1, hX1'⟩ : ∃ X, X = d.load ((f : Int) + 8 + 2 * i) := ⟨_, rfl⟩
              rw [← hX1'] at HNX hX1 ⊢
              rw [hmay1]
              clear hX1' hmay1
              go_wp2_with fail
              refine (rload_calls _ _ hd).mono ?_
              rintro e w4 ⟨rfl, rfl⟩
              obtain ⟨X2, hX2'⟩ : ∃ X, X = d.load ((f : Int) + 8 + 2 * i + 1) := ⟨_, rfl⟩
              rw [← hX2'] at HNX ⊢
              rw [hmay2]
              clear hX2' hmay2
              rw [HNX.out] at HOKI
              have badi : Hid (Redo.okAt d f til i = false → R = (d, 0, 8)) := Lib.hid fun hb => by
                have hnall : ((List.range n).all fun i => Redo.okAt d f til i) = false := by
                  rw [← Bool.not_eq_true, List.all_eq_true]
                  intro hall
                  have := hall i (List.mem_range.2 hlt)
                  rw [hb] at this
                  cases this
                exact bad.out 8 (by decide) (by rw [HYE.out, Int.toNat_natCast, if_pos hnall])
              have HD := Lib.hid hd
              by_cases h65 : 65536 < X1
              · have HR2 := Lib.hid (badi.out (by rw [HOKI.out]; simp; omega))
                have HF := Lib.hid (Sat.mid hd)
                clear hX1 hd hw
                go_wp2_with fail
                go_ret2
                exact ⟨by rw [HR2.out]; rfl, by rw [HR2.out]; exact HF.out⟩
              · have hX0 : 0 ≤ X1 := hX1.1
                have hX6 : X1 ≤ 65536 := by omega
                clear hX1 hd hw
                go_wp2_with fail
                refine (bad_calls _ X1 f til HD.out).mono ?_
                rintro e w5 ⟨rfl, rfl⟩
                have HOKI2 : Hid (Redo.okAt d f til i = Redo.mayAt d f til X1) := Lib.hid (by rw [HOKI.out, decide_eq_true (show X1 ≤ 65536 from hX6), Bool.true_and])
                obtain ⟨B, hB⟩ : ∃ B, B = Redo.mayAt d f til X1 := ⟨_, rfl⟩
                rw [← hB] at HOKI2 ⊢
                clear hB HOKI
                cases B with
                | false =>
                  have HR2 := Lib.hid (badi.out HOKI2.out)
                  have HF := Lib.hid (Sat.mid HD.out)
                  go_wp2_with fail
                  go_ret2
                  exact ⟨by rw [HR2.out]; rfl, by rw [HR2.out]; exact HF.out⟩
                | true =>
                  have H6 := Lib.hid (Sat.swap HD.out)
                  have HB := Lib.hid (show (Redo.entsOf d f i).length + 1 ≤ 1000000 by rw [Redo.entsOf_len]; omega)
                  go_wp2_with (at_builtin; refine wpl_pushE rfl _ _ rfl (Sat.alloc H6.out _) rfl rfl HB.out ?_; intro g' e3 a5 c5 w7 h7)
                  refine ⟨⟨i + 1, by omega, rfl, ?_, ?_⟩, by simp only [intOf]; omega⟩
                  · rw [List.range_succ, List.all_append, HALL.out]
                    simp only [List.all_cons, List.all_nil, Bool.and_true, Bool.true_and]
                    exact HOKI2.out
                  · rw [Redo.entsOf_succ, HNX.out, ← e3.out]
                    exact h7
            · obtain rfl : i = n := by omega
              have hY0 : YE = 0 := by rw [HYE.out, Int.toNat_natCast, HALL.out]; rfl
              have hLL : L = Redo.entsOf d f i := by rw [HL3.out hY0]; rfl
              rw [← hLL] at hw
              have hli : L.length = i := by rw [hLL, Redo.entsOf_len]
              have hR := HR.out
              obtain ⟨oa, oc, rfl⟩ := entRow_val hw
              have HLI := Lib.hid hli
              clear hLL HR HALL hlt hi hli
              by_cases hl : L.length = 0
              · rw [if_pos (.inr hl), hY0] at hR
                have hl' : (L.length : Int) = 0 := by omega
                have HR2 := Lib.hid hR
                have HF := Lib.hid (Sat.right hw)
                clear hR hw hY0
                go_wp2_with fail
                go_ret2
                exact ⟨by rw [HR2.out]; rfl, by rw [HR2.out]; exact HF.out⟩
              · rw [if_neg (by rw [hY0]; simp; exact fun h => hl (by rw [h]; rfl))] at hR
                have hl' : ¬ (L.length : Int) = 0 := by omega
                have hl2 : ((L.length : Int) == 0) = false := by rw [beq_eq_false_iff_ne]; exact hl'
                have hal := (Sat.swap hw).alloc (.cells #[.pointer (some ⟨b, 0, none⟩), .int .i64 0] 147)
                generalize htb : wr.heap.size = tb at hal
                have htr : Sat E _ (tried tb b (d, 0) * (entRow (.slice oa L.length oc) L * F)) := tried_mk hal
                have HRE : Hid (∀ W, Sat E W (entRow (.slice oa L.length oc) L * F) → RdE W (.slice oa L.length oc) L) := Lib.hid fun W hW => entRow_rd (F := F) hW HFA.out.1 (fun x hx => by have := HFA.out.2.1 x hx; unfold I64; omega)
                have HR2 := Lib.hid hR
                clear hR hal hw hY0
                go_wp2_with fail
                refine (done_calls _ tb b (d, 0) f L oa oc HFA.out.2.2 (fun x hx => (HFA.out.2.1 x hx).1) HRE.out htr).mono ?_
                rintro e w3 ⟨rfl, h3⟩
                rw [Dev.goOn_zero] at h3
                have hR := HR2.out
                obtain ⟨⟨d2, e2⟩, hq⟩ : ∃ q, q = d.run (Redo.doOps f L) := ⟨_, rfl⟩
                rw [← hq] at h3 hR
                simp only at hR
                have h4 := tried_open h3
                have c1 := h4.cell 1 rfl
                have HF : Hid (Sat E w3 (rdev b d2 * F)) := Lib.hid (Sat.mid (Sat.right h4))
                clear hq HRE h3 h4 HR2 htr
                by_cases he : e2 = 0
                · subst he
                  have HR4 : Hid (R = (d2, (L.length : Int), 0)) := Lib.hid (by rw [hR]; rfl)
                  clear hR
                  go_wp2_with fail
                  go_ret2
                  exact ⟨by rw [HR4.out]; rfl, by rw [HR4.out]; exact HF.out⟩
                · have hb : (e2 != 0) = true := by simpa using he
                  have HR4 : Hid (R = (d2, 0, e2)) := Lib.hid (by rw [hR, if_pos he])
                  clear hR
                  go_wp2_with fail
                  go_quiet (fail)
                  go_wp2_with fail
                  go_ret2
                  exact ⟨by rw [HR4.out]; rfl, by rw [HR4.out]; exact HF.out.drewN _⟩
        · have hfit' : til - (f : Int) < ND := by omega
          rw [decide_eq_false hfit] at hfe
          rw [hfe, if_pos rfl] at hYE
          have HR2 := Lib.hid (bad.out 8 (by decide) hYE)
          clear hYE hfe hfit
          go_wp2_with fail
          go_ret2
          exact ⟨by rw [HR2.out]; rfl, by rw [HR2.out]; exact H.out⟩
    · have hb : (Y != 0) = true := by simpa using hy
      rw [if_pos hy] at hYE
      have HR2 := Lib.hid (bad.out Y hy hYE)
      clear hYE hX
      go_wp2_with fail
      go_ret2
      exact ⟨by rw [HR2.out]; rfl, by rw [HR2.out]; exact H.out⟩
end
end Scul
