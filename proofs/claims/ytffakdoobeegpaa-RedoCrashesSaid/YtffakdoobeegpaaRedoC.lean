/- redo: may, fits, mayAt, Write; a row that every program must know. -/
import Derived.Test.YtffakdoobeegpaaRedoB
namespace Scul
open Go Go.Sl Go.RowKit Go.Proofs
section
variable {E : Env} {w : World} {F : HP} {b : Nat} {d : Dev}

set_option maxRecDepth 100000 in
set_option maxHeartbeats 4000000 in
theorem may_calls (w : World) (frm til : Int) (h : Sat E w (dev b d * F)) :
    Calls Try.prog 90 #[glog b frm til] w fun e w' => e = .returned (.bool (Redo.may d frm til)) ∧ Sat E w' (dev b d * F) := by
  have hal : Sat E _ (logAt w.heap.size b frm til * (dev b d * F)) := h.alloc _
  have HLN : ∀ W, Sat E W (dev b d * F) → ∀ k, Calls Try.prog 38 #[.pointer (some ⟨b, 0, none⟩)] (W.drewN k) fun e w' => e = .returned (.int .i64 d.read.length) ∧ w' = W.drewN k := fun W hW k => len_calls _ (hW.drewN k)
  obtain ⟨gb, hgb⟩ : ∃ gb, gb = w.heap.size := ⟨_, rfl⟩
  rw [← hgb] at hal
  have HB : Hid (Redo.may d frm til = (decide (0 ≤ frm) && decide (frm < til) && decide (til ≤ (d.read.length : Int)) && (frm % 8 == 0))) := by
    show _ = _
    unfold Redo.may
    rw [Bool.eq_iff_iff]
    simp only [decide_eq_true_iff, Bool.and_eq_true, beq_iff_eq]
    constructor
    · rintro ⟨a, b, c, d⟩; exact ⟨⟨⟨a, b⟩, c⟩, d⟩
    · rintro ⟨⟨⟨a, b⟩, c⟩, d⟩; exact ⟨a, b, c, d⟩
  unfold glog
  generalize d.read.length = n at HLN HB
  go_enter Try.func90, Try.ntmps90
  go_wp2_with fail
  rw [← hgb]
  refine atSat _ hal fun W hW => ?_
  have HL2 := Lib.hid (HLN W hW.right)
  have HW := Lib.hid hW.right
  have c0 := hW.cell 0 rfl
  have c1 := hW.cell 1 rfl
  have c2 := hW.cell 2 rfl
  clear HLN hal h hW hgb
  by_cases h1 : 0 ≤ frm
  · have q1 : decide (0 ≤ frm) = true := by simpa using h1
    rw [q1] at HB
    by_cases h2 : frm < til
    · have q2 : decide (frm < til) = true := by simpa using h2
      rw [q2] at HB
      by_cases h3 : til ≤ (n : Int)
      · have q3 : decide (til ≤ (n : Int)) = true := by simpa using h3
        rw [q3] at HB
        go_quiet ((go_at_call 38; exact Calls.quiet_of_same (HL2.out _)))
        go_wp2_with fail
        go_ret
        exact ⟨by rw [HB.out]; simp, HW.out.drewN _⟩
      · have q3 : decide (til ≤ (n : Int)) = false := by simpa using h3
        rw [q3] at HB
        go_quiet ((go_at_call 38; exact Calls.quiet_of_same (HL2.out _)))
        go_wp2_with fail
        go_ret
        exact ⟨by rw [HB.out]; simp, HW.out.drewN _⟩
    · have q2 : decide (frm < til) = false := by simpa using h2
      rw [q2] at HB
      go_quiet (fail)
      go_wp2_with fail
      go_ret
      exact ⟨by rw [HB.out]; simp, HW.out.drewN _⟩
  · have q1 : decide (0 ≤ frm) = false := by simpa using h1
    rw [q1] at HB
    go_quiet (fail)
    go_wp2_with fail
    go_ret
    exact ⟨by rw [HB.out]; simp, HW.out.drewN _⟩

theorem fits_calls (w : World) (frm til n : Int) (h : Sat E w (dev b d * F)) :
    Calls Try.prog 91 #[glog b frm til, .int .i64 n] w fun e w' => e = .returned (.bool (Redo.fits frm til n)) ∧ Sat E w' (dev b d * F) := by
  have hal : Sat E _ (logAt w.heap.size b frm til * (dev b d * F)) := h.alloc _
  obtain ⟨gb, hgb⟩ : ∃ gb, gb = w.heap.size := ⟨_, rfl⟩
  rw [← hgb] at hal
  have HB : Hid (Redo.fits frm til n = (decide (n ≤ 1024) && decide (Redo.need n ≤ wrap64 (til - frm)))) := by
    show _ = _
    unfold Redo.fits
    rw [Bool.eq_iff_iff]
    simp only [decide_eq_true_iff, Bool.and_eq_true]
  unfold glog
  go_enter Try.func91, Try.ntmps91
  go_wp2_with fail
  rw [← hgb]
  refine atSat _ hal fun W hW => ?_
  have HL2 := Lib.hid (fun k => need_calls (W.drewN k) n)
  have HW := Lib.hid hW.right
  have c0 := hW.cell 0 rfl
  have c1 := hW.cell 1 rfl
  have c2 := hW.cell 2 rfl
  clear hal h hW hgb
  by_cases h1 : n ≤ 1024
  · have q1 : decide (n ≤ 1024) = true := by simpa using h1
    rw [q1] at HB
    go_quiet ((go_at_call 40; exact Calls.quiet_of_same (HL2.out _)))
    go_wp2_with fail
    go_ret
    exact ⟨by rw [HB.out]; simp, HW.out.drewN _⟩
  · have q1 : decide (n ≤ 1024) = false := by simpa using h1
    rw [q1] at HB
    go_quiet (fail)
    go_wp2_with fail
    go_ret
    exact ⟨by rw [HB.out]; simp, HW.out.drewN _⟩

theorem mayAt_calls (w : World) (frm til a : Int) (h : Sat E w (dev b d * F)) :
    Calls Try.prog 92 #[glog b frm til, .int .i64 a] w fun e w' => e = .returned (.bool (Redo.mayAt d frm til a)) ∧ Sat E w' (dev b d * F) := by
  have hal : Sat E _ (logAt w.heap.size b frm til * (dev b d * F)) := h.alloc _
  have c0 := hal.cell 0 rfl
  have c1 := hal.cell 1 rfl
  have c2 := hal.cell 2 rfl
  have HLN := Lib.hid (fun W hW => len_calls (E := E) (F := F) (b := b) (d := d) W hW)
  have HW := Lib.hid hal.right
  have HB : Hid (Redo.mayAt d frm til a = (decide (0 ≤ a) && decide (a < (d.read.length : Int)) && (decide (a < frm) || decide (til ≤ a)))) := by
    show _ = _
    unfold Redo.mayAt
    rw [Bool.eq_iff_iff]
    simp only [decide_eq_true_iff, Bool.and_eq_true, Bool.or_eq_true]
    constructor
    · rintro ⟨a, b, c⟩; exact ⟨⟨a, b⟩, c⟩
    · rintro ⟨⟨a, b⟩, c⟩; exact ⟨a, b, c⟩
  clear hal h
  unfold glog
  go_enter Try.func92, Try.ntmps92
  go_wp2_with (go_at_call 38; refine (HLN.out _ HW.out).mono ?_; rintro e w' ⟨rfl, rfl⟩)
  all_goals
    go_ret
    exact ⟨by rw [HB.out]; simp [*] <;> (intros; omega), HW.out⟩

def RW.arr (e : Int) (u : Nat → Value) : Array Value := #[u 0, u 1, u 2, u 3, u 4, u 5, u 6, u 7, u 8, u 9, u 10, u 11, u 12, .int .i64 e, u 14, u 15, u 16, u 17, u 18, u 19, u 20, u 21, u 22, u 23, u 24, u 25, u 26, u 27, u 28, u 29, u 30, u 31, u 32, u 33, u 34, u 35, u 36, u 37, u 38, u 39, u 40, u 41, u 42, u 43, u 44, u 45, u 46, u 47, u 48, u 49, u 50, u 51, u 52, u 53, u 54, u 55, u 56, u 57, u 58, u 59, u 60, u 61, u 62, u 63, u 64, u 65]
/-- The frame at the label 'out': the answer lies in its slot. -/
def RW.fr (e : Int) (a : Act) : Prop := a = ⟨RW.arr e (fun k => a.tmps.getD k undef), []⟩
def RW.J (E : Env) (b : Nat) (R : Dev × Int) (F : HP) (_ : Nat) (a : Act) (w : World) : Prop := Sat E w (dev b R.1 * F) ∧ RW.fr R.2 a

set_option maxRecDepth 100000 in
set_option maxHeartbeats 4000000 in
theorem write_calls (w : World) (frm til : Int) (l : List Ent) (ao : Option Addr) (c : Nat) (hfI : I64 frm) (htI : I64 til) (hE : ∀ W, Sat E W F → RdE W (.slice ao l.length c) l) (h : Sat E w (dev b d * F)) :
    Calls Try.prog 44 #[.pointer (some ⟨b, 0, none⟩), .int .i64 frm, .int .i64 til, .slice ao l.length c] w fun e w' => e = .returned (.int .i64 (Redo.write d frm til l).2) ∧ Sat E w' (dev b (Redo.write d frm til l).1 * F) := by
  obtain ⟨R, hR⟩ : ∃ R, R = Redo.write d frm til l := ⟨_, rfl⟩
  rw [← hR]
  have HE := Lib.hid hE
  have HR := Lib.hid hR
  have HF := Lib.hid hfI
  have HT := Lib.hid htI
  have hm := (hE w h.right).1.most
  have hal : Sat E _ (logAt w.heap.size b frm til * (dev b d * F)) := h.alloc _
  clear hE hR hfI htI h
  go_enter Try.func44, Try.ntmps44
  go_wp2_with fail
  refine wp_scope_ghost 0 (RW.J E b R F) rfl ?_ ?_
  · rintro n a w ⟨hW, ha⟩
    obtain ⟨u, hu⟩ : ∃ u : Nat → Value, u = fun k => a.tmps.getD k undef := ⟨_, rfl⟩
    unfold RW.fr at ha
    rw [← hu] at ha
    clear hu hal
    unfold RW.arr at ha
    subst ha
    go_wp2_with fail
    simp only [Exit.jump]
    go_ret
    exact ⟨rfl, hW⟩
  · intro hpass
    have HPASS := Lib.hid hpass
    clear hpass
    obtain ⟨gb, hgb⟩ : ∃ gb, gb = w.heap.size := ⟨_, rfl⟩
    rw [← hgb] at hal
    have g0 := hal.cell 0 rfl
    have g1 := hal.cell 1 rfl
    have g2 := hal.cell 2 rfl
    go_wp2_with fail
    rw [← hgb]
    have hok := dev_ok hal.right
    refine (may_calls _ frm til (Sat.swap hal)).mono ?_
    rintro e w1 ⟨rfl, h1⟩
    clear hal g0 g1 g2 hgb
    have hr := HR.out
    unfold Redo.write at hr
    by_cases hmay : Redo.may d frm til = true
    · rw [hmay, if_neg (by simp)] at hr
      rw [hmay]
      have hmay' : 0 ≤ frm ∧ frm < til ∧ til ≤ (d.read.length : Int) ∧ frm % 8 = 0 := by unfold Redo.may at hmay; simpa using hmay
      obtain ⟨f, rfl⟩ : ∃ f : Nat, frm = f := ⟨frm.toNat, by omega⟩
      have hf : f ≤ 65536 := by have := hok.most; omega
      have g0 := (Sat.swap h1).cell 0 rfl
      have g1 := (Sat.swap h1).cell 1 rfl
      have g2 := (Sat.swap h1).cell 2 rfl
      clear hmay'
      have HRR := Lib.hid hr
      clear hr hmay
      go_wp2_with fail
      refine (fits_calls _ (f : Int) til (l.length : Int) h1).mono ?_
      rintro e w2 ⟨rfl, h2⟩
      have hr := HRR.out
      clear h1 g0 g1 g2 HRR
      by_cases hfit : Redo.fits f til l.length = true
      · rw [hfit, if_neg (by simp)] at hr
        rw [hfit]
        have hl : l.length ≤ 1024 := by unfold Redo.fits at hfit; simp at hfit; omega
        have HRR := Lib.hid hr
        clear hr hfit
        go_wp2_with fail
        go_loopw [28] (fun iv wr => ∃ i : Nat, i ≤ l.length ∧ iv = .int .i64 i ∧ ((l.take i).all fun x => Redo.mayAt d f til x.at_) = true ∧ Sat E wr (dev b d * (logAt gb b f til * F))) (fun iv _ => l.length - (intOf iv).toNat)
        case atStart => exact ⟨0, Nat.zero_le _, rfl, rfl, h2⟩
        case round =>
          clear h2
          obtain ⟨i, hi, rfl, hall, hw⟩ := hrel
          have HALL := Lib.hid hall
          clear hall
          by_cases hlt : i < l.length
          · obtain ⟨bb, o, rfl, c0, c1⟩ := RdE.nth (HE.out _ hw.right.right) i hlt
            obtain ⟨cat, hcat⟩ : ∃ x, x = l[i].at_ := ⟨_, rfl⟩
            obtain ⟨cw, hcw⟩ : ∃ x, x = l[i].word := ⟨_, rfl⟩
            rw [← hcat] at c0
            rw [← hcw] at c1
            have ha := hw.alloc (.cells #[.int .i64 cat, .int .u64 cw] 58)
            generalize hxb : wr.heap.size = xb at ha
            have hin : Sat E _ (dev b d * (logAt gb b f til * F)) := ha.right
            have g0 : (wr.alloc (.cells #[.int .i64 cat, .int .u64 cw] 58)).cell? ⟨gb, 0, none⟩ = some (.pointer (some ⟨b, 0, none⟩)) := (Sat.swap hin).cell 0 rfl
            have g1 : (wr.alloc (.cells #[.int .i64 cat, .int .u64 cw] 58)).cell? ⟨gb, 1, none⟩ = some (.int .i64 f) := (Sat.swap hin).cell 1 rfl
            have g2 : (wr.alloc (.cells #[.int .i64 cat, .int .u64 cw] 58)).cell? ⟨gb, 2, none⟩ = some (.int .i64 til) := (Sat.swap hin).cell 2 rfl
            have HC := Lib.hid hcat
            clear hcat hcw
            go_wp2_with fail
            refine (mayAt_calls _ (f : Int) til cat hin).mono ?_
            rintro e w3 ⟨rfl, h3⟩
            by_cases hma : Redo.mayAt d f til cat = true
            · rw [hma]
              have HMA := Lib.hid hma
              clear hma
              go_wp2_with fail
              refine ⟨⟨i + 1, by omega, rfl, ?_, h3⟩, by simp only [intOf]; omega⟩
              rw [List.take_add_one, List.getElem?_eq_getElem hlt, List.all_append, HALL.out]
              simp [← HC.out, HMA.out]
            · rw [Bool.not_eq_true] at hma
              rw [hma]
              have hno : (l.all fun x => Redo.mayAt d f til x.at_) = false := by
                rw [List.all_eq_false]
                exact ⟨l[i], List.getElem_mem hlt, by rw [← HC.out, hma]; simp⟩
              have hr := HRR.out
              rw [hno, if_pos rfl] at hr
              have HR2 := Lib.hid hr
              clear hr hno hma
              go_wp2_with fail
              simp only [Exit.jump]
              go_ret
              rw [HR2.out]
              exact ⟨rfl, Sat.mid h3⟩
          · obtain rfl : i = l.length := by omega
            have hr := HRR.out
            have hall := HALL.out
            rw [List.take_length] at hall
            rw [hall, if_neg (by simp)] at hr
            have hat : ∀ x ∈ l, 0 ≤ x.at_ := by
              intro x hx
              have := List.all_eq_true.1 hall x hx
              unfold Redo.mayAt at this
              simp at this
              exact this.1
            have HAT := Lib.hid hat
            have HR2 := Lib.hid hr
            clear hr hall hat HRR HALL
            go_wp2_with fail
            refine (load_calls _ _ hw).mono ?_
            rintro e w3 ⟨rfl, n3, rfl⟩
            have h3 := hw.drewN n3
            have hr := HR2.out
            clear hw HR2
            generalize wr.drewN n3 = w4 at h3 ⊢
            obtain ⟨X, hX⟩ : ∃ X, X = d.load (f : Int) := ⟨_, rfl⟩
            obtain ⟨Y, hY⟩ : ∃ Y, Y = d.loadE (f : Int) := ⟨_, rfl⟩
            rw [← hX, ← hY] at hr
            rw [← hX, ← hY]
            clear hX hY
            by_cases hy : Y = 0
            · subst hy
              rw [if_neg (by simp)] at hr
              by_cases hx : X = 0
              · subst hx
                rw [if_neg (by simp)] at hr
                by_cases hn : l = []
                · rw [if_pos hn] at hr
                  have hn0 : (l.length : Int) = 0 := by rw [hn]; rfl
                  have HR2 := Lib.hid hr
                  clear hr hn
                  go_wp2_with fail
                  simp only [Exit.jump]
                  go_ret
                  rw [HR2.out]
                  exact ⟨rfl, Sat.mid h3⟩
                · rw [if_neg hn] at hr
                  have hn0 : ((l.length : Int) == 0) = false := by
                    rw [beq_eq_false_iff_ne]
                    intro h
                    exact hn (List.eq_nil_of_length_eq_zero (by omega))
                  have hr2 : d.run (Redo.putOps f l ++ (Redo.markOps f l.length ++ Redo.doOps f l)) = R := hr.symm
                  rw [Dev.run_append] at hr2
                  have HR2 := Lib.hid hr2
                  have g0 := (Sat.swap h3).cell 0 rfl
                  have g1 := (Sat.swap h3).cell 1 rfl
                  have g2 := (Sat.swap h3).cell 2 rfl
                  clear hr hr2 hn
                  go_wp2_with fail
                  refine (put_calls _ f til l ao c hf hl (fun W hW => HE.out W hW.right) h3).mono ?_
                  rintro e w5 ⟨rfl, h5⟩
                  have hr := HR2.out
                  clear g0 g1 g2 HR2 h3
                  obtain ⟨⟨d1, e1⟩, hq⟩ : ∃ q, q = d.run (Redo.putOps f l) := ⟨_, rfl⟩
                  rw [← hq] at hr h5 ⊢
                  simp only at hr h5 ⊢
                  clear hq
                  by_cases he : e1 = 0
                  · subst he
                    rw [if_pos rfl, Dev.run_append] at hr
                    have HR2 := Lib.hid hr
                    have g0 := (Sat.swap h5).cell 0 rfl
                    have g1 := (Sat.swap h5).cell 1 rfl
                    have g2 := (Sat.swap h5).cell 2 rfl
                    clear hr
                    go_wp2_with fail
                    refine (mark_calls _ f til l.length ⟨by omega, by omega⟩ (by omega) h5).mono ?_
                    rintro e w6 ⟨rfl, h6⟩
                    have hr := HR2.out
                    clear g0 g1 g2 HR2 h5
                    obtain ⟨⟨d2, e2⟩, hq⟩ : ∃ q, q = d1.run (Redo.markOps f l.length) := ⟨_, rfl⟩
                    rw [← hq] at hr h6 ⊢
                    simp only at hr h6 ⊢
                    clear hq
                    by_cases he : e2 = 0
                    · subst he
                      rw [if_pos rfl] at hr
                      have HR2 := Lib.hid hr
                      have g0 := (Sat.swap h6).cell 0 rfl
                      have g1 := (Sat.swap h6).cell 1 rfl
                      have g2 := (Sat.swap h6).cell 2 rfl
                      clear hr
                      go_wp2_with fail
                      refine (do_calls _ f til l ao c hl HAT.out (fun W hW => HE.out W hW.right) h6).mono ?_
                      rintro e w7 ⟨rfl, h7⟩
                      rw [HR2.out] at h7 ⊢
                      go_wp2_with fail
                      refine wp_label ?_
                      simp only [Exit.then]
                      go_step
                      exact HPASS.out 0 _ _ ⟨Sat.mid h7, rfl⟩
                    · rw [if_neg he] at hr
                      have hb : (e2 != 0) = true := by simpa using he
                      have HR2 := Lib.hid hr
                      clear hr
                      go_wp2_with fail
                      refine wp_goto ?_
                      show (0 : Nat) = 0 ∧ _
                      exact ⟨rfl, 0, by rw [← HR2.out]; exact Sat.mid h6, by rw [← HR2.out]; rfl⟩
                  · rw [if_neg he] at hr
                    have hb : (e1 != 0) = true := by simpa using he
                    have HR2 := Lib.hid hr
                    clear hr
                    go_wp2_with fail
                    refine wp_goto ?_
                    show (0 : Nat) = 0 ∧ _
                    exact ⟨rfl, 0, by rw [← HR2.out]; exact Sat.mid h5, by rw [← HR2.out]; rfl⟩
              · rw [if_pos hx] at hr
                have hb : (X != 0) = true := by simpa using hx
                have HR2 := Lib.hid hr
                clear hr
                go_wp2_with fail
                simp only [Exit.jump]
                go_ret
                rw [HR2.out]
                exact ⟨rfl, Sat.mid h3⟩
            · rw [if_pos hy] at hr
              have hb : (Y != 0) = true := by simpa using hy
              have HR2 := Lib.hid hr
              clear hr
              go_wp2_with fail
              refine wp_goto ?_
              show (0 : Nat) = 0 ∧ _
              exact ⟨rfl, 0, by rw [HR2.out]; exact Sat.mid h3, by rw [HR2.out]; rfl⟩
      · rw [Bool.not_eq_true] at hfit
        rw [hfit, if_pos rfl] at hr
        rw [hfit]
        have HRR := Lib.hid hr
        clear hr hfit
        go_wp2_with fail
        simp only [Exit.jump]
        go_ret
        rw [HRR.out]
        exact ⟨rfl, Sat.mid h2⟩
    · rw [Bool.not_eq_true] at hmay
      rw [hmay, if_pos rfl] at hr
      rw [hmay]
      have HRR := Lib.hid hr
      clear hr hmay
      go_wp2_with fail
      simp only [Exit.jump]
      go_ret
      rw [HRR.out]
      exact ⟨rfl, Sat.mid h1⟩
end
end Scul
