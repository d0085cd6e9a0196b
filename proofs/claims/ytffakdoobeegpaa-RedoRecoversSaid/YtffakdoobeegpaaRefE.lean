/- The document's own device: Load, area, bad; tried: store, flush, fence, done. -/
import Derived.Test.YtffakdoobeegpaaRedoG
namespace Scul
open Go Go.Sl Go.RowKit Go.Proofs
namespace Dev
/-- Calls in a row, as long as there is no error. -/
def goOn (q : Dev × Int) (ops : List DOp) : Dev × Int := if q.2 = 0 then q.1.run ops else q
theorem goOn_append (q : Dev × Int) (a b : List DOp) : goOn q (a ++ b) = goOn (goOn q a) b := by
  unfold goOn
  by_cases h : q.2 = 0
  · rw [if_pos h, if_pos h, run_append]
  · rw [if_neg h, if_neg h, if_neg h]
theorem goOn_nil (q : Dev × Int) : goOn q [] = q := by
  unfold goOn
  split
  · rename_i h; rw [run_nil, ← h]
  · rfl
theorem goOn_cons (q : Dev × Int) (o : DOp) (r : List DOp) : goOn q (o :: r) = goOn (goOn q [o]) r := goOn_append q [o] r
theorem goOn_one (q : Dev × Int) (o : DOp) : goOn q [o] = if q.2 = 0 then (q.1.opD o, q.1.opE o) else q := by
  unfold goOn
  split
  · rw [run_cons]
    split
    · rename_i h; rw [run_nil, h]
    · rfl
  · rfl
theorem goOn_zero (d : Dev) (ops : List DOp) : goOn (d, 0) ops = d.run ops := by unfold goOn; rw [if_pos rfl]
end Dev
section
variable {E : Env} {w : World} {F : HP} {b : Nat} {d : Dev}
set_option maxRecDepth 100000 in
set_option maxHeartbeats 4000000 in
theorem rload_calls (w : World) (a : Int) (h : Sat E w (rdev b d * F)) :
    Calls Try.prog 64 #[.pointer (some ⟨b, 0, none⟩), .int .i64 a] w fun e w' => e = .returned (.tuple #[.int .u64 (d.load a), .int .i64 (d.loadE a)]) ∧ w' = w := by
  obtain ⟨q, hq, hs⟩ := rdev_open h
  have c4 : w.cell? ⟨b, 4, none⟩ = some (.bool d.down) := hs.cell 4 rfl
  have hmost := hq.1.most
  have HIS := Lib.hid (ris_calls w a h)
  cases hd : d.down with
  | true =>
    rw [hd] at c4
    have e1 : d.loadE a = 7 ∧ d.load a = 0 := by unfold Dev.loadE Dev.load; rw [hd]; exact ⟨rfl, rfl⟩
    rw [e1.1, e1.2]
    clear h hs hq e1 hd
    go_enter Try.func64, Try.ntmps64
    go_wp2_with fail
    go_ret2
    exact ⟨rfl, rfl⟩
  | false =>
    rw [hd] at c4
    cases hb : d.isB a with
    | false =>
      have e1 : d.loadE a = 1 ∧ d.load a = 0 := by unfold Dev.loadE Dev.load; rw [hd, hb]; exact ⟨rfl, rfl⟩
      rw [hb] at HIS
      rw [e1.1, e1.2]
      clear h hs hq e1 hd hb
      go_enter Try.func64, Try.ntmps64
      go_wp2_with fail
      refine HIS.out.mono ?_
      rintro e w1 ⟨rfl, rfl⟩
      go_wp2_with fail
      go_ret2
      exact ⟨rfl, rfl⟩
    | true =>
      have hb2 : 0 ≤ a ∧ a < (d.read.length : Int) := by unfold Dev.isB at hb; simpa using hb
      obtain ⟨k, rfl⟩ : ∃ k : Nat, a = k := ⟨a.toNat, by omega⟩
      have e1 : d.loadE (k : Int) = 0 ∧ d.load (k : Int) = d.read.getD k 0 := by unfold Dev.loadE Dev.load; rw [hd, hb]; exact ⟨rfl, rfl⟩
      rw [hb] at HIS
      rw [e1.1, e1.2]
      have hk : k < d.read.length := by omega
      have hlk : k / 8 < q.Ls.length := by rw [hq.2.1]; unfold Dev.lines; omega
      obtain ⟨L, hL⟩ : ∃ L, q.Ls[k / 8]? = some L := ⟨_, List.getElem?_eq_getElem hlk⟩
      obtain ⟨gl, cl, hlv⟩ := row_at (Sat.swap hs) (by omega)
      obtain ⟨hn1, hn2, hn3, hn4⟩ := hq.2.2 _ _ hL
      have hrow : Sat E w (row 152 4 q.lv q.Ls.length (rlCells q.Ls) * (pt b (.cells (rcells q.lv d) 90) * (bag q.o * F))) := Sat.swap hs
      rw [hlv] at hrow
      have cl0 := hrow.row_cell (k / 8 * 4) (rlCells_at q.Ls (k / 8) 0 L hL (by omega))
      have cb1 : w.cell? ⟨b, 1, none⟩ = some (.slice (some ⟨gl, 0, none⟩) q.Ls.length cl) := by rw [← hlv]; exact hs.cell 1 rfl
      have hdiv : (k : Int).tdiv 8 = ((k / 8 : Nat) : Int) := by rw [Int.tdiv_eq_ediv_of_nonneg (by omega)]; omega
      have hmod : (k : Int).tmod 8 = ((k % 8 : Nat) : Int) := by rw [Int.tmod_eq_emod_of_nonneg (by omega)]; omega
      have hbag := bag_rd (o := q.o) (hrow.ac (B := bag q.o * (row 152 4 (.slice (some ⟨gl, 0, none⟩) q.Ls.length cl) q.Ls.length (rlCells q.Ls) * (pt b (.cells (rcells (.slice (some ⟨gl, 0, none⟩) q.Ls.length cl) d) 90) * F))) (by ac_rfl)) hn1
      have hsl : (Dev.seg d.read (k / 8)).length = min 8 (d.read.length - 8 * (k / 8)) := Dev.seg_length _ _
      have hkm : k % 8 < (Dev.seg d.read (k / 8)).length := by rw [hsl]; omega
      have hgd : (Dev.seg d.read (k / 8)).getD (k % 8) 0 = d.read.getD k 0 := Dev.seg_getD _ _
      obtain ⟨sg, hsg⟩ : ∃ sg, sg = Dev.seg d.read (k / 8) := ⟨_, rfl⟩
      have hbag : Rd w 1 L.nv (Dev.seg d.read (k / 8)).length (u64s (Dev.seg d.read (k / 8))) := hbag
      rw [← hsg] at hbag hkm hgd
      obtain ⟨na, nc, hnv, _⟩ := hbag.val
      rw [hnv] at hbag
      obtain ⟨nb, no, rfl, _⟩ := hbag.at (by omega)
      have cw := Rd.nth hbag (k % 8) hkm
      rw [hgd] at cw
      have cl0' : w.cell? ⟨gl, k / 8 * 4, none⟩ = some (.slice (some ⟨nb, no, none⟩) sg.length nc) := by rw [cl0]; show some L.nv = _; rw [hnv]
      obtain ⟨X, hX⟩ : ∃ X, X = d.read.getD k 0 := ⟨_, rfl⟩
      rw [← hX] at cw ⊢
      have hlt1 : ((k / 8 : Nat) : Int) < q.Ls.length := by omega
      have hlt2 : ((k % 8 : Nat) : Int) < sg.length := by omega
      have hK9 : k / 8 ≤ 9000 := by omega
      have hM9 : k % 8 < 8 := by omega
      clear h hs hq hb hd e1 hlv hrow cl0 hbag hnv hsg hgd hsl hL hn1 hn2 hn3 hn4 hX hb2 hk
      generalize k / 8 = K at *
      generalize k % 8 = M at *
      go_enter Try.func64, Try.ntmps64
      go_wp2_with fail
      refine HIS.out.mono ?_
      rintro e w1 ⟨rfl, rfl⟩
      go_wp2_with fail
      go_ret2
      exact ⟨rfl, rfl⟩
theorem area_calls (w : World) (frm til : Int) (h : Sat E w (rdev b d * F)) :
    Calls Try.prog 106 #[.pointer (some ⟨b, 0, none⟩), .int .i64 frm, .int .i64 til] w fun e w' => e = .returned (.bool (Redo.may d frm til)) ∧ w' = w := by
  obtain ⟨q, hq, hs⟩ := rdev_open h
  have c0 : w.cell? ⟨b, 0, none⟩ = some (.int .i64 d.read.length) := hs.cell 0 rfl
  have HB : Hid (Redo.may d frm til = (decide (0 ≤ frm) && decide (frm < til) && decide (til ≤ (d.read.length : Int)) && (frm % 8 == 0))) := by
    show _ = _
    unfold Redo.may
    rw [Bool.eq_iff_iff]
    simp only [decide_eq_true_iff, Bool.and_eq_true, beq_iff_eq]
    constructor
    · rintro ⟨a, b, c, d⟩; exact ⟨⟨⟨a, b⟩, c⟩, d⟩
    · rintro ⟨⟨⟨a, b⟩, c⟩, d⟩; exact ⟨a, b, c, d⟩
  clear h hq hs
  generalize d.read.length = n at *
  have fin : ∀ B, Redo.may d frm til = B → Hid (Redo.may d frm til = B) := fun B h => Lib.hid h
  by_cases h1 : 0 ≤ frm
  · by_cases h2 : frm < til
    · by_cases h3 : til ≤ (n : Int)
      · have hm : frm.tmod 8 = frm % 8 := Int.tmod_eq_emod_of_nonneg h1
        by_cases h4 : frm % 8 = 0
        · have HB2 := fin true (by rw [HB.out]; simp [h1, h2, h3, h4])
          rw [h4] at hm
          clear fin h4
          go_enter Try.func106, Try.ntmps106
          go_wp2_with fail
          go_ret
          exact ⟨by rw [HB2.out]; rfl, rfl⟩
        · have HB2 := fin false (by rw [HB.out]; simp [h4])
          have hm2 : ¬ frm.tmod 8 = 0 := by rw [hm]; exact h4
          have hm3 : (frm.tmod 8 == 0) = false := by rw [beq_eq_false_iff_ne]; exact hm2
          have H4 := Lib.hid h4
          clear fin h4 hm
          go_enter Try.func106, Try.ntmps106
          go_wp2_with fail
          go_ret
          exact ⟨by rw [HB2.out]; simp; exact H4.out, rfl⟩
      · have HB2 := fin false (by rw [HB.out]; simp [h3])
        clear fin
        go_enter Try.func106, Try.ntmps106
        go_wp2_with fail
        go_ret
        exact ⟨by rw [HB2.out]; simp, rfl⟩
    · have HB2 := fin false (by rw [HB.out]; simp [h2])
      clear fin
      go_enter Try.func106, Try.ntmps106
      go_wp2_with fail
      go_ret
      exact ⟨by rw [HB2.out]; simp, rfl⟩
  · have HB2 := fin false (by rw [HB.out]; simp [h1])
    clear fin
    go_enter Try.func106, Try.ntmps106
    go_wp2_with fail
    go_ret
    exact ⟨by rw [HB2.out]; simp, rfl⟩
theorem bad_calls (w : World) (a frm til : Int) (h : Sat E w (rdev b d * F)) :
    Calls Try.prog 107 #[.pointer (some ⟨b, 0, none⟩), .int .i64 a, .int .i64 frm, .int .i64 til] w fun e w' => e = .returned (.bool (!Redo.mayAt d frm til a)) ∧ w' = w := by
  have HIS := Lib.hid (ris_calls w a h)
  have HB : Hid (Redo.mayAt d frm til a = (d.isB a && (decide (a < frm) || decide (til ≤ a)))) := by
    show _ = _
    unfold Redo.mayAt Dev.isB
    rw [Bool.eq_iff_iff]
    simp only [decide_eq_true_iff, Bool.and_eq_true, Bool.or_eq_true]
    constructor
    · rintro ⟨a, b, c⟩; exact ⟨⟨a, b⟩, c⟩
    · rintro ⟨⟨a, b⟩, c⟩; exact ⟨a, b, c⟩
  obtain ⟨B, hB⟩ : ∃ B, B = d.isB a := ⟨_, rfl⟩
  rw [← hB] at HIS HB
  clear hB h
  cases B with
  | false =>
    go_enter Try.func107, Try.ntmps107
    go_wp2_with fail
    refine HIS.out.mono ?_
    rintro e w1 ⟨rfl, rfl⟩
    go_wp2_with fail
    go_ret
    exact ⟨by rw [HB.out]; rfl, rfl⟩
  | true =>
    by_cases h1 : frm ≤ a
    · by_cases h2 : a < til
      · go_enter Try.func107, Try.ntmps107
        go_wp2_with fail
        refine HIS.out.mono ?_
        rintro e w1 ⟨rfl, rfl⟩
        go_wp2_with fail
        go_ret
        refine ⟨?_, rfl⟩
        rw [HB.out]
        have e1 : decide (a < frm) = false := by simpa using h1
        have e2 : decide (til ≤ a) = false := by simpa using h2
        rw [e1, e2]
        simp
      · go_enter Try.func107, Try.ntmps107
        go_wp2_with fail
        refine HIS.out.mono ?_
        rintro e w1 ⟨rfl, rfl⟩
        go_wp2_with fail
        go_ret
        refine ⟨?_, rfl⟩
        rw [HB.out]
        have e2 : decide (til ≤ a) = true := by simp; omega
        rw [e2]
        simp
        try omega
    · go_enter Try.func107, Try.ntmps107
      go_wp2_with fail
      refine HIS.out.mono ?_
      rintro e w1 ⟨rfl, rfl⟩
      go_wp2_with fail
      go_ret
      refine ⟨?_, rfl⟩
      rw [HB.out]
      have e1 : decide (a < frm) = true := by simp; omega
      rw [e1]
      simp
      try omega
/-- What goes on as long as there is no error: where it lies, with the device. -/
def tried (tb r : Nat) (q : Dev × Int) : HP := pt tb (.cells #[.pointer (some ⟨r, 0, none⟩), .int .i64 q.2] 147) * rdev r q.1
theorem tried_open {tb r : Nat} {q : Dev × Int} (h : Sat E w (tried tb r q * F)) : Sat E w (pt tb (.cells #[.pointer (some ⟨r, 0, none⟩), .int .i64 q.2] 147) * (rdev r q.1 * F)) := h.ac (by show _ = pt _ _ * rdev _ _ * F; ac_rfl)
theorem tried_mk {tb r : Nat} {q : Dev × Int} (h : Sat E w (pt tb (.cells #[.pointer (some ⟨r, 0, none⟩), .int .i64 q.2] 147) * (rdev r q.1 * F))) : Sat E w (tried tb r q * F) := h.ac (by show pt _ _ * rdev _ _ * F = _; ac_rfl)
set_option maxRecDepth 100000 in
set_option maxHeartbeats 2000000 in
theorem tstore_calls (w : World) (tb r : Nat) (q : Dev × Int) (a x : Int) (hx : U64 x) (h : Sat E w (tried tb r q * F)) :
    Calls Try.prog 108 #[.pointer (some ⟨tb, 0, none⟩), .int .i64 a, .int .u64 x] w fun e w' => e = .returned (.tuple #[]) ∧ Sat E w' (tried tb r (Dev.goOn q [.st a x]) * F) := by
  have h1 := tried_open h
  have c0 := h1.cell 0 rfl
  have c1 := h1.cell 1 rfl
  obtain ⟨d, e0⟩ := q
  simp only at h1 c0 c1
  rw [Dev.goOn_one]
  by_cases he : e0 = 0
  · subst he
    rw [if_pos rfl]
    have H1 := Lib.hid h1
    clear h h1
    go_enter Try.func108, Try.ntmps108
    go_wp2_with fail
    refine (rstore_calls _ a x hx (Sat.swap H1.out)).mono ?_
    rintro e w1 ⟨rfl, h2⟩
    have h3 := Sat.swap h2
    have c2 := h3.cell 1 rfl
    have f2 := h3.free 1
    have HF : Hid (Sat E (w1.setCell ⟨tb, 1, none⟩ (.int .i64 (d.storeE a))) (tried tb r (d.store a x, d.storeE a) * F)) := Lib.hid (tried_mk h3.setCell)
    clear c0 c1 h2 h3 H1
    go_wp2_with fail
    go_end0
    exact ⟨rfl, HF.out⟩
  · have hb : (e0 == 0) = false := by rw [beq_eq_false_iff_ne]; exact he
    have HN : Hid ((if (d, e0).2 = 0 then ((d, e0).1.opD (.st a x), (d, e0).1.opE (.st a x)) else (d, e0)) = (d, e0)) := Lib.hid (if_neg he)
    have H := Lib.hid h
    clear h1 h
    go_enter Try.func108, Try.ntmps108
    go_wp2_with fail
    go_end0
    exact ⟨rfl, H.out⟩
set_option maxRecDepth 100000 in
set_option maxHeartbeats 2000000 in
theorem tflush_calls (w : World) (tb r : Nat) (q : Dev × Int) (a : Int) (h : Sat E w (tried tb r q * F)) :
    Calls Try.prog 109 #[.pointer (some ⟨tb, 0, none⟩), .int .i64 a] w fun e w' => e = .returned (.tuple #[]) ∧ Sat E w' (tried tb r (Dev.goOn q [.fl a]) * F) := by
  have h1 := tried_open h
  have c0 := h1.cell 0 rfl
  have c1 := h1.cell 1 rfl
  obtain ⟨d, e0⟩ := q
  simp only at h1 c0 c1
  rw [Dev.goOn_one]
  by_cases he : e0 = 0
  · subst he
    rw [if_pos rfl]
    have H1 := Lib.hid h1
    clear h h1
    go_enter Try.func109, Try.ntmps109
    go_wp2_with fail
    refine (rflush2_calls _ a (Sat.swap H1.out)).mono ?_
    rintro e w1 ⟨rfl, h2⟩
    have h3 := Sat.swap h2
    have c2 := h3.cell 1 rfl
    have f2 := h3.free 1
    have HF : Hid (Sat E (w1.setCell ⟨tb, 1, none⟩ (.int .i64 (d.flushE a))) (tried tb r (d.flush a, d.flushE a) * F)) := Lib.hid (tried_mk h3.setCell)
    clear c0 c1 h2 h3 H1
    go_wp2_with fail
    go_end0
    exact ⟨rfl, HF.out⟩
  · have hb : (e0 == 0) = false := by rw [beq_eq_false_iff_ne]; exact he
    have HN : Hid ((if (d, e0).2 = 0 then ((d, e0).1.opD (.fl a), (d, e0).1.opE (.fl a)) else (d, e0)) = (d, e0)) := Lib.hid (if_neg he)
    have H := Lib.hid h
    clear h1 h
    go_enter Try.func109, Try.ntmps109
    go_wp2_with fail
    go_end0
    exact ⟨rfl, H.out⟩
set_option maxRecDepth 100000 in
set_option maxHeartbeats 2000000 in
theorem tfence_calls (w : World) (tb r : Nat) (q : Dev × Int) (h : Sat E w (tried tb r q * F)) :
    Calls Try.prog 110 #[.pointer (some ⟨tb, 0, none⟩)] w fun e w' => e = .returned (.tuple #[]) ∧ Sat E w' (tried tb r (Dev.goOn q [.fe]) * F) := by
  have h1 := tried_open h
  have c0 := h1.cell 0 rfl
  have c1 := h1.cell 1 rfl
  obtain ⟨d, e0⟩ := q
  simp only at h1 c0 c1
  rw [Dev.goOn_one]
  by_cases he : e0 = 0
  · subst he
    rw [if_pos rfl]
    have H1 := Lib.hid h1
    clear h h1
    go_enter Try.func110, Try.ntmps110
    go_wp2_with fail
    refine (rfenceD_calls _ (Sat.swap H1.out)).mono ?_
    rintro e w1 ⟨rfl, h2⟩
    have h3 := Sat.swap h2
    have c2 := h3.cell 1 rfl
    have f2 := h3.free 1
    have HF : Hid (Sat E (w1.setCell ⟨tb, 1, none⟩ (.int .i64 d.fenceE)) (tried tb r (d.fence, d.fenceE) * F)) := Lib.hid (tried_mk h3.setCell)
    clear c0 c1 h2 h3 H1
    go_wp2_with fail
    go_end0
    exact ⟨rfl, HF.out⟩
  · have hb : (e0 == 0) = false := by rw [beq_eq_false_iff_ne]; exact he
    have HN : Hid ((if (d, e0).2 = 0 then ((d, e0).1.opD .fe, (d, e0).1.opE .fe) else (d, e0)) = (d, e0)) := Lib.hid (if_neg he)
    have H := Lib.hid h
    clear h1 h
    go_enter Try.func110, Try.ntmps110
    go_wp2_with fail
    go_end0
    exact ⟨rfl, H.out⟩
set_option maxRecDepth 100000 in
set_option maxHeartbeats 4000000 in
theorem done_calls (w : World) (tb r : Nat) (q : Dev × Int) (frm : Int) (l : List Ent) (ao : Option Addr) (c : Nat) (hl : l.length ≤ 1024) (hat : ∀ x ∈ l, 0 ≤ x.at_) (hE : ∀ W, Sat E W F → RdE W (.slice ao l.length c) l) (h : Sat E w (tried tb r q * F)) :
    Calls Try.prog 111 #[.pointer (some ⟨tb, 0, none⟩), .int .i64 frm, .slice ao l.length c] w fun e w' => e = .returned (.tuple #[]) ∧ Sat E w' (tried tb r (Dev.goOn q (Redo.doOps frm l)) * F) := by
  obtain ⟨R, hR⟩ : ∃ R, R = Dev.goOn q (Redo.doOps frm l) := ⟨_, rfl⟩
  rw [← hR]
  have HE := Lib.hid hE
  have HAT := Lib.hid hat
  have hr0 : Dev.goOn q (Redo.stOps l ++ (Redo.onceOps [] l ++ ([.fe] ++ Redo.markOps frm 0))) = R := by rw [hR]; rfl
  have HR0 := Lib.hid hr0
  clear hE hat hR hr0
  go_enter Try.func111, Try.ntmps111
  go_wp2_with fail
  go_loopw [13] (fun iv wr => ∃ (i : Nat) (q1 : Dev × Int), i ≤ l.length ∧ iv = .int .i64 i ∧ Dev.goOn q1 (Redo.stOps (l.drop i) ++ (Redo.onceOps [] l ++ ([.fe] ++ Redo.markOps frm 0))) = R ∧ Sat E wr (tried tb r q1 * F)) (fun iv _ => l.length - (intOf iv).toNat)
  case atStart => exact ⟨0, q, Nat.zero_le _, rfl, by rw [List.drop_zero]; exact HR0.out, h⟩
  case round =>
    clear h HR0
    obtain ⟨i, q1, hi, rfl, hr, hw⟩ := hrel
    by_cases hlt : i < l.length
    · have hre := HE.out _ hw.right
      obtain ⟨bb, o, rfl, c0, c1⟩ := RdE.nth hre i hlt
      have hx : U64 l[i].word := hre.2.1 _ (List.getElem_mem hlt)
      rw [List.drop_eq_getElem_cons hlt] at hr
      obtain ⟨cat, hcat⟩ : ∃ x, x = l[i].at_ := ⟨_, rfl⟩
      obtain ⟨cw, hcw⟩ : ∃ x, x = l[i].word := ⟨_, rfl⟩
      have hr1 : Dev.goOn q1 (.st cat cw :: (Redo.stOps (l.drop (i + 1)) ++ (Redo.onceOps [] l ++ ([.fe] ++ Redo.markOps frm 0)))) = R := by rw [hcat, hcw]; exact hr
      rw [Dev.goOn_cons] at hr1
      rw [← hcat] at c0; rw [← hcw] at c1 hx
      clear hcat hcw hr hre
      have ha := hw.alloc (.cells #[.int .i64 cat, .int .u64 cw] 58)
      have HRR := Lib.hid hr1
      have HX := Lib.hid hx
      clear hr1 hw hx
      go_wp2_with fail
      refine (tstore_calls _ tb r q1 cat cw HX.out (Sat.swap ha)).mono ?_
      rintro e w1 ⟨rfl, h1⟩
      go_wp2_with fail
      exact ⟨⟨i + 1, _, by omega, rfl, HRR.out, Sat.mid h1⟩, by simp only [intOf]; omega⟩
    · obtain rfl : i = l.length := by omega
      rw [List.drop_length] at hr
      have hr' : Dev.goOn q1 (Redo.onceOps [] l ++ ([.fe] ++ Redo.markOps frm 0)) = R := hr
      have hmap := hw.imap_new
      generalize hmb : wr.heap.size = mb at hmap
      have HRR := Lib.hid hr'
      have hmm := @run_makeMap Try.prog
      clear hr hr'
      go_wp2_with fail
      go_loopw [27] (fun iv wr => ∃ (i : Nat) (q1 : Dev × Int) (met : List Int) (m : List (Int × Value)), i ≤ l.length ∧ iv = .int .i64 i ∧ (∀ x, m.lookup x = if x ∈ met then some (.int .i64 1) else none) ∧ Dev.goOn q1 (Redo.onceOps met (l.drop i) ++ ([.fe] ++ Redo.markOps frm 0)) = R ∧ Sat E wr (imap mb m * (tried tb r q1 * F))) (fun iv _ => l.length - (intOf iv).toNat)
      case atStart => exact ⟨0, q1, [], [], Nat.zero_le _, rfl, by simp, by rw [List.drop_zero]; exact HRR.out, hmap⟩
      case round =>
        clear hmap HRR hw hmm
        obtain ⟨i, q1, met, m, hi, rfl, hm, hr, hw⟩ := hrel
        by_cases hlt : i < l.length
        · have hre := HE.out _ hw.right.right
          obtain ⟨bb, o, rfl, c0, c1⟩ := RdE.nth hre i hlt
          have h0 : 0 ≤ l[i].at_ := HAT.out _ (List.getElem_mem hlt)
          rw [List.drop_eq_getElem_cons hlt] at hr
          unfold Redo.onceOps at hr
          obtain ⟨cat, hcat⟩ : ∃ x, x = l[i].at_ := ⟨_, rfl⟩
          obtain ⟨cw, hcw⟩ : ∃ x, x = l[i].word := ⟨_, rfl⟩
          rw [← hcat] at hr c0 h0
          rw [← hcw] at c1
          have hdiv : cat.tdiv 8 = cat / 8 := Int.tdiv_eq_ediv_of_nonneg h0
          have hi64 : I64 cat := by rw [hcat]; exact hre.2.2 _ (List.getElem_mem hlt)
          obtain ⟨K, hK⟩ : ∃ K, K = cat / 8 := ⟨_, rfl⟩
          have hwr : wrap64 (cat / 8) = K := by unfold I64 at hi64; unfold wrap64; omega
          rw [← hK] at hr
          clear hi64 hcat hcw hK hre
          have ha := hw.alloc (.cells #[.int .i64 cat, .int .u64 cw] 58)
          generalize hxb : wr.heap.size = xb at ha
          have hlk := run_lookup_sl ha.right Try.underlying56 Try.underlying3 (z := .int .i64 0) (by kernel_rfl) K false
          rw [hm] at hlk
          have HMP : Hid (∀ x, (mput m K (.int .i64 1)).lookup x = if x ∈ K :: met then some (.int .i64 1) else none) := by
            show ∀ x, _
            intro x
            rw [lookup_mput, hm]
            by_cases hxK : x = K
            · simp [hxK]
            · simp [hxK]
          have HMQ : Hid (K ∈ met → ∀ x, (mput m K (.int .i64 1)).lookup x = if x ∈ met then some (.int .i64 1) else none) := by
            refine Lib.hid fun hk x => ?_
            rw [lookup_mput, hm]
            by_cases hxK : x = K
            · rw [if_pos hxK, hxK, if_pos hk]
            · rw [if_neg hxK]
          by_cases hmem : K ∈ met
          · rw [if_pos hmem] at hlk hr
            simp only [Bool.false_eq_true, if_false, Option.getD_some] at hlk
            have HRR := Lib.hid hr
            have HM := Lib.hid (HMQ.out hmem)
            have HA := Lib.hid (Sat.swap ha)
            clear hr hmem hm HMP HMQ ha hw
            go_wp2_with ((with_reducible show Oper.upon _ _ _ _ _ (Result.andThen (Sem.run _ (Instr.mapUpdate _ _ _ _) _) _)); obtain ⟨w1, hrun, h1, _⟩ := run_mapUpdate_sl HA.out Try.underlying56 Try.underlying3 K (.int .i64 1); rw [hrun]; simp only [Result.andThen_ok, Oper.upon_skip])
            exact ⟨⟨i + 1, q1, met, _, by omega, rfl, HM.out, HRR.out, Sat.mid h1⟩, by simp only [intOf]; omega⟩
          · rw [if_neg hmem] at hlk hr
            simp only [Bool.false_eq_true, if_false, Option.getD_none] at hlk
            rw [List.cons_append, Dev.goOn_cons] at hr
            have HRR := Lib.hid hr
            have HA := Lib.hid (ha.ac (B := tried tb r q1 * (pt xb (.cells #[.int .i64 cat, .int .u64 cw] 58) * (imap mb m * F))) (by ac_rfl))
            clear hr hmem ha hw hm HMQ
            go_wp2_with fail
            refine (tflush_calls _ tb r q1 cat HA.out).mono ?_
            rintro e w2 ⟨rfl, h2⟩
            have x0 := (Sat.right h2).cell 0 rfl
            have H2 := Lib.hid (h2.ac (B := imap mb m * (pt xb (.cells #[.int .i64 cat, .int .u64 cw] 58) * (tried tb r (Dev.goOn q1 [.fl cat]) * F))) (by ac_rfl))
            clear HA hlk h2
            go_wp2_with ((with_reducible show Oper.upon _ _ _ _ _ (Result.andThen (Sem.run _ (Instr.mapUpdate _ _ _ _) _) _)); obtain ⟨w3, hrun, h3, _⟩ := run_mapUpdate_sl H2.out Try.underlying56 Try.underlying3 K (.int .i64 1); rw [hrun]; simp only [Result.andThen_ok, Oper.upon_skip])
            exact ⟨⟨i + 1, _, K :: met, _, by omega, rfl, HMP.out, HRR.out, Sat.mid h3⟩, by simp only [intOf]; omega⟩
        · obtain rfl : i = l.length := by omega
          rw [List.drop_length] at hr
          have hr' : Dev.goOn (Dev.goOn (Dev.goOn (Dev.goOn q1 [.fe]) [.st frm 0]) [.fl frm]) [.fe] = R := by
            rw [← hr, ← Dev.goOn_append, ← Dev.goOn_append, ← Dev.goOn_append]
            rfl
          have HRR := Lib.hid hr'
          have h1 := hw.right
          clear hr hr' hm hw
          go_wp2_with fail
          refine (tfence_calls _ tb r q1 h1).mono ?_
          rintro e w2 ⟨rfl, h2⟩
          go_wp2_with fail
          refine (tstore_calls _ tb r _ frm 0 (by unfold U64; omega) h2).mono ?_
          rintro e w3 ⟨rfl, h3⟩
          go_wp2_with fail
          refine (tflush_calls _ tb r _ frm h3).mono ?_
          rintro e w4 ⟨rfl, h4⟩
          go_wp2_with fail
          refine (tfence_calls _ tb r _ h4).mono ?_
          rintro e w5 ⟨rfl, h5⟩
          rw [HRR.out] at h5
          go_wp2_with fail
          go_end0
          exact ⟨rfl, h5⟩
end
end Scul
