/- redo: put, do. -/
import Derived.Test.YtffakdoobeegpaaRedoA
import Derived.Deep.CutBlock
import Derived.Deep.DeepCutAuto
namespace Scul
open Go Go.Sl Go.RowKit Go.Proofs
section
variable {E : Env} {w : World} {F : HP} {b : Nat} {d : Dev}

def Ent.cells (x : Ent) : List Value := [.int .i64 x.at_, .int .u64 x.word]
def entCells (l : List Ent) : List Value := l.flatMap Ent.cells
theorem entCells_at (l : List Ent) (k j : Nat) (hk : k < l.length) (hj : j < 2) : (entCells l)[2 * k + j]? = (Ent.cells l[k])[j]? := by
  induction l generalizing k with
  | nil => simp at hk
  | cons c l ih =>
    show (c.cells ++ entCells l)[2 * k + j]? = _
    cases k with
    | zero =>
      rw [List.getElem?_append_left (by simp [Ent.cells]; omega)]
      simp
    | succ k =>
      rw [List.getElem?_append_right (by simp [Ent.cells]; omega)]
      have : 2 * (k + 1) + j - c.cells.length = 2 * k + j := by simp [Ent.cells]; omega
      rw [this, ih k (by simpa using hk)]
      simp
/-- The slice reads as these entries. -/
def RdE (w : World) (v : Value) (l : List Ent) : Prop := Rd w 2 v l.length (entCells l) ∧ (∀ x ∈ l, U64 x.word) ∧ ∀ x ∈ l, I64 x.at_
theorem RdE.old {w W : World} {E : Env} {v : Value} {l : List Ent} (h : RdE w v l) (hs : Sat E W (old w)) : RdE W v l := ⟨Rd.old h.1 hs, h.2⟩
theorem RdE.nth {w : World} {ao : Option Addr} {c : Nat} {l : List Ent} (h : RdE w (.slice ao l.length c) l) (k : Nat) (hk : k < l.length) :
    ∃ bb o, ao = some ⟨bb, o, none⟩ ∧ w.cell? ⟨bb, o + k * 2, none⟩ = some (.int .i64 l[k].at_) ∧ w.cell? ⟨bb, o + k * 2 + 1, none⟩ = some (.int .u64 l[k].word) := by
  obtain ⟨bb, o, rfl, hc⟩ := Rd.at h.1 (by omega)
  refine ⟨bb, o, rfl, ?_, ?_⟩
  · have := hc (2 * k + 0) _ (by rw [entCells_at l k 0 hk (by omega)]; rfl)
    rwa [show o + (2 * k + 0) = o + k * 2 by omega] at this
  · have := hc (2 * k + 1) _ (by rw [entCells_at l k 1 hk (by omega)]; rfl)
    rwa [show o + (2 * k + 1) = o + k * 2 + 1 by omega] at this

/-- The log's place in memory. -/
def logAt (gb b : Nat) (frm til : Int) : HP := pt gb (.cells #[.pointer (some ⟨b, 0, none⟩), .int .i64 frm, .int .i64 til] 127)

theorem u64_wrap (x : Int) : U64 (IntKind.u64.wrap x) := by
  unfold U64
  simp only [IntKind.wrap, IntKind.bits, IntKind.signed]
  simp
  omega

set_option maxRecDepth 100000 in
set_option maxHeartbeats 2000000 in
theorem put_calls (w : World) (frm : Nat) (til : Int) (l : List Ent) (ao : Option Addr) (c : Nat) (hfrm : frm ≤ 65536) (hl : l.length ≤ 1024) (hE : ∀ W, Sat E W F → RdE W (.slice ao l.length c) l) (h : Sat E w (dev b d * F)) :
    Calls Try.prog 93 #[glog b frm til, .slice ao l.length c] w fun e w' => e = .returned (.int .i64 (d.run (Redo.putOps frm l)).2) ∧ Sat E w' (dev b (d.run (Redo.putOps frm l)).1 * F) := by
  have hal : Sat E _ (logAt w.heap.size b frm til * (dev b d * F)) := h.alloc _
  generalize hgb : w.heap.size = gb at hal
  obtain ⟨R, hR⟩ : ∃ R, R = d.run (Redo.putOps frm l) := ⟨_, rfl⟩
  rw [← hR]
  have HE := Lib.hid hE
  have HR := Lib.hid hR
  clear hE h hR
  unfold glog
  have g0 := hal.cell 1 rfl
  go_enter Try.func93, Try.ntmps93
  go_wp2_with fail
  clear g0
  go_loopw [17] (fun iv wr => ∃ (i : Nat) (d1 : Dev), i ≤ l.length ∧ iv = .int .i64 i ∧ d1.run (Redo.entOps ((frm : Int) + 8 + 2 * i) (l.drop i) ++ (Redo.flOps (frm + 8) (frm + 8 + 2 * l.length) ++ [.fe])) = R ∧ Sat E wr (logAt gb b frm til * (dev b d1 * F))) (fun iv _ => l.length - (intOf iv).toNat)
  case atStart => exact ⟨0, d, Nat.zero_le _, rfl, by rw [HR.out]; simp [Redo.putOps], hal⟩
  case round =>
    clear hal
    obtain ⟨i, d1, hi, rfl, hr, hw⟩ := hrel
    by_cases hlt : i < l.length
    · obtain ⟨bb, o, rfl, c0, c1⟩ := RdE.nth (HE.out _ hw.right.right) i hlt
      have hx : U64 l[i].word := (HE.out _ hw.right.right).2.1 _ (List.getElem_mem hlt)
      rw [List.drop_eq_getElem_cons hlt] at hr
      obtain ⟨cat, hcat⟩ : ∃ x, x = l[i].at_ := ⟨_, rfl⟩
      obtain ⟨cw, hcw⟩ : ∃ x, x = l[i].word := ⟨_, rfl⟩
      unfold Redo.entOps at hr
      rw [← hcat, ← hcw, List.cons_append, List.cons_append, Dev.run_st] at hr
      rw [← hcat] at c0; rw [← hcw] at c1 hx
      clear hcat hcw
      have ha := hw.alloc (.cells #[.int .i64 cat, .int .u64 cw] 58)
      generalize hxb : wr.heap.size = xb at ha
      have g0 := ha.right.cell 0 rfl
      have HRR := Lib.hid hr
      clear hr
      go_wp2_with fail
      have hin : Sat E _ (dev b d1 * (pt xb (.cells #[.int .i64 cat, .int .u64 cw] 58) * (logAt gb b frm til * F))) := ha.ac (by ac_rfl)
      refine (store_calls _ _ _ (u64_wrap cat) hin).mono ?_
      rintro e w1 ⟨rfl, h1⟩
      have hr := HRR.out
      generalize d1.store ((frm : Int) + 8 + 2 * i) (IntKind.u64.wrap cat) = d2 at h1 hr
      obtain ⟨e1, he1⟩ : ∃ e1, e1 = d1.storeE ((frm : Int) + 8 + 2 * i) := ⟨_, rfl⟩
      rw [← he1] at hr ⊢
      clear he1 ha hin hw g0 HRR
      by_cases he : e1 = 0
      · subst he
        rw [if_pos rfl, Dev.run_st] at hr
        have g0 : w1.cell? ⟨gb, 0, none⟩ = some (.pointer (some ⟨b, 0, none⟩)) := h1.right.right.cell 0 rfl
        have x1 : w1.cell? ⟨xb, 1, none⟩ = some (.int .u64 cw) := h1.right.cell 1 rfl
        have HRR := Lib.hid hr
        clear hr
        go_wp2_with fail
        refine (store_calls _ _ _ hx h1).mono ?_
        rintro e w2 ⟨rfl, h2⟩
        have hr := HRR.out
        generalize d2.store ((frm : Int) + 8 + 2 * i + 1) cw = d3 at h2 hr
        obtain ⟨e2, he2⟩ : ∃ e2, e2 = d2.storeE ((frm : Int) + 8 + 2 * i + 1) := ⟨_, rfl⟩
        rw [← he2] at hr ⊢
        clear he2 HRR h1 g0 x1
        by_cases he : e2 = 0
        · subst he
          rw [if_pos rfl] at hr
          have HRR := Lib.hid hr
          clear hr
          go_wp2_with fail
          refine ⟨⟨i + 1, d3, by omega, rfl, ?_, ?_⟩, by simp only [intOf]; omega⟩
          · rw [show (frm : Int) + 8 + 2 * ((i + 1 : Nat) : Int) = (frm : Int) + 8 + 2 * i + 2 by omega]
            exact HRR.out
          · exact (Sat.mid h2).ac (by ac_rfl)
        · rw [if_neg he] at hr
          have hb : (e2 != 0) = true := by simpa using he
          have HRR := Lib.hid hr
          clear hr
          go_wp2_with fail
          go_ret
          rw [← HRR.out]
          exact ⟨rfl, Sat.mid (Sat.mid h2)⟩
      · rw [if_neg he] at hr
        have hb : (e1 != 0) = true := by simpa using he
        have HRR := Lib.hid hr
        clear hr
        go_wp2_with fail
        go_ret
        rw [← HRR.out]
        exact ⟨rfl, Sat.mid (Sat.mid h1)⟩
    · obtain rfl : i = l.length := by omega
      rw [List.drop_length] at hr
      have hr' : d1.run (Redo.flOps (frm + 8) (frm + 8 + 2 * l.length) ++ [.fe]) = R := hr
      rw [Dev.run_append] at hr'
      have g0 := hw.cell 0 rfl
      have g1 := hw.cell 1 rfl
      have g2 := hw.cell 2 rfl
      have HRR := Lib.hid hr'
      clear hr hr'
      go_wp2_with fail
      have hc := rflush_calls wr (frm : Int) til (frm + 8) (frm + 8 + 2 * l.length) (by omega) (by omega) (Sat.swap hw)
      rw [show ((frm + 8 : Nat) : Int) = (frm : Int) + 8 by omega, show ((frm + 8 + 2 * l.length : Nat) : Int) = (frm : Int) + 8 + 2 * (l.length : Int) by omega] at hc
      refine hc.mono ?_
      rintro e w1 ⟨rfl, h1⟩
      have hr := HRR.out
      obtain ⟨⟨d2, e2⟩, hq⟩ : ∃ q, q = d1.run (Redo.flOps (frm + 8) (frm + 8 + 2 * l.length)) := ⟨_, rfl⟩
      rw [← hq] at hr h1 ⊢
      simp only at hr h1 ⊢
      have g0 := (Sat.swap h1).cell 0 rfl
      clear hq HRR hc hw g1 g2
      by_cases he : e2 = 0
      · subst he
        rw [if_pos rfl, Dev.run_fe] at hr
        have HRR := Lib.hid hr
        clear hr
        go_wp2_with fail
        refine (fence_calls _ h1).mono ?_
        rintro e w2 ⟨rfl, h2⟩
        have hR2 : R = (d2.fence, d2.fenceE) := by
          rw [← HRR.out]
          split
          · rename_i h0; rw [h0]; rfl
          · rfl
        have HR2 := Lib.hid hR2
        clear hR2
        go_wp2_with fail
        go_ret
        rw [HR2.out]
        exact ⟨rfl, Sat.mid h2⟩
      · rw [if_neg he] at hr
        have hb : (e2 != 0) = true := by simpa using he
        have HRR := Lib.hid hr
        clear hr
        go_wp2_with fail
        go_ret
        rw [← HRR.out]
        exact ⟨rfl, Sat.mid h1⟩

set_option maxRecDepth 100000 in
set_option maxHeartbeats 4000000 in
theorem do_calls (w : World) (frm til : Int) (l : List Ent) (ao : Option Addr) (c : Nat) (hl : l.length ≤ 1024) (hat : ∀ x ∈ l, 0 ≤ x.at_) (hE : ∀ W, Sat E W F → RdE W (.slice ao l.length c) l) (h : Sat E w (dev b d * F)) :
    Calls Try.prog 95 #[glog b frm til, .slice ao l.length c] w fun e w' => e = .returned (.int .i64 (d.run (Redo.doOps frm l)).2) ∧ Sat E w' (dev b (d.run (Redo.doOps frm l)).1 * F) := by
  have hal : Sat E _ (logAt w.heap.size b frm til * (dev b d * F)) := h.alloc _
  generalize hgb : w.heap.size = gb at hal
  obtain ⟨R, hR⟩ : ∃ R, R = d.run (Redo.doOps frm l) := ⟨_, rfl⟩
  rw [← hR]
  have HE := Lib.hid hE
  have HR := Lib.hid hR
  have HAT := Lib.hid hat
  clear hE h hR hat
  unfold glog
  go_enter Try.func95, Try.ntmps95
  go_wp2_with fail
  go_loopw [16] (fun iv wr => ∃ (i : Nat) (d1 : Dev), i ≤ l.length ∧ iv = .int .i64 i ∧ d1.run (Redo.stOps (l.drop i) ++ (Redo.onceOps [] l ++ ([.fe] ++ Redo.markOps frm 0))) = R ∧ Sat E wr (logAt gb b frm til * (dev b d1 * F))) (fun iv _ => l.length - (intOf iv).toNat)
  case atStart => exact ⟨0, d, Nat.zero_le _, rfl, HR.out.symm, hal⟩
  case round =>
    clear hal
    obtain ⟨i, d1, hi, rfl, hr, hw⟩ := hrel
    by_cases hlt : i < l.length
    · obtain ⟨bb, o, rfl, c0, c1⟩ := RdE.nth (HE.out _ hw.right.right) i hlt
      have hx : U64 l[i].word := (HE.out _ hw.right.right).2.1 _ (List.getElem_mem hlt)
      rw [List.drop_eq_getElem_cons hlt] at hr
      obtain ⟨cat, hcat⟩ : ∃ x, x = l[i].at_ := ⟨_, rfl⟩
      obtain ⟨cw, hcw⟩ : ∃ x, x = l[i].word := ⟨_, rfl⟩
      have hr1 : d1.run (.st cat cw :: (Redo.stOps (l.drop (i + 1)) ++ (Redo.onceOps [] l ++ ([.fe] ++ Redo.markOps frm 0)))) = R := by rw [hcat, hcw]; exact hr
      rw [Dev.run_st] at hr1
      rw [← hcat] at c0; rw [← hcw] at c1 hx
      clear hcat hcw hr
      have ha := hw.alloc (.cells #[.int .i64 cat, .int .u64 cw] 58)
      generalize hxb : wr.heap.size = xb at ha
      have g0 := ha.right.cell 0 rfl
      have hin : Sat E _ (dev b d1 * (pt xb (.cells #[.int .i64 cat, .int .u64 cw] 58) * (logAt gb b frm til * F))) := ha.ac (by ac_rfl)
      have HRR := Lib.hid hr1
      clear hr1
      go_wp2_with fail
      refine (store_calls _ _ _ hx hin).mono ?_
      rintro e w1 ⟨rfl, h1⟩
      have hr := HRR.out
      generalize d1.store cat cw = d2 at h1 hr
      obtain ⟨e1, he1⟩ : ∃ e1, e1 = d1.storeE cat := ⟨_, rfl⟩
      rw [← he1] at hr ⊢
      clear he1 ha hin hw g0 HRR
      by_cases he : e1 = 0
      · subst he
        rw [if_pos rfl] at hr
        have HRR := Lib.hid hr
        clear hr
        go_wp2_with fail
        exact ⟨⟨i + 1, d2, by omega, rfl, HRR.out, (Sat.mid h1).ac (by ac_rfl)⟩, by simp only [intOf]; omega⟩
      · rw [if_neg he] at hr
        have hb : (e1 != 0) = true := by simpa using he
        have HRR := Lib.hid hr
        clear hr
        go_wp2_with fail
        go_ret
        rw [← HRR.out]
        exact ⟨rfl, Sat.mid (Sat.mid h1)⟩
    · obtain rfl : i = l.length := by omega
      rw [List.drop_length] at hr
      have hr' : d1.run (Redo.onceOps [] l ++ ([.fe] ++ Redo.markOps frm 0)) = R := hr
      have hmap := hw.imap_new
      generalize hmb : wr.heap.size = mb at hmap
      have HRR := Lib.hid hr'
      have hmm := @run_makeMap Try.prog
      clear hr hr'
      go_wp2_with fail
      go_loopw [34] (fun iv wr => ∃ (i : Nat) (d1 : Dev) (met : List Int) (m : List (Int × Value)), i ≤ l.length ∧ iv = .int .i64 i ∧ (∀ x, m.lookup x = if x ∈ met then some (.int .i64 1) else none) ∧ d1.run (Redo.onceOps met (l.drop i) ++ ([.fe] ++ Redo.markOps frm 0)) = R ∧ Sat E wr (imap mb m * (logAt gb b frm til * (dev b d1 * F)))) (fun iv _ => l.length - (intOf iv).toNat)
      case atStart => exact ⟨0, d1, [], [], Nat.zero_le _, rfl, by simp, HRR.out, hmap⟩
      case round =>
        clear hmap HRR hw hmm
        obtain ⟨i, d1, met, m, hi, rfl, hm, hr, hw⟩ := hrel
        by_cases hlt : i < l.length
        · obtain ⟨bb, o, rfl, c0, c1⟩ := RdE.nth (HE.out _ hw.right.right.right) i hlt
          have h0 : 0 ≤ l[i].at_ := HAT.out _ (List.getElem_mem hlt)
          rw [List.drop_eq_getElem_cons hlt] at hr
          unfold Redo.onceOps at hr
          obtain ⟨cat, hcat⟩ : ∃ x, x = l[i].at_ := ⟨_, rfl⟩
          obtain ⟨cw, hcw⟩ : ∃ x, x = l[i].word := ⟨_, rfl⟩
          rw [← hcat] at hr c0 h0
          rw [← hcw] at c1
          have hdiv : cat.tdiv 8 = cat / 8 := Int.tdiv_eq_ediv_of_nonneg h0
          have hi64 : I64 cat := by rw [hcat]; exact (HE.out _ hw.right.right.right).2.2 _ (List.getElem_mem hlt)
          obtain ⟨K, hK⟩ : ∃ K, K = cat / 8 := ⟨_, rfl⟩
          have hwr : wrap64 (cat / 8) = K := by unfold I64 at hi64; unfold wrap64; omega
          rw [← hK] at hr
          clear hi64 hcat hcw hK
          have ha := hw.alloc (.cells #[.int .i64 cat, .int .u64 cw] 58)
          generalize hxb : wr.heap.size = xb at ha
          have hlk := run_lookup_sl ha.right Try.underlying56 Try.underlying3 (z := .int .i64 0) (by kernel_rfl) K false
          rw [hm] at hlk
          by_cases hmem : K ∈ met
          · rw [if_pos hmem] at hlk hr
            simp only [Bool.false_eq_true, if_false, Option.getD_some] at hlk
            have HRR := Lib.hid hr
            have HM := Lib.hid hm
            clear hr hmem hm
            go_wp2_with fail
            exact ⟨⟨i + 1, d1, met, m, by omega, rfl, HM.out, HRR.out, ha.right⟩, by simp only [intOf]; omega⟩
          · rw [if_neg hmem] at hlk hr
            simp only [Bool.false_eq_true, if_false, Option.getD_none] at hlk
            rw [List.cons_append, Dev.run_fl] at hr
            have HRR := Lib.hid hr
            have HA := Lib.hid (ha.ac (B := imap mb m * (dev b d1 * (pt xb (.cells #[.int .i64 cat, .int .u64 cw] 58) * (logAt gb b frm til * F)))) (by ac_rfl))
            clear hr hmem ha hw
            go_wp2_with ((with_reducible show Oper.upon _ _ _ _ _ (Result.andThen (Sem.run _ (Instr.mapUpdate _ _ _ _) _) _)); obtain ⟨w1, hrun, h1, _⟩ := run_mapUpdate_sl HA.out Try.underlying56 Try.underlying3 K (.int .i64 1); rw [hrun]; simp only [Result.andThen_ok, Oper.upon_skip]; have x0 := (Sat.right (Sat.right h1)).cell 0 rfl; have g0 : w1.cell? ⟨gb, 0, none⟩ = some (.pointer (some ⟨b, 0, none⟩)) := (Sat.right (Sat.right (Sat.right h1))).cell 0 rfl)
            refine (flush_calls _ _ (Sat.swap h1)).mono ?_
            rintro e w2 ⟨rfl, h2⟩
            have hr := HRR.out
            generalize d1.flush cat = d2 at h2 hr
            obtain ⟨e2, he2⟩ : ∃ e2, e2 = d1.flushE cat := ⟨_, rfl⟩
            rw [← he2] at hr ⊢
            clear he2 HRR h1 g0 x0 HA hrun
            by_cases he : e2 = 0
            · subst he
              rw [if_pos rfl] at hr
              have HRR := Lib.hid hr
              have HM : Hid (∀ x, (mput m K (.int .i64 1)).lookup x = if x ∈ K :: met then some (.int .i64 1) else none) := by
                show ∀ x, _
                intro x
                rw [lookup_mput, hm]
                by_cases hxK : x = K
                · simp [hxK]
                · simp [hxK]
              have H2 : Hid (Sat E w2 (imap mb (mput m K (.int .i64 1)) * (logAt gb b frm til * (dev b d2 * F)))) := (h2.ac (B := pt xb (.cells #[.int .i64 cat, .int .u64 cw] 58) * (imap mb (mput m K (.int .i64 1)) * (logAt gb b frm til * (dev b d2 * F)))) (by ac_rfl)).right
              clear hr hm h2
              go_wp2_with fail
              exact ⟨⟨i + 1, d2, K :: met, _, by omega, rfl, HM.out, HRR.out, H2.out⟩, by simp only [intOf]; omega⟩
            · rw [if_neg he] at hr
              have hb : (e2 != 0) = true := by simpa using he
              have HRR := Lib.hid hr
              clear hr hm
              go_wp2_with fail
              go_ret
              rw [← HRR.out]
              exact ⟨rfl, Sat.mid (Sat.mid (Sat.mid h2))⟩
        · obtain rfl : i = l.length := by omega
          rw [List.drop_length] at hr
          have hr' : d1.run (.fe :: Redo.markOps frm 0) = R := hr
          rw [Dev.run_fe] at hr'
          have h1 : Sat E wr (dev b d1 * (logAt gb b frm til * F)) := Sat.swap hw.right
          have g0 := hw.right.cell 0 rfl
          have HRR := Lib.hid hr'
          clear hr hr' hm hw
          go_wp2_with fail
          refine (fence_calls _ h1).mono ?_
          rintro e w2 ⟨rfl, h2⟩
          have hr := HRR.out
          generalize d1.fence = d2 at h2 hr
          obtain ⟨e2, he2⟩ : ∃ e2, e2 = d1.fenceE := ⟨_, rfl⟩
          rw [← he2] at hr ⊢
          clear he2 HRR h1 g0
          by_cases he : e2 = 0
          · subst he
            rw [if_pos rfl] at hr
            have HRR := Lib.hid hr
            have g0 := (Sat.swap h2).cell 0 rfl
            have g1 := (Sat.swap h2).cell 1 rfl
            have g2 := (Sat.swap h2).cell 2 rfl
            clear hr
            go_wp2_with fail
            refine (mark_calls _ frm til 0 ⟨by omega, by omega⟩ (by omega) (Sat.mid h2)).mono ?_
            rintro e w3 ⟨rfl, h3⟩
            rw [HRR.out] at h3 ⊢
            go_wp2_with fail
            go_ret
            exact ⟨rfl, h3⟩
          · rw [if_neg he] at hr
            have hb : (e2 != 0) = true := by simpa using he
            have HRR := Lib.hid hr
            clear hr
            go_wp2_with fail
            go_ret
            rw [← HRR.out]
            exact ⟨rfl, Sat.mid h2⟩
end
end Scul
