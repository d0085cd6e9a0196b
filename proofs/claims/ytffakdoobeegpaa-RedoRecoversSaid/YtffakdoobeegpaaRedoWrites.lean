/- scullionlaw4.RedoWrites: whatever words, area, entries and fuse: a row's answer, its steps, whether the power is gone, and each word behind a crash are what the document says. No condition. -/
import Derived.Test.YtffakdoobeegpaaRefH
import Derived.Deep.RegionLaw
namespace Scul
open Go Go.Sl Go.RowKit Go.Proofs
section
variable {E : Env} {w : World} {F : HP} {b : Nat} {d : Dev}
theorem setFuse_of {d : Dev} (h : d.fuse = 0) {n : Int} (hn : n ≤ 0) : d.setFuse n = d := by
  unfold Dev.setFuse
  rw [if_neg (by omega), ← h]
theorem ok_setFuse {d : Dev} (h : d.Ok) {n : Int} (hn : I64 n) : (d.setFuse n).Ok := by
  refine ⟨h.len, h.most, h.rd, h.sr, h.keys, h.fl, ?_⟩
  unfold I64 at hn
  show 0 ≤ (if 0 < n then n else 0) ∧ (if 0 < n then n else 0) ≤ 9223372036854775807
  split <;> omega
/-- the document's device's fuse is set. -/
theorem rfuse_set {n : Int} (hn : I64 n) (h0 : 0 < n) (h : Sat E w (rdev b d * F)) : ∃ v, w.cell? ⟨b, 3, none⟩ = some (.int .i64 v) ∧ w.frozen? ⟨b, 3, none⟩ = false ∧ Sat E (w.setCell ⟨b, 3, none⟩ (.int .i64 n)) (rdev b (d.setFuse n) * F) := by
  obtain ⟨q, hq, hs⟩ := rdev_open h
  refine ⟨_, hs.cell 3 rfl, hs.free 3, rdev_mk q ⟨ok_setFuse hq.1 hn, hq.2.1, hq.2.2⟩ ?_⟩
  have e : rcells q.lv (d.setFuse n) = (rcells q.lv d).setIfInBounds 3 (.int .i64 n) := by
    unfold rcells Dev.setFuse
    rw [if_pos h0]
    rfl
  rw [e]
  exact hs.setCell
theorem rdev_cells (h : Sat E w (rdev b d * F)) : w.cell? ⟨b, 2, none⟩ = some (.int .i64 d.steps) ∧ w.cell? ⟨b, 3, none⟩ = some (.int .i64 d.fuse) ∧ w.cell? ⟨b, 4, none⟩ = some (.bool d.down) := by
  obtain ⟨q, hq, hs⟩ := rdev_open h
  exact ⟨hs.cell 2 rfl, hs.cell 3 rfl, hs.cell 4 rfl⟩
theorem rd_u8s {w : World} {xb : Nat} {m : List Int} {t : TypeId} {f : Nat × Nat} {R : HP} (h : Sat E w (pt xb (.cells (u8s m).toArray t f) * R)) (hm : m.length ≤ 1000) : Rd w 1 (.slice (some ⟨xb, 0, none⟩) m.length m.length) m.length (u8s m) :=
  ⟨by simp [u8s], by simp only [maxLen] at *; omega, .inr ⟨xb, 0, _, rfl, Nat.le_refl _, fun j u hu => by rw [Nat.zero_add]; exact h.cell j (by simpa using hu)⟩⟩
set_option maxRecDepth 100000 in
set_option maxHeartbeats 8000000 in
theorem redoWrites_walk (w : World) (lw : List Int) (ao : Option Addr) (c : Nat) (frm til : Int) (l : List Ent) (bo : Option Addr) (bc : Nat) (fuse : Int) (hrw : Rd w 1 (.slice ao lw.length c) lw.length (u64s lw)) (hU : ∀ x ∈ lw, U64 x)
    (hfI : I64 frm) (htI : I64 til) (hrl : RdE w (.slice bo l.length bc) l) (hfu : I64 fuse) :
    Calls Try.prog 17 #[.slice ao lw.length c, .int .i64 frm, .int .i64 til, .slice bo l.length bc, .int .i64 fuse] w fun e w' => e = .returned (.bool true) ∧ Sat w.env w' (old w) := by
  have hs := Sat.init w
  have hmw := hrw.most
  have hml := hrl.1.most
  have HRW := Lib.hid hrw; have HU := Lib.hid hU; have HFI := Lib.hid hfI; have HTI := Lib.hid htI; have HRL := Lib.hid hrl; have HFU := Lib.hid hfu
  clear hrw hU hfI htI hrl hfu
  have short : ∀ (W : World), Sat w.env W (old w) → Calls Try.prog 42 #[] W fun e w' => e = .returned (.bool true) ∧ Sat w.env w' (old w) := fun W h => awake4_calls W h
  have HSH := Lib.hid short
  clear short
  by_cases h1 : 120 < lw.length
  · have h1' : (120 : Int) < lw.length := by omega
    go_enter Try.func17, Try.ntmps17
    go_wp2_with fail
    refine (HSH.out _ hs).mono ?_
    rintro e w1 ⟨rfl, h2⟩
    go_wp2_with fail
    go_ret
    exact ⟨rfl, h2⟩
  · have h1' : ¬ (120 : Int) < lw.length := by omega
    by_cases h2 : 60 < l.length
    · have h2' : (60 : Int) < l.length := by omega
      go_enter Try.func17, Try.ntmps17
      go_wp2_with fail
      refine (HSH.out _ hs).mono ?_
      rintro e w1 ⟨rfl, h2⟩
      go_wp2_with fail
      go_ret
      exact ⟨rfl, h2⟩
    · have h2' : ¬ (60 : Int) < l.length := by omega
      go_enter Try.func17, Try.ntmps17
      go_wp2_with fail
      refine (laid_calls _ lw ao c (by omega) HU.out (fun W hW => Rd.old HRW.out hW) hs).mono ?_
      rintro e w1 ⟨b, r, rfl, h3⟩
      obtain ⟨d1, hd1⟩ : ∃ d1, d1 = (Dev.laid lw).setFuse fuse := ⟨_, rfl⟩
      go_upto_if 28 with fail
      go_cut [] (fun wx => Sat w.env wx (dev b d1 * (rdev r d1 * old w)))
      case first =>
        by_cases h0 : 0 < fuse
        · have HD := Lib.hid hd1
          clear hd1
          go_wp2_with fail
          refine (fuse_calls _ fuse HFU.out.2 h3).mono ?_
          rintro e w2 ⟨rfl, h4⟩
          obtain ⟨v0, cc, ff, h5⟩ := rfuse_set HFU.out h0 (Sat.swap h4)
          rw [← HD.out] at h5
          have H5 := Lib.hid (Sat.swap h5)
          clear h3 h4 h5
          go_wp2_with fail
          go_meet
          exact H5.out
        · have hd2 : d1 = Dev.laid lw := by rw [hd1]; exact setFuse_of rfl (by omega)
          rw [← hd2] at h3
          have H3 := Lib.hid h3
          clear hd1 hd2 h3
          go_wp2_with fail
          go_meet
          exact H3.out
      case rest =>
        have HCUT := Lib.hid hcut
        clear hd1 h3 hs
        have HE1 : Hid (∀ W, Sat w.env W (rdev r d1 * old w) → RdE W (.slice bo l.length bc) l) := Lib.hid fun W hW => HRL.out.old hW.right
        obtain ⟨⟨d2, e2⟩, hq⟩ : ∃ q, q = Redo.write d1 frm til l := ⟨_, rfl⟩
        have HE2 : Hid (∀ W, Sat w.env W (dev b d2 * old w) → RdE W (.slice bo l.length bc) l) := Lib.hid fun W hW => HRL.out.old hW.right
        have HW1 : Hid (∀ W, Sat w.env W (dev b d1 * (rdev r d1 * old w)) → Calls Try.prog 44 #[.pointer (some ⟨b, 0, none⟩), .int .i64 frm, .int .i64 til, .slice bo l.length bc] W fun e w' => e = .returned (.int .i64 e2) ∧ Sat w.env w' (dev b d2 * (rdev r d1 * old w))) := Lib.hid fun W hW => by
          have := write_calls W frm til l bo bc HFI.out HTI.out HE1.out hW
          rw [← hq] at this
          exact this
        have HW2 : Hid (∀ W, Sat w.env W (dev b d2 * (rdev r d1 * old w)) → Calls Try.prog 60 #[.pointer (some ⟨r, 0, none⟩), .int .i64 frm, .int .i64 til, .slice bo l.length bc] W fun e w' => e = .returned (.int .i64 e2) ∧ Sat w.env w' (dev b d2 * (rdev r d2 * old w)) ∧ w'.cell? ⟨r, 2, none⟩ = some (.int .i64 d2.steps) ∧ w'.cell? ⟨r, 4, none⟩ = some (.bool d2.down)) := Lib.hid fun W hW => by
          have := rwrite_calls W frm til l bo bc HFI.out HTI.out HE2.out (Sat.swap hW)
          rw [← hq] at this
          refine this.mono ?_
          rintro e w' ⟨rfl, h⟩
          exact ⟨rfl, Sat.swap h, (rdev_cells h).1, (rdev_cells h).2.2⟩
        have HW3 : Hid (∀ W, Sat w.env W (dev b d2 * (rdev r d2 * old w)) → Calls Try.prog 34 #[.pointer (some ⟨b, 0, none⟩)] W fun e w' => e = .returned (.int .i64 d2.steps) ∧ w' = W) := Lib.hid fun W hW => steps_calls W hW
        have HW4 : Hid (∀ W, Sat w.env W (dev b d2 * (rdev r d2 * old w)) → Calls Try.prog 35 #[.pointer (some ⟨b, 0, none⟩)] W fun e w' => e = .returned (.bool d2.down) ∧ w' = W) := Lib.hid fun W hW => down_calls W hW
        clear hq hcut
        generalize hst : d2.steps = ST at HW2 HW3
        generalize hdn : d2.down = DN at HW2 HW4
        clear hst hdn
        go_upto_region 7 with fail
        go_cut [64] (fun s64 wx => s64 = .bool false ∧ Sat w.env wx (dev b d2 * (rdev r d2 * old w)))
        case first =>
          go_region_with (first
            | (go_at_call 44; refine (HW1.out _ (by first | exact HCUT.out | exact HCUT.out.drew)).mono ?_; rintro e w3 ⟨rfl, h4⟩)
            | (go_at_call 60; refine (HW2.out _ (by first | exact h4 | exact h4.drew)).mono ?_; rintro e w4 ⟨rfl, h5, c2, c4⟩)
            | (go_at_call 34; refine (HW3.out _ (by first | exact h5 | exact h5.drew)).mono ?_; rintro e w5 ⟨rfl, rfl⟩)
            | (go_at_call 35; refine (HW4.out _ (by first | exact h5 | exact h5.drew)).mono ?_; rintro e w6 ⟨rfl, rfl⟩))
          all_goals
            go_wp2_with fail
            go_meet
            exact ⟨rfl, h5⟩
        case rest =>
          obtain ⟨rfl, h6⟩ := hcut
          clear HE1 HE2 HW1 HW2 HW3 HW4 HCUT
          go_wp2_with fail
          have hA : Sat w.env (wc.alloc (.cells (u8s [1, 2, 0, 1, 3, 2, 1, 0, 2, 1]).toArray 5)) (dev b d2 * (pt wc.heap.size (.cells (u8s [1, 2, 0, 1, 3, 2, 1, 0, 2, 1]).toArray 5) * (rdev r d2 * old w))) := Sat.swap (h6.alloc _)
          refine (crash_calls _ _ [1, 2, 0, 1, 3, 2, 1, 0, 2, 1] (by simp [U8]) (fun W hW => rd_u8s hW (by simp)) hA).mono ?_
          rintro e w7 ⟨rfl, h7⟩
          clear hA h6
          go_wp2_with fail
          have hB : Sat w.env (w7.alloc (.cells (u8s [1, 2, 0, 1, 3, 2, 1, 0, 2, 1]).toArray 5)) (rdev r d2 * (pt w7.heap.size (.cells (u8s [1, 2, 0, 1, 3, 2, 1, 0, 2, 1]).toArray 5) * (dev b (d2.crash [1, 2, 0, 1, 3, 2, 1, 0, 2, 1]) * old w))) :=
            ((Sat.mid h7).alloc _).ac (by ac_rfl)
          refine (rcrash_calls _ _ [1, 2, 0, 1, 3, 2, 1, 0, 2, 1] (by simp [U8]) (fun W hW => rd_u8s hW (by simp)) hB).mono ?_
          rintro e w8 ⟨rfl, h8⟩
          have h9 : Sat w.env w8 (dev b (d2.crash [1, 2, 0, 1, 3, 2, 1, 0, 2, 1]) * (rdev r (d2.crash [1, 2, 0, 1, 3, 2, 1, 0, 2, 1]) * old w)) := Sat.swap (Sat.mid h8)
          generalize d2.crash [1, 2, 0, 1, 3, 2, 1, 0, 2, 1] = d3 at h9
          clear hB h7 h8
          go_wp2_with fail
          refine (wordsD_calls _ h9).mono ?_
          rintro e w9 ⟨v9, rfl, h10⟩
          go_wp2_with fail
          refine (rwords_calls _ (h10.ac (B := rdev r d3 * (words v9 d3.sure * (dev b d3 * old w))) (by ac_rfl))).mono ?_
          rintro e w10 ⟨v10, rfl, h11⟩
          have r9 : Rd w10 1 v9 d3.sure.length (u64s d3.sure) := h11.right.right.rd
          have r10 : Rd w10 1 v10 d3.sure.length (u64s d3.sure) := h11.rd
          go_wp2_with fail
          refine (same_calls _ _ _ _ _ r9 r10).mono ?_
          rintro e w11 ⟨rfl, n11, rfl⟩
          rw [decide_eq_true rfl]
          go_wp2_with fail
          refine (awake4_calls _ ((h11.right.right.right.right).drewN n11)).mono ?_
          rintro e w12 ⟨rfl, h12⟩
          go_wp2_with fail
          go_ret
          exact ⟨rfl, h12⟩
end
end Scul
