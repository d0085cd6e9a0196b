/- slices.Clone of words; Words; Flush. -/
import Derived.Test.YtffakdoobeegpaaNvmE
import Derived.Deep.RegionHeld3
import Derived.WalkSpells
import Derived.IntWalk
namespace Scul
open Go Go.Sl Go.RowKit Go.Proofs
section
variable {E : Env} {w : World} {F : HP} {b : Nat} {d : Dev}

/-- slices.Clone of words: new memory that reads the same. -/
theorem clone64_calls (w : World) (x : List Int) (v : Value) (hb : x.length * 8 ≤ 140737488355328) (hv : Rd w 1 v x.length (u64s x)) (hs : Sat E w F) :
    Calls Try.prog 82 #[v] w fun e w' => ∃ v', e = .returned v' ∧ Sat E w' (words v' x * F) := by
  have hm := hv.most
  have hnil := fun (w : World) (a : Option Addr) (n c : Nat) => Lib.run_eql_slice_nil (P := Try.prog) w 23 27 a n c 0 0 Try.underlying23
  obtain ⟨ao, c, rfl, _⟩ := hv.val
  rcases ao with _ | ⟨g, o, sp⟩
  · obtain ⟨h0, rfl⟩ := hv.nil0
    have hx : x = [] := List.eq_nil_of_length_eq_zero h0
    subst hx
    clear hb hm hv h0
    go_enter Try.func82, Try.ntmps82
    go_wp2
    go_ret
    exact ⟨_, rfl, hs.row_nil _ _⟩
  · have h1 : Sat E (w.alloc (.cells #[] 27)) (row 27 1 (.slice (some ⟨w.heap.size, 0, none⟩) 0 0) 0 [] * F) := Sat.row_mk (hs.alloc _) (Nat.le_refl _) (Nat.zero_le _) rfl rfl
    have h2 := hv.alloc (.cells #[] 27)
    have H1 := Lib.hid h1; have H2 := Lib.hid h2; have H3 : Hid (∀ u ∈ u64s x, u.oneCell' = true) := u64s_one x
    clear h1 h2 hv hm
    have b1 : 0 + x.length ≤ maxLen := by simp only [maxLen]; omega
    have b2 : (0 + x.length) * 8 ≤ 140737488355328 := by omega
    have B1 := Lib.hid b1; have B2 := Lib.hid b2
    clear b1 b2 hb
    generalize hn : x.length = n at *
    have HN := Lib.hid hn
    clear hn
    go_enter Try.func82, Try.ntmps82
    go_wp2_with (at_builtin; refine wpl_append rfl _ _ st64 rfl _ _ _ H1.out rfl _ _ _ H2.out rfl H3.out B1.out B2.out ?_; intro v' w' hs')
    go_ret
    refine ⟨_, rfl, ?_⟩
    rw [words_def, HN.out]
    simpa using hs'

theorem bounds_calls' (w : World) (L : Int) (line : Nat) (hL : L = line) (hl : line ≤ 65536) (h : Sat E w (dev b d * F)) :
    Calls Try.prog 81 #[.pointer (some ⟨b, 0, none⟩), .int .i64 L] w fun e w' => e = .returned (.tuple #[.int .i64 (8 * line : Nat), .int .i64 (min (8 * line + 8) d.read.length : Nat)]) ∧ ∃ n, w' = w.drewN n := by
  subst hL
  exact bounds_calls w line hl h

theorem wordsD_calls (w : World) (h : Sat E w (dev b d * F)) :
    Calls Try.prog 27 #[.pointer (some ⟨b, 0, none⟩)] w fun e w' => ∃ v', e = .returned v' ∧ Sat E w' (words v' d.sure * (dev b d * F)) := by
  obtain ⟨rv, sv, mb, m, hok, hs⟩ := dev_open h
  have c1 : w.cell? ⟨b, 1, none⟩ = some sv := hs.cell 1 rfl
  have hs2 : Sat E w (words sv d.sure * (pt b (.cells (devCells rv sv mb d) 117) * (words rv d.read * (imap mb m * (flrows m d.fl * F))))) := hs.ac (by ac_rfl)
  have hm := hok.most
  have hl := hok.len
  have HC := Lib.hid (clone64_calls w d.sure sv (by omega) hs2.rd h)
  clear hs2 hs hm hl hok
  go_enter Try.func27, Try.ntmps27
  go_wp2_with fail
  refine HC.out.mono ?_
  rintro e w' ⟨v', rfl, h'⟩
  go_wp2_with fail
  go_ret
  exact ⟨_, rfl, h'⟩

set_option maxRecDepth 100000 in
set_option maxHeartbeats 1000000 in
theorem flush_calls (w : World) (at_ : Int) (h : Sat E w (dev b d * F)) :
    Calls Try.prog 25 #[.pointer (some ⟨b, 0, none⟩), .int .i64 at_] w fun e w' => e = .returned (.int .i64 (d.flushE at_)) ∧ Sat E w' (dev b (d.flush at_) * F) := by
  have HS := Lib.hid (step_calls w h)
  have hok := dev_ok h
  obtain ⟨dn, hdn⟩ : ∃ dn, dn = d.step.down := ⟨_, rfl⟩
  cases dn with
  | true =>
    have HF : Hid (d.flushE at_ = 7 ∧ d.flush at_ = d.step) := by show _ ∧ _; simp [Dev.flushE, Dev.flush, ← hdn]
    rw [← hdn] at HS
    clear hdn h hok
    cases hd : d.down with
    | true =>
      rw [hd] at HS
      go_enter Try.func25, Try.ntmps25
      go_wp2_with fail
      refine HS.out.mono ?_
      rintro e w1 ⟨rfl, h1⟩
      go_wp2_with fail
      go_ret
      rw [HF.out.1, HF.out.2]
      exact ⟨rfl, h1⟩
    | false =>
      rw [hd] at HS
      go_enter Try.func25, Try.ntmps25
      go_wp2_with fail
      refine HS.out.mono ?_
      rintro e w1 ⟨rfl, h1⟩
      go_wp2_with fail
      go_ret
      rw [HF.out.1, HF.out.2]
      exact ⟨rfl, h1⟩
  | false =>
    have hd : d.down = false := by
      cases hd : d.down with
      | false => rfl
      | true => have := step_down hd; rw [this] at hdn; cases hdn
    rw [← hdn, hd] at HS
    cases hi : d.isB at_ with
    | false =>
      have HF : Hid (d.flushE at_ = 1 ∧ d.flush at_ = d.step) := by show _ ∧ _; simp [Dev.flushE, Dev.flush, hi, ← hdn]
      clear hd h hok hdn
      go_enter Try.func25, Try.ntmps25
      go_wp2_with fail
      refine HS.out.mono ?_
      rintro e w1 ⟨rfl, h1⟩
      have HI := Lib.hid (is_calls w1 at_ h1)
      rw [isB_step, hi] at HI
      clear hi
      go_wp2_with fail
      refine HI.out.mono ?_
      rintro e w' ⟨rfl, rfl⟩
      go_wp2_with fail
      go_ret
      rw [HF.out.1, HF.out.2]
      exact ⟨rfl, h1⟩
    | true =>
      have hb : 0 ≤ at_ ∧ at_ < (d.read.length : Int) := by simpa [Dev.isB] using hi
      obtain ⟨k, rfl⟩ := Int.eq_ofNat_of_zero_le hb.1
      have HF : Hid (d.flushE k = 0 ∧ d.flush k = { d.step with fl := mput d.fl ((k : Int) / 8) (Dev.seg d.read (k / 8)) }) := by
        show _ ∧ _
        simp [Dev.flushE, Dev.flush, hi, ← hdn]
        congr 1
      have HK : Hid (k < d.read.length) := by show k < _; omega
      have HO := Lib.hid hok
      have HM : d.read.length ≤ 65536 := hok.most
      have hk1 : 8 * (k / 8) ≤ d.read.length := by omega
      clear hd h hok hdn hb
      go_enter Try.func25, Try.ntmps25
      go_wp2_with fail
      refine HS.out.mono ?_
      rintro e w1 ⟨rfl, h1⟩
      have HI := Lib.hid (is_calls w1 k h1)
      rw [isB_step, hi] at HI
      clear hi
      have HB := Lib.hid (bounds_calls' w1 ((k : Int) / 8) (k / 8) (by omega) (by have := HK.out; omega) h1)
      rw [step_read] at HB
      obtain ⟨t, ht⟩ : ∃ t, t = min (8 * (k / 8) + 8) d.read.length := ⟨_, rfl⟩
      obtain ⟨s, hs⟩ : ∃ s, s = 8 * (k / 8) := ⟨_, rfl⟩
      rw [← ht, ← hs] at HB
      have HSS := Lib.hid hs; clear hs
      go_wp2_with fail
      refine HI.out.mono ?_
      rintro e w' ⟨rfl, rfl⟩
      go_wp2_with fail
      refine HB.out.mono ?_
      rintro e w2 ⟨rfl, q, rfl⟩
      have h2 : Sat E (w'.drewN q) (dev b d.step * F) := h1
      clear HI HB h1
      generalize w'.drewN q = w2 at h2 ⊢
      obtain ⟨rv, sv, mb, m, hok1, hs⟩ := dev_open h2
      have hs2 := hs
      rw [sep_left_comm, step_read] at hs2
      obtain ⟨g, c, rfl, hc⟩ := words_at hs2 k HK.out
      have c0 : w2.cell? ⟨b, 0, none⟩ = some (.slice (some ⟨g, 0, none⟩) d.read.length c) := hs.cell 0 rfl
      have c2 : w2.cell? ⟨b, 2, none⟩ = some (.map (some mb)) := hs.cell 2 rfl
      have l0 : (0 : Int) ≤ (s : Int) := by omega
      have l1 : (s : Int) ≤ (t : Int) := by have := HK.out; have := HSS.out; omega
      have l2 : (t : Int) ≤ (d.read.length : Int) := by omega
      have l3 : (t : Int) ≤ (c : Int) := by omega
      have l4 : (0 : Int) ≤ (k : Int) / 8 := by omega
      have l5 : ¬ c = s := by have := HK.out; have := HSS.out; omega
      have hsl : (Dev.seg d.read (k / 8)).length = t - s := by rw [seg_len]; have := HSS.out; have := HK.out; omega
      have hrd : Rd w2 1 (.slice (some ⟨g, s, none⟩) (t - s) (c - s)) (Dev.seg d.read (k / 8)).length (u64s (Dev.seg d.read (k / 8))) := by
        have := Rd.cut (hs2.rd) s t (by omega) (by omega) (ao := some ⟨g, s, none⟩) (fun _ => by simp) (fun h => absurd h l5) rfl rfl
        rw [hsl]
        have e : (List.drop s (u64s d.read)).take (t - s) = u64s (Dev.seg d.read (k / 8)) := by
          simp only [u64s, Dev.seg, ← List.map_drop, ← List.map_take]
          rw [← HSS.out]
          by_cases h8 : t - s = 8
          · rw [h8]
          · rw [List.take_of_length_le (by simp; have := HSS.out; omega), List.take_of_length_le (by simp; have := HSS.out; omega)]
        rwa [e] at this
      have H2 := Lib.hid h2; have HS1 := Lib.hid hs; have HO1 := Lib.hid hok1; have HRD := Lib.hid hrd
      have HB8 : Hid ((Dev.seg d.read (k / 8)).length * 8 ≤ 140737488355328) := by show _ ≤ _; rw [hsl]; have := HSS.out; omega
      have hupd : ∀ W v', Sat E W (words v' (Dev.seg d.read (k / 8)) * (pt b (.cells (devCells (.slice (some ⟨g, 0, none⟩) d.read.length c) sv mb d.step) 117) * (words (.slice (some ⟨g, 0, none⟩) d.read.length c) d.step.read * (words sv d.step.sure * (imap mb m * (flrows m d.step.fl * F)))))) →
          ∃ W2, (Instr.mapUpdate 115 (.map (some mb)) (.int .i64 ((k : Int) / 8)) v').run Try.prog W = .ok () W2 ∧ Sat E W2 (dev b { d.step with fl := mput d.fl ((k : Int) / 8) (Dev.seg d.read (k / 8)) } * F) ∧
            W2.cell? ⟨b, 0, none⟩ = some (.slice (some ⟨g, 0, none⟩) d.read.length c) ∧ W2.cell? ⟨b, 2, none⟩ = some (.map (some mb)) := by
        intro W v' h3
        have h4 : Sat E W (imap mb m * (words v' (Dev.seg d.read (k / 8)) * (flrows m d.step.fl * (pt b (.cells (devCells (.slice (some ⟨g, 0, none⟩) d.read.length c) sv mb d.step) 117) * (words (.slice (some ⟨g, 0, none⟩) d.read.length c) d.step.read * (words sv d.step.sure * F)))))) := h3.ac (by ac_rfl)
        have hn := h4.imap_nodup
        obtain ⟨W2, hrun, h5, _⟩ := run_mapUpdate_sl h4 Try.underlying115 Try.underlying3 ((k : Int) / 8) v'
        have h6 := h5
        rw [sep_comm, sep_assoc] at h6
        have h7 : Sat E W2 (words v' (Dev.seg d.read (k / 8)) * (flrows m d.step.fl * (imap mb (mput m ((k : Int) / 8) v') * (pt b (.cells (devCells (.slice (some ⟨g, 0, none⟩) d.read.length c) sv mb d.step) 117) * (words (.slice (some ⟨g, 0, none⟩) d.read.length c) d.step.read * (words sv d.step.sure * F)))))) := h5.ac (by ac_rfl)
        have h8 := flrows_put ((k : Int) / 8) v' (Dev.seg d.read (k / 8)) m d.step.fl hn h7
        have h9 : Sat E W2 (pt b (.cells (devCells (.slice (some ⟨g, 0, none⟩) d.read.length c) sv mb d.step) 117) * (words (.slice (some ⟨g, 0, none⟩) d.read.length c) d.step.read * (words sv d.step.sure * (imap mb (mput m ((k : Int) / 8) v') * (flrows (mput m ((k : Int) / 8) v') (mput d.step.fl ((k : Int) / 8) (Dev.seg d.read (k / 8))) * F))))) := h8.ac (by ac_rfl)
        refine ⟨W2, hrun, ?_, h9.cell 0 rfl, h9.cell 2 rfl⟩
        have hfl := step_fl d
        have hrd := step_read d
        refine dev_mk ?_ (by rw [hfl] at h9; exact h9)
        have hq := ok_flush hok1 (k / 8) (by rw [hrd]; have := HK.out; omega)
        have e : mput d.step.fl ((k / 8 : Nat) : Int) (Dev.seg d.step.read (k / 8)) = mput d.fl ((k : Int) / 8) (Dev.seg d.read (k / 8)) := by rw [hfl, hrd]; rfl
        rw [e] at hq
        exact hq
      have HU := Lib.hid hupd
      have hw : IntKind.i64.wrap ((k : Int) / 8) = (k : Int) / 8 := IntWalk.i64_in _ (by have := HK.out; omega)
      clear h2 hs hs2 ht hok1 hrd hsl hupd
      generalize d.read.length = n at *
      go_wp2_with fail
      go_region_held3 (fun W => W.cell? ⟨b, 0, none⟩ = some (.slice (some ⟨g, 0, none⟩) n c) ∧ W.cell? ⟨b, 2, none⟩ = some (.map (some mb)))
        (first | exact ⟨c0, c2⟩ | exact ⟨h3.right.cell 0 rfl, h3.right.cell 2 rfl⟩ | exact h6)
        ((first | (go_at_call 82; refine (clone64_calls _ _ _ HB8.out (HRD.out.drewN 1) (HS1.out)).mono ?_; rintro e w3 ⟨v', rfl, h3⟩) | ((with_reducible show Oper.upon _ _ _ _ _ _); obtain ⟨w4, hrun, h5, h6⟩ := HU.out w3 v' h3; rw [hrun]; simp only [Result.andThen_ok, Oper.upon_skip])))
      go_wp2_with fail
      go_ret
      rw [HF.out.1, HF.out.2]
      exact ⟨rfl, h5⟩
end
end Scul
