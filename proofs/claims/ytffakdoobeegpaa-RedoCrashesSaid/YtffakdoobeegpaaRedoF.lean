/- laid: a device of words, all sure, and the document's own beside it. -/
import Derived.Test.YtffakdoobeegpaaRefD
import Derived.Test.YtffakdoobeegpaaRedoM
import Derived.Test.YtffakdoobeegpaaNvmH
namespace Scul
open Go Go.Sl Go.RowKit Go.Proofs
namespace Dev
/-- i words are stored. -/
def laidSt (w : List Int) (i : Nat) : Dev := { new w.length with read := w.take i ++ List.replicate (w.length - i) 0, steps := i }
/-- j lines are flushed. -/
def laidFl (w : List Int) (j : Nat) : Dev := { new w.length with read := w, steps := w.length + j, fl := (List.range j).map fun k : Nat => ((k : Int), seg w k) }
/-- all is sure. -/
def laid (w : List Int) : Dev := ⟨w, w, [], (w.length + lines w.length + 1 : Nat), 0, false⟩
theorem wrap_small (k : Nat) (h : k < 100000) : wrap64 ((k : Int) + 1) = ((k + 1 : Nat) : Int) := by unfold wrap64; omega
theorem laidSt_zero (w : List Int) : laidSt w 0 = new w.length := by simp [laidSt, new]
theorem laidSt_len (w : List Int) (i : Nat) (h : i ≤ w.length) : (laidSt w i).read.length = w.length := by simp [laidSt]; omega
theorem laidSt_up (w : List Int) (i : Nat) : (laidSt w i).Up := ⟨rfl, rfl⟩
theorem laidFl_up (w : List Int) (i : Nat) : (laidFl w i).Up := ⟨rfl, rfl⟩
theorem laid_up (w : List Int) : (laid w).Up := ⟨rfl, rfl⟩
theorem laidSt_step (w : List Int) (i : Nat) (h : i < w.length) (hl : w.length ≤ 1000) : (laidSt w i).store i (w.getD i 0) = laidSt w (i + 1) := by
  have hb : (laidSt w i).isB (i : Int) = true := by
    unfold isB
    rw [laidSt_len w i (by omega)]
    simp [h]
  rw [store_up (laidSt_up w i), if_pos hb]
  have e1 : wrap64 ((laidSt w i).steps + 1) = ((i + 1 : Nat) : Int) := wrap_small i (by omega)
  rw [e1, Int.toNat_natCast]
  have e2 : (laidSt w i).read.set i (w.getD i 0) = (laidSt w (i + 1)).read := by
    show (w.take i ++ List.replicate (w.length - i) 0).set i (w.getD i 0) = w.take (i + 1) ++ List.replicate (w.length - (i + 1)) 0
    have hli : (w.take i).length = i := by simp; omega
    rw [show w.length - i = (w.length - (i + 1)) + 1 by omega, List.replicate_succ, List.set_append_right _ _ (by omega), hli, Nat.sub_self, List.set_cons_zero, List.take_succ_eq_append_getElem h, List.append_assoc]
    congr 1
    rw [List.getD_eq_getElem?_getD, List.getElem?_eq_getElem h]
    rfl
  rw [e2]
  rfl
theorem laidSt_all (w : List Int) : laidSt w w.length = laidFl w 0 := by simp [laidSt, laidFl, new]
theorem map_lookup (g : Nat → List Int) (ks : List Nat) (k : Nat) (h : k ∈ ks) : (ks.map fun k : Nat => ((k : Int), g k)).lookup (k : Int) = some (g k) := by
  induction ks with
  | nil => cases h
  | cons a ks ih =>
    rw [List.map_cons, List.lookup_cons]
    by_cases hk : k = a
    · subst hk
      simp
    · have : ((k : Int) == (a : Int)) = false := by rw [beq_eq_false_iff_ne]; omega
      rw [this]
      exact ih ((List.mem_cons.1 h).resolve_left hk)
theorem range_lookup (w : List Int) (j k : Nat) (h : k < j) : ((List.range j).map fun k : Nat => ((k : Int), seg w k)).lookup (k : Int) = some (seg w k) :=
  map_lookup _ _ _ (by simpa using h)
theorem laidFl_step (w : List Int) (j : Nat) (h : 8 * j < w.length) (hl : w.length ≤ 1000) : (laidFl w j).flush ((8 * j : Nat) : Int) = laidFl w (j + 1) := by
  have hb : (laidFl w j).isB ((8 * j : Nat) : Int) = true := by
    unfold isB
    rw [decide_eq_true_iff]
    show 0 ≤ _ ∧ _ < (w.length : Int)
    omega
  rw [flush_up (laidFl_up w j), if_pos hb]
  have e1 : wrap64 ((laidFl w j).steps + 1) = (w.length : Int) + ((j + 1 : Nat) : Int) := by
    show wrap64 ((w.length : Int) + (j : Int) + 1) = _
    unfold wrap64
    omega
  have e3 : ((8 * j : Nat) : Int) / 8 = (j : Int) := by omega
  rw [e1, e3, Int.toNat_natCast]
  have e2 : mput (laidFl w j).fl (j : Int) (seg (laidFl w j).read j) = (laidFl w (j + 1)).fl := by
    show mput ((List.range j).map fun k : Nat => ((k : Int), seg w k)) (j : Int) (seg w j) = (List.range (j + 1)).map fun k : Nat => ((k : Int), seg w k)
    unfold mput
    rw [if_neg, List.range_succ, List.map_append]
    · rfl
    · rw [List.map_map]
      intro hm
      obtain ⟨x, hx, hx2⟩ := List.mem_map.1 hm
      have hx2 : (x : Int) = j := hx2
      have := List.mem_range.1 hx
      omega
  rw [e2]
  rfl
theorem laidFl_fence (w : List Int) (hl : w.length ≤ 1000) : (laidFl w (lines w.length)).fence = laid w := by
  rw [fence_up (laidFl_up w _)]
  have e1 : wrap64 ((laidFl w (lines w.length)).steps + 1) = ((w.length + lines w.length + 1 : Nat) : Int) := by
    show wrap64 ((w.length : Int) + (lines w.length : Nat) + 1) = _
    have : lines w.length ≤ 1000 := by unfold lines; omega
    unfold wrap64
    omega
  rw [e1]
  have e2 : fenced (laidFl w (lines w.length)).sure (laidFl w (lines w.length)).fl = w := by
    show fenced (List.replicate w.length 0) ((List.range (lines w.length)).map fun k : Nat => ((k : Int), seg w k)) = w
    refine List.ext_getElem? fun i => ?_
    by_cases hi : i < w.length
    · rw [fenced_get _ _ _ (by simpa using hi), range_lookup w (lines w.length) (i / 8) (by unfold lines; omega)]
      show some ((seg w (i / 8)).getD (i % 8) 0) = _
      rw [seg_getD, List.getD_eq_getElem?_getD, List.getElem?_eq_getElem hi]
      rfl
    · rw [List.getElem?_eq_none (by rw [fenced_len]; simpa using hi), List.getElem?_eq_none (by omega)]
  rw [e2]
  rfl
end Dev
section
variable {E : Env} {w : World} {F : HP} {b : Nat} {d : Dev}
theorem ok_fence {d : Dev} (h : d.Ok) : d.fence.Ok := by
  have hs := ok_step h
  unfold Dev.fence
  split
  · exact hs
  · have h2 := ok_clear (ok_partF hs [])
    rw [partF_nil, step_sure, step_fl] at h2
    exact h2
theorem rfenceD_calls (w : World) (h : Sat E w (rdev b d * F)) :
    Calls Try.prog 89 #[.pointer (some ⟨b, 0, none⟩)] w fun e w' => e = .returned (.int .i64 d.fenceE) ∧ Sat E w' (rdev b d.fence * F) := rfence_calls w ok_fence h
theorem ok_flushD {d : Dev} (h : d.Ok) (a : Int) : (d.flush a).Ok := by
  have hs := ok_step h
  unfold Dev.flush
  split
  · rename_i hc
    have hb : 0 ≤ a ∧ a < (d.read.length : Int) := by have := hc.2; unfold Dev.isB at this; simpa using this
    have e : mput d.fl (a / 8) (Dev.seg d.read (a / 8).toNat) = mput d.step.fl (((a / 8).toNat : Nat) : Int) (Dev.seg d.step.read (a / 8).toNat) := by
      rw [step_read, step_fl, show (((a / 8).toNat : Nat) : Int) = a / 8 by omega]
    rw [e]
    exact ok_flush hs (a / 8).toNat (by rw [step_read]; omega)
  · exact hs
theorem rflush2_calls (w : World) (a : Int) (h : Sat E w (rdev b d * F)) :
    Calls Try.prog 88 #[.pointer (some ⟨b, 0, none⟩), .int .i64 a] w fun e w' => e = .returned (.int .i64 (d.flushE a)) ∧ Sat E w' (rdev b (d.flush a) * F) := rflushD_calls w a (fun h => ok_flushD h a) h
set_option maxRecDepth 100000 in
set_option maxHeartbeats 4000000 in
theorem laid_calls (w : World) (l : List Int) (ao : Option Addr) (c : Nat) (hl : l.length ≤ 1000) (hU : ∀ x ∈ l, U64 x) (hE : ∀ W, Sat E W F → Rd W 1 (.slice ao l.length c) l.length (u64s l)) (h : Sat E w F) :
    Calls Try.prog 43 #[.slice ao l.length c] w fun e w' => ∃ b r, e = .returned (.tuple #[.pointer (some ⟨b, 0, none⟩), .pointer (some ⟨r, 0, none⟩)]) ∧ Sat E w' (dev b (Dev.laid l) * (rdev r (Dev.laid l) * F)) := by
  have HE := Lib.hid hE
  clear hE
  go_enter Try.func43, Try.ntmps43
  go_wp2_with fail
  refine (new_nat _ l.length (by omega) h).mono ?_
  rintro e w1 ⟨b, rfl, h1⟩
  go_wp2_with fail
  refine (rnew_calls _ l.length (by omega) h1).mono ?_
  rintro e w2 ⟨r, rfl, h2⟩
  rw [← Dev.laidSt_zero] at h2
  go_wp2_with fail
  go_loopw [17] (fun iv wr => ∃ i : Nat, i ≤ l.length ∧ iv = .int .i64 i ∧ Sat E wr (rdev r (Dev.laidSt l i) * (dev b (Dev.laidSt l i) * F))) (fun iv _ => l.length - (intOf iv).toNat)
  case atStart => exact ⟨0, Nat.zero_le _, rfl, h2⟩
  case round =>
    clear h h1 h2
    obtain ⟨i, hi, rfl, hw⟩ := hrel
    by_cases hlt : i < l.length
    · have hrd := HE.out _ hw.right.right
      obtain ⟨bb, o, rfl, _⟩ := Rd.at hrd (by omega)
      have ci := Rd.nth hrd i hlt
      have hx : U64 (l.getD i 0) := by
        rw [List.getD_eq_getElem?_getD, List.getElem?_eq_getElem hlt]
        exact hU _ (List.getElem_mem hlt)
      have HST := Lib.hid (Dev.laidSt_step l i hlt hl)
      obtain ⟨x, hxx⟩ : ∃ x, x = l.getD i 0 := ⟨_, rfl⟩
      rw [← hxx] at ci hx HST
      clear hxx hrd
      go_wp2_with fail
      refine (store_calls _ _ _ hx (Sat.swap hw)).mono ?_
      rintro e w3 ⟨rfl, h3⟩
      rw [HST.out] at h3
      go_wp2_with fail
      refine (rstore_calls _ _ _ hx (Sat.swap h3)).mono ?_
      rintro e w4 ⟨rfl, h4⟩
      rw [HST.out] at h4
      go_wp2_with fail
      exact ⟨⟨i + 1, by omega, rfl, h4⟩, by simp only [intOf]; omega⟩
    · obtain rfl : i = l.length := by omega
      rw [Dev.laidSt_all] at hw
      go_wp2_with fail
      go_loopw [8] (fun iv wr => ∃ i : Nat, 8 * i < l.length + 8 ∧ iv = .int .i64 (8 * i : Nat) ∧ Sat E wr (rdev r (Dev.laidFl l i) * (dev b (Dev.laidFl l i) * F))) (fun iv _ => l.length - (intOf iv).toNat)
      case atStart => exact ⟨0, by omega, rfl, hw⟩
      case round =>
        clear hw hlt hi
        obtain ⟨i, hi, rfl, hw⟩ := hrel
        obtain ⟨at_, hat⟩ : ∃ x, x = 8 * i := ⟨_, rfl⟩
        rw [← hat]
        by_cases hlt : at_ < l.length
        · have HST := Lib.hid (Dev.laidFl_step l i (by omega) hl)
          rw [← hat] at HST
          have HAT := Lib.hid hat
          have hww : wrap64 ((at_ : Int) + 8) = (at_ : Int) + 8 := by unfold wrap64; omega
          have HNX := Lib.hid (show 8 * (i + 1) < l.length + 8 by omega)
          have hlti : (at_ : Int) < l.length := by omega
          clear hat hi
          go_wp2_with fail
          refine (flush_calls _ _ (Sat.swap hw)).mono ?_
          rintro e w3 ⟨rfl, h3⟩
          rw [HST.out] at h3
          go_wp2_with fail
          refine (rflush2_calls _ _ (Sat.swap h3)).mono ?_
          rintro e w4 ⟨rfl, h4⟩
          rw [HST.out] at h4
          go_wp2_with fail
          exact ⟨⟨i + 1, HNX.out, by rw [HAT.out]; congr 1 <;> omega, h4⟩, by simp only [intOf]; omega⟩
        · have hge : ¬ (at_ : Int) < l.length := by omega
          obtain rfl : i = Dev.lines l.length := by unfold Dev.lines; omega
          have HFE := Lib.hid (Dev.laidFl_fence l hl)
          clear hat hi
          go_wp2_with fail
          refine (fence_calls _ (Sat.swap hw)).mono ?_
          rintro e w3 ⟨rfl, h3⟩
          rw [HFE.out] at h3
          go_wp2_with fail
          refine (rfenceD_calls _ (Sat.swap h3)).mono ?_
          rintro e w4 ⟨rfl, h4⟩
          rw [HFE.out] at h4
          go_wp2_with fail
          go_ret2
          exact ⟨_, _, rfl, Sat.swap h4⟩
end
end Scul
