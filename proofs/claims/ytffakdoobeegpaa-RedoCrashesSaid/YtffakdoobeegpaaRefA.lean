/- The document's own device (scullionref3.Device): the same plain device, laid out in lines. step, is, end. -/
import Derived.Test.YtffakdoobeegpaaNvmK
import Derived.Test.YtffakdoobeegpaaNvmL
namespace Scul
open Go Go.Sl Go.RowKit Go.Proofs
section
variable {E : Env} {w : World} {F : HP} {b : Nat} {d : Dev}
/-- Rows of words, each with its slice. -/
def bag : List (Value × List Int) → HP
  | [] => emp
  | p :: r => words p.1 p.2 * bag r
theorem bag_rd {w : World} {o : List (Value × List Int)} {F : HP} (h : Sat E w (bag o * F)) {p : Value × List Int} (hp : p ∈ o) : Rd w 1 p.1 p.2.length (u64s p.2) := by
  induction o generalizing F with
  | nil => cases hp
  | cons q r ih =>
    have h2 : Sat E w (words q.1 q.2 * (bag r * F)) := h.ac (by show _ = words q.1 q.2 * bag r * F; ac_rfl)
    rcases List.mem_cons.1 hp with rfl | hp
    · exact h2.rd
    · exact ih h2.right hp
theorem bag_push {w : World} {v : Value} {l : List Int} {o : List (Value × List Int)} {F : HP} (h : Sat E w (words v l * (bag o * F))) : Sat E w (bag ((v, l) :: o) * F) :=
  h.ac (by show words v l * bag o * F = _; ac_rfl)

/-- A line: the slices of what it holds now, what is sure, what was flushed; whether it was flushed. -/
structure RL where
  nv : Value
  sv : Value
  av : Value
  f : Bool
def RL.cells (L : RL) : List Value := [L.nv, L.sv, L.av, .bool L.f]
def rlCells (l : List RL) : List Value := l.flatMap RL.cells
theorem rlCells_at (l : List RL) (k j : Nat) (L : RL) (hk : l[k]? = some L) (hj : j < 4) : (rlCells l)[k * 4 + j]? = L.cells[j]? := by
  induction l generalizing k with
  | nil => simp at hk
  | cons c l ih =>
    show (c.cells ++ rlCells l)[k * 4 + j]? = _
    cases k with
    | zero =>
      simp at hk
      subst hk
      rw [List.getElem?_append_left (by simp [RL.cells]; omega)]
      simp
    | succ k =>
      rw [List.getElem?_append_right (by simp [RL.cells]; omega)]
      have : (k + 1) * 4 + j - c.cells.length = k * 4 + j := by simp [RL.cells]; omega
      rw [this, ih k (by simpa using hk)]
def LineOk (d : Dev) (o : List (Value × List Int)) (k : Nat) (L : RL) : Prop :=
  (L.nv, Dev.seg d.read k) ∈ o ∧ (L.sv, Dev.seg d.sure k) ∈ o ∧ (∃ a n c, L.av = .slice a n c) ∧
    (match d.fl.lookup (k : Int) with | some ws => L.f = true ∧ (L.av, ws) ∈ o | none => L.f = false)
structure RAt where
  lv : Value
  Ls : List RL
  o : List (Value × List Int)
def rcells (lv : Value) (d : Dev) : Array Value := #[.int .i64 d.read.length, lv, .int .i64 d.steps, .int .i64 d.fuse, .bool d.down]
def RAt.Ok (q : RAt) (d : Dev) : Prop := d.Ok ∧ q.Ls.length = Dev.lines d.read.length ∧ ∀ k L, q.Ls[k]? = some L → LineOk d q.o k L
def rdev (b : Nat) (d : Dev) : HP := ex fun q : RAt => lift (q.Ok d) * (pt b (.cells (rcells q.lv d) 90) * (row 152 4 q.lv q.Ls.length (rlCells q.Ls) * bag q.o))
theorem rdev_open (h : Sat E w (rdev b d * F)) : ∃ q : RAt, q.Ok d ∧ Sat E w (pt b (.cells (rcells q.lv d) 90) * (row 152 4 q.lv q.Ls.length (rlCells q.Ls) * (bag q.o * F))) := by
  obtain ⟨q, h2⟩ := Sat.exl h
  rw [sep_assoc] at h2
  obtain ⟨hq, h3⟩ := h2.pure
  exact ⟨q, hq, h3.ac (by ac_rfl)⟩
theorem rdev_mk (q : RAt) (hq : q.Ok d) (h : Sat E w (pt b (.cells (rcells q.lv d) 90) * (row 152 4 q.lv q.Ls.length (rlCells q.Ls) * (bag q.o * F)))) : Sat E w (rdev b d * F) := by
  refine Sat.mkExl q ?_
  rw [sep_assoc]
  exact Sat.mkPure hq (h.ac (by ac_rfl))

theorem lineOk_step {o : List (Value × List Int)} {k : Nat} {L : RL} (h : LineOk d o k L) : LineOk d.step o k L := by
  unfold Dev.step
  split
  · exact h
  · split <;> exact h

set_option maxRecDepth 100000 in
set_option maxHeartbeats 2000000 in
theorem rstep_calls (w : World) (h : Sat E w (rdev b d * F)) :
    Calls Try.prog 122 #[.pointer (some ⟨b, 0, none⟩)] w fun e w' => e = .returned (.tuple #[.int .i64 (if d.down then 7 else 0), .bool (!d.down && d.step.down)]) ∧ Sat E w' (rdev b d.step * F) := by
  obtain ⟨q, hq, hs⟩ := rdev_open h
  have hfz := hq.1.fuse
  have c2 : w.cell? ⟨b, 2, none⟩ = some (.int .i64 d.steps) := hs.cell 2 rfl
  have c3 : w.cell? ⟨b, 3, none⟩ = some (.int .i64 d.fuse) := hs.cell 3 rfl
  have c4 : w.cell? ⟨b, 4, none⟩ = some (.bool d.down) := hs.cell 4 rfl
  have f2 := hs.free 2
  have f3 := hs.free 3
  have f4 := hs.free 4
  have HQ := Lib.hid hq
  have HS := Lib.hid hs
  clear h hq hs
  cases hd : d.down with
  | true =>
    rw [hd] at c4
    have hfin : Sat E (w.setCell ⟨b, 2, none⟩ (.int .i64 (wrap64 (d.steps + 1)))) (rdev b d.step * F) := by
      refine rdev_mk q ⟨ok_step HQ.out.1, ?_, fun k L hL => lineOk_step (HQ.out.2.2 k L hL)⟩ ?_
      · unfold Dev.step; rw [if_pos hd]; exact HQ.out.2.1
      · have := HS.out.setCell (i := 2) (v := .int .i64 (wrap64 (d.steps + 1)))
        unfold Dev.step
        rw [if_pos hd]
        exact this
    have HF := Lib.hid hfin
    clear hfin
    go_enter Try.func122, Try.ntmps122
    go_wp2_with fail
    go_ret2
    exact ⟨rfl, HF.out⟩
  | false =>
    rw [hd] at c4
    obtain ⟨fu, hfu⟩ : ∃ fu, fu = d.fuse := ⟨_, rfl⟩
    rw [← hfu] at c3
    have hst : d.step = { d with steps := wrap64 (d.steps + 1), fuse := if 0 < fu then fu - 1 else 0, down := fu == 1 } := by
      unfold Dev.step
      rw [if_neg (by simp [hd]), ← hfu]
      by_cases h0 : 0 < fu
      · rw [if_pos h0, if_pos h0]
        have : (fu - 1 == 0) = (fu == 1) := by rw [Bool.eq_iff_iff, beq_iff_eq, beq_iff_eq]; omega
        rw [this]
      · rw [if_neg h0, if_neg h0]
        have h1 : (fu == 1) = false := by rw [beq_eq_false_iff_ne]; omega
        have h2 : fu = 0 := by rw [hfu] at h0 ⊢; omega
        rw [h1, ← hd, ← h2, hfu]
    have hdn : d.step.down = (fu == 1) := by rw [hst]
    have hfin : Sat E (((w.setCell ⟨b, 2, none⟩ (.int .i64 (wrap64 (d.steps + 1)))).setCell ⟨b, 3, none⟩ (.int .i64 (if 0 < fu then fu - 1 else 0))).setCell ⟨b, 4, none⟩ (.bool (fu == 1))) (rdev b d.step * F) := by
      refine rdev_mk q ⟨ok_step HQ.out.1, ?_, fun k L hL => lineOk_step (HQ.out.2.2 k L hL)⟩ ?_
      · rw [hst]; exact HQ.out.2.1
      · rw [hst]
        exact HS.out.setCell.setCell.setCell
    rw [hdn]
    have hf0 : 0 ≤ fu := by rw [hfu]; exact hfz.1
    have HF := Lib.hid hfin
    have hf9 : fu ≤ 9223372036854775807 := by rw [hfu]; exact hfz.2
    clear hfin hst hdn hfz
    rcases (show fu = 0 ∨ fu = 1 ∨ 1 < fu from by omega) with q0 | q0 | q0
    · have e1 : (fu == 1) = false := by rw [beq_eq_false_iff_ne]; omega
      rw [e1, q0] at HF
      rw [e1]
      rw [q0] at c3
      clear hf0 q0 hfu hf9
      go_enter Try.func122, Try.ntmps122
      go_wp2_with fail
      go_ret2
      exact ⟨rfl, HF.out⟩
    · rw [q0] at HF c3 ⊢
      clear hf0 q0 hfu hf9
      go_enter Try.func122, Try.ntmps122
      go_wp2_with fail
      go_ret2
      exact ⟨rfl, HF.out⟩
    · have e1 : (fu == 1) = false := by rw [beq_eq_false_iff_ne]; omega
      rw [e1, if_pos (by omega)] at HF
      rw [e1]
      have hw : wrap64 (fu - 1) = fu - 1 := by unfold wrap64; omega
      have hp : 0 < fu - 1 := by omega
      clear hfu hf9 q0 hf0
      go_enter Try.func122, Try.ntmps122
      go_wp2_with fail
      go_ret2
      exact ⟨rfl, HF.out⟩
theorem rstep_down (w : World) (hd : d.down = true) (h : Sat E w (rdev b d * F)) :
    Calls Try.prog 122 #[.pointer (some ⟨b, 0, none⟩)] w fun e w' => e = .returned (.tuple #[.int .i64 7, .bool false]) ∧ Sat E w' (rdev b d.step * F) := by
  have := rstep_calls w h
  rw [hd] at this
  exact this
theorem rstep_up (w : World) (hd : d.down = false) (h : Sat E w (rdev b d * F)) :
    Calls Try.prog 122 #[.pointer (some ⟨b, 0, none⟩)] w fun e w' => e = .returned (.tuple #[.int .i64 0, .bool d.step.down]) ∧ Sat E w' (rdev b d.step * F) := by
  have := rstep_calls w h
  rw [hd] at this
  exact this
theorem ris_calls (w : World) (a : Int) (h : Sat E w (rdev b d * F)) :
    Calls Try.prog 113 #[.pointer (some ⟨b, 0, none⟩), .int .i64 a] w fun e w' => e = .returned (.bool (d.isB a)) ∧ w' = w := by
  obtain ⟨q, hq, hs⟩ := rdev_open h
  have c0 : w.cell? ⟨b, 0, none⟩ = some (.int .i64 d.read.length) := hs.cell 0 rfl
  have HB : Hid (d.isB a = (decide (0 ≤ a) && decide (a < (d.read.length : Int)))) := by
    show _ = _
    unfold Dev.isB
    rw [Bool.eq_iff_iff]
    simp only [decide_eq_true_iff, Bool.and_eq_true]
  clear h hq hs
  go_enter Try.func113, Try.ntmps113
  go_wp2_with fail
  all_goals
    go_ret
    exact ⟨by rw [HB.out]; simp [*] <;> (intros; omega), rfl⟩
theorem rend_calls (w : World) (e : Int) (l : Bool) :
    Calls Try.prog 123 #[.int .i64 e, .bool l] w fun r w' => r = .returned (.int .i64 (if l then 7 else e)) ∧ w' = w := by
  cases l with
  | true =>
    go_enter Try.func123, Try.ntmps123
    go_wp2_with fail
    go_ret
    exact ⟨rfl, rfl⟩
  | false =>
    go_enter Try.func123, Try.ntmps123
    go_wp2_with fail
    go_ret
    exact ⟨rfl, rfl⟩
theorem row_at {W : World} {e : TypeId} {size : Nat} {v : Value} {n : Nat} {cs : List Value} {R : HP} (h : Sat E W (row e size v n cs * R)) (h0 : 0 < n) : ∃ g c, v = .slice (some ⟨g, 0, none⟩) n c := by
  obtain ⟨_, ⟨_, h1, _⟩ | ⟨g, cap, cur, hv, _⟩⟩ := h.row_cases
  · omega
  · exact ⟨g, cap, hv⟩
end
namespace Dev
theorem seg_set (l : List Int) (a k : Nat) (x : Int) : seg (l.set a x) k = if a / 8 = k then (seg l k).set (a % 8) x else seg l k := by
  refine List.ext_getElem? fun j => ?_
  by_cases hj : j < 8
  · rw [seg_get _ _ _ hj]
    by_cases hk : a / 8 = k
    · rw [if_pos hk]
      by_cases hja : j = a % 8
      · have e : 8 * k + j = a := by omega
        rw [e, hja]
        by_cases hl : a < l.length
        · rw [List.getElem?_set_self hl, List.getElem?_set_self (by rw [seg_length]; omega)]
        · rw [List.getElem?_eq_none (by simp; omega), List.getElem?_eq_none (by rw [List.length_set, seg_length]; omega)]
      · rw [List.getElem?_set_ne (by omega), List.getElem?_set_ne (by omega), seg_get _ _ _ hj]
    · rw [if_neg hk, List.getElem?_set_ne (by omega), seg_get _ _ _ hj]
  · have h1 := seg_length (l.set a x) k
    rw [List.getElem?_eq_none (by omega)]
    split
    · rw [List.getElem?_eq_none (by rw [List.length_set, seg_length]; omega)]
    · rw [List.getElem?_eq_none (by rw [seg_length]; omega)]
end Dev
end Scul
