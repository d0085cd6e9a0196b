/- The device in memory: the resource 'dev b d' (block b is a device that reads as d), its parts, and the contracts of the functions that only look. -/
import Derived.Test.YtffakdoobeegpaaProg
import Derived.Test.YtffakdoobeegpaaNvmM
import Derived.Lib.Hide
import Derived.BigQuiet
import Derived.Deep.QuietTactic
namespace Scul
open Go Go.Sl Go.RowKit Go.Proofs

theorem ret_int {k : IntKind} {a b : Int} (h : a = b) : Ending.returned (.int k a) = .returned (.int k b) := by rw [h]
theorem ret2_int {k k' : IntKind} {a b c d : Int} (h : a = b) (h' : c = d) : Ending.returned (.tuple #[.int k a, .int k' c]) = .returned (.tuple #[.int k b, .int k' d]) := by rw [h, h']
theorem ret_bool {a b : Bool} (h : a = b) : Ending.returned (.bool a) = .returned (.bool b) := by rw [h]
def u64s (l : List Int) : List Value := l.map (Value.int .u64)
def words (v : Value) (l : List Int) : HP := row 27 1 v l.length (u64s l)
theorem words_def (v : Value) (l : List Int) : words v l = row 27 1 v l.length (u64s l) := rfl
theorem st64 : SliceT Try.prog 23 27 1 8 (.int .u64 0) := .mk' Try.underlying23 (by kernel_rfl) rfl
theorem u64s_one (l : List Int) : ∀ u ∈ u64s l, u.oneCell' = true := ints_oneCell _ _

/-- The flushed lines' slices. -/
def flrows : List (Int × Value) → List (Int × List Int) → HP
  | [], [] => emp
  | p :: m, q :: fl => lift (p.1 = q.1) * (words p.2 q.2 * flrows m fl)
  | _, _ => lift False

def devCells (rv sv : Value) (mb : Nat) (d : Dev) : Array Value := #[rv, sv, .map (some mb), .int .i64 d.steps, .int .i64 d.fuse, .bool d.down]
structure DevAt where
  rv : Value
  sv : Value
  mb : Nat
  m : List (Int × Value)
def dev (b : Nat) (d : Dev) : HP := ex fun q : DevAt => lift d.Ok * (pt b (.cells (devCells q.rv q.sv q.mb d) 117) * (words q.rv d.read * (words q.sv d.sure * (imap q.mb q.m * flrows q.m d.fl))))

section
variable {E : Env} {w : World} {F : HP} {b : Nat} {d : Dev}
theorem dev_open (h : Sat E w (dev b d * F)) : ∃ rv sv mb m, d.Ok ∧ Sat E w (pt b (.cells (devCells rv sv mb d) 117) * (words rv d.read * (words sv d.sure * (imap mb m * (flrows m d.fl * F))))) := by
  obtain ⟨q, h⟩ := h.exl
  rw [sep_assoc] at h
  obtain ⟨hok, h⟩ := h.pure
  exact ⟨q.rv, q.sv, q.mb, q.m, hok, by simpa only [sep_assoc] using h⟩
theorem dev_mk {rv sv : Value} {mb : Nat} {m : List (Int × Value)} (hok : d.Ok) (h : Sat E w (pt b (.cells (devCells rv sv mb d) 117) * (words rv d.read * (words sv d.sure * (imap mb m * (flrows m d.fl * F)))))) : Sat E w (dev b d * F) := by
  refine Sat.mkExl (⟨rv, sv, mb, m⟩ : DevAt) ?_
  rw [sep_assoc]
  refine Sat.mkPure hok ?_
  simpa only [sep_assoc] using h
theorem dev_ok (h : Sat E w (dev b d * F)) : d.Ok := by obtain ⟨_, _, _, _, h, _⟩ := dev_open h; exact h
/-- A row's value, taken apart. -/
theorem words_val {v : Value} {l : List Int} (h : Sat E w (words v l * F)) : ∃ ao c, v = .slice ao l.length c ∧ l.length ≤ c ∧ (ao = none → l = []) := by
  obtain ⟨ao, c, hv, h1, _, h3⟩ := h.row_val
  exact ⟨ao, c, hv, h1, fun h => List.eq_nil_of_length_eq_zero (h3 h).1⟩
theorem words_cell {g c : Nat} {l : List Int} (h : Sat E w (words (.slice (some ⟨g, 0, none⟩) l.length c) l * F)) (i : Nat) (hi : i < l.length) : w.cell? ⟨g, i, none⟩ = some (.int .u64 (l.getD i 0)) := by
  refine h.row_cell i ?_
  simp [u64s, hi]
/-- Where there is a word there is an array. -/
theorem words_at {v : Value} {l : List Int} (h : Sat E w (words v l * F)) (i : Nat) (hi : i < l.length) : ∃ g c, v = .slice (some ⟨g, 0, none⟩) l.length c ∧ l.length ≤ c := by
  obtain ⟨_, ⟨_, h0, _⟩ | ⟨g, cap, cur, hv, hn, _⟩⟩ := h.row_cases
  · omega
  · exact ⟨g, cap, hv, hn⟩

theorem ok_step {d : Dev} (h : d.Ok) : d.step.Ok := by
  unfold Dev.step
  split
  · exact ⟨h.len, h.most, h.rd, h.sr, h.keys, h.fl, h.fuse⟩
  · split
    · exact ⟨h.len, h.most, h.rd, h.sr, h.keys, h.fl, ⟨by have := h.fuse; simp; omega, by have := h.fuse; simp; omega⟩⟩
    · exact ⟨h.len, h.most, h.rd, h.sr, h.keys, h.fl, h.fuse⟩
theorem step_read (d : Dev) : d.step.read = d.read := by unfold Dev.step; split <;> (try split) <;> rfl
theorem step_sure (d : Dev) : d.step.sure = d.sure := by unfold Dev.step; split <;> (try split) <;> rfl
theorem step_fl (d : Dev) : d.step.fl = d.fl := by unfold Dev.step; split <;> (try split) <;> rfl
theorem step_down {d : Dev} (h : d.down = true) : d.step.down = true := by unfold Dev.step; rw [if_pos h]; exact h

set_option maxHeartbeats 400000 in
theorem step_calls (w : World) (h : Sat E w (dev b d * F)) :
    Calls Try.prog 79 #[.pointer (some ⟨b, 0, none⟩)] w fun e w' => e = .returned (.tuple #[.bool d.down, .bool (!d.down && d.step.down)]) ∧ Sat E w' (dev b d.step * F) := by
  obtain ⟨rv, sv, mb, m, hok, hs⟩ := dev_open h
  have hok' := ok_step hok
  have hfu := hok.fuse
  obtain ⟨read, sure, fl, steps, fuse, down⟩ := d
  simp only at hfu hs ⊢
  have c3 : w.cell? ⟨b, 3, none⟩ = some (.int .i64 steps) := hs.cell 3 rfl
  have c4 : w.cell? ⟨b, 4, none⟩ = some (.int .i64 fuse) := hs.cell 4 rfl
  have c5 : w.cell? ⟨b, 5, none⟩ = some (.bool down) := hs.cell 5 rfl
  have f3 := hs.free 3
  have f4 := hs.free 4
  have f5 := hs.free 5
  have HOK := Lib.hid hok'; clear hok' hok
  cases down with
  | true =>
    go_enter Try.func79, Try.ntmps79
    go_wp2
    go_ret2
    exact ⟨rfl, dev_mk HOK.out hs.setCell⟩
  | false =>
    by_cases hf : 0 < fuse
    · obtain ⟨dn, hdn⟩ : ∃ dn, dn = (fuse - 1 == 0) := ⟨_, rfl⟩
      have HS : Hid (Dev.step ⟨read, sure, fl, steps, fuse, false⟩ = ⟨read, sure, fl, wrap64 (steps + 1), fuse - 1, dn⟩) := by
        show _ = _
        simp [Dev.step, hf, hdn]
      have hdn' := hdn.symm
      clear hdn
      go_enter Try.func79, Try.ntmps79
      go_wp2
      clear c3 c4 c5 f3 f4 f5
      refine atSat (pt b (.cells #[rv, sv, .map (some mb), .int .i64 (wrap64 (steps + 1)), .int .i64 (fuse - 1), .bool dn] 117) * (words rv read * (words sv sure * (imap mb m * (flrows m fl * F))))) hs.setCell.setCell.setCell fun W hW => ?_
      have c5 : W.cell? ⟨b, 5, none⟩ = some (.bool dn) := hW.cell 5 rfl
      go_quiet (fail)
      go_wp2
      go_ret2
      have hfin := HOK.out
      rw [HS.out] at hfin ⊢
      exact ⟨by simp, dev_mk hfin hW⟩
    · have HS : Hid (Dev.step ⟨read, sure, fl, steps, fuse, false⟩ = ⟨read, sure, fl, wrap64 (steps + 1), fuse, false⟩) := by
        show _ = _
        simp [Dev.step, hf]
      go_enter Try.func79, Try.ntmps79
      go_wp2
      go_quiet (fail)
      go_wp2
      go_ret2
      have hfin := HOK.out
      rw [HS.out] at hfin ⊢
      exact ⟨by simp, dev_mk hfin hs.setCell⟩
end
end Scul
