/- Device of words; a slice of calls that came in; do2. -/
import Derived.Test.YtffakdoobeegpaaNvmJ
import Derived.Test.YtffakdoobeegpaaArgs
namespace Scul
open Go Go.Sl Go.RowKit Go.Proofs
section
variable {E : Env} {w : World} {F : HP} {b : Nat} {d : Dev}

/-- What reads in the first world reads in each one that keeps it. -/
theorem Rd.old {w W : World} {E : Env} {size n : Nat} {v : Value} {cs : List Value} (h : Rd w size v n cs) (hs : Sat E W (old w)) : Rd W size v n cs := by
  refine h.mono fun a u ha => ?_
  have hb := World.block_lt_of_cell? w a ha
  unfold World.cell? at ha ⊢
  rw [hs.ofOld hb]
  exact ha
theorem Rd.take {w : World} {size n c : Nat} {ao : Option Addr} {cs : List Value} (h : Rd w size (.slice ao n c) n cs) (k : Nat) (hk : k ≤ n) : Rd w size (.slice ao k c) k (cs.take (k * size)) := by
  obtain ⟨h1, h2, h3⟩ := h
  have hm : k * size ≤ n * size := Nat.mul_le_mul_right _ hk
  refine ⟨by rw [List.length_take, h1]; omega, by omega, ?_⟩
  rcases h3 with ⟨h0, ao', c', hv, hc⟩ | ⟨b, o, c', hv, hn, hc⟩
  · left
    simp only [Value.slice.injEq] at hv
    obtain ⟨rfl, _, rfl⟩ := hv
    have : k = 0 := by omega
    subst this
    exact ⟨rfl, _, _, rfl, hc⟩
  · right
    simp only [Value.slice.injEq, true_and] at hv
    obtain ⟨rfl, rfl⟩ := hv
    refine ⟨b, o, c, rfl, by omega, fun j u hu => hc j u ?_⟩
    rw [List.getElem?_take] at hu
    split at hu
    · exact hu
    · cases hu

theorem u64s_take (l : List Int) (k : Nat) : u64s (l.take k) = (u64s l).take k := by simp [u64s]
theorem u64s_length (l : List Int) : (u64s l).length = l.length := by simp [u64s]

theorem Sat.mid {w : World} {A B C : HP} (h : Sat E w (A * (B * C))) : Sat E w (A * C) := by
  rw [sep_left_comm] at h
  exact h.right
theorem Sat.swap {w : World} {A B C : HP} (h : Sat E w (A * (B * C))) : Sat E w (B * (A * C)) := by
  rw [sep_left_comm]
  exact h
theorem words_push {w : World} {v : Value} {l : List Int} {x : Int} {R : HP} (h : Sat E w (row 27 1 v (l.length + 1) (u64s l ++ [.int .u64 x]) * R)) : Sat E w (words v (l ++ [x]) * R) := by
  have e1 : (l ++ [x]).length = l.length + 1 := by simp
  have e2 : u64s (l ++ [x]) = u64s l ++ [.int .u64 x] := by simp [u64s]
  rw [words_def, e1, e2]
  exact h
/-- A word of a row is stored into. -/
theorem words_set {w : World} {g c : Nat} {l : List Int} {R : HP} (h : Sat E w (words (.slice (some ⟨g, 0, none⟩) l.length c) l * R)) (i : Nat) (x : Int) (hi : i < l.length) :
    Sat E (w.setCell ⟨g, i, none⟩ (.int .u64 x)) (words (.slice (some ⟨g, 0, none⟩) l.length c) (l.set i x) * R) := by
  have h2 := h.row_set i (.int .u64 x) (by omega)
  have e : u64s (l.set i x) = (u64s l).set i (.int .u64 x) := by simp [u64s]
  rw [words_def, e, List.length_set]
  exact h2
theorem words_free {w : World} {g c : Nat} {l : List Int} {R : HP} (h : Sat E w (words (.slice (some ⟨g, 0, none⟩) l.length c) l * R)) (i : Nat) : w.frozen? ⟨g, i, none⟩ = false := h.row_free i
/-- A copy of words, one cell of it at hand. -/
theorem app_tail {w : World} {v : Value} {m : List Int} {R : HP} (h : Sat E w (row 27 1 v (0 + m.length) ([] ++ u64s m) * R)) (j : Nat) (x : Int) (hj : j < m.length) :
    ∃ g c, v = .slice (some ⟨g, 0, none⟩) m.length c ∧ w.cell? ⟨g, j, none⟩ = some (.int .u64 (m.getD j 0)) ∧ w.frozen? ⟨g, j, none⟩ = false ∧ (j : Int) < m.length ∧
      Hid (Sat E (w.setCell ⟨g, j, none⟩ (.int .u64 x)) (words (.slice (some ⟨g, 0, none⟩) m.length c) (m.set j x) * R)) := by
  have h9 : Sat E w (words v m * R) := by simpa [words_def] using h
  obtain ⟨g, c, rfl, _⟩ := words_at h9 j hj
  exact ⟨g, c, rfl, words_cell h9 j hj, words_free h9 j, by omega, words_set h9 j x hj⟩
/-- A call that came in: what to do, where, a word, picks (a slice). -/
structure CallA where
  act : Int
  at_ : Int
  word : Int
  picks : Value
def CallA.cells (c : CallA) : List Value := [.int .i64 c.act, .int .i64 c.at_, .int .u64 c.word, c.picks]
def callCells (l : List CallA) : List Value := l.flatMap CallA.cells
theorem callCells_length (l : List CallA) : (callCells l).length = l.length * 4 := by
  induction l with
  | nil => rfl
  | cons c l ih => simp [callCells, CallA.cells] at ih ⊢; omega
theorem callCells_at (l : List CallA) (k j : Nat) (hk : k < l.length) (hj : j < 4) : (callCells l)[4 * k + j]? = (CallA.cells l[k])[j]? := by
  induction l generalizing k with
  | nil => simp at hk
  | cons c l ih =>
    show (c.cells ++ callCells l)[4 * k + j]? = _
    cases k with
    | zero =>
      rw [List.getElem?_append_left (by simp [CallA.cells]; omega)]
      simp
    | succ k =>
      rw [List.getElem?_append_right (by simp [CallA.cells]; omega)]
      have : 4 * (k + 1) + j - c.cells.length = 4 * k + j := by simp [CallA.cells]; omega
      rw [this, ih k (by simpa using hk)]
      simp
/-- The slice reads as these calls. -/
def RdC (w : World) (v : Value) (l : List CallA) : Prop := Rd w 4 v l.length (callCells l) ∧ (∀ c ∈ l, U64 c.word) ∧ ∀ c ∈ l, ∃ a n k, c.picks = .slice a n k
theorem RdC.old {w W : World} {E : Env} {v : Value} {l : List CallA} (h : RdC w v l) (hs : Sat E W (old w)) : RdC W v l := ⟨Rd.old h.1 hs, h.2⟩
theorem RdC.nth {w : World} {ao : Option Addr} {c : Nat} {l : List CallA} (h : RdC w (.slice ao l.length c) l) (k : Nat) (hk : k < l.length) :
    ∃ bb o, ao = some ⟨bb, o, none⟩ ∧ w.cell? ⟨bb, o + k * 4, none⟩ = some (.int .i64 l[k].act) ∧ w.cell? ⟨bb, o + k * 4 + 1, none⟩ = some (.int .i64 l[k].at_) ∧
      w.cell? ⟨bb, o + k * 4 + 2, none⟩ = some (.int .u64 l[k].word) ∧ w.cell? ⟨bb, o + k * 4 + 3, none⟩ = some l[k].picks := by
  obtain ⟨bb, o, rfl, hc⟩ := Rd.at h.1 (by omega)
  refine ⟨bb, o, rfl, ?_, ?_, ?_, ?_⟩
  · have := hc (4 * k + 0) _ (by rw [callCells_at l k 0 hk (by omega)]; rfl)
    rwa [show o + (4 * k + 0) = o + k * 4 by omega] at this
  · have := hc (4 * k + 1) _ (by rw [callCells_at l k 1 hk (by omega)]; rfl)
    rwa [show o + (4 * k + 1) = o + k * 4 + 1 by omega] at this
  · have := hc (4 * k + 2) _ (by rw [callCells_at l k 2 hk (by omega)]; rfl)
    rwa [show o + (4 * k + 2) = o + k * 4 + 2 by omega] at this
  · have := hc (4 * k + 3) _ (by rw [callCells_at l k 3 hk (by omega)]; rfl)
    rwa [show o + (4 * k + 3) = o + k * 4 + 3 by omega] at this

/-- An int's range. -/
def I64 (x : Int) : Prop := -9223372036854775808 ≤ x ∧ x ≤ 9223372036854775807
theorem u64_wf {x : Int} (h : (Lit.int .u64 x).wf = true) : U64 x := by
  simp [Lit.wf, IntKind.min, IntKind.max, IntKind.bits, IntKind.signed] at h
  unfold U64
  omega
theorem u8_wf {x : Int} (h : (Lit.int .u8 x).wf = true) : U8 x := by
  simp [Lit.wf, IntKind.min, IntKind.max, IntKind.bits, IntKind.signed] at h
  unfold U8
  omega
theorem i64_wf {x : Int} (h : (Lit.int .i64 x).wf = true) : I64 x := by
  simp [Lit.wf, IntKind.min, IntKind.max, IntKind.bits, IntKind.signed] at h
  unfold I64
  omega

theorem list4 {α : Type} {r : List α} (h : r.length = 4) : ∃ a b c d, r = [a, b, c, d] := by
  match r, h with
  | [a, b, c, d], _ => exact ⟨a, b, c, d, rfl⟩
set_option maxRecDepth 20000 in
open Go.ChangeShapes in
/-- A slice of calls that came in. -/
theorem open_calls {H : Type} {enc : TypeId × Value → H} {w : World} {base : Nat} {spare : Nat → Bool} {held : Bool} {len cap : Nat} {ao : Option Addr} {d : DataW H} {ps : List MemPlace}
    (h : DataW.Trod enc Try.prog w base spare held 22 (.slice ao len cap) d ps) : ∃ l : List CallA, l.length = len ∧ RdC w (.slice ao len cap) l := by
  obtain ⟨rows, h1, h2, h3⟩ := open_rows Try.underlying22 (size := 4) (by kernel_rfl) (by omega) h
  obtain ⟨l, h4, h5, h6⟩ := rows_as (α := CallA) (rows := rows) (cellsOf := CallA.cells) (ok := fun c => U64 c.word ∧ ∃ a n k, c.picks = .slice a n k) (by
    intro r hr
    obtain ⟨hr4, n, x, hx⟩ := h2 r hr
    obtain ⟨y0, y1, y2, y3, n', _, _, t0, t1, t2, t3⟩ := Go.Joins.trod_struct4 Try.underlying29 hx
    clear hx h1 h2 h3 h
    obtain ⟨z0, e0, _, _⟩ := DataW.trod_int Try.underlying3 t0
    obtain ⟨z1, e1, _, _⟩ := DataW.trod_int Try.underlying3 t1
    obtain ⟨z2, e2, _, hz2⟩ := DataW.trod_int Try.underlying27 t2
    have q3 : ∃ a n k, (r.drop 3).take 1 = [.slice a n k] := by
      have t3' : DataW.trod enc Try.prog w base spare held n' 24 ((r.drop 3).take 1) = some y3 := (show Try.prog.cellsOf 24 = 1 from by kernel_rfl) ▸ t3
      rcases Go.Deep.open_slice Try.underlying24 t3' with ⟨e, _⟩ | ⟨a, ln, cp, _, _, _, _, e, _⟩
      · exact ⟨_, _, _, e⟩
      · exact ⟨_, _, _, e⟩
    clear t0 t1 t2 t3
    have q0 : (r.drop 0).take 1 = [.int .i64 z0] := (show Try.prog.cellsOf 3 = 1 from by kernel_rfl) ▸ e0
    have q1 : (r.drop 1).take 1 = [.int .i64 z1] := (show Try.prog.cellsOf 3 = 1 from by kernel_rfl) ▸ e1
    have q2 : (r.drop 2).take 1 = [.int .u64 z2] := (show Try.prog.cellsOf 27 = 1 from by kernel_rfl) ▸ e2
    clear e0 e1 e2
    obtain ⟨r0, r1, r2, r3, rfl⟩ := list4 hr4
    simp only [List.drop_zero, List.drop_succ_cons, List.take_succ_cons, List.take_zero, List.cons.injEq, and_true] at q0 q1 q2 q3
    subst q0 q1 q2
    exact ⟨⟨z0, z1, z2, r3⟩, rfl, u64_wf hz2, q3⟩)
  refine ⟨l, by omega, ?_, fun c hc => (h6 c hc).1, fun c hc => (h6 c hc).2⟩
  rw [h4, h1]
  rw [h5] at h3
  exact h3
/-- do2 in words: a Store or a Flush. -/
def Dev.do2 (d : Dev) (c : CallA) : Dev := if c.act = 0 then d.store c.at_ c.word else d.flush c.at_

theorem do2_calls (w : World) (c : CallA) (hx : U64 c.word) (h : Sat E w (dev b d * F)) :
    Calls Try.prog 31 #[.pointer (some ⟨b, 0, none⟩), .agg #[.int .i64 c.act, .int .i64 c.at_, .int .u64 c.word, c.picks]] w fun e w' => e = .returned (.tuple #[]) ∧ Sat E w' (dev b (d.do2 c) * F) := by
  obtain ⟨ca, cat, cw, cp⟩ := c
  simp only [Dev.do2]
  have hal : Sat E (w.alloc (.cells #[.int .i64 ca, .int .i64 cat, .int .u64 cw, cp] 29)) _ := h.alloc _
  simp only at hx
  by_cases h0 : ca = 0
  · subst h0
    rw [if_pos rfl]
    go_enter Try.func31, Try.ntmps31
    go_wp2_with fail
    refine (store_calls _ _ _ hx hal.right).mono ?_
    rintro e w2 ⟨rfl, h2⟩
    go_wp2_with fail
    go_end0
    exact ⟨rfl, h2⟩
  · rw [if_neg h0]
    go_enter Try.func31, Try.ntmps31
    go_wp2_with fail
    refine (flush_calls _ _ hal.right).mono ?_
    rintro e w2 ⟨rfl, h2⟩
    go_wp2_with fail
    go_end0
    exact ⟨rfl, h2⟩
end
end Scul
