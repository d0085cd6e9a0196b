/- Lemmas and contracts for scullion's HeapNil: Args, NvmK, NvmL, NvmO, RedoM, RedoA, RedoB, RedoC, RedoD, RedoE. -/
import Derived.ProofKit
import Derived.Deep.Slices
import Derived.Lib.SmallJoins
import Derived.Test.YtcfbanfbldionaaGreatRows
import Derived.Test.YtcfbanfbldionaaGreatHeapNilQ1
import Derived.Test.YtcfbanfbldionaaGreatHeapNilQ2
import Derived.BigQuiet
import Derived.Deep.CutBlock
import Derived.Deep.DeepCutAuto
/- Slices that come in: from what the row's form says of them to 'Rd'. -/
namespace Go.Sl
open Go Go.ChangeShapes Go.RowKit Go.Deep

theorem flat_len {size n : Nat} (g : Nat → List Value) (hg : ∀ i, i < n → (g i).length = size) : ((List.range n).map g).flatten.length = n * size := by
  induction n with
  | zero => simp
  | succ n ih =>
    rw [List.range_succ, List.map_append, List.flatten_append, List.length_append, ih (fun i hi => hg i (by omega))]
    simp [hg n (by omega), Nat.add_mul]
theorem flat_at {size n : Nat} {w : World} {a : Addr} (g : Nat → List Value) (hg : ∀ i, i < n → (g i).length = size) (hc : ∀ i, i < n → ∀ k, k < size → w.cell? ((a.add (i * size)).add k) = (g i)[k]?)
    (j : Nat) (u : Value) (hj : ((List.range n).map g).flatten[j]? = some u) : w.cell? (a.add j) = some u := by
  induction n generalizing j with
  | zero => simp at hj
  | succ n ih =>
    rw [List.range_succ, List.map_append, List.flatten_append] at hj
    have hl := flat_len g (n := n) (fun i hi => hg i (by omega))
    by_cases h : j < n * size
    · rw [List.getElem?_append_left (by omega)] at hj
      exact ih (fun i hi => hg i (by omega)) (fun i hi => hc i (by omega)) j hj
    · rw [List.getElem?_append_right (by omega), hl] at hj
      simp only [List.map_cons, List.map_nil, List.flatten_cons, List.flatten_nil, List.append_nil] at hj
      have hlt : j - n * size < size := by
        have := (List.getElem?_eq_some_iff.1 hj).1
        rwa [hg n (by omega)] at this
      have h2 := hc n (by omega) (j - n * size) hlt
      rw [hj] at h2
      have e : (a.add (n * size)).add (j - n * size) = a.add j := by
        have e2 : j = n * size + (j - n * size) := by omega
        generalize j - n * size = k at *
        generalize n * size = m at *
        subst e2
        unfold Addr.add
        by_cases hm : m = 0 <;> by_cases hk : k = 0 <;> simp [hm, hk, Nat.add_assoc]
      rwa [e] at h2

theorem Rd.of_addr {w : World} {size len cap : Nat} {a : Addr} {cs : List Value} (hp : 0 < size) (h1 : cs.length = len * size) (h2 : len ≤ cap) (h3 : cap ≤ maxLen) (h4 : ∀ j u, cs[j]? = some u → w.cell? (a.add j) = some u) :
    Rd w size (.slice (some a) len cap) len cs := by
  refine ⟨h1, by omega, ?_⟩
  by_cases h0 : len = 0
  · left; subst h0; exact ⟨rfl, _, _, rfl, fun h => by cases h⟩
  · right
    have hpos : 0 < cs.length := by rw [h1]; exact Nat.mul_pos (by omega) hp
    have hs : a.spot = none := by
      have := World.cell?_spot (h4 0 _ (List.getElem?_eq_getElem hpos))
      simpa [Addr.add] using this
    obtain ⟨b, o, sp⟩ := a
    simp only at hs
    subst hs
    refine ⟨b, o, cap, rfl, h2, fun j u hu => ?_⟩
    rw [← Addr.add_lit]
    exact h4 j u hu

section
variable {H : Type} {enc : TypeId × Value → H} {P : Program} {w : World} {base : Nat} {spare : Nat → Bool} {held : Bool}
/-- A slice that came in: its elements, each with its cells, each of them read as data. -/
theorem open_rows {t e : TypeId} {size len cap : Nat} {ao : Option Addr} {d : DataW H} {ps : List MemPlace} (ht : P.underlying t = some (.slice e)) (hc : P.cellsOf e = size) (hp : 0 < size)
    (h : DataW.Trod enc P w base spare held t (.slice ao len cap) d ps) :
    ∃ rows : List (List Value), rows.length = len ∧ (∀ r ∈ rows, r.length = size ∧ ∃ n x, DataW.trod enc P w base spare held n e r = some x) ∧ Rd w size (.slice ao len cap) len rows.flatten := by
  obtain ⟨fuel, hf⟩ := h
  rcases open_slice ht hf with ⟨hcs, _⟩ | ⟨a, l, c, m, n, D, Pl, hcs, _, hlc, hcm, hm, _, hx⟩
  · simp only [Value.cells, List.cons.injEq, Value.slice.injEq, and_true] at hcs
    obtain ⟨rfl, rfl, rfl⟩ := hcs
    exact ⟨[], rfl, by simp, by simp, Nat.zero_le _, .inl ⟨rfl, _, _, rfl, fun _ => rfl⟩⟩
  · simp only [Value.cells, List.cons.injEq, Value.slice.injEq, and_true] at hcs
    obtain ⟨rfl, rfl, rfl⟩ := hcs
    have hlm : len ≤ m := by rw [hm]; split <;> omega
    obtain ⟨g, hg⟩ := choose_lt (α := List Value) (n := len) (p := fun i cs' => w.cells? base (a.add (i * P.cellsOf e)) (P.cellsOf e) = some cs' ∧ DataW.trod enc P w base spare held n e cs' = some (D i, Pl i)) (fun i hi => hx i (by omega))
    have hgl : ∀ i, i < len → (g i).length = size := fun i hi => by rw [← hc]; exact (World.cells?_some (hg i hi).1).2.1
    refine ⟨(List.range len).map g, by simp, ?_, ?_⟩
    · intro r hr
      simp only [List.mem_map, List.mem_range] at hr
      obtain ⟨i, hi, rfl⟩ := hr
      exact ⟨hgl i hi, n, _, (hg i hi).2⟩
    · refine Rd.of_addr hp (flat_len g hgl) hlc hcm (flat_at g hgl ?_)
      intro i hi k hk
      have := (World.cells?_some (hg i hi).1).2.2 k (by rw [hc]; exact hk)
      rw [hc] at this
      exact this
/-- Its elements as what they say. -/
theorem rows_as {α : Type} {rows : List (List Value)} {cellsOf : α → List Value} {ok : α → Prop} (h : ∀ r ∈ rows, ∃ x, r = cellsOf x ∧ ok x) : ∃ l : List α, l.length = rows.length ∧ rows.flatten = l.flatMap cellsOf ∧ ∀ x ∈ l, ok x := by
  induction rows with
  | nil => exact ⟨[], rfl, rfl, by simp⟩
  | cons r rows ih =>
    obtain ⟨x, rfl, hx⟩ := h r (by simp)
    obtain ⟨l, h1, h2, h3⟩ := ih (fun r hr => h r (by simp [hr]))
    exact ⟨x :: l, by simp [h1], by simp [h2], by simpa using ⟨hx, h3⟩⟩
/-- A slice of integers. -/
theorem open_nums {t e : TypeId} {k : IntKind} {len cap : Nat} {ao : Option Addr} {d : DataW H} {ps : List MemPlace} (ht : P.underlying t = some (.slice e)) (he : P.underlying e = some (.int k)) (hc : P.cellsOf e = 1)
    (h : DataW.Trod enc P w base spare held t (.slice ao len cap) d ps) :
    ∃ l : List Int, l.length = len ∧ Rd w 1 (.slice ao len cap) len (l.map (Value.int k)) ∧ ∀ x ∈ l, (Lit.int k x).wf = true := by
  obtain ⟨rows, h1, h2, h3⟩ := open_rows ht hc (by omega) h
  obtain ⟨l, h4, h5, h6⟩ := rows_as (α := Int) (rows := rows) (cellsOf := fun x => [Value.int k x]) (ok := fun x => (Lit.int k x).wf = true) (by
    intro r hr
    obtain ⟨_, n, x, hx⟩ := h2 r hr
    obtain ⟨z, rfl, _, hz⟩ := DataW.trod_int he hx
    exact ⟨z, rfl, hz⟩)
  refine ⟨l, by omega, ?_, h6⟩
  rw [h5] at h3
  have e : l.flatMap (fun x => [Value.int k x]) = l.map (Value.int k) := by
    clear h5 h4 h6 h3
    induction l with
    | nil => rfl
    | cons x l ih => simp [ih]
  rwa [e] at h3
end
end Go.Sl
/- Device of words; a slice of calls that came in; do2. -/
namespace Scul
open Go Go.Sl Go.RowKit Go.Proofs
section
variable {E : Env} {w : World} {F : HP} {b : Nat} {d : Dev}

/-- What reads in the first world reads in each one that keeps it. -/
theorem Rd.old {w W : World} {E : Env} {size n : Nat} {v : Value} {cs : List Value} (h : Rd w size v n cs) (hs : Sat E W (old w)) : Rd W size v n cs := by
  refine h.mono fun a u ha => ?_
  have hb := World.block_lt_of_cell? w a ha
  unfold World.cell? at ha ⊢
  rw [hs.ofOld hb]
  exact ha
theorem Rd.take {w : World} {size n c : Nat} {ao : Option Addr} {cs : List Value} (h : Rd w size (.slice ao n c) n cs) (k : Nat) (hk : k ≤ n) : Rd w size (.slice ao k c) k (cs.take (k * size)) := by
  obtain ⟨h1, h2, h3⟩ := h
  have hm : k * size ≤ n * size := Nat.mul_le_mul_right _ hk
  refine ⟨by rw [List.length_take, h1]; omega, by omega, ?_⟩
  rcases h3 with ⟨h0, ao', c', hv, hc⟩ | ⟨b, o, c', hv, hn, hc⟩
  · left
    simp only [Value.slice.injEq] at hv
    obtain ⟨rfl, _, rfl⟩ := hv
    have : k = 0 := by omega
    subst this
    exact ⟨rfl, _, _, rfl, hc⟩
  · right
    simp only [Value.slice.injEq, true_and] at hv
    obtain ⟨rfl, rfl⟩ := hv
    refine ⟨b, o, c, rfl, by omega, fun j u hu => hc j u ?_⟩
    rw [List.getElem?_take] at hu
    split at hu
    · exact hu
    · cases hu

theorem u64s_take (l : List Int) (k : Nat) : u64s (l.take k) = (u64s l).take k := by simp [u64s]
theorem u64s_length (l : List Int) : (u64s l).length = l.length := by simp [u64s]

theorem Sat.mid {w : World} {A B C : HP} (h : Sat E w (A * (B * C))) : Sat E w (A * C) := by
  rw [sep_left_comm] at h
  exact h.right
theorem Sat.swap {w : World} {A B C : HP} (h : Sat E w (A * (B * C))) : Sat E w (B * (A * C)) := by
  rw [sep_left_comm]
  exact h
theorem words_push {w : World} {v : Value} {l : List Int} {x : Int} {R : HP} (h : Sat E w (row 24 1 v (l.length + 1) (u64s l ++ [.int .u64 x]) * R)) : Sat E w (words v (l ++ [x]) * R) := by
  have e1 : (l ++ [x]).length = l.length + 1 := by simp
  have e2 : u64s (l ++ [x]) = u64s l ++ [.int .u64 x] := by simp [u64s]
  rw [words_def, e1, e2]
  exact h
/-- A word of a row is stored into. -/
theorem words_set {w : World} {g c : Nat} {l : List Int} {R : HP} (h : Sat E w (words (.slice (some ⟨g, 0, none⟩) l.length c) l * R)) (i : Nat) (x : Int) (hi : i < l.length) :
    Sat E (w.setCell ⟨g, i, none⟩ (.int .u64 x)) (words (.slice (some ⟨g, 0, none⟩) l.length c) (l.set i x) * R) := by
  have h2 := h.row_set i (.int .u64 x) (by omega)
  have e : u64s (l.set i x) = (u64s l).set i (.int .u64 x) := by simp [u64s]
  rw [words_def, e, List.length_set]
  exact h2
theorem words_free {w : World} {g c : Nat} {l : List Int} {R : HP} (h : Sat E w (words (.slice (some ⟨g, 0, none⟩) l.length c) l * R)) (i : Nat) : w.frozen? ⟨g, i, none⟩ = false := h.row_free i
/-- A copy of words, one cell of it at hand. -/
theorem app_tail {w : World} {v : Value} {m : List Int} {R : HP} (h : Sat E w (row 24 1 v (0 + m.length) ([] ++ u64s m) * R)) (j : Nat) (x : Int) (hj : j < m.length) :
    ∃ g c, v = .slice (some ⟨g, 0, none⟩) m.length c ∧ w.cell? ⟨g, j, none⟩ = some (.int .u64 (m.getD j 0)) ∧ w.frozen? ⟨g, j, none⟩ = false ∧ (j : Int) < m.length ∧
      Hid (Sat E (w.setCell ⟨g, j, none⟩ (.int .u64 x)) (words (.slice (some ⟨g, 0, none⟩) m.length c) (m.set j x) * R)) := by
  have h9 : Sat E w (words v m * R) := by simpa [words_def] using h
  obtain ⟨g, c, rfl, _⟩ := words_at h9 j hj
  exact ⟨g, c, rfl, words_cell h9 j hj, words_free h9 j, by omega, words_set h9 j x hj⟩
/-- A call that came in: what to do, where, a word, picks (a slice). -/
structure CallA where
  act : Int
  at_ : Int
  word : Int
  picks : Value
def CallA.cells (c : CallA) : List Value := [.int .i64 c.act, .int .i64 c.at_, .int .u64 c.word, c.picks]
def callCells (l : List CallA) : List Value := l.flatMap CallA.cells
theorem callCells_length (l : List CallA) : (callCells l).length = l.length * 4 := by
  induction l with
  | nil => rfl
  | cons c l ih => simp [callCells, CallA.cells] at ih ⊢; omega
theorem callCells_at (l : List CallA) (k j : Nat) (hk : k < l.length) (hj : j < 4) : (callCells l)[4 * k + j]? = (CallA.cells l[k])[j]? := by
  induction l generalizing k with
  | nil => simp at hk
  | cons c l ih =>
    show (c.cells ++ callCells l)[4 * k + j]? = _
    cases k with
    | zero =>
      rw [List.getElem?_append_left (by simp [CallA.cells]; omega)]
      simp
    | succ k =>
      rw [List.getElem?_append_right (by simp [CallA.cells]; omega)]
      have : 4 * (k + 1) + j - c.cells.length = 4 * k + j := by simp [CallA.cells]; omega
      rw [this, ih k (by simpa using hk)]
      simp
/-- The slice reads as these calls. -/
def RdC (w : World) (v : Value) (l : List CallA) : Prop := Rd w 4 v l.length (callCells l) ∧ (∀ c ∈ l, U64 c.word) ∧ ∀ c ∈ l, ∃ a n k, c.picks = .slice a n k
theorem RdC.old {w W : World} {E : Env} {v : Value} {l : List CallA} (h : RdC w v l) (hs : Sat E W (old w)) : RdC W v l := ⟨Rd.old h.1 hs, h.2⟩
theorem RdC.nth {w : World} {ao : Option Addr} {c : Nat} {l : List CallA} (h : RdC w (.slice ao l.length c) l) (k : Nat) (hk : k < l.length) :
    ∃ bb o, ao = some ⟨bb, o, none⟩ ∧ w.cell? ⟨bb, o + k * 4, none⟩ = some (.int .i64 l[k].act) ∧ w.cell? ⟨bb, o + k * 4 + 1, none⟩ = some (.int .i64 l[k].at_) ∧
      w.cell? ⟨bb, o + k * 4 + 2, none⟩ = some (.int .u64 l[k].word) ∧ w.cell? ⟨bb, o + k * 4 + 3, none⟩ = some l[k].picks := by
  obtain ⟨bb, o, rfl, hc⟩ := Rd.at h.1 (by omega)
  refine ⟨bb, o, rfl, ?_, ?_, ?_, ?_⟩
  · have := hc (4 * k + 0) _ (by rw [callCells_at l k 0 hk (by omega)]; rfl)
    rwa [show o + (4 * k + 0) = o + k * 4 by omega] at this
  · have := hc (4 * k + 1) _ (by rw [callCells_at l k 1 hk (by omega)]; rfl)
    rwa [show o + (4 * k + 1) = o + k * 4 + 1 by omega] at this
  · have := hc (4 * k + 2) _ (by rw [callCells_at l k 2 hk (by omega)]; rfl)
    rwa [show o + (4 * k + 2) = o + k * 4 + 2 by omega] at this
  · have := hc (4 * k + 3) _ (by rw [callCells_at l k 3 hk (by omega)]; rfl)
    rwa [show o + (4 * k + 3) = o + k * 4 + 3 by omega] at this

/-- An int's range. -/
def I64 (x : Int) : Prop := -9223372036854775808 ≤ x ∧ x ≤ 9223372036854775807
theorem u64_wf {x : Int} (h : (Lit.int .u64 x).wf = true) : U64 x := by
  simp [Lit.wf, IntKind.min, IntKind.max, IntKind.bits, IntKind.signed] at h
  unfold U64
  omega
theorem u8_wf {x : Int} (h : (Lit.int .u8 x).wf = true) : U8 x := by
  simp [Lit.wf, IntKind.min, IntKind.max, IntKind.bits, IntKind.signed] at h
  unfold U8
  omega
theorem i64_wf {x : Int} (h : (Lit.int .i64 x).wf = true) : I64 x := by
  simp [Lit.wf, IntKind.min, IntKind.max, IntKind.bits, IntKind.signed] at h
  unfold I64
  omega

theorem list4 {α : Type} {r : List α} (h : r.length = 4) : ∃ a b c d, r = [a, b, c, d] := by
  match r, h with
  | [a, b, c, d], _ => exact ⟨a, b, c, d, rfl⟩
/-- do2 in words: a Store or a Flush. -/
def Dev.do2 (d : Dev) (c : CallA) : Dev := if c.act = 0 then d.store c.at_ c.word else d.flush c.at_

end
end Scul
/- The plain laws of the device of words: no program in sight. -/
namespace Scul
open Go Go.Sl Go.RowKit
namespace Dev

theorem lookup_mem {α : Type} {l : List (Int × α)} {x : Int} {v : α} (h : l.lookup x = some v) : (x, v) ∈ l := by
  induction l with
  | nil => simp at h
  | cons p l ih =>
    obtain ⟨y, u⟩ := p
    rw [List.lookup_cons] at h
    split at h
    · rename_i he
      obtain rfl := eq_of_beq he
      cases h
      exact List.mem_cons_self
    · exact List.mem_cons_of_mem _ (ih h)
theorem seg_length (l : List Int) (k : Nat) : (seg l k).length = min 8 (l.length - 8 * k) := by simp [seg]
theorem seg_get (l : List Int) (k j : Nat) (hj : j < 8) : (seg l k)[j]? = l[8 * k + j]? := by
  simp only [seg, List.getElem?_take, hj, if_true, List.getElem?_drop]
theorem splice_len (s c : List Int) (o : Nat) (h : o + c.length ≤ s.length) : (splice s o c).length = s.length := by
  simp [splice]; omega
theorem splice_get (s c : List Int) (o i : Nat) (h : o + c.length ≤ s.length) : (splice s o c)[i]? = if o ≤ i ∧ i < o + c.length then c[i - o]? else s[i]? := by
  simp only [splice]
  by_cases h1 : i < o
  · rw [List.getElem?_append_left (by simp; omega), if_neg (by omega), List.getElem?_take, if_pos h1]
  · rw [List.getElem?_append_right (by simp; omega)]
    have e : (s.take o).length = o := by simp; omega
    rw [e]
    by_cases h2 : i < o + c.length
    · rw [List.getElem?_append_left (by omega), if_pos (by omega)]
    · rw [List.getElem?_append_right (by omega), if_neg (by omega), List.getElem?_drop]
      congr 1
      omega
/-- A line's segment put in: the line is of it, the others are as they were. -/
theorem splice_seg (s r : List Int) (k i : Nat) (hl : s.length = r.length) (hk : 8 * k ≤ r.length) : (splice s (8 * k) (seg r k))[i]? = if i / 8 = k then r[i]? else s[i]? := by
  have hsl := seg_length r k
  rw [splice_get _ _ _ _ (by omega)]
  by_cases h : 8 * k ≤ i ∧ i < 8 * k + (seg r k).length
  · rw [if_pos h, if_pos (by omega), seg_get _ _ _ (by omega)]
    congr 1
    omega
  · rw [if_neg h]
    by_cases h2 : i / 8 = k
    · rw [if_pos h2, List.getElem?_eq_none (by omega), List.getElem?_eq_none (by omega)]
    · rw [if_neg h2]

/-- a crash's run, word by word: what is asked of each line. -/
theorem crashGo_spec (read : List Int) (fl : List (Int × List Int)) (R : Nat → List Int → List Int → Prop)
    (n : Nat)
    (hstep : ∀ line s p, line < n → s.length = read.length → R line s p → R (line + 1) (crashLine read fl line s p).1 (crashLine read fl line s p).2 ∧ (crashLine read fl line s p).1.length = read.length) :
    ∀ k line s p, line + k = n → s.length = read.length → R line s p → ∃ p', R n (crashGo read fl k line s p) p' := by
  intro k
  induction k with
  | zero =>
    intro line s p h hs hr
    have e : line = n := by omega
    rw [← e]
    exact ⟨p, hr⟩
  | succ k ih =>
    intro line s p h hs hr
    obtain ⟨h1, h2⟩ := hstep line s p (by omega) hs hr
    exact ih (line + 1) _ _ (by omega) h2 h1

theorem seg_eq {r s : List Int} {k : Nat} (h : seg r k = seg s k) (i : Nat) (hi : i / 8 = k) : r[i]? = s[i]? := by
  have h1 := seg_get r k (i % 8) (by omega)
  have h2 := seg_get s k (i % 8) (by omega)
  rw [h] at h1
  rw [h1] at h2
  rwa [show 8 * k + i % 8 = i by omega] at h2

theorem crashSure_len (d : Dev) (hok : d.Ok) (p : List Int) : (d.crashSure p).length = d.read.length := by
  have hs := hok.len
  obtain ⟨_, h⟩ := crashGo_spec d.read d.fl (fun _ s _ => s.length = d.read.length) (lines d.read.length) (by
    intro line s p hl hs hr
    have hb : 8 * line < d.read.length := by simp only [lines] at hl; omega
    have h1 : (crashLine d.read d.fl line s p).1.length = d.read.length := by
      unfold crashLine
      have hsl := seg_length d.read line
      cases hfl : d.fl.lookup (line : Int) with
      | none => simp only; split; exact hs; simp only; split; rw [splice_len _ _ _ (by omega)]; exact hs; exact hs
      | some ws =>
        have : ws.length = (seg d.read line).length := by
          obtain ⟨k, hk1, hk2, hk3, _⟩ := hok.fl _ (lookup_mem hfl)
          have hk1 : (line : Int) = k := hk1
          have hk3 : ws.length = (seg d.read k).length := hk3
          have : k = line := by omega
          rw [hk3, this]
        simp only; split; rw [splice_len _ _ _ (by omega)]; exact hs; split; rw [splice_len _ _ _ (by omega)]; exact hs; exact hs
    exact ⟨h1, h1⟩) (lines d.read.length) 0 d.sure p (by omega) hs hs
  exact h

/-- a crash that picks each line as it reads keeps all. -/
theorem crash_all (d : Dev) (hok : d.Ok) (p : List Int) (hp : ∀ x ∈ p, x % 2 = 1) (hl : lines d.read.length ≤ p.length) : d.crashSure p = d.read := by
  obtain ⟨p', h1, h2, h3⟩ := crashGo_spec d.read d.fl (fun line s p => (∀ i, i / 8 < line → s[i]? = d.read[i]?) ∧ (∀ x ∈ p, x % 2 = 1) ∧ lines d.read.length ≤ line + p.length) (lines d.read.length) (by
    intro line s p hl hs ⟨h1, h2, h3⟩
    have hb : 8 * line < d.read.length := by simp only [lines] at hl; omega
    have hsl := seg_length d.read line
    have hd : p.headD 0 % 2 = 1 := by
      cases p with
      | nil => simp at h3; omega
      | cons x p => exact h2 x (by simp)
    have ht : ∀ x ∈ p.tail, x % 2 = 1 := fun x hx => h2 x (List.mem_of_mem_tail hx)
    have hput : ∀ i, i / 8 < line + 1 → (splice s (8 * line) (seg d.read line))[i]? = d.read[i]? := by
      intro i hi
      rw [splice_seg _ _ _ _ hs (by omega)]
      split
      · rfl
      · exact h1 i (by omega)
    unfold crashLine
    cases hfl : d.fl.lookup (line : Int) with
    | none =>
      simp only [hd, if_true]
      split
      · rename_i he
        refine ⟨⟨fun i hi => ?_, h2, by show _ ≤ line + 1 + p.length; omega⟩, hs⟩
        by_cases hi2 : i / 8 = line
        · exact (seg_eq he i hi2).symm
        · exact h1 i (by omega)
      · refine ⟨⟨hput, ht, ?_⟩, by rw [splice_len _ _ _ (by omega)]; exact hs⟩
        simp; omega
    | some ws =>
      simp only [hd, if_true]
      refine ⟨⟨hput, ht, ?_⟩, by rw [splice_len _ _ _ (by omega)]; exact hs⟩
      simp; omega) (lines d.read.length) 0 d.sure p (by omega) hok.len ⟨fun i hi => by omega, hp, by omega⟩
  refine List.ext_getElem? fun i => ?_
  by_cases hi : i < d.read.length
  · exact h1 i (by simp only [lines]; omega)
  · have := crashSure_len d hok p
    unfold crashSure at this ⊢
    rw [List.getElem?_eq_none (by omega), List.getElem?_eq_none (by omega)]

/-- a crash of a device with all sure and nothing flushed changes nothing. -/
theorem crash_none (d : Dev) (hf : d.fl = []) (hr : d.read = d.sure) (p : List Int) : d.crashSure p = d.sure := by
  obtain ⟨p', h⟩ := crashGo_spec d.read d.fl (fun _ s _ => s = d.sure) (lines d.read.length) (by
    rintro line s p hl hs rfl
    unfold crashLine
    rw [hf, hr]
    simp) (lines d.read.length) 0 d.sure p (by omega) (by rw [hr]) rfl
  exact h

theorem store_len (d : Dev) (a x : Int) : (d.store a x).read.length = d.read.length := by
  unfold store step; repeat' split
  all_goals first | rfl | simp
/-- the power is there, and no fuse is set. -/
def Up (d : Dev) : Prop := d.down = false ∧ d.fuse = 0
theorem step_up {d : Dev} (h : d.Up) : d.step = { d with steps := wrap64 (d.steps + 1) } := by
  obtain ⟨h1, h2⟩ := h
  simp [step, h1, h2]
theorem store_up {d : Dev} (h : d.Up) (a x : Int) : d.store a x = { d with steps := wrap64 (d.steps + 1), read := if d.isB a then d.read.set a.toNat x else d.read } := by
  unfold store
  rw [step_up h]
  by_cases hb : d.isB a = true <;> simp [h.1, hb]
theorem flush_up {d : Dev} (h : d.Up) (a : Int) : d.flush a = { d with steps := wrap64 (d.steps + 1), fl := if d.isB a then mput d.fl (a / 8) (seg d.read (a / 8).toNat) else d.fl } := by
  unfold flush
  rw [step_up h]
  by_cases hb : d.isB a = true <;> simp [h.1, hb]
theorem store_upE {d : Dev} (h : d.Up) (a : Int) : d.storeE a = if d.isB a then 0 else 1 := by
  unfold storeE; rw [step_up h]; simp [h.1]
theorem flush_upE {d : Dev} (h : d.Up) (a : Int) : d.flushE a = if d.isB a then 0 else 1 := by
  unfold flushE; rw [step_up h]; simp [h.1]
theorem fence_up {d : Dev} (h : d.Up) : d.fence = { d with steps := wrap64 (d.steps + 1), sure := fenced d.sure d.fl, fl := [] } := by
  unfold fence
  rw [step_up h]
  simp [h.1]
theorem fence_upE {d : Dev} (h : d.Up) : d.fenceE = 0 := by
  unfold fenceE; rw [step_up h]; simp [h.1]
/-- a crash that picks nothing keeps what is sure. -/
theorem crash_nil (d : Dev) (hl : d.sure.length = d.read.length) : d.crashSure [] = d.sure := by
  obtain ⟨p', h, _⟩ := crashGo_spec d.read d.fl (fun _ s p => s = d.sure ∧ p = []) (lines d.read.length) (by
    rintro line s p hl hs ⟨rfl, rfl⟩
    unfold crashLine
    cases d.fl.lookup (line : Int) with
    | none => simp only; split <;> simp [hs]
    | some ws => simp [hs]) (lines d.read.length) 0 d.sure [] (by omega) hl ⟨rfl, rfl⟩
  exact h

theorem up_store {d : Dev} (h : d.Up) (a x : Int) : (d.store a x).Up := by rw [store_up h]; exact h
theorem up_flush {d : Dev} (h : d.Up) (a : Int) : (d.flush a).Up := by rw [flush_up h]; exact h
theorem up_fence {d : Dev} (h : d.Up) : d.fence.Up := by rw [fence_up h]; exact h
theorem up_evict {d : Dev} (h : d.Up) (a : Int) : (d.evict a).Up := by unfold evict; split <;> exact h
theorem up_new (n : Nat) : (new n).Up := ⟨rfl, rfl⟩
theorem up_of (l : List Int) : (of l).Up := ⟨rfl, rfl⟩
theorem up_crash (d : Dev) (p : List Int) : (d.crash p).Up := ⟨rfl, rfl⟩
theorem flush_read {d : Dev} (a : Int) : (d.flush a).read = d.read := by
  unfold flush step
  repeat' split
  all_goals rfl
theorem store_sure {d : Dev} (a x : Int) : (d.store a x).sure = d.sure := by
  unfold store step
  repeat' split
  all_goals rfl
theorem flush_sure {d : Dev} (a : Int) : (d.flush a).sure = d.sure := by
  unfold flush step
  repeat' split
  all_goals rfl
theorem evict_read {d : Dev} (a : Int) : (d.evict a).read = d.read := by unfold evict; split <;> rfl
theorem load_up {d : Dev} (h : d.Up) (k : Nat) (hk : k < d.read.length) : d.load k = d.read.getD k 0 := by
  unfold load isB
  rw [h.1]
  simp [hk]

/-- what an evicted line holds. -/
theorem evict_line {d : Dev} (h : d.Up) (hl : d.sure.length = d.read.length) (k : Nat) (hk : 8 * k < d.read.length) (i : Nat) (hi : i / 8 = k) : (d.evict k).sure[i]? = d.read[i]? := by
  have hb : d.evictB (k : Int) = true := by
    unfold evictB; simp [h.1, lines]; omega
  unfold evict
  rw [if_pos hb]
  simp only [Int.toNat_natCast]
  rw [splice_seg _ _ _ _ hl (by omega), if_pos hi]
theorem seg_of {r s : List Int} {k : Nat} (h : ∀ i, i / 8 = k → r[i]? = s[i]?) : seg r k = seg s k := by
  refine List.ext_getElem? fun j => ?_
  by_cases hj : j < 8
  · rw [seg_get _ _ _ hj, seg_get _ _ _ hj]
    exact h _ (by omega)
  · have h1 := seg_length r k
    have h2 := seg_length s k
    rw [List.getElem?_eq_none (by omega), List.getElem?_eq_none (by omega)]
theorem evict_clean {d : Dev} (h : d.Up) (hl : d.sure.length = d.read.length) (k : Nat) (hk : 8 * k < d.read.length) : (d.evict k).dirtyB k = false := by
  unfold dirtyB
  rw [decide_eq_false]
  intro hne
  refine hne (seg_of fun i hi => ?_)
  rw [evict_line h hl k hk i hi, evict_read]
theorem fenced_get (sure : List Int) (fl : List (Int × List Int)) (i : Nat) (hi : i < sure.length) : (fenced sure fl)[i]? = some (match fl.lookup ((i / 8 : Nat) : Int) with | some ws => ws.getD (i % 8) 0 | none => sure.getD i 0) := by
  unfold fenced
  rw [List.getElem?_map, List.getElem?_range hi]
  rfl
theorem fenced_len (sure : List Int) (fl : List (Int × List Int)) : (fenced sure fl).length = sure.length := by simp [fenced]
theorem seg_getD (l : List Int) (i : Nat) : (seg l (i / 8)).getD (i % 8) 0 = l.getD i 0 := by
  rw [List.getD_eq_getElem?_getD, List.getD_eq_getElem?_getD, seg_get _ _ _ (by omega), show 8 * (i / 8) + i % 8 = i by omega]
/-- of any words; one is stored, flushed, fenced. -/
theorem of_sure (m : List Int) (j : Nat) (x : Int) (hj : j < m.length) : ((((of m).store j x).flush j).fence).sure = m.set j x ∧ ((((of m).store j x).flush j).fence).steps = 3 := by
  have hb : ∀ d : Dev, d.read.length = m.length → d.isB (j : Int) = true := by
    intro d hd
    unfold isB
    rw [hd]
    simp [hj]
  have u1 := up_store (up_of m) j x
  have u2 := up_flush u1 j
  rw [fence_up u2, flush_up u1, store_up (up_of m)]
  rw [if_pos (hb _ rfl), if_pos (hb _ (by simp [of]))]
  refine ⟨?_, by show wrap64 (wrap64 (wrap64 (0 + 1) + 1) + 1) = 3; decide +kernel⟩
  refine List.ext_getElem? fun i => ?_
  show (fenced m (mput [] ((j : Int) / 8) (seg (m.set j x) ((j : Int) / 8).toNat)))[i]? = _
  by_cases hi : i < m.length
  · rw [fenced_get _ _ _ hi, show mput [] ((j : Int) / 8) (seg (m.set j x) ((j : Int) / 8).toNat) = [((j : Int) / 8, seg (m.set j x) ((j : Int) / 8).toNat)] from rfl, List.lookup_cons]
    by_cases hij : i / 8 = j / 8
    · have e : (((i / 8 : Nat) : Int) == (j : Int) / 8) = true := by rw [beq_iff_eq]; omega
      have e2 : ((j : Int) / 8).toNat = i / 8 := by omega
      rw [e, e2]
      show some ((seg (m.set j x) (i / 8)).getD (i % 8) 0) = _
      rw [seg_getD, List.getD_eq_getElem?_getD, List.getElem?_eq_getElem (by simpa using hi)]
      rfl
    · have e : (((i / 8 : Nat) : Int) == (j : Int) / 8) = false := by rw [beq_eq_false_iff_ne]; omega
      rw [e]
      show some (m.getD i 0) = _
      rw [List.getElem?_set_ne (by omega), List.getD_eq_getElem?_getD, List.getElem?_eq_getElem hi]
      rfl
  · rw [List.getElem?_eq_none (by rw [fenced_len]; omega), List.getElem?_eq_none (by simp; omega)]
/-- an index that is picked by a number whatsoever. -/
theorem pick_idx (a : Int) (K : Nat) (h0 : 0 < K) (hK : K ≤ 4611686018427387904) : ∃ j : Nat, wrap64 ((IntKind.u64.wrap a).tmod (K : Int)) = j ∧ j < K := by
  have hw : IntKind.u64.wrap a = a % 18446744073709551616 := by simp [IntKind.wrap, IntKind.bits, IntKind.signed]
  have h1 : 0 ≤ IntKind.u64.wrap a := by rw [hw]; omega
  rw [Int.tmod_eq_emod_of_nonneg h1]
  generalize IntKind.u64.wrap a = z at *
  have h2 := Int.emod_nonneg z (show (K : Int) ≠ 0 by omega)
  have h3 := Int.emod_lt_of_pos z (show (0 : Int) < K by omega)
  refine ⟨(z % K).toNat, ?_, by omega⟩
  unfold wrap64
  omega
/-- a fuse of n steps, behind k. -/
def FuseInv (n k : Nat) (d : Dev) : Prop := d.steps = k ∧ d.down = decide (n ≤ k) ∧ (k < n → d.fuse = n - k)
theorem fuse_step {n k : Nat} {d : Dev} (h : FuseInv n k d) (hk : k < 1000) : FuseInv n (k + 1) d.step := by
  obtain ⟨h1, h2, h3⟩ := h
  have hw : wrap64 (d.steps + 1) = ((k + 1 : Nat) : Int) := by rw [h1]; unfold wrap64; omega
  by_cases hn : n ≤ k
  · have hd : d.down = true := by rw [h2]; simp [hn]
    unfold step
    rw [if_pos hd]
    exact ⟨hw, by simp [hd]; omega, fun h => by omega⟩
  · have hd : d.down = false := by rw [h2]; simp; omega
    have hf := h3 (by omega)
    unfold step
    rw [if_neg (by simp [hd]), if_pos (by omega)]
    refine ⟨hw, ?_, fun h => ?_⟩
    · simp only [hf]
      rw [Bool.eq_iff_iff, beq_iff_eq, decide_eq_true_iff]
      omega
    · simp only [hf]; omega
theorem fuse_store {n k : Nat} {d : Dev} (h : FuseInv n k d) (hk : k < 1000) (a x : Int) : FuseInv n (k + 1) (d.store a x) := by
  have := fuse_step h hk
  unfold store; split <;> exact this
theorem fuse_flush {n k : Nat} {d : Dev} (h : FuseInv n k d) (hk : k < 1000) (a : Int) : FuseInv n (k + 1) (d.flush a) := by
  have := fuse_step h hk
  unfold flush; split <;> exact this
theorem fuse_fence {n k : Nat} {d : Dev} (h : FuseInv n k d) (hk : k < 1000) : FuseInv n (k + 1) d.fence := by
  have := fuse_step h hk
  unfold fence; split <;> exact this
/-- What is answered: that the power is gone, just from the nth step on. -/
def FuseE (n k : Nat) (e : Int) : Prop := (e = 7 ↔ n ≤ k)
theorem fuse_E {n k : Nat} {d : Dev} (h : FuseInv n k d) (hk : k < 1000) : (∀ a, FuseE n (k + 1) (d.storeE a)) ∧ (∀ a, FuseE n (k + 1) (d.flushE a)) ∧ FuseE n (k + 1) d.fenceE := by
  have h2 := (fuse_step h hk).2.1
  unfold FuseE storeE flushE fenceE
  rw [h2]
  by_cases hn : n ≤ k + 1
  · simp [hn]
  · simp only [hn, decide_false, Bool.false_eq_true, if_false, iff_false]
    refine ⟨fun a => ?_, fun a => ?_, by omega⟩ <;> split <;> omega
theorem fuse_new (m n : Nat) (hn : 0 < n) : FuseInv n 0 ((new m).setFuse n) := by
  refine ⟨rfl, ?_, fun _ => ?_⟩
  · show false = _; simp; omega
  · show (if (0 : Int) < n then (n : Int) else 0) = _
    rw [if_pos (by omega)]; omega
end Dev
end Scul
/- Of: a device of words, all sure. -/
namespace Scul
open Go Go.Sl Go.RowKit Go.Proofs
section
variable {E : Env} {w : World} {F : HP} {b : Nat} {d : Dev}

theorem ok_of (l : List Int) (hl : l.length ≤ 65536) (hU : ∀ x ∈ l, U64 x) : (Dev.of l).Ok :=
  ⟨rfl, hl, hU, hU, by simp [Dev.of], by simp [Dev.of], by simp [Dev.of]⟩
theorem dev_of (l : List Int) (hl : l.length ≤ 65536) (hU : ∀ x ∈ l, U64 x) {v1 v2 : Value} {b3 b4 : Nat} (h : Sat E w (words v1 l * (words v2 l * (pt b3 (.map #[] 0) * (pt b4 (.cells #[v1, v2, .map (some b3), .int .i64 0, .int .i64 0, .bool false] 135) * F))))) :
    Sat E w (dev b4 (Dev.of l) * F) := by
  have h3 : Sat E w (pt b3 (.map #[] 0) * (words v1 l * (words v2 l * (pt b4 (.cells #[v1, v2, .map (some b3), .int .i64 0, .int .i64 0, .bool false] 135) * F)))) := h.ac (by ac_rfl)
  have h4 : Sat E w (imap b3 [] * (words v1 l * (words v2 l * (pt b4 (.cells #[v1, v2, .map (some b3), .int .i64 0, .int .i64 0, .bool false] 135) * F)))) :=
    h3.imap_mk (by simp [reads]) (by simp) (by simp) (by simp)
  refine dev_mk (rv := v1) (sv := v2) (mb := b3) (m := []) (ok_of l hl hU) ?_
  show Sat E w (pt b4 _ * (words _ l * (words _ l * (imap b3 [] * (flrows [] [] * F)))))
  rw [flrows_nil, emp_sep]
  exact h4.ac (by ac_rfl)

set_option maxRecDepth 100000 in
set_option maxHeartbeats 4000000 in
theorem of_calls (w : World) (l : List Int) (ao : Option Addr) (c : Nat) (hU : ∀ x ∈ l, U64 x) (hv : ∀ W, Sat E W F → Rd W 1 (.slice ao l.length c) l.length (u64s l)) (hs : Sat E w F) :
    Calls Tryz.prog 31 #[.slice ao l.length c] w fun e w' => ∃ b, e = .returned (.pointer (some ⟨b, 0, none⟩)) ∧ Sat E w' (dev b (Dev.of (l.take 65536)) * F) := by
  have hmm := @run_makeMap Tryz.prog
  have HU := Lib.hid (fun x hx => hU x (List.mem_of_mem_take hx) : ∀ x ∈ l.take 65536, U64 x)
  have HR : Hid (∀ k, k ≤ l.length → ∀ W, Sat E W F → Rd W 1 (.slice ao k c) k (u64s (l.take k))) := by
    intro k hk W hW
    have := Rd.take (hv W hW) k hk
    rw [Nat.mul_one] at this
    rwa [u64s_take]
  have HM := Lib.hid (hv w hs).most
  obtain ⟨_, _, heq, hc⟩ := (hv w hs).val
  cases heq
  clear hU hv
  rcases (show (l.length : Int) < 65536 ∨ (l.length : Int) = 65536 ∨ 65536 < (l.length : Int) from by omega) with hl | hl | hl
  · have ht : l.take 65536 = l := List.take_of_length_le (by omega)
    have HT := Lib.hid ht
    have HL := Lib.hid (show l.length ≤ 65536 from by omega)
    clear ht
    go_enter Tryz.func31, Tryz.ntmps31
    go_wp2_with fail
    refine (clone64_calls _ l _ (by omega) (by simpa using HR.out l.length (Nat.le_refl _) _ hs) hs).mono ?_
    rintro e w1 ⟨v1, rfl, h1⟩
    obtain ⟨a1, c1, rfl, _, _⟩ := words_val h1
    go_wp2_with fail
    refine (clone64_calls _ l _ (by omega) (by simpa using HR.out l.length (Nat.le_refl _) _ h1.right) h1).mono ?_
    rintro e w2 ⟨v2, rfl, h2⟩
    obtain ⟨a2, c2, rfl, _, _⟩ := words_val h2
    go_wp2_with fail
    go_ret
    rw [HT.out] at HU ⊢
    exact ⟨_, rfl, dev_of l HL.out HU.out (Sat.ac (Sat.alloc2 h2 _ _) (by ac_rfl))⟩
  · obtain ⟨m, hm⟩ : ∃ m, m = l.take 65536 := ⟨_, rfl⟩
    have hml : m.length = 65536 := by rw [hm, List.length_take]; omega
    have hR2 := HR.out 65536 (by omega)
    rw [← hm] at hR2 HU ⊢
    have hR3 : ∀ W, Sat E W F → Rd W 1 (.slice ao 65536 c) m.length (u64s m) := by rw [hml]; exact hR2
    have HR3 := Lib.hid hR3
    have HL := Lib.hid hml
    clear hm hR2 hR3 hml HR
    go_enter Tryz.func31, Tryz.ntmps31
    go_wp2_with fail
    refine (clone64_calls _ m _ (by have := HL.out; omega) (HR3.out _ hs) hs).mono ?_
    rintro e w1 ⟨v1, rfl, h1⟩
    obtain ⟨a1, c1, rfl, _, _⟩ := words_val h1
    go_wp2_with fail
    refine (clone64_calls _ m _ (by have := HL.out; omega) (HR3.out _ h1.right) h1).mono ?_
    rintro e w2 ⟨v2, rfl, h2⟩
    obtain ⟨a2, c2, rfl, _, _⟩ := words_val h2
    go_wp2_with fail
    go_ret
    exact ⟨_, rfl, dev_of m (by have := HL.out; omega) HU.out (Sat.ac (Sat.alloc2 h2 _ _) (by ac_rfl))⟩
  · obtain ⟨m, hm⟩ : ∃ m, m = l.take 65536 := ⟨_, rfl⟩
    have hml : m.length = 65536 := by rw [hm, List.length_take]; omega
    have hR2 := HR.out 65536 (by omega)
    rw [← hm] at hR2 HU ⊢
    have hR3 : ∀ W, Sat E W F → Rd W 1 (.slice ao 65536 c) m.length (u64s m) := by rw [hml]; exact hR2
    have HR3 := Lib.hid hR3
    have HL := Lib.hid hml
    clear hm hR2 hR3 hml HR
    go_enter Tryz.func31, Tryz.ntmps31
    go_wp2_with fail
    refine (clone64_calls _ m _ (by have := HL.out; omega) (HR3.out _ hs) hs).mono ?_
    rintro e w1 ⟨v1, rfl, h1⟩
    obtain ⟨a1, c1, rfl, _, _⟩ := words_val h1
    go_wp2_with fail
    refine (clone64_calls _ m _ (by have := HL.out; omega) (HR3.out _ h1.right) h1).mono ?_
    rintro e w2 ⟨v2, rfl, h2⟩
    obtain ⟨a2, c2, rfl, _, _⟩ := words_val h2
    go_wp2_with fail
    go_ret
    exact ⟨_, rfl, dev_of m (by have := HL.out; omega) HU.out (Sat.ac (Sat.alloc2 h2 _ _) (by ac_rfl))⟩
end
end Scul
/- Rows of words, written all or none, as plain data: which of the device's calls are made, in which order, up to the first that is refused. No program in sight. -/
namespace Scul
open Go Go.Sl Go.RowKit

structure Ent where
  at_ : Int
  word : Int

/-- A call to the device. -/
inductive DOp
  | st (a x : Int)
  | fl (a : Int)
  | fe

namespace Dev
def opD (d : Dev) : DOp → Dev
  | .st a x => d.store a x
  | .fl a => d.flush a
  | .fe => d.fence
def opE (d : Dev) : DOp → Int
  | .st a _ => d.storeE a
  | .fl a => d.flushE a
  | .fe => d.fenceE
/-- Calls in a row, up to the first that is refused. -/
def run (d : Dev) : List DOp → Dev × Int
  | [] => (d, 0)
  | o :: r => if d.opE o = 0 then run (d.opD o) r else (d.opD o, d.opE o)

theorem run_nil (d : Dev) : d.run [] = (d, 0) := rfl
theorem run_cons (d : Dev) (o : DOp) (r : List DOp) : d.run (o :: r) = if d.opE o = 0 then (d.opD o).run r else (d.opD o, d.opE o) := rfl
theorem run_st (d : Dev) (a x : Int) (r : List DOp) : d.run (.st a x :: r) = if d.storeE a = 0 then (d.store a x).run r else (d.store a x, d.storeE a) := rfl
theorem run_fl (d : Dev) (a : Int) (r : List DOp) : d.run (.fl a :: r) = if d.flushE a = 0 then (d.flush a).run r else (d.flush a, d.flushE a) := rfl
theorem run_fe (d : Dev) (r : List DOp) : d.run (.fe :: r) = if d.fenceE = 0 then d.fence.run r else (d.fence, d.fenceE) := rfl
theorem run_append (d : Dev) (a b : List DOp) : d.run (a ++ b) = if (d.run a).2 = 0 then (d.run a).1.run b else d.run a := by
  induction a generalizing d with
  | nil => simp [run_nil]
  | cons o r ih =>
    rw [List.cons_append, run_cons, run_cons]
    by_cases h : d.opE o = 0
    · rw [if_pos h, if_pos h]; exact ih _
    · rw [if_neg h, if_neg h, if_neg h]
end Dev

namespace Redo
/-- The addresses at which lines of [a, b) are flushed. -/
def flGo : Nat → Nat → Nat → List Nat
  | 0, _, _ => []
  | k + 1, a, b => if a < b then a :: flGo k ((a / 8 + 1) * 8) b else []
theorem flGo_fuel (k k' a b : Nat) (h : b - a ≤ k) (h' : b - a ≤ k') : flGo k a b = flGo k' a b := by
  induction k generalizing k' a with
  | zero =>
    cases k' with
    | zero => rfl
    | succ k' => rw [flGo, flGo, if_neg (by omega)]
  | succ k ih =>
    cases k' with
    | zero => rw [flGo, flGo, if_neg (by omega)]
    | succ k' =>
      rw [flGo, flGo]
      by_cases hab : a < b
      · rw [if_pos hab, if_pos hab, ih k' _ (by omega) (by omega)]
      · rw [if_neg hab, if_neg hab]
def flAddrs (a b : Nat) : List Nat := flGo (b - a) a b
def flOps (a b : Nat) : List DOp := (flAddrs a b).map fun x : Nat => DOp.fl (x : Int)
theorem flOps_step {a b : Nat} (h : a < b) : flOps a b = .fl (a : Int) :: flOps ((a / 8 + 1) * 8) b := by
  unfold flOps flAddrs
  rw [show b - a = (b - a - 1) + 1 by omega, flGo, if_pos h, flGo_fuel (b - a - 1) (b - (a / 8 + 1) * 8) _ _ (by omega) (by omega)]
  rfl
theorem flOps_done {a b : Nat} (h : b ≤ a) : flOps a b = [] := by
  unfold flOps flAddrs
  rw [show b - a = 0 by omega]
  rfl
def markOps (frm n : Int) : List DOp := [.st frm n, .fl frm, .fe]
/-- The entries into the log. -/
def entOps (a : Int) : List Ent → List DOp
  | [] => []
  | x :: r => .st a (IntKind.u64.wrap x.at_) :: .st (a + 1) x.word :: entOps (a + 2) r
def putOps (frm : Nat) (l : List Ent) : List DOp := entOps ((frm : Int) + 8) l ++ (flOps (frm + 8) (frm + 8 + 2 * l.length) ++ [.fe])
def stOps (l : List Ent) : List DOp := l.map fun x => .st x.at_ x.word
/-- Each line once. -/
def onceOps (met : List Int) : List Ent → List DOp
  | [] => []
  | x :: r => if x.at_ / 8 ∈ met then onceOps met r else .fl x.at_ :: onceOps (x.at_ / 8 :: met) r
def doOps (frm : Int) (l : List Ent) : List DOp := stOps l ++ (onceOps [] l ++ ([.fe] ++ markOps frm 0))
def writeOps (frm : Nat) (l : List Ent) : List DOp := putOps frm l ++ (markOps frm l.length ++ doOps frm l)

def need (n : Int) : Int := if n < 0 ∨ 1024 < n then 0 else 8 + 2 * n
def may (d : Dev) (frm til : Int) : Bool := decide (0 ≤ frm ∧ frm < til ∧ til ≤ (d.read.length : Int) ∧ frm % 8 = 0)
def mayAt (d : Dev) (frm til a : Int) : Bool := decide (0 ≤ a ∧ a < (d.read.length : Int) ∧ (a < frm ∨ til ≤ a))
def fits (frm til n : Int) : Bool := decide (n ≤ 1024 ∧ need n ≤ wrap64 (til - frm))
def write (d : Dev) (frm til : Int) (l : List Ent) : Dev × Int :=
  if may d frm til = false then (d, 1)
  else if fits frm til l.length = false then (d, 9)
  else if (l.all fun x => mayAt d frm til x.at_) = false then (d, 1)
  else if d.loadE frm ≠ 0 then (d, d.loadE frm)
  else if d.load frm ≠ 0 then (d, 10)
  else if l = [] then (d, 0)
  else d.run (writeOps frm.toNat l)
end Redo
end Scul
/- redo: Need, may, fits, mayAt, mark, flush. -/
namespace Scul
open Go Go.Sl Go.RowKit Go.Proofs
section
variable {E : Env} {w : World} {F : HP} {b : Nat} {d : Dev}

/-- A log's place, as it is handed on. -/
def glog (b : Nat) (frm til : Int) : Value := .agg #[.pointer (some ⟨b, 0, none⟩), .int .i64 frm, .int .i64 til]

theorem need_calls (w : World) (n : Int) : Calls Tryz.prog 114 #[.int .i64 n] w fun e w' => e = .returned (.int .i64 (Redo.need n)) ∧ w' = w := by
  rcases (show n < 0 ∨ (0 ≤ n ∧ 1024 < n) ∨ (0 ≤ n ∧ n ≤ 1024) from by omega) with h | ⟨h, h2⟩ | ⟨h, h2⟩
  · have e1 : Redo.need n = 0 := if_pos (.inl h)
    rw [e1]
    go_enter Tryz.func114, Tryz.ntmps114
    go_wp2_with fail
    go_ret
    exact ⟨rfl, rfl⟩
  · have e1 : Redo.need n = 0 := if_pos (.inr h2)
    rw [e1]
    go_enter Tryz.func114, Tryz.ntmps114
    go_wp2_with fail
    go_ret
    exact ⟨rfl, rfl⟩
  · have e1 : Redo.need n = 8 + 2 * n := if_neg (by omega)
    rw [e1]
    go_enter Tryz.func114, Tryz.ntmps114
    go_wp2_with fail
    go_ret
    exact ⟨rfl, rfl⟩

theorem mark_calls (w : World) (frm til n : Int) (hn : U64 n) (hn2 : n < 9223372036854775808) (h : Sat E w (dev b d * F)) :
    Calls Tryz.prog 166 #[glog b frm til, .int .i64 n] w fun e w' => e = .returned (.int .i64 (d.run (Redo.markOps frm n)).2) ∧ Sat E w' (dev b (d.run (Redo.markOps frm n)).1 * F) := by
  have hal := h.alloc (.cells #[.pointer (some ⟨b, 0, none⟩), .int .i64 frm, .int .i64 til] 167)
  have hu : IntKind.u64.wrap n = n := by
    unfold U64 at hn
    simp only [IntKind.wrap, IntKind.bits, IntKind.signed]
    simp
    omega
  generalize hgb : w.heap.size = gb at hal
  have e1 : d.run (Redo.markOps frm n) = if d.storeE frm = 0 then (if (d.store frm n).flushE frm = 0 then (if ((d.store frm n).flush frm).fenceE = 0 then (((d.store frm n).flush frm).fence, 0) else (((d.store frm n).flush frm).fence, ((d.store frm n).flush frm).fenceE)) else ((d.store frm n).flush frm, (d.store frm n).flushE frm)) else (d.store frm n, d.storeE frm) := rfl
  obtain ⟨R, hR⟩ : ∃ R, R = d.run (Redo.markOps frm n) := ⟨_, rfl⟩
  rw [← hR]
  rw [e1] at hR
  clear e1
  unfold glog
  go_enter Tryz.func166, Tryz.ntmps166
  go_wp2_with fail
  refine (store_calls _ _ _ hn (Sat.swap hal)).mono ?_
  rintro e w1 ⟨rfl, h1⟩
  generalize d.store frm n = d1 at h1 hR
  generalize d.storeE frm = e1 at hR ⊢
  have g0 := (Sat.swap h1).cell 0 rfl
  have g1 := (Sat.swap h1).cell 1 rfl
  by_cases he1 : e1 = 0
  · subst he1
    rw [if_pos rfl] at hR
    go_wp2_with fail
    refine (flush_calls _ _ h1).mono ?_
    rintro e w2 ⟨rfl, h2⟩
    generalize d1.flush frm = d2 at h2 hR
    generalize d1.flushE frm = e2 at hR ⊢
    have g0 := (Sat.swap h2).cell 0 rfl
    by_cases he2 : e2 = 0
    · subst he2
      rw [if_pos rfl] at hR
      go_wp2_with fail
      refine (fence_calls _ h2).mono ?_
      rintro e w3 ⟨rfl, h3⟩
      have hR2 : R = (d2.fence, d2.fenceE) := by
        rw [hR]
        split
        · rename_i h0; rw [h0]
        · rfl
      have HR := Lib.hid hR2
      clear hR hR2
      go_wp2_with fail
      go_ret
      rw [HR.out]
      exact ⟨rfl, Sat.mid h3⟩
    · rw [if_neg he2] at hR
      have HR := Lib.hid hR
      have hb2 : (e2 != 0) = true := by simpa using he2
      clear hR
      go_wp2_with fail
      go_ret
      rw [HR.out]
      exact ⟨rfl, Sat.mid h2⟩
  · rw [if_neg he1] at hR
    have HR := Lib.hid hR
    have hb1 : (e1 != 0) = true := by simpa using he1
    clear hR
    go_wp2_with fail
    go_ret
    rw [HR.out]
    exact ⟨rfl, Sat.mid h1⟩

def RFl.arr (gb y cur : Nat) (u : Nat → Value) : Array Value := #[u 0, u 1, .int .i64 (y : Int), .pointer (some ⟨gb, 0, none⟩), u 4, u 5, u 6, u 7, .int .i64 (cur : Int), u 9, u 10, u 11, u 12, u 13, u 14, u 15, u 16, u 17, u 18, u 19, u 20, u 21, u 22, u 23]
/-- The frame at the label. -/
def RFl.fr (gb y cur : Nat) (a : Act) : Prop := a = ⟨RFl.arr gb y cur (fun k => a.tmps.getD k undef), []⟩
/-- What holds at the label: what is still to be flushed gives what all of it gives. -/
def RFl.J (E : Env) (b gb : Nat) (frm til : Int) (y : Nat) (R : Dev × Int) (F : HP) (n : Nat) (a : Act) (w : World) : Prop :=
  ∃ (cur : Nat) (d : Dev), y - cur = n ∧ cur ≤ 70008 ∧ d.run (Redo.flOps cur y) = R ∧ Sat E w (dev b d * (pt gb (.cells #[.pointer (some ⟨b, 0, none⟩), .int .i64 frm, .int .i64 til] 167) * F)) ∧ RFl.fr gb y cur a

theorem rflush_calls (w : World) (frm til : Int) (x y : Nat) (hx : x ≤ 70000) (hy : y ≤ 70000) (h : Sat E w (dev b d * F)) :
    Calls Tryz.prog 202 #[glog b frm til, .int .i64 x, .int .i64 y] w fun e w' => e = .returned (.int .i64 (d.run (Redo.flOps x y)).2) ∧ Sat E w' (dev b (d.run (Redo.flOps x y)).1 * F) := by
  have hal := h.alloc (.cells #[.pointer (some ⟨b, 0, none⟩), .int .i64 frm, .int .i64 til] 167)
  generalize hgb : w.heap.size = gb at hal
  obtain ⟨R, hR⟩ : ∃ R, R = d.run (Redo.flOps x y) := ⟨_, rfl⟩
  rw [← hR]
  have HJ0 : Hid (∀ a, RFl.fr gb y x a → RFl.J E b gb frm til y R F (y - x) a _) := fun a ha => ⟨x, d, rfl, by omega, hR.symm, Sat.swap hal, ha⟩
  clear hal h hR
  unfold glog
  go_enter Tryz.func202, Tryz.ntmps202
  go_wp2_with fail
  refine wp_scope_ghost 0 (RFl.J E b gb frm til y R F) rfl ?_ ?_
  · rintro n a w ⟨cur, d, hn, hc, hr, hW, ha⟩
    obtain ⟨u, hu⟩ : ∃ u : Nat → Value, u = fun k => a.tmps.getD k undef := ⟨_, rfl⟩
    unfold RFl.fr at ha
    rw [← hu] at ha
    clear hu
    unfold RFl.arr at ha
    subst ha
    have g0 := (Sat.swap hW).cell 0 rfl
    by_cases hlt : cur < y
    · have hlt' : ¬ (y : Int) ≤ cur := by omega
      rw [Redo.flOps_step hlt, Dev.run_fl] at hr
      go_wp2_with fail
      refine (flush_calls _ _ hW).mono ?_
      rintro e w2 ⟨rfl, h2⟩
      generalize d.flush (cur : Int) = d2 at h2 hr
      obtain ⟨e2, he2⟩ : ∃ e2, e2 = d.flushE (cur : Int) := ⟨_, rfl⟩
      rw [← he2] at hr ⊢
      clear he2
      by_cases he : e2 = 0
      · subst he
        rw [if_pos rfl] at hr
        have HN : Hid (∀ a, RFl.fr gb y ((cur / 8 + 1) * 8) a → ∃ n', n' < n ∧ RFl.J E b gb frm til y R F n' a w2) := fun a ha => ⟨y - (cur / 8 + 1) * 8, by omega, _, d2, rfl, by omega, hr, h2, ha⟩
        clear hr h2 hW hlt g0
        go_wp2_with fail
        refine wp_goto ?_
        show (0 : Nat) = 0 ∧ _
        exact ⟨rfl, HN.out _ rfl⟩
      · rw [if_neg he] at hr
        have hb : (e2 != 0) = true := by simpa using he
        have HR := Lib.hid hr
        clear hr
        go_wp2_with fail
        simp only [Exit.jump]
        go_ret
        rw [← HR.out]
        exact ⟨rfl, Sat.mid h2⟩
    · have hlt' : (y : Int) ≤ cur := by omega
      rw [Redo.flOps_done (by omega), Dev.run_nil] at hr
      have HR := Lib.hid hr
      clear hr
      go_wp2_with fail
      simp only [Exit.jump]
      go_ret
      rw [← HR.out]
      exact ⟨rfl, Sat.mid hW⟩
  · intro hpass
    go_wp2_with fail
    refine wp_label ?_
    simp only [Exit.then]
    go_step
    exact hpass _ _ _ (HJ0.out _ rfl)
end
end Scul
/- redo: put, do. -/
namespace Scul
open Go Go.Sl Go.RowKit Go.Proofs
section
variable {E : Env} {w : World} {F : HP} {b : Nat} {d : Dev}

def Ent.cells (x : Ent) : List Value := [.int .i64 x.at_, .int .u64 x.word]
def entCells (l : List Ent) : List Value := l.flatMap Ent.cells
theorem entCells_at (l : List Ent) (k j : Nat) (hk : k < l.length) (hj : j < 2) : (entCells l)[2 * k + j]? = (Ent.cells l[k])[j]? := by
  induction l generalizing k with
  | nil => simp at hk
  | cons c l ih =>
    show (c.cells ++ entCells l)[2 * k + j]? = _
    cases k with
    | zero =>
      rw [List.getElem?_append_left (by simp [Ent.cells]; omega)]
      simp
    | succ k =>
      rw [List.getElem?_append_right (by simp [Ent.cells]; omega)]
      have : 2 * (k + 1) + j - c.cells.length = 2 * k + j := by simp [Ent.cells]; omega
      rw [this, ih k (by simpa using hk)]
      simp
/-- The slice reads as these entries. -/
def RdE (w : World) (v : Value) (l : List Ent) : Prop := Rd w 2 v l.length (entCells l) ∧ (∀ x ∈ l, U64 x.word) ∧ ∀ x ∈ l, I64 x.at_
theorem RdE.old {w W : World} {E : Env} {v : Value} {l : List Ent} (h : RdE w v l) (hs : Sat E W (old w)) : RdE W v l := ⟨Rd.old h.1 hs, h.2⟩
theorem RdE.nth {w : World} {ao : Option Addr} {c : Nat} {l : List Ent} (h : RdE w (.slice ao l.length c) l) (k : Nat) (hk : k < l.length) :
    ∃ bb o, ao = some ⟨bb, o, none⟩ ∧ w.cell? ⟨bb, o + k * 2, none⟩ = some (.int .i64 l[k].at_) ∧ w.cell? ⟨bb, o + k * 2 + 1, none⟩ = some (.int .u64 l[k].word) := by
  obtain ⟨bb, o, rfl, hc⟩ := Rd.at h.1 (by omega)
  refine ⟨bb, o, rfl, ?_, ?_⟩
  · have := hc (2 * k + 0) _ (by rw [entCells_at l k 0 hk (by omega)]; rfl)
    rwa [show o + (2 * k + 0) = o + k * 2 by omega] at this
  · have := hc (2 * k + 1) _ (by rw [entCells_at l k 1 hk (by omega)]; rfl)
    rwa [show o + (2 * k + 1) = o + k * 2 + 1 by omega] at this

/-- The log's place in memory. -/
def logAt (gb b : Nat) (frm til : Int) : HP := pt gb (.cells #[.pointer (some ⟨b, 0, none⟩), .int .i64 frm, .int .i64 til] 167)

theorem u64_wrap (x : Int) : U64 (IntKind.u64.wrap x) := by
  unfold U64
  simp only [IntKind.wrap, IntKind.bits, IntKind.signed]
  simp
  omega

set_option maxRecDepth 100000 in
set_option maxHeartbeats 2000000 in
theorem put_calls (w : World) (frm : Nat) (til : Int) (l : List Ent) (ao : Option Addr) (c : Nat) (hfrm : frm ≤ 65536) (hl : l.length ≤ 1024) (hE : ∀ W, Sat E W F → RdE W (.slice ao l.length c) l) (h : Sat E w (dev b d * F)) :
    Calls Tryz.prog 177 #[glog b frm til, .slice ao l.length c] w fun e w' => e = .returned (.int .i64 (d.run (Redo.putOps frm l)).2) ∧ Sat E w' (dev b (d.run (Redo.putOps frm l)).1 * F) := by
  have hal : Sat E _ (logAt w.heap.size b frm til * (dev b d * F)) := h.alloc _
  generalize hgb : w.heap.size = gb at hal
  obtain ⟨R, hR⟩ : ∃ R, R = d.run (Redo.putOps frm l) := ⟨_, rfl⟩
  rw [← hR]
  have HE := Lib.hid hE
  have HR := Lib.hid hR
  clear hE h hR
  unfold glog
  have g0 := hal.cell 1 rfl
  go_enter Tryz.func177, Tryz.ntmps177
  go_wp2_with fail
  clear g0
  go_loopw [17] (fun iv wr => ∃ (i : Nat) (d1 : Dev), i ≤ l.length ∧ iv = .int .i64 i ∧ d1.run (Redo.entOps ((frm : Int) + 8 + 2 * i) (l.drop i) ++ (Redo.flOps (frm + 8) (frm + 8 + 2 * l.length) ++ [.fe])) = R ∧ Sat E wr (logAt gb b frm til * (dev b d1 * F))) (fun iv _ => l.length - (intOf iv).toNat)
  case atStart => exact ⟨0, d, Nat.zero_le _, rfl, by rw [HR.out]; simp [Redo.putOps], hal⟩
  case round =>
    clear hal
    obtain ⟨i, d1, hi, rfl, hr, hw⟩ := hrel
    by_cases hlt : i < l.length
    · obtain ⟨bb, o, rfl, c0, c1⟩ := RdE.nth (HE.out _ hw.right.right) i hlt
      have hx : U64 l[i].word := (HE.out _ hw.right.right).2.1 _ (List.getElem_mem hlt)
      rw [List.drop_eq_getElem_cons hlt] at hr
      obtain ⟨cat, hcat⟩ : ∃ x, x = l[i].at_ := ⟨_, rfl⟩
      obtain ⟨cw, hcw⟩ : ∃ x, x = l[i].word := ⟨_, rfl⟩
      unfold Redo.entOps at hr
      rw [← hcat, ← hcw, List.cons_append, List.cons_append, Dev.run_st] at hr
      rw [← hcat] at c0; rw [← hcw] at c1 hx
      clear hcat hcw
      have ha := hw.alloc (.cells #[.int .i64 cat, .int .u64 cw] 125)
      generalize hxb : wr.heap.size = xb at ha
      have g0 := ha.right.cell 0 rfl
      have HRR := Lib.hid hr
      clear hr
      go_wp2_with fail
      have hin : Sat E _ (dev b d1 * (pt xb (.cells #[.int .i64 cat, .int .u64 cw] 125) * (logAt gb b frm til * F))) := ha.ac (by ac_rfl)
      refine (store_calls _ _ _ (u64_wrap cat) hin).mono ?_
      rintro e w1 ⟨rfl, h1⟩
      have hr := HRR.out
      generalize d1.store ((frm : Int) + 8 + 2 * i) (IntKind.u64.wrap cat) = d2 at h1 hr
      obtain ⟨e1, he1⟩ : ∃ e1, e1 = d1.storeE ((frm : Int) + 8 + 2 * i) := ⟨_, rfl⟩
      rw [← he1] at hr ⊢
      clear he1 ha hin hw g0 HRR
      by_cases he : e1 = 0
      · subst he
        rw [if_pos rfl, Dev.run_st] at hr
        have g0 : w1.cell? ⟨gb, 0, none⟩ = some (.pointer (some ⟨b, 0, none⟩)) := h1.right.right.cell 0 rfl
        have x1 : w1.cell? ⟨xb, 1, none⟩ = some (.int .u64 cw) := h1.right.cell 1 rfl
        have HRR := Lib.hid hr
        clear hr
        go_wp2_with fail
        refine (store_calls _ _ _ hx h1).mono ?_
        rintro e w2 ⟨rfl, h2⟩
        have hr := HRR.out
        generalize d2.store ((frm : Int) + 8 + 2 * i + 1) cw = d3 at h2 hr
        obtain ⟨e2, he2⟩ : ∃ e2, e2 = d2.storeE ((frm : Int) + 8 + 2 * i + 1) := ⟨_, rfl⟩
        rw [← he2] at hr ⊢
        clear he2 HRR h1 g0 x1
        by_cases he : e2 = 0
        · subst he
          rw [if_pos rfl] at hr
          have HRR := Lib.hid hr
          clear hr
          go_wp2_with fail
          refine ⟨⟨i + 1, d3, by omega, rfl, ?_, ?_⟩, by simp only [intOf]; omega⟩
          · rw [show (frm : Int) + 8 + 2 * ((i + 1 : Nat) : Int) = (frm : Int) + 8 + 2 * i + 2 by omega]
            exact HRR.out
          · exact (Sat.mid h2).ac (by ac_rfl)
        · rw [if_neg he] at hr
          have hb : (e2 != 0) = true := by simpa using he
          have HRR := Lib.hid hr
          clear hr
          go_wp2_with fail
          go_ret
          rw [← HRR.out]
          exact ⟨rfl, Sat.mid (Sat.mid h2)⟩
      · rw [if_neg he] at hr
        have hb : (e1 != 0) = true := by simpa using he
        have HRR := Lib.hid hr
        clear hr
        go_wp2_with fail
        go_ret
        rw [← HRR.out]
        exact ⟨rfl, Sat.mid (Sat.mid h1)⟩
    · obtain rfl : i = l.length := by omega
      rw [List.drop_length] at hr
      have hr' : d1.run (Redo.flOps (frm + 8) (frm + 8 + 2 * l.length) ++ [.fe]) = R := hr
      rw [Dev.run_append] at hr'
      have g0 := hw.cell 0 rfl
      have g1 := hw.cell 1 rfl
      have g2 := hw.cell 2 rfl
      have HRR := Lib.hid hr'
      clear hr hr'
      go_wp2_with fail
      have hc := rflush_calls wr (frm : Int) til (frm + 8) (frm + 8 + 2 * l.length) (by omega) (by omega) (Sat.swap hw)
      rw [show ((frm + 8 : Nat) : Int) = (frm : Int) + 8 by omega, show ((frm + 8 + 2 * l.length : Nat) : Int) = (frm : Int) + 8 + 2 * (l.length : Int) by omega] at hc
      refine hc.mono ?_
      rintro e w1 ⟨rfl, h1⟩
      have hr := HRR.out
      obtain ⟨⟨d2, e2⟩, hq⟩ : ∃ q, q = d1.run (Redo.flOps (frm + 8) (frm + 8 + 2 * l.length)) := ⟨_, rfl⟩
      rw [← hq] at hr h1 ⊢
      simp only at hr h1 ⊢
      have g0 := (Sat.swap h1).cell 0 rfl
      clear hq HRR hc hw g1 g2
      by_cases he : e2 = 0
      · subst he
        rw [if_pos rfl, Dev.run_fe] at hr
        have HRR := Lib.hid hr
        clear hr
        go_wp2_with fail
        refine (fence_calls _ h1).mono ?_
        rintro e w2 ⟨rfl, h2⟩
        have hR2 : R = (d2.fence, d2.fenceE) := by
          rw [← HRR.out]
          split
          · rename_i h0; rw [h0]; rfl
          · rfl
        have HR2 := Lib.hid hR2
        clear hR2
        go_wp2_with fail
        go_ret
        rw [HR2.out]
        exact ⟨rfl, Sat.mid h2⟩
      · rw [if_neg he] at hr
        have hb : (e2 != 0) = true := by simpa using he
        have HRR := Lib.hid hr
        clear hr
        go_wp2_with fail
        go_ret
        rw [← HRR.out]
        exact ⟨rfl, Sat.mid h1⟩

set_option maxRecDepth 100000 in
set_option maxHeartbeats 4000000 in
theorem do_calls (w : World) (frm til : Int) (l : List Ent) (ao : Option Addr) (c : Nat) (hl : l.length ≤ 1024) (hat : ∀ x ∈ l, 0 ≤ x.at_) (hE : ∀ W, Sat E W F → RdE W (.slice ao l.length c) l) (h : Sat E w (dev b d * F)) :
    Calls Tryz.prog 125 #[glog b frm til, .slice ao l.length c] w fun e w' => e = .returned (.int .i64 (d.run (Redo.doOps frm l)).2) ∧ Sat E w' (dev b (d.run (Redo.doOps frm l)).1 * F) := by
  have hal : Sat E _ (logAt w.heap.size b frm til * (dev b d * F)) := h.alloc _
  generalize hgb : w.heap.size = gb at hal
  obtain ⟨R, hR⟩ : ∃ R, R = d.run (Redo.doOps frm l) := ⟨_, rfl⟩
  rw [← hR]
  have HE := Lib.hid hE
  have HR := Lib.hid hR
  have HAT := Lib.hid hat
  clear hE h hR hat
  unfold glog
  go_enter Tryz.func125, Tryz.ntmps125
  go_wp2_with fail
  go_loopw [16] (fun iv wr => ∃ (i : Nat) (d1 : Dev), i ≤ l.length ∧ iv = .int .i64 i ∧ d1.run (Redo.stOps (l.drop i) ++ (Redo.onceOps [] l ++ ([.fe] ++ Redo.markOps frm 0))) = R ∧ Sat E wr (logAt gb b frm til * (dev b d1 * F))) (fun iv _ => l.length - (intOf iv).toNat)
  case atStart => exact ⟨0, d, Nat.zero_le _, rfl, HR.out.symm, hal⟩
  case round =>
    clear hal
    obtain ⟨i, d1, hi, rfl, hr, hw⟩ := hrel
    by_cases hlt : i < l.length
    · obtain ⟨bb, o, rfl, c0, c1⟩ := RdE.nth (HE.out _ hw.right.right) i hlt
      have hx : U64 l[i].word := (HE.out _ hw.right.right).2.1 _ (List.getElem_mem hlt)
      rw [List.drop_eq_getElem_cons hlt] at hr
      obtain ⟨cat, hcat⟩ : ∃ x, x = l[i].at_ := ⟨_, rfl⟩
      obtain ⟨cw, hcw⟩ : ∃ x, x = l[i].word := ⟨_, rfl⟩
      have hr1 : d1.run (.st cat cw :: (Redo.stOps (l.drop (i + 1)) ++ (Redo.onceOps [] l ++ ([.fe] ++ Redo.markOps frm 0)))) = R := by rw [hcat, hcw]; exact hr
      rw [Dev.run_st] at hr1
      rw [← hcat] at c0; rw [← hcw] at c1 hx
      clear hcat hcw hr
      have ha := hw.alloc (.cells #[.int .i64 cat, .int .u64 cw] 125)
      generalize hxb : wr.heap.size = xb at ha
      have g0 := ha.right.cell 0 rfl
      have hin : Sat E _ (dev b d1 * (pt xb (.cells #[.int .i64 cat, .int .u64 cw] 125) * (logAt gb b frm til * F))) := ha.ac (by ac_rfl)
      have HRR := Lib.hid hr1
      clear hr1
      go_wp2_with fail
      refine (store_calls _ _ _ hx hin).mono ?_
      rintro e w1 ⟨rfl, h1⟩
      have hr := HRR.out
      generalize d1.store cat cw = d2 at h1 hr
      obtain ⟨e1, he1⟩ : ∃ e1, e1 = d1.storeE cat := ⟨_, rfl⟩
      rw [← he1] at hr ⊢
      clear he1 ha hin hw g0 HRR
      by_cases he : e1 = 0
      · subst he
        rw [if_pos rfl] at hr
        have HRR := Lib.hid hr
        clear hr
        go_wp2_with fail
        exact ⟨⟨i + 1, d2, by omega, rfl, HRR.out, (Sat.mid h1).ac (by ac_rfl)⟩, by simp only [intOf]; omega⟩
      · rw [if_neg he] at hr
        have hb : (e1 != 0) = true := by simpa using he
        have HRR := Lib.hid hr
        clear hr
        go_wp2_with fail
        go_ret
        rw [← HRR.out]
        exact ⟨rfl, Sat.mid (Sat.mid h1)⟩
    · obtain rfl : i = l.length := by omega
      rw [List.drop_length] at hr
      have hr' : d1.run (Redo.onceOps [] l ++ ([.fe] ++ Redo.markOps frm 0)) = R := hr
      have hmap := hw.imap_new
      generalize hmb : wr.heap.size = mb at hmap
      have HRR := Lib.hid hr'
      have hmm := @run_makeMap Tryz.prog
      clear hr hr'
      go_wp2_with fail
      go_loopw [34] (fun iv wr => ∃ (i : Nat) (d1 : Dev) (met : List Int) (m : List (Int × Value)), i ≤ l.length ∧ iv = .int .i64 i ∧ (∀ x, m.lookup x = if x ∈ met then some (.int .i64 1) else none) ∧ d1.run (Redo.onceOps met (l.drop i) ++ ([.fe] ++ Redo.markOps frm 0)) = R ∧ Sat E wr (imap mb m * (logAt gb b frm til * (dev b d1 * F)))) (fun iv _ => l.length - (intOf iv).toNat)
      case atStart => exact ⟨0, d1, [], [], Nat.zero_le _, rfl, by simp, HRR.out, hmap⟩
      case round =>
        clear hmap HRR hw hmm
        obtain ⟨i, d1, met, m, hi, rfl, hm, hr, hw⟩ := hrel
        by_cases hlt : i < l.length
        · obtain ⟨bb, o, rfl, c0, c1⟩ := RdE.nth (HE.out _ hw.right.right.right) i hlt
          have h0 : 0 ≤ l[i].at_ := HAT.out _ (List.getElem_mem hlt)
          rw [List.drop_eq_getElem_cons hlt] at hr
          unfold Redo.onceOps at hr
          obtain ⟨cat, hcat⟩ : ∃ x, x = l[i].at_ := ⟨_, rfl⟩
          obtain ⟨cw, hcw⟩ : ∃ x, x = l[i].word := ⟨_, rfl⟩
          rw [← hcat] at hr c0 h0
          rw [← hcw] at c1
          have hdiv : cat.tdiv 8 = cat / 8 := Int.tdiv_eq_ediv_of_nonneg h0
          have hi64 : I64 cat := by rw [hcat]; exact (HE.out _ hw.right.right.right).2.2 _ (List.getElem_mem hlt)
          obtain ⟨K, hK⟩ : ∃ K, K = cat / 8 := ⟨_, rfl⟩
          have hwr : wrap64 (cat / 8) = K := by unfold I64 at hi64; unfold wrap64; omega
          rw [← hK] at hr
          clear hi64 hcat hcw hK
          have ha := hw.alloc (.cells #[.int .i64 cat, .int .u64 cw] 125)
          generalize hxb : wr.heap.size = xb at ha
          have hlk := run_lookup_sl ha.right Tryz.underlying170 Tryz.underlying3 (z := .int .i64 0) (by kernel_rfl) K false
          rw [hm] at hlk
          by_cases hmem : K ∈ met
          · rw [if_pos hmem] at hlk hr
            simp only [Bool.false_eq_true, if_false, Option.getD_some] at hlk
            have HRR := Lib.hid hr
            have HM := Lib.hid hm
            clear hr hmem hm
            go_wp2_with fail
            exact ⟨⟨i + 1, d1, met, m, by omega, rfl, HM.out, HRR.out, ha.right⟩, by simp only [intOf]; omega⟩
          · rw [if_neg hmem] at hlk hr
            simp only [Bool.false_eq_true, if_false, Option.getD_none] at hlk
            rw [List.cons_append, Dev.run_fl] at hr
            have HRR := Lib.hid hr
            have HA := Lib.hid (ha.ac (B := imap mb m * (dev b d1 * (pt xb (.cells #[.int .i64 cat, .int .u64 cw] 125) * (logAt gb b frm til * F)))) (by ac_rfl))
            clear hr hmem ha hw
            go_wp2_with ((with_reducible show Oper.upon _ _ _ _ _ (Result.andThen (Sem.run _ (Instr.mapUpdate _ _ _ _) _) _)); obtain ⟨w1, hrun, h1, _⟩ := run_mapUpdate_sl HA.out Tryz.underlying170 Tryz.underlying3 K (.int .i64 1); rw [hrun]; simp only [Result.andThen_ok, Oper.upon_skip]; have x0 := (Sat.right (Sat.right h1)).cell 0 rfl; have g0 : w1.cell? ⟨gb, 0, none⟩ = some (.pointer (some ⟨b, 0, none⟩)) := (Sat.right (Sat.right (Sat.right h1))).cell 0 rfl)
            refine (flush_calls _ _ (Sat.swap h1)).mono ?_
            rintro e w2 ⟨rfl, h2⟩
            have hr := HRR.out
            generalize d1.flush cat = d2 at h2 hr
            obtain ⟨e2, he2⟩ : ∃ e2, e2 = d1.flushE cat := ⟨_, rfl⟩
            rw [← he2] at hr ⊢
            clear he2 HRR h1 g0 x0 HA hrun
            by_cases he : e2 = 0
            · subst he
              rw [if_pos rfl] at hr
              have HRR := Lib.hid hr
              have HM : Hid (∀ x, (mput m K (.int .i64 1)).lookup x = if x ∈ K :: met then some (.int .i64 1) else none) := by
                show ∀ x, _
                intro x
                rw [lookup_mput, hm]
                by_cases hxK : x = K
                · simp [hxK]
                · simp [hxK]
              have H2 : Hid (Sat E w2 (imap mb (mput m K (.int .i64 1)) * (logAt gb b frm til * (dev b d2 * F)))) := (h2.ac (B := pt xb (.cells #[.int .i64 cat, .int .u64 cw] 125) * (imap mb (mput m K (.int .i64 1)) * (logAt gb b frm til * (dev b d2 * F)))) (by ac_rfl)).right
              clear hr hm h2
              go_wp2_with fail
              exact ⟨⟨i + 1, d2, K :: met, _, by omega, rfl, HM.out, HRR.out, H2.out⟩, by simp only [intOf]; omega⟩
            · rw [if_neg he] at hr
              have hb : (e2 != 0) = true := by simpa using he
              have HRR := Lib.hid hr
              clear hr hm
              go_wp2_with fail
              go_ret
              rw [← HRR.out]
              exact ⟨rfl, Sat.mid (Sat.mid (Sat.mid h2))⟩
        · obtain rfl : i = l.length := by omega
          rw [List.drop_length] at hr
          have hr' : d1.run (.fe :: Redo.markOps frm 0) = R := hr
          rw [Dev.run_fe] at hr'
          have h1 : Sat E wr (dev b d1 * (logAt gb b frm til * F)) := Sat.swap hw.right
          have g0 := hw.right.cell 0 rfl
          have HRR := Lib.hid hr'
          clear hr hr' hm hw
          go_wp2_with fail
          refine (fence_calls _ h1).mono ?_
          rintro e w2 ⟨rfl, h2⟩
          have hr := HRR.out
          generalize d1.fence = d2 at h2 hr
          obtain ⟨e2, he2⟩ : ∃ e2, e2 = d1.fenceE := ⟨_, rfl⟩
          rw [← he2] at hr ⊢
          clear he2 HRR h1 g0
          by_cases he : e2 = 0
          · subst he
            rw [if_pos rfl] at hr
            have HRR := Lib.hid hr
            have g0 := (Sat.swap h2).cell 0 rfl
            have g1 := (Sat.swap h2).cell 1 rfl
            have g2 := (Sat.swap h2).cell 2 rfl
            clear hr
            go_wp2_with fail
            refine (mark_calls _ frm til 0 ⟨by omega, by omega⟩ (by omega) (Sat.mid h2)).mono ?_
            rintro e w3 ⟨rfl, h3⟩
            rw [HRR.out] at h3 ⊢
            go_wp2_with fail
            go_ret
            exact ⟨rfl, h3⟩
          · rw [if_neg he] at hr
            have hb : (e2 != 0) = true := by simpa using he
            have HRR := Lib.hid hr
            clear hr
            go_wp2_with fail
            go_ret
            rw [← HRR.out]
            exact ⟨rfl, Sat.mid h2⟩
end
end Scul
/- redo: may, fits, mayAt, Write; a row that every program must know. -/
namespace Scul
open Go Go.Sl Go.RowKit Go.Proofs
section
variable {E : Env} {w : World} {F : HP} {b : Nat} {d : Dev}

set_option maxRecDepth 100000 in
set_option maxHeartbeats 4000000 in
theorem may_calls (w : World) (frm til : Int) (h : Sat E w (dev b d * F)) :
    Calls Tryz.prog 123 #[glog b frm til] w fun e w' => e = .returned (.bool (Redo.may d frm til)) ∧ Sat E w' (dev b d * F) := by
  have hal : Sat E _ (logAt w.heap.size b frm til * (dev b d * F)) := h.alloc _
  have HLN : ∀ W, Sat E W (dev b d * F) → ∀ k, Calls Tryz.prog 53 #[.pointer (some ⟨b, 0, none⟩)] (W.drewN k) fun e w' => e = .returned (.int .i64 d.read.length) ∧ w' = W.drewN k := fun W hW k => len_calls _ (hW.drewN k)
  obtain ⟨gb, hgb⟩ : ∃ gb, gb = w.heap.size := ⟨_, rfl⟩
  rw [← hgb] at hal
  have HB : Hid (Redo.may d frm til = (decide (0 ≤ frm) && decide (frm < til) && decide (til ≤ (d.read.length : Int)) && (frm % 8 == 0))) := by
    show _ = _
    unfold Redo.may
    rw [Bool.eq_iff_iff]
    simp only [decide_eq_true_iff, Bool.and_eq_true, beq_iff_eq]
    constructor
    · rintro ⟨a, b, c, d⟩; exact ⟨⟨⟨a, b⟩, c⟩, d⟩
    · rintro ⟨⟨⟨a, b⟩, c⟩, d⟩; exact ⟨a, b, c, d⟩
  unfold glog
  generalize d.read.length = n at HLN HB
  go_enter Tryz.func123, Tryz.ntmps123
  go_wp2_with fail
  rw [← hgb]
  refine atSat _ hal fun W hW => ?_
  have HL2 := Lib.hid (HLN W hW.right)
  have HW := Lib.hid hW.right
  have c0 := hW.cell 0 rfl
  have c1 := hW.cell 1 rfl
  have c2 := hW.cell 2 rfl
  clear HLN hal h hW hgb
  by_cases h1 : 0 ≤ frm
  · have q1 : decide (0 ≤ frm) = true := by simpa using h1
    rw [q1] at HB
    by_cases h2 : frm < til
    · have q2 : decide (frm < til) = true := by simpa using h2
      rw [q2] at HB
      by_cases h3 : til ≤ (n : Int)
      · have q3 : decide (til ≤ (n : Int)) = true := by simpa using h3
        rw [q3] at HB
        go_quiet ((go_at_call 53; exact Calls.quiet_of_same (HL2.out _)))
        go_wp2_with fail
        go_ret
        exact ⟨by rw [HB.out]; simp, HW.out.drewN _⟩
      · have q3 : decide (til ≤ (n : Int)) = false := by simpa using h3
        rw [q3] at HB
        go_quiet ((go_at_call 53; exact Calls.quiet_of_same (HL2.out _)))
        go_wp2_with fail
        go_ret
        exact ⟨by rw [HB.out]; simp, HW.out.drewN _⟩
    · have q2 : decide (frm < til) = false := by simpa using h2
      rw [q2] at HB
      go_quiet (fail)
      go_wp2_with fail
      go_ret
      exact ⟨by rw [HB.out]; simp, HW.out.drewN _⟩
  · have q1 : decide (0 ≤ frm) = false := by simpa using h1
    rw [q1] at HB
    go_quiet (fail)
    go_wp2_with fail
    go_ret
    exact ⟨by rw [HB.out]; simp, HW.out.drewN _⟩

theorem fits_calls (w : World) (frm til n : Int) (h : Sat E w (dev b d * F)) :
    Calls Tryz.prog 164 #[glog b frm til, .int .i64 n] w fun e w' => e = .returned (.bool (Redo.fits frm til n)) ∧ Sat E w' (dev b d * F) := by
  have hal : Sat E _ (logAt w.heap.size b frm til * (dev b d * F)) := h.alloc _
  obtain ⟨gb, hgb⟩ : ∃ gb, gb = w.heap.size := ⟨_, rfl⟩
  rw [← hgb] at hal
  have HB : Hid (Redo.fits frm til n = (decide (n ≤ 1024) && decide (Redo.need n ≤ wrap64 (til - frm)))) := by
    show _ = _
    unfold Redo.fits
    rw [Bool.eq_iff_iff]
    simp only [decide_eq_true_iff, Bool.and_eq_true]
  unfold glog
  go_enter Tryz.func164, Tryz.ntmps164
  go_wp2_with fail
  rw [← hgb]
  refine atSat _ hal fun W hW => ?_
  have HL2 := Lib.hid (fun k => need_calls (W.drewN k) n)
  have HW := Lib.hid hW.right
  have c0 := hW.cell 0 rfl
  have c1 := hW.cell 1 rfl
  have c2 := hW.cell 2 rfl
  clear hal h hW hgb
  by_cases h1 : n ≤ 1024
  · have q1 : decide (n ≤ 1024) = true := by simpa using h1
    rw [q1] at HB
    go_quiet ((go_at_call 114; exact Calls.quiet_of_same (HL2.out _)))
    go_wp2_with fail
    go_ret
    exact ⟨by rw [HB.out]; simp, HW.out.drewN _⟩
  · have q1 : decide (n ≤ 1024) = false := by simpa using h1
    rw [q1] at HB
    go_quiet (fail)
    go_wp2_with fail
    go_ret
    exact ⟨by rw [HB.out]; simp, HW.out.drewN _⟩

theorem mayAt_calls (w : World) (frm til a : Int) (h : Sat E w (dev b d * F)) :
    Calls Tryz.prog 165 #[glog b frm til, .int .i64 a] w fun e w' => e = .returned (.bool (Redo.mayAt d frm til a)) ∧ Sat E w' (dev b d * F) := by
  have hal : Sat E _ (logAt w.heap.size b frm til * (dev b d * F)) := h.alloc _
  have c0 := hal.cell 0 rfl
  have c1 := hal.cell 1 rfl
  have c2 := hal.cell 2 rfl
  have HLN := Lib.hid (fun W hW => len_calls (E := E) (F := F) (b := b) (d := d) W hW)
  have HW := Lib.hid hal.right
  have HB : Hid (Redo.mayAt d frm til a = (decide (0 ≤ a) && decide (a < (d.read.length : Int)) && (decide (a < frm) || decide (til ≤ a)))) := by
    show _ = _
    unfold Redo.mayAt
    rw [Bool.eq_iff_iff]
    simp only [decide_eq_true_iff, Bool.and_eq_true, Bool.or_eq_true]
    constructor
    · rintro ⟨a, b, c⟩; exact ⟨⟨a, b⟩, c⟩
    · rintro ⟨⟨a, b⟩, c⟩; exact ⟨a, b, c⟩
  clear hal h
  unfold glog
  go_enter Tryz.func165, Tryz.ntmps165
  go_wp2_with (go_at_call 53; refine (HLN.out _ HW.out).mono ?_; rintro e w' ⟨rfl, rfl⟩)
  all_goals
    go_ret
    exact ⟨by rw [HB.out]; simp [*] <;> (intros; omega), HW.out⟩

def RW.arr (e : Int) (u : Nat → Value) : Array Value := #[u 0, u 1, u 2, u 3, u 4, u 5, u 6, u 7, u 8, u 9, u 10, u 11, u 12, .int .i64 e, u 14, u 15, u 16, u 17, u 18, u 19, u 20, u 21, u 22, u 23, u 24, u 25, u 26, u 27, u 28, u 29, u 30, u 31, u 32, u 33, u 34, u 35, u 36, u 37, u 38, u 39, u 40, u 41, u 42, u 43, u 44, u 45, u 46, u 47, u 48, u 49, u 50, u 51, u 52, u 53, u 54, u 55, u 56, u 57, u 58, u 59, u 60, u 61, u 62, u 63, u 64, u 65]
/-- The frame at the label 'out': the answer lies in its slot. -/
def RW.fr (e : Int) (a : Act) : Prop := a = ⟨RW.arr e (fun k => a.tmps.getD k undef), []⟩
def RW.J (E : Env) (b : Nat) (R : Dev × Int) (F : HP) (_ : Nat) (a : Act) (w : World) : Prop := Sat E w (dev b R.1 * F) ∧ RW.fr R.2 a

set_option maxRecDepth 100000 in
set_option maxHeartbeats 4000000 in
theorem write_calls (w : World) (frm til : Int) (l : List Ent) (ao : Option Addr) (c : Nat) (hfI : I64 frm) (htI : I64 til) (hE : ∀ W, Sat E W F → RdE W (.slice ao l.length c) l) (h : Sat E w (dev b d * F)) :
    Calls Tryz.prog 145 #[.pointer (some ⟨b, 0, none⟩), .int .i64 frm, .int .i64 til, .slice ao l.length c] w fun e w' => e = .returned (.int .i64 (Redo.write d frm til l).2) ∧ Sat E w' (dev b (Redo.write d frm til l).1 * F) := by
  obtain ⟨R, hR⟩ : ∃ R, R = Redo.write d frm til l := ⟨_, rfl⟩
  rw [← hR]
  have HE := Lib.hid hE
  have HR := Lib.hid hR
  have HF := Lib.hid hfI
  have HT := Lib.hid htI
  have hm := (hE w h.right).1.most
  have hal : Sat E _ (logAt w.heap.size b frm til * (dev b d * F)) := h.alloc _
  clear hE hR hfI htI h
  go_enter Tryz.func145, Tryz.ntmps145
  go_wp2_with fail
  refine wp_scope_ghost 0 (RW.J E b R F) rfl ?_ ?_
  · rintro n a w ⟨hW, ha⟩
    obtain ⟨u, hu⟩ : ∃ u : Nat → Value, u = fun k => a.tmps.getD k undef := ⟨_, rfl⟩
    unfold RW.fr at ha
    rw [← hu] at ha
    clear hu hal
    unfold RW.arr at ha
    subst ha
    go_wp2_with fail
    simp only [Exit.jump]
    go_ret
    exact ⟨rfl, hW⟩
  · intro hpass
    have HPASS := Lib.hid hpass
    clear hpass
    obtain ⟨gb, hgb⟩ : ∃ gb, gb = w.heap.size := ⟨_, rfl⟩
    rw [← hgb] at hal
    have g0 := hal.cell 0 rfl
    have g1 := hal.cell 1 rfl
    have g2 := hal.cell 2 rfl
    go_wp2_with fail
    rw [← hgb]
    have hok := dev_ok hal.right
    refine (may_calls _ frm til (Sat.swap hal)).mono ?_
    rintro e w1 ⟨rfl, h1⟩
    clear hal g0 g1 g2 hgb
    have hr := HR.out
    unfold Redo.write at hr
    by_cases hmay : Redo.may d frm til = true
    · rw [hmay, if_neg (by simp)] at hr
      rw [hmay]
      have hmay' : 0 ≤ frm ∧ frm < til ∧ til ≤ (d.read.length : Int) ∧ frm % 8 = 0 := by unfold Redo.may at hmay; simpa using hmay
      obtain ⟨f, rfl⟩ : ∃ f : Nat, frm = f := ⟨frm.toNat, by omega⟩
      have hf : f ≤ 65536 := by have := hok.most; omega
      have g0 := (Sat.swap h1).cell 0 rfl
      have g1 := (Sat.swap h1).cell 1 rfl
      have g2 := (Sat.swap h1).cell 2 rfl
      clear hmay'
      have HRR := Lib.hid hr
      clear hr hmay
      go_wp2_with fail
      refine (fits_calls _ (f : Int) til (l.length : Int) h1).mono ?_
      rintro e w2 ⟨rfl, h2⟩
      have hr := HRR.out
      clear h1 g0 g1 g2 HRR
      by_cases hfit : Redo.fits f til l.length = true
      · rw [hfit, if_neg (by simp)] at hr
        rw [hfit]
        have hl : l.length ≤ 1024 := by unfold Redo.fits at hfit; simp at hfit; omega
        have HRR := Lib.hid hr
        clear hr hfit
        go_wp2_with fail
        go_loopw [28] (fun iv wr => ∃ i : Nat, i ≤ l.length ∧ iv = .int .i64 i ∧ ((l.take i).all fun x => Redo.mayAt d f til x.at_) = true ∧ Sat E wr (dev b d * (logAt gb b f til * F))) (fun iv _ => l.length - (intOf iv).toNat)
        case atStart => exact ⟨0, Nat.zero_le _, rfl, rfl, h2⟩
        case round =>
          clear h2
          obtain ⟨i, hi, rfl, hall, hw⟩ := hrel
          have HALL := Lib.hid hall
          clear hall
          by_cases hlt : i < l.length
          · obtain ⟨bb, o, rfl, c0, c1⟩ := RdE.nth (HE.out _ hw.right.right) i hlt
            obtain ⟨cat, hcat⟩ : ∃ x, x = l[i].at_ := ⟨_, rfl⟩
            obtain ⟨cw, hcw⟩ : ∃ x, x = l[i].word := ⟨_, rfl⟩
            rw [← hcat] at c0
            rw [← hcw] at c1
            have ha := hw.alloc (.cells #[.int .i64 cat, .int .u64 cw] 125)
            generalize hxb : wr.heap.size = xb at ha
            have hin : Sat E _ (dev b d * (logAt gb b f til * F)) := ha.right
            have g0 : (wr.alloc (.cells #[.int .i64 cat, .int .u64 cw] 125)).cell? ⟨gb, 0, none⟩ = some (.pointer (some ⟨b, 0, none⟩)) := (Sat.swap hin).cell 0 rfl
            have g1 : (wr.alloc (.cells #[.int .i64 cat, .int .u64 cw] 125)).cell? ⟨gb, 1, none⟩ = some (.int .i64 f) := (Sat.swap hin).cell 1 rfl
            have g2 : (wr.alloc (.cells #[.int .i64 cat, .int .u64 cw] 125)).cell? ⟨gb, 2, none⟩ = some (.int .i64 til) := (Sat.swap hin).cell 2 rfl
            have HC := Lib.hid hcat
            clear hcat hcw
            go_wp2_with fail
            refine (mayAt_calls _ (f : Int) til cat hin).mono ?_
            rintro e w3 ⟨rfl, h3⟩
            by_cases hma : Redo.mayAt d f til cat = true
            · rw [hma]
              have HMA := Lib.hid hma
              clear hma
              go_wp2_with fail
              refine ⟨⟨i + 1, by omega, rfl, ?_, h3⟩, by simp only [intOf]; omega⟩
              rw [List.take_add_one, List.getElem?_eq_getElem hlt, List.all_append, HALL.out]
              simp [← HC.out, HMA.out]
            · rw [Bool.not_eq_true] at hma
              rw [hma]
              have hno : (l.all fun x => Redo.mayAt d f til x.at_) = false := by
                rw [List.all_eq_false]
                exact ⟨l[i], List.getElem_mem hlt, by rw [← HC.out, hma]; simp⟩
              have hr := HRR.out
              rw [hno, if_pos rfl] at hr
              have HR2 := Lib.hid hr
              clear hr hno hma
              go_wp2_with fail
              simp only [Exit.jump]
              go_ret
              rw [HR2.out]
              exact ⟨rfl, Sat.mid h3⟩
          · obtain rfl : i = l.length := by omega
            have hr := HRR.out
            have hall := HALL.out
            rw [List.take_length] at hall
            rw [hall, if_neg (by simp)] at hr
            have hat : ∀ x ∈ l, 0 ≤ x.at_ := by
              intro x hx
              have := List.all_eq_true.1 hall x hx
              unfold Redo.mayAt at this
              simp at this
              exact this.1
            have HAT := Lib.hid hat
            have HR2 := Lib.hid hr
            clear hr hall hat HRR HALL
            go_wp2_with fail
            refine (load_calls _ _ hw).mono ?_
            rintro e w3 ⟨rfl, n3, rfl⟩
            have h3 := hw.drewN n3
            have hr := HR2.out
            clear hw HR2
            generalize wr.drewN n3 = w4 at h3 ⊢
            obtain ⟨X, hX⟩ : ∃ X, X = d.load (f : Int) := ⟨_, rfl⟩
            obtain ⟨Y, hY⟩ : ∃ Y, Y = d.loadE (f : Int) := ⟨_, rfl⟩
            rw [← hX, ← hY] at hr
            rw [← hX, ← hY]
            clear hX hY
            by_cases hy : Y = 0
            · subst hy
              rw [if_neg (by simp)] at hr
              by_cases hx : X = 0
              · subst hx
                rw [if_neg (by simp)] at hr
                by_cases hn : l = []
                · rw [if_pos hn] at hr
                  have hn0 : (l.length : Int) = 0 := by rw [hn]; rfl
                  have HR2 := Lib.hid hr
                  clear hr hn
                  go_wp2_with fail
                  simp only [Exit.jump]
                  go_ret
                  rw [HR2.out]
                  exact ⟨rfl, Sat.mid h3⟩
                · rw [if_neg hn] at hr
                  have hn0 : ((l.length : Int) == 0) = false := by
                    rw [beq_eq_false_iff_ne]
                    intro h
                    exact hn (List.eq_nil_of_length_eq_zero (by omega))
                  have hr2 : d.run (Redo.putOps f l ++ (Redo.markOps f l.length ++ Redo.doOps f l)) = R := hr.symm
                  rw [Dev.run_append] at hr2
                  have HR2 := Lib.hid hr2
                  have g0 := (Sat.swap h3).cell 0 rfl
                  have g1 := (Sat.swap h3).cell 1 rfl
                  have g2 := (Sat.swap h3).cell 2 rfl
                  clear hr hr2 hn
                  go_wp2_with fail
                  refine (put_calls _ f til l ao c hf hl (fun W hW => HE.out W hW.right) h3).mono ?_
                  rintro e w5 ⟨rfl, h5⟩
                  have hr := HR2.out
                  clear g0 g1 g2 HR2 h3
                  obtain ⟨⟨d1, e1⟩, hq⟩ : ∃ q, q = d.run (Redo.putOps f l) := ⟨_, rfl⟩
                  rw [← hq] at hr h5 ⊢
                  simp only at hr h5 ⊢
                  clear hq
                  by_cases he : e1 = 0
                  · subst he
                    rw [if_pos rfl, Dev.run_append] at hr
                    have HR2 := Lib.hid hr
                    have g0 := (Sat.swap h5).cell 0 rfl
                    have g1 := (Sat.swap h5).cell 1 rfl
                    have g2 := (Sat.swap h5).cell 2 rfl
                    clear hr
                    go_wp2_with fail
                    refine (mark_calls _ f til l.length ⟨by omega, by omega⟩ (by omega) h5).mono ?_
                    rintro e w6 ⟨rfl, h6⟩
                    have hr := HR2.out
                    clear g0 g1 g2 HR2 h5
                    obtain ⟨⟨d2, e2⟩, hq⟩ : ∃ q, q = d1.run (Redo.markOps f l.length) := ⟨_, rfl⟩
                    rw [← hq] at hr h6 ⊢
                    simp only at hr h6 ⊢
                    clear hq
                    by_cases he : e2 = 0
                    · subst he
                      rw [if_pos rfl] at hr
                      have HR2 := Lib.hid hr
                      have g0 := (Sat.swap h6).cell 0 rfl
                      have g1 := (Sat.swap h6).cell 1 rfl
                      have g2 := (Sat.swap h6).cell 2 rfl
                      clear hr
                      go_wp2_with fail
                      refine (do_calls _ f til l ao c hl HAT.out (fun W hW => HE.out W hW.right) h6).mono ?_
                      rintro e w7 ⟨rfl, h7⟩
                      rw [HR2.out] at h7 ⊢
                      go_wp2_with fail
                      refine wp_label ?_
                      simp only [Exit.then]
                      go_step
                      exact HPASS.out 0 _ _ ⟨Sat.mid h7, rfl⟩
                    · rw [if_neg he] at hr
                      have hb : (e2 != 0) = true := by simpa using he
                      have HR2 := Lib.hid hr
                      clear hr
                      go_wp2_with fail
                      refine wp_goto ?_
                      show (0 : Nat) = 0 ∧ _
                      exact ⟨rfl, 0, by rw [← HR2.out]; exact Sat.mid h6, by rw [← HR2.out]; rfl⟩
                  · rw [if_neg he] at hr
                    have hb : (e1 != 0) = true := by simpa using he
                    have HR2 := Lib.hid hr
                    clear hr
                    go_wp2_with fail
                    refine wp_goto ?_
                    show (0 : Nat) = 0 ∧ _
                    exact ⟨rfl, 0, by rw [← HR2.out]; exact Sat.mid h5, by rw [← HR2.out]; rfl⟩
              · rw [if_pos hx] at hr
                have hb : (X != 0) = true := by simpa using hx
                have HR2 := Lib.hid hr
                clear hr
                go_wp2_with fail
                simp only [Exit.jump]
                go_ret
                rw [HR2.out]
                exact ⟨rfl, Sat.mid h3⟩
            · rw [if_pos hy] at hr
              have hb : (Y != 0) = true := by simpa using hy
              have HR2 := Lib.hid hr
              clear hr
              go_wp2_with fail
              refine wp_goto ?_
              show (0 : Nat) = 0 ∧ _
              exact ⟨rfl, 0, by rw [HR2.out]; exact Sat.mid h3, by rw [HR2.out]; rfl⟩
      · rw [Bool.not_eq_true] at hfit
        rw [hfit, if_pos rfl] at hr
        rw [hfit]
        have HRR := Lib.hid hr
        clear hr hfit
        go_wp2_with fail
        simp only [Exit.jump]
        go_ret
        rw [HRR.out]
        exact ⟨rfl, Sat.mid h2⟩
    · rw [Bool.not_eq_true] at hmay
      rw [hmay, if_pos rfl] at hr
      rw [hmay]
      have HRR := Lib.hid hr
      clear hr hmay
      go_wp2_with fail
      simp only [Exit.jump]
      go_ret
      rw [HRR.out]
      exact ⟨rfl, Sat.mid h1⟩
end
end Scul
/- What every law of redo asks besides: awake. -/
namespace Scul
open Go Go.Sl Go.RowKit Go.Proofs
section
variable {E : Env} {w : World} {F : HP} {b : Nat} {d : Dev}
theorem RdE.new {W : World} {g : Nat} {t : TypeId} {f : Nat × Nat} {R : HP} {l : List Ent} (h : Sat E W (pt g (.cells (entCells l).toArray t f) * R)) (hl : l.length ≤ maxLen) (hU : ∀ x ∈ l, U64 x.word) (hI : ∀ x ∈ l, I64 x.at_) : RdE W (.slice (some ⟨g, 0, none⟩) l.length l.length) l := by
  have hlen : (entCells l).length = l.length * 2 := by
    clear h hl hU hI
    induction l with
    | nil => rfl
    | cons c l ih => simp [entCells, Ent.cells] at ih ⊢; omega
  refine ⟨⟨hlen, hl, .inr ⟨g, 0, _, rfl, Nat.le_refl _, fun j u hu => ?_⟩⟩, hU, hI⟩
  rw [Nat.zero_add]
  exact h.cell j (by simpa using hu)

end
end Scul
/- Entries that came in. -/
namespace Scul
open Go Go.Sl Go.RowKit Go.Proofs
theorem list2 {α : Type} {r : List α} (h : r.length = 2) : ∃ a b, r = [a, b] := by
  match r, h with
  | [a, b], _ => exact ⟨a, b, rfl⟩
set_option maxRecDepth 20000 in
open Go.ChangeShapes in
/-- A slice of entries that came in. -/
theorem open_entries {H : Type} {enc : TypeId × Value → H} {w : World} {base : Nat} {spare : Nat → Bool} {held : Bool} {len cap : Nat} {ao : Option Addr} {d : DataW H} {ps : List MemPlace}
    (h : DataW.Trod enc Tryz.prog w base spare held 119 (.slice ao len cap) d ps) : ∃ l : List Ent, l.length = len ∧ RdE w (.slice ao len cap) l := by
  obtain ⟨rows, h1, h2, h3⟩ := open_rows Tryz.underlying119 (size := 2) (by kernel_rfl) (by omega) h
  obtain ⟨l, h4, h5, h6⟩ := rows_as (α := Ent) (rows := rows) (cellsOf := Ent.cells) (ok := fun c => U64 c.word ∧ I64 c.at_) (by
    intro r hr
    obtain ⟨hr4, n, x, hx⟩ := h2 r hr
    obtain ⟨y0, y1, n', _, _, t0, t1⟩ := trod_struct2 Tryz.underlying125 hx
    clear hx h1 h2 h3 h
    obtain ⟨z0, e0, _, hz0⟩ := DataW.trod_int Tryz.underlying3 t0
    obtain ⟨z1, e1, _, hz1⟩ := DataW.trod_int Tryz.underlying24 t1
    clear t0 t1
    have q0 : (r.drop 0).take 1 = [.int .i64 z0] := (show Tryz.prog.cellsOf 3 = 1 from by kernel_rfl) ▸ e0
    have q1 : (r.drop 1).take 1 = [.int .u64 z1] := (show Tryz.prog.cellsOf 24 = 1 from by kernel_rfl) ▸ e1
    clear e0 e1
    obtain ⟨r0, r1, rfl⟩ := list2 hr4
    simp only [List.drop_zero, List.drop_succ_cons, List.take_succ_cons, List.take_zero, List.cons.injEq, and_true] at q0 q1
    subst q0 q1
    exact ⟨⟨z0, z1⟩, rfl, u64_wf hz1, i64_wf hz0⟩)
  refine ⟨l, by omega, ?_, fun c hc => (h6 c hc).1, fun c hc => (h6 c hc).2⟩
  rw [h4, h1]
  rw [h5] at h3
  exact h3
end Scul
