/- Slices that come in: from what the row's form says of them to 'Rd'. -/
import Derived.Test.YtffakdoobeegpaaSlRow
import Derived.Test.YtffakdoobeegpaaRows
import Derived.ProofKit
import Derived.Deep.Slices
import Derived.Lib.SmallJoins
namespace Go.Sl
open Go Go.ChangeShapes Go.RowKit Go.Deep

theorem flat_len {size n : Nat} (g : Nat → List Value) (hg : ∀ i, i < n → (g i).length = size) : ((List.range n).map g).flatten.length = n * size := by
  induction n with
  | zero => simp
  | succ n ih =>
    rw [List.range_succ, List.map_append, List.flatten_append, List.length_append, ih (fun i hi => hg i (by omega))]
    simp [hg n (by omega), Nat.add_mul]
theorem flat_at {size n : Nat} {w : World} {a : Addr} (g : Nat → List Value) (hg : ∀ i, i < n → (g i).length = size) (hc : ∀ i, i < n → ∀ k, k < size → w.cell? ((a.add (i * size)).add k) = (g i)[k]?)
    (j : Nat) (u : Value) (hj : ((List.range n).map g).flatten[j]? = some u) : w.cell? (a.add j) = some u := by
  induction n generalizing j with
  | zero => simp at hj
  | succ n ih =>
    rw [List.range_succ, List.map_append, List.flatten_append] at hj
    have hl := flat_len g (n := n) (fun i hi => hg i (by omega))
    by_cases h : j < n * size
    · rw [List.getElem?_append_left (by omega)] at hj
      exact ih (fun i hi => hg i (by omega)) (fun i hi => hc i (by omega)) j hj
    · rw [List.getElem?_append_right (by omega), hl] at hj
      simp only [List.map_cons, List.map_nil, List.flatten_cons, List.flatten_nil, List.append_nil] at hj
      have hlt : j - n * size < size := by
        have := (List.getElem?_eq_some_iff.1 hj).1
        rwa [hg n (by omega)] at this
      have h2 := hc n (by omega) (j - n * size) hlt
      rw [hj] at h2
      have e : (a.add (n * size)).add (j - n * size) = a.add j := by
        have e2 : j = n * size + (j - n * size) := by omega
        generalize j - n * size = k at *
        generalize n * size = m at *
        subst e2
        unfold Addr.add
        by_cases hm : m = 0 <;> by_cases hk : k = 0 <;> simp [hm, hk, Nat.add_assoc]
      rwa [e] at h2

theorem Rd.of_addr {w : World} {size len cap : Nat} {a : Addr} {cs : List Value} (hp : 0 < size) (h1 : cs.length = len * size) (h2 : len ≤ cap) (h3 : cap ≤ maxLen) (h4 : ∀ j u, cs[j]? = some u → w.cell? (a.add j) = some u) :
    Rd w size (.slice (some a) len cap) len cs := by
  refine ⟨h1, by omega, ?_⟩
  by_cases h0 : len = 0
  · left; subst h0; exact ⟨rfl, _, _, rfl, fun h => by cases h⟩
  · right
    have hpos : 0 < cs.length := by rw [h1]; exact Nat.mul_pos (by omega) hp
    have hs : a.spot = none := by
      have := World.cell?_spot (h4 0 _ (List.getElem?_eq_getElem hpos))
      simpa [Addr.add] using this
    obtain ⟨b, o, sp⟩ := a
    simp only at hs
    subst hs
    refine ⟨b, o, cap, rfl, h2, fun j u hu => ?_⟩
    rw [← Addr.add_lit]
    exact h4 j u hu

section
variable {H : Type} {enc : TypeId × Value → H} {P : Program} {w : World} {base : Nat} {spare : Nat → Bool} {held : Bool}
/-- A slice that came in: its elements, each with its cells, each of them read as data. -/
theorem open_rows {t e : TypeId} {size len cap : Nat} {ao : Option Addr} {d : DataW H} {ps : List MemPlace} (ht : P.underlying t = some (.slice e)) (hc : P.cellsOf e = size) (hp : 0 < size)
    (h : DataW.Trod enc P w base spare held t (.slice ao len cap) d ps) :
    ∃ rows : List (List Value), rows.length = len ∧ (∀ r ∈ rows, r.length = size ∧ ∃ n x, DataW.trod enc P w base spare held n e r = some x) ∧ Rd w size (.slice ao len cap) len rows.flatten := by
  obtain ⟨fuel, hf⟩ := h
  rcases open_slice ht hf with ⟨hcs, _⟩ | ⟨a, l, c, m, n, D, Pl, hcs, _, hlc, hcm, hm, _, hx⟩
  · simp only [Value.cells, List.cons.injEq, Value.slice.injEq, and_true] at hcs
    obtain ⟨rfl, rfl, rfl⟩ := hcs
    exact ⟨[], rfl, by simp, by simp, Nat.zero_le _, .inl ⟨rfl, _, _, rfl, fun _ => rfl⟩⟩
  · simp only [Value.cells, List.cons.injEq, Value.slice.injEq, and_true] at hcs
    obtain ⟨rfl, rfl, rfl⟩ := hcs
    have hlm : len ≤ m := by rw [hm]; split <;> omega
    obtain ⟨g, hg⟩ := choose_lt (α := List Value) (n := len) (p := fun i cs' => w.cells? base (a.add (i * P.cellsOf e)) (P.cellsOf e) = some cs' ∧ DataW.trod enc P w base spare held n e cs' = some (D i, Pl i)) (fun i hi => hx i (by omega))
    have hgl : ∀ i, i < len → (g i).length = size := fun i hi => by rw [← hc]; exact (World.cells?_some (hg i hi).1).2.1
    refine ⟨(List.range len).map g, by simp, ?_, ?_⟩
    · intro r hr
      simp only [List.mem_map, List.mem_range] at hr
      obtain ⟨i, hi, rfl⟩ := hr
      exact ⟨hgl i hi, n, _, (hg i hi).2⟩
    · refine Rd.of_addr hp (flat_len g hgl) hlc hcm (flat_at g hgl ?_)
      intro i hi k hk
      have := (World.cells?_some (hg i hi).1).2.2 k (by rw [hc]; exact hk)
      rw [hc] at this
      exact this
/-- Its elements as what they say. -/
theorem rows_as {α : Type} {rows : List (List Value)} {cellsOf : α → List Value} {ok : α → Prop} (h : ∀ r ∈ rows, ∃ x, r = cellsOf x ∧ ok x) : ∃ l : List α, l.length = rows.length ∧ rows.flatten = l.flatMap cellsOf ∧ ∀ x ∈ l, ok x := by
  induction rows with
  | nil => exact ⟨[], rfl, rfl, by simp⟩
  | cons r rows ih =>
    obtain ⟨x, rfl, hx⟩ := h r (by simp)
    obtain ⟨l, h1, h2, h3⟩ := ih (fun r hr => h r (by simp [hr]))
    exact ⟨x :: l, by simp [h1], by simp [h2], by simpa using ⟨hx, h3⟩⟩
/-- A slice of integers. -/
theorem open_nums {t e : TypeId} {k : IntKind} {len cap : Nat} {ao : Option Addr} {d : DataW H} {ps : List MemPlace} (ht : P.underlying t = some (.slice e)) (he : P.underlying e = some (.int k)) (hc : P.cellsOf e = 1)
    (h : DataW.Trod enc P w base spare held t (.slice ao len cap) d ps) :
    ∃ l : List Int, l.length = len ∧ Rd w 1 (.slice ao len cap) len (l.map (Value.int k)) ∧ ∀ x ∈ l, (Lit.int k x).wf = true := by
  obtain ⟨rows, h1, h2, h3⟩ := open_rows ht hc (by omega) h
  obtain ⟨l, h4, h5, h6⟩ := rows_as (α := Int) (rows := rows) (cellsOf := fun x => [Value.int k x]) (ok := fun x => (Lit.int k x).wf = true) (by
    intro r hr
    obtain ⟨_, n, x, hx⟩ := h2 r hr
    obtain ⟨z, rfl, _, hz⟩ := DataW.trod_int he hx
    exact ⟨z, rfl, hz⟩)
  refine ⟨l, by omega, ?_, h6⟩
  rw [h5] at h3
  have e : l.flatMap (fun x => [Value.int k x]) = l.map (Value.int k) := by
    clear h5 h4 h6 h3
    induction l with
    | nil => rfl
    | cons x l ih => simp [ih]
  rwa [e] at h3
end
end Go.Sl
