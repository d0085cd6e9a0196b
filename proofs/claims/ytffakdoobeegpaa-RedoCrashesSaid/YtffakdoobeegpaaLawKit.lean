/- What laws want of slices that they build: append to words, to entries. -/
import Derived.Test.YtffakdoobeegpaaRedoE
import Derived.Test.YtffakdoobeegpaaRedoF
namespace Scul
open Go Go.Sl Go.RowKit Go.Proofs
section
variable {E : Env} {w : World} {F R : HP} {b : Nat} {d : Dev}
theorem rd_one {w : World} {xb : Nat} {v : Value} {t : TypeId} {f : Nat × Nat} {R : HP} (h : Sat E w (pt xb (.cells #[v] t f) * R)) : Rd w 1 (.slice (some ⟨xb, 0, none⟩) 1 1) 1 [v] :=
  ⟨rfl, by simp [maxLen], .inr ⟨xb, 0, 1, rfl, Nat.le_refl _, fun j u hu => by rw [Nat.zero_add]; exact h.cell j (by simpa using hu)⟩⟩
theorem rd_two {w : World} {xb : Nat} {v u : Value} {t : TypeId} {f : Nat × Nat} {R : HP} (h : Sat E w (pt xb (.cells #[v, u] t f) * R)) : Rd w 2 (.slice (some ⟨xb, 0, none⟩) 1 1) 1 [v, u] :=
  ⟨rfl, by simp [maxLen], .inr ⟨xb, 0, 1, rfl, Nat.le_refl _, fun j u hu => by rw [Nat.zero_add]; exact h.cell j (by simpa using hu)⟩⟩
/-- append to words, at the list of a plain region. -/
theorem wpl_app64 {ops : Array Oper} {rest : List Oper} {o : Oper} {a : Act} {Q : Exit → Act → World → Prop} (hgd : o.guard = none) (s x : Operand)
    (ho : o.op = .call { callee := .builtin .append, args := #[s, x], argTypes := #[23, 23] })
    {v : Value} {l : List Int} (hs : Sat E w (words v l * R)) (hv : a.eval s = v) {sv : Value} {m : List Int} {n : Nat} (hr : Rd w 1 sv n (u64s m)) (hx : a.eval x = sv) (hn : l.length + m.length ≤ 1000000)
    (h : ∀ r, Hid (r = l ++ m) → ∀ ao c w', Sat E w' (words (.slice ao r.length c) r * R) → wpList Try.prog ops Q rest (a.put o.dst (.slice ao r.length c)) w') : wpList Try.prog ops Q (o :: rest) a w := by
  have hnl : n = m.length := by have := hr.1; simpa [u64s] using this.symm
  subst hnl
  refine wpl_append hgd s x st64 ho v _ _ hs hv sv _ _ hr hx (u64s_one m) (by simp only [maxLen]; omega) (by omega) fun v' w' h' => ?_
  have h2 : Sat E w' (words v' (l ++ m) * R) := by
    rw [words_def, List.length_append, show u64s (l ++ m) = u64s l ++ u64s m by simp [u64s]]
    exact h'
  obtain ⟨ao, c, rfl, _⟩ := words_val h2
  exact h _ (Lib.hid rfl) ao c w' h2
/-- the same, of one word that lies in a new block. -/
theorem wpl_push64 {ops : Array Oper} {rest : List Oper} {o : Oper} {a : Act} {Q : Exit → Act → World → Prop} (hgd : o.guard = none) (s x : Operand)
    (ho : o.op = .call { callee := .builtin .append, args := #[s, x], argTypes := #[23, 23] })
    {v : Value} {l : List Int} {xb : Nat} {X : Int} {t : TypeId} {f : Nat × Nat} (hs : Sat E w (pt xb (.cells #[.int .u64 X] t f) * (words v l * R))) (hv : a.eval s = v) (hx : a.eval x = .slice (some ⟨xb, 0, none⟩) 1 1) (hn : l.length + 1 ≤ 1000000)
    (h : ∀ r, Hid (r = l ++ [X]) → ∀ ao c w', Sat E w' (words (.slice ao r.length c) r * R) → wpList Try.prog ops Q rest (a.put o.dst (.slice ao r.length c)) w') : wpList Try.prog ops Q (o :: rest) a w :=
  wpl_app64 hgd s x ho (m := [X]) (Sat.swap hs) hv (rd_one hs) hx hn fun r hr ao c w' h' => h r hr ao c w' (Sat.mid h')
/-- A row of entries that is owned. -/
def entRow (v : Value) (l : List Ent) : HP := row 58 2 v l.length (entCells l)
theorem entT : SliceT Try.prog 55 58 2 16 (.agg #[.int .i64 0, .int .u64 0]) := .mk' Try.underlying55 (by kernel_rfl) rfl
theorem entRow_nil {w : World} (h : Sat E w F) : Sat E w (entRow (.slice none 0 0) [] * F) := h.row_nil _ _
theorem entRow_val {w : World} {v : Value} {l : List Ent} (h : Sat E w (entRow v l * F)) : ∃ ao c, v = .slice ao l.length c := by
  obtain ⟨ao, c, hv, _⟩ := Sat.row_val h
  exact ⟨ao, c, hv⟩
theorem entCells_append (l m : List Ent) : entCells (l ++ m) = entCells l ++ entCells m := by simp [entCells]
theorem wpl_pushE {ops : Array Oper} {rest : List Oper} {o : Oper} {a : Act} {Q : Exit → Act → World → Prop} (hgd : o.guard = none) (s x : Operand)
    (ho : o.op = .call { callee := .builtin .append, args := #[s, x], argTypes := #[55, 55] })
    {v : Value} {l : List Ent} {xb : Nat} {X Y : Int} {t : TypeId} {f : Nat × Nat} (hs : Sat E w (pt xb (.cells #[.int .i64 X, .int .u64 Y] t f) * (entRow v l * R))) (hv : a.eval s = v) (hx : a.eval x = .slice (some ⟨xb, 0, none⟩) 1 1) (hn : l.length + 1 ≤ 1000000)
    (h : ∀ r, Hid (r = l ++ [Ent.mk X Y]) → ∀ ao c w', Sat E w' (entRow (.slice ao r.length c) r * R) → wpList Try.prog ops Q rest (a.put o.dst (.slice ao r.length c)) w') : wpList Try.prog ops Q (o :: rest) a w := by
  refine wpl_append hgd s x entT ho v l.length (entCells l) (Sat.swap hs) hv _ 1 _ (rd_two hs) hx (by intro u hu; simp at hu; rcases hu with rfl | rfl <;> rfl) (by simp only [maxLen]; omega) (by omega) fun v' w' h' => ?_
  have h2 : Sat E w' (entRow v' (l ++ [Ent.mk X Y]) * R) := by
    unfold entRow
    rw [List.length_append, entCells_append]
    exact Sat.mid h'
  obtain ⟨ao, c, rfl⟩ := entRow_val h2
  exact h _ (Lib.hid rfl) ao c w' h2
/-- An owned row reads as its entries. -/
theorem entRow_rd {w : World} {v : Value} {l : List Ent} (h : Sat E w (entRow v l * F)) (hU : ∀ x ∈ l, U64 x.word) (hI : ∀ x ∈ l, I64 x.at_) : RdE w v l := ⟨Sat.rd h, hU, hI⟩
theorem Sat.swap2 {w : World} {A B C D : HP} (h : Sat E w (A * (B * (C * D)))) : Sat E w (A * (C * (B * D))) := by
  rw [sep_left_comm C B D]
  exact h
theorem Sat.swap3 {w : World} {A B C D G : HP} (h : Sat E w (A * (B * (C * (D * G))))) : Sat E w (A * (B * (D * (C * G)))) := by
  rw [sep_left_comm D C G]
  exact h
/-- A variable of a new block is stored into, then another block is made. -/
theorem Sat.alloc_set_alloc {w : World} (h : Sat E w R) (c : Array Value) (t : TypeId) (i : Nat) (v : Value) (o : Obj) :
    Sat E (((w.alloc (.cells c t)).setCell ⟨w.heap.size, i, none⟩ v).alloc o) (pt (w.heap.size + 1) o * (pt w.heap.size (.cells (c.setIfInBounds i v) t) * R)) := by
  have h2 := ((h.alloc (.cells c t)).setCell (i := i) (v := v)).alloc o
  have e : ((w.alloc (.cells c t)).setCell ⟨w.heap.size, i, none⟩ v).heap.size = w.heap.size + 1 := by simp [World.setCell]
  rw [e] at h2
  exact h2
/-- New words, all 0. -/
theorem words_zeros {w : World} {g k : Nat} {R : HP} (hk : k ≤ 65536) (h : Sat E w (pt g (.cells (zeros k) 27) * R)) : Sat E w (words (.slice (some ⟨g, 0, none⟩) k k) (List.replicate k 0) * R) := by
  have h2 := Sat.row_mk (n := k) (cap := k) (size := 1) (cs := u64s (List.replicate k 0)) h (Nat.le_refl _) (by simp only [maxLen]; omega) (by simp [zeros, u64s]) (by simp [zeros, u64s])
  rw [words_def, List.length_replicate]
  exact h2
/-- The first k at most of what came in. -/
theorem rd_min {w : World} {ao : Option Addr} {c : Nat} {l : List Int} (h : Rd w 1 (.slice ao l.length c) l.length (u64s l)) (k : Nat) (hk : k ≤ l.length) : Rd w 1 (.slice ao k c) (l.take k).length (u64s (l.take k)) := by
  have := Rd.take h k hk
  rw [Nat.mul_one, ← u64s_take] at this
  rw [List.length_take, Nat.min_eq_left hk]
  exact this
/-- What is behind the first k of what reads. -/
theorem rd_tail {w : World} {g c : Nat} {l : List Int} (h : Rd w 1 (.slice (some ⟨g, 0, none⟩) l.length c) l.length (u64s l)) (k : Nat) (hk : k ≤ l.length) (hc : ¬ c = k) : Rd w 1 (.slice (some ⟨g, k, none⟩) (l.length - k) (c - k)) (l.drop k).length (u64s (l.drop k)) := by
  have h2 := Rd.cut h k l.length hk (Nat.le_refl _) (ao := some ⟨g, k, none⟩) (fun _ => by simp) (fun h => (hc h).elim) rfl rfl
  have e : ((u64s l).drop k).take (l.length - k) = u64s (l.drop k) := by
    rw [List.take_of_length_le (by simp [u64s])]
    simp [u64s]
  rw [e] at h2
  rw [List.length_drop]
  exact h2
end
end Scul
