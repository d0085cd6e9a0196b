/- Lemmas and contracts for scullion's HeapNil: LawKit, LayA, ClsAt, LayB, LayC, LayD, LayE, LayF, HwD. -/
import Derived.Test.YtcfbanfbldionaaGreatHeapNilQ5
import Derived.Test.YtcfbanfbldionaaGreatHeapNilQ3
import Derived.Test.YtcfbanfbldionaaGreatHeapNilQ4
import Derived.BigQuiet
import Derived.Test.YtcfbanfbldionaaGreatHeapNilQ1
import Derived.Deep.RegionWith
import Derived.Laws.ResultCell
/- What laws want of slices that they build: append to words, to entries. -/
namespace Scul
open Go Go.Sl Go.RowKit Go.Proofs
section
variable {E : Env} {w : World} {F R : HP} {b : Nat} {d : Dev}
theorem rd_one {w : World} {xb : Nat} {v : Value} {t : TypeId} {f : Nat × Nat} {R : HP} (h : Sat E w (pt xb (.cells #[v] t f) * R)) : Rd w 1 (.slice (some ⟨xb, 0, none⟩) 1 1) 1 [v] :=
  ⟨rfl, by simp [maxLen], .inr ⟨xb, 0, 1, rfl, Nat.le_refl _, fun j u hu => by rw [Nat.zero_add]; exact h.cell j (by simpa using hu)⟩⟩
theorem rd_two {w : World} {xb : Nat} {v u : Value} {t : TypeId} {f : Nat × Nat} {R : HP} (h : Sat E w (pt xb (.cells #[v, u] t f) * R)) : Rd w 2 (.slice (some ⟨xb, 0, none⟩) 1 1) 1 [v, u] :=
  ⟨rfl, by simp [maxLen], .inr ⟨xb, 0, 1, rfl, Nat.le_refl _, fun j u hu => by rw [Nat.zero_add]; exact h.cell j (by simpa using hu)⟩⟩
/-- append to words, at the list of a plain region. -/
theorem wpl_app64 {ops : Array Oper} {rest : List Oper} {o : Oper} {a : Act} {Q : Exit → Act → World → Prop} (hgd : o.guard = none) (s x : Operand)
    (ho : o.op = .call { callee := .builtin .append, args := #[s, x], argTypes := #[55, 55] })
    {v : Value} {l : List Int} (hs : Sat E w (words v l * R)) (hv : a.eval s = v) {sv : Value} {m : List Int} {n : Nat} (hr : Rd w 1 sv n (u64s m)) (hx : a.eval x = sv) (hn : l.length + m.length ≤ 1000000)
    (h : ∀ r, Hid (r = l ++ m) → ∀ ao c w', Sat E w' (words (.slice ao r.length c) r * R) → wpList Tryz.prog ops Q rest (a.put o.dst (.slice ao r.length c)) w') : wpList Tryz.prog ops Q (o :: rest) a w := by
  have hnl : n = m.length := by have := hr.1; simpa [u64s] using this.symm
  subst hnl
  refine wpl_append hgd s x st64 ho v _ _ hs hv sv _ _ hr hx (u64s_one m) (by simp only [maxLen]; omega) (by omega) fun v' w' h' => ?_
  have h2 : Sat E w' (words v' (l ++ m) * R) := by
    rw [words_def, List.length_append, show u64s (l ++ m) = u64s l ++ u64s m by simp [u64s]]
    exact h'
  obtain ⟨ao, c, rfl, _⟩ := words_val h2
  exact h _ (Lib.hid rfl) ao c w' h2
/-- the same, of one word that lies in a new block. -/
theorem wpl_push64 {ops : Array Oper} {rest : List Oper} {o : Oper} {a : Act} {Q : Exit → Act → World → Prop} (hgd : o.guard = none) (s x : Operand)
    (ho : o.op = .call { callee := .builtin .append, args := #[s, x], argTypes := #[55, 55] })
    {v : Value} {l : List Int} {xb : Nat} {X : Int} {t : TypeId} {f : Nat × Nat} (hs : Sat E w (pt xb (.cells #[.int .u64 X] t f) * (words v l * R))) (hv : a.eval s = v) (hx : a.eval x = .slice (some ⟨xb, 0, none⟩) 1 1) (hn : l.length + 1 ≤ 1000000)
    (h : ∀ r, Hid (r = l ++ [X]) → ∀ ao c w', Sat E w' (words (.slice ao r.length c) r * R) → wpList Tryz.prog ops Q rest (a.put o.dst (.slice ao r.length c)) w') : wpList Tryz.prog ops Q (o :: rest) a w :=
  wpl_app64 hgd s x ho (m := [X]) (Sat.swap hs) hv (rd_one hs) hx hn fun r hr ao c w' h' => h r hr ao c w' (Sat.mid h')
/-- A row of entries that is owned. -/
def entRow (v : Value) (l : List Ent) : HP := row 125 2 v l.length (entCells l)
theorem entT : SliceT Tryz.prog 119 125 2 16 (.agg #[.int .i64 0, .int .u64 0]) := .mk' Tryz.underlying119 (by kernel_rfl) rfl
theorem entRow_nil {w : World} (h : Sat E w F) : Sat E w (entRow (.slice none 0 0) [] * F) := h.row_nil _ _
theorem entRow_val {w : World} {v : Value} {l : List Ent} (h : Sat E w (entRow v l * F)) : ∃ ao c, v = .slice ao l.length c := by
  obtain ⟨ao, c, hv, _⟩ := Sat.row_val h
  exact ⟨ao, c, hv⟩
theorem entCells_append (l m : List Ent) : entCells (l ++ m) = entCells l ++ entCells m := by simp [entCells]
theorem wpl_pushE {ops : Array Oper} {rest : List Oper} {o : Oper} {a : Act} {Q : Exit → Act → World → Prop} (hgd : o.guard = none) (s x : Operand)
    (ho : o.op = .call { callee := .builtin .append, args := #[s, x], argTypes := #[119, 119] })
    {v : Value} {l : List Ent} {xb : Nat} {X Y : Int} {t : TypeId} {f : Nat × Nat} (hs : Sat E w (pt xb (.cells #[.int .i64 X, .int .u64 Y] t f) * (entRow v l * R))) (hv : a.eval s = v) (hx : a.eval x = .slice (some ⟨xb, 0, none⟩) 1 1) (hn : l.length + 1 ≤ 1000000)
    (h : ∀ r, Hid (r = l ++ [Ent.mk X Y]) → ∀ ao c w', Sat E w' (entRow (.slice ao r.length c) r * R) → wpList Tryz.prog ops Q rest (a.put o.dst (.slice ao r.length c)) w') : wpList Tryz.prog ops Q (o :: rest) a w := by
  refine wpl_append hgd s x entT ho v l.length (entCells l) (Sat.swap hs) hv _ 1 _ (rd_two hs) hx (by intro u hu; simp at hu; rcases hu with rfl | rfl <;> rfl) (by simp only [maxLen]; omega) (by omega) fun v' w' h' => ?_
  have h2 : Sat E w' (entRow v' (l ++ [Ent.mk X Y]) * R) := by
    unfold entRow
    rw [List.length_append, entCells_append]
    exact Sat.mid h'
  obtain ⟨ao, c, rfl⟩ := entRow_val h2
  exact h _ (Lib.hid rfl) ao c w' h2
/-- An owned row reads as its entries. -/
theorem entRow_rd {w : World} {v : Value} {l : List Ent} (h : Sat E w (entRow v l * F)) (hU : ∀ x ∈ l, U64 x.word) (hI : ∀ x ∈ l, I64 x.at_) : RdE w v l := ⟨Sat.rd h, hU, hI⟩
theorem Sat.swap2 {w : World} {A B C D : HP} (h : Sat E w (A * (B * (C * D)))) : Sat E w (A * (C * (B * D))) := by
  rw [sep_left_comm C B D]
  exact h
theorem Sat.swap3 {w : World} {A B C D G : HP} (h : Sat E w (A * (B * (C * (D * G))))) : Sat E w (A * (B * (D * (C * G)))) := by
  rw [sep_left_comm D C G]
  exact h
/-- A variable of a new block is stored into, then another block is made. -/
theorem Sat.alloc_set_alloc {w : World} (h : Sat E w R) (c : Array Value) (t : TypeId) (i : Nat) (v : Value) (o : Obj) :
    Sat E (((w.alloc (.cells c t)).setCell ⟨w.heap.size, i, none⟩ v).alloc o) (pt (w.heap.size + 1) o * (pt w.heap.size (.cells (c.setIfInBounds i v) t) * R)) := by
  have h2 := ((h.alloc (.cells c t)).setCell (i := i) (v := v)).alloc o
  have e : ((w.alloc (.cells c t)).setCell ⟨w.heap.size, i, none⟩ v).heap.size = w.heap.size + 1 := by simp [World.setCell]
  rw [e] at h2
  exact h2
/-- New words, all 0. -/
theorem words_zeros {w : World} {g k : Nat} {R : HP} (hk : k ≤ 65536) (h : Sat E w (pt g (.cells (zeros k) 24) * R)) : Sat E w (words (.slice (some ⟨g, 0, none⟩) k k) (List.replicate k 0) * R) := by
  have h2 := Sat.row_mk (n := k) (cap := k) (size := 1) (cs := u64s (List.replicate k 0)) h (Nat.le_refl _) (by simp only [maxLen]; omega) (by simp [zeros, u64s]) (by simp [zeros, u64s])
  rw [words_def, List.length_replicate]
  exact h2
/-- The first k at most of what came in. -/
theorem rd_min {w : World} {ao : Option Addr} {c : Nat} {l : List Int} (h : Rd w 1 (.slice ao l.length c) l.length (u64s l)) (k : Nat) (hk : k ≤ l.length) : Rd w 1 (.slice ao k c) (l.take k).length (u64s (l.take k)) := by
  have := Rd.take h k hk
  rw [Nat.mul_one, ← u64s_take] at this
  rw [List.length_take, Nat.min_eq_left hk]
  exact this
/-- What is behind the first k of what reads. -/
theorem rd_tail {w : World} {g c : Nat} {l : List Int} (h : Rd w 1 (.slice (some ⟨g, 0, none⟩) l.length c) l.length (u64s l)) (k : Nat) (hk : k ≤ l.length) (hc : ¬ c = k) : Rd w 1 (.slice (some ⟨g, k, none⟩) (l.length - k) (c - k)) (l.drop k).length (u64s (l.drop k)) := by
  have h2 := Rd.cut h k l.length hk (Nat.le_refl _) (ao := some ⟨g, k, none⟩) (fun _ => by simp) (fun h => (hc h).elim) rfl rfl
  have e : ((u64s l).drop k).take (l.length - k) = u64s (l.drop k) := by
    rw [List.take_of_length_le (by simp [u64s])]
    simp [u64s]
  rw [e] at h2
  rw [List.length_drop]
  exact h2
end
end Scul
/- kind: words, Words, May; layout: within, size, line. -/
namespace Scul
open Go Go.Sl Go.RowKit Go.Proofs
/-- ints, as cells. -/
def i64s (l : List Int) : List Value := l.map (Value.int .i64)
theorem i64s_length (l : List Int) : (i64s l).length = l.length := by simp [i64s]
theorem Rd.nthI {w : World} {b o n c : Nat} {l : List Int} (h : Rd w 1 (.slice (some ⟨b, o, none⟩) n c) n (i64s l)) (i : Nat) (hi : i < n) : w.cell? ⟨b, o + i, none⟩ = some (.int .i64 (l.getD i 0)) := by
  obtain ⟨b', o', e, hc⟩ := Rd.at h (by omega)
  simp only [Option.some.injEq, Addr.mk.injEq, and_true] at e
  obtain ⟨rfl, rfl⟩ := e
  have hl : l.length = n := by have := h.1; simpa [i64s] using this
  exact hc i _ (by simp [i64s, hl, hi])
section
variable {E : Env} {w : World} {F : HP}
set_option maxHeartbeats 400000 in
theorem kwords_calls (w : World) (k : Int) : Calls Tryz.prog 133 #[.int .i64 k] w fun e w' => e = .returned (.int .i64 (kw k)) ∧ w' = w := by
  by_cases h1 : k = 1
  · subst h1
    go_enter Tryz.func133, Tryz.ntmps133
    go_wp2_with fail
    go_ret
    exact ⟨rfl, rfl⟩
  by_cases h3 : k = 3
  · subst h3
    go_enter Tryz.func133, Tryz.ntmps133
    go_wp2_with fail
    go_ret
    exact ⟨rfl, rfl⟩
  by_cases h2 : k = 2
  · subst h2
    go_enter Tryz.func133, Tryz.ntmps133
    go_wp2_with fail
    go_ret
    exact ⟨rfl, rfl⟩
  have e : kw k = 0 := by unfold kw; rw [if_neg (by omega), if_neg h2]
  rw [e]
  clear e
  go_enter Tryz.func133, Tryz.ntmps133
  go_wp2_with fail
  go_ret
  exact ⟨rfl, rfl⟩
theorem within_calls (w : World) (n m : Int) : Calls Tryz.prog 161 #[.int .i64 n, .int .i64 m] w fun e w' => e = .returned (.bool (decide (0 ≤ n ∧ n ≤ m))) ∧ w' = w := by
  by_cases h0 : 0 ≤ n
  · go_enter Tryz.func161, Tryz.ntmps161
    go_wp2_with fail
    go_ret
    exact ⟨by simp [h0], rfl⟩
  · go_enter Tryz.func161, Tryz.ntmps161
    go_wp2_with fail
    go_ret
    exact ⟨by simp; omega, rfl⟩
theorem lsize_calls (w : World) (i : Int) (h0 : 0 ≤ i) (h1 : i < 4) : Calls Tryz.prog 138 #[.int .i64 i] w fun e w' => e = .returned (.int .i64 (2 * 2 ^ i.toNat)) ∧ w' = w := by
  have : i = 0 ∨ i = 1 ∨ i = 2 ∨ i = 3 := by omega
  rcases this with rfl | rfl | rfl | rfl <;>
  · go_enter Tryz.func138, Tryz.ntmps138
    go_wp2_with fail
    go_ret
    exact ⟨rfl, rfl⟩
theorem line_calls (w : World) (x : Int) (h0 : 0 ≤ x) (h1 : x ≤ 1000000) : Calls Tryz.prog 162 #[.int .i64 x] w fun e w' => e = .returned (.int .i64 (Cfg.lineOf x)) ∧ w' = w := by
  obtain ⟨y, hy⟩ : ∃ y, y = Cfg.lineOf x := ⟨_, rfl⟩
  rw [← hy]
  have HY := Lib.hid hy
  clear hy
  go_enter Tryz.func162, Tryz.ntmps162
  go_wp2_with fail
  go_ret
  refine ⟨ret_int ?_, rfl⟩
  rw [HY.out]
  unfold Cfg.lineOf
  omega
set_option maxHeartbeats 1000000 in
theorem kWords_calls (w : World) (fs : List Int) (fv : Value) (hv : ∀ W, Sat E W F → Rd W 1 fv fs.length (i64s fs)) (hs : Sat E w F) :
    Calls Tryz.prog 64 #[.agg #[fv]] w fun e w' => e = .returned (.int .i64 (kindW fs)) ∧ Sat E w' F := by
  obtain ⟨g, hg⟩ : ∃ g, g = kindW fs := ⟨_, rfl⟩
  rw [← hg]
  have hm := (hv w hs).most
  obtain ⟨ao, c, rfl, hc⟩ := (hv w hs).val
  obtain ⟨n, hn⟩ : ∃ n, n = fs.length := ⟨_, rfl⟩
  rw [← hn] at hv hm hc ⊢
  have HG := Lib.hid hg; have HN := Lib.hid hn
  have HV := Lib.hid hv
  have HS := Lib.hid (Sat.right (hs.alloc (.cells #[.slice ao n c] 62)))
  clear hg hn hv hs
  by_cases h0 : n = 0
  · have e : g = 0 := by rw [HG.out]; unfold kindW; rw [if_pos (.inl (by rw [← HN.out, h0]))]
    subst e
    subst h0
    go_enter Tryz.func64, Tryz.ntmps64
    go_wp2_with fail
    go_ret
    exact ⟨rfl, HS.out⟩
  by_cases h15 : 15 < n
  · have e : g = 0 := by rw [HG.out]; unfold kindW; rw [if_pos (.inr (.inl (by rw [← HN.out]; exact h15)))]
    subst e
    go_enter Tryz.func64, Tryz.ntmps64
    go_wp2_with fail
    go_ret
    exact ⟨rfl, HS.out⟩
  have h0' : ((n : Int) == 0) = false := by simpa using h0
  have h15' : (n : Int) ≤ 15 := by omega
  go_enter Tryz.func64, Tryz.ntmps64
  go_wp2_with fail
  go_loopw [19, 3] (fun iv nv wr => ∃ (k : Nat) (s : Int), k ≤ n ∧ iv = .int .i64 k ∧ nv = .int .i64 s ∧ s = 1 + kwSum (fs.take k) ∧ (∀ f ∈ fs.take k, kw f ≠ 0) ∧ Sat E wr F) (fun iv _ _ => n - (RowKit.intOf iv).toNat)
  case atStart => exact ⟨0, 1, Nat.zero_le _, rfl, rfl, by simp [kwSum], by simp, HS.out⟩
  case round =>
    obtain ⟨k, s, hk, rfl, rfl, he, hall, hw⟩ := hrel
    have HE := Lib.hid he; have HALL := Lib.hid hall; have HW := Lib.hid hw
    have hsr : 1 ≤ s ∧ s ≤ 1 + 2 * n := by
      have := kwSum_range (fs.take k)
      rw [List.length_take] at this
      omega
    clear he hall hw
    by_cases hlt : k < n
    · obtain ⟨b, o, rfl, hr⟩ := (HV.out wr HW.out).at (by omega)
      have cx : wr.cell? ⟨b, o + k, none⟩ = some (.int .i64 (fs.getD k 0)) := Rd.nthI (HV.out wr HW.out) k hlt
      have htk : fs.take (k + 1) = fs.take k ++ [fs.getD k 0] := by
        have hk2 : k < fs.length := by rw [← HN.out]; exact hlt
        rw [List.take_succ_eq_append_getElem hk2]
        simp [hk2]
      have HT := Lib.hid htk
      clear hr htk
      have hmem : fs.getD k 0 ∈ fs := by
        have hk2 : k < fs.length := by rw [← HN.out]; exact hlt
        rw [List.getD_eq_getElem?_getD, List.getElem?_eq_getElem hk2]
        exact List.getElem_mem hk2
      have HM := Lib.hid hmem
      clear hmem
      generalize fs.getD k 0 = f at cx HT HM
      have hkr := kw_range f
      have HKW : Hid (∀ W : World, Calls Tryz.prog 133 #[.int .i64 f] W fun e w' => e = .returned (.int .i64 (kw f)) ∧ w' = W) := Lib.hid fun W => kwords_calls W f
      by_cases hz : kw f = 0
      · have e : g = 0 := by
          have hn : ¬ ∀ f ∈ fs, kw f ≠ 0 := fun h => h f HM.out hz
          rw [HG.out, kindW, if_pos (.inr (.inr hn))]
        subst e
        have hz2 : (kw f == 0) = true := by simpa using hz
        go_wp2_with (go_at_call 133; refine (HKW.out _).mono ?_; rintro e w' ⟨rfl, rfl⟩)
        go_ret
        exact ⟨rfl, HW.out⟩
      · have hz2 : (kw f == 0) = false := by simpa using hz
        go_wp2_with (go_at_call 133; refine (HKW.out _).mono ?_; rintro e w' ⟨rfl, rfl⟩)
        refine ⟨⟨k + 1, s + kw f, by omega, by go_num, by go_num, ?_, ?_, HW.out⟩, ?_⟩
        · rw [HE.out, HT.out, kwSum_append]
          simp only [kwSum]
          omega
        · rw [HT.out]
          intro y hy
          rcases List.mem_append.1 hy with hy | hy
          · exact HALL.out y hy
          · rw [List.mem_singleton] at hy
            rw [hy]; exact hz
        · simp [RowKit.intOf]; omega
    · obtain rfl : k = n := by omega
      go_wp2_with fail
      go_ret
      refine ⟨ret_int ?_, HW.out⟩
      have e : fs.take k = fs := List.take_of_length_le (by rw [← HN.out]; exact Nat.le_refl _)
      have h1 := HE.out
      have h2 := HALL.out
      rw [e] at h1 h2
      rw [HG.out, h1, kindW, if_neg]
      rintro (h | h | h)
      · rw [← HN.out] at h; exact h0 h
      · rw [← HN.out] at h; exact h15 h
      · exact h h2
theorem kMay_calls (w : World) (fs : List Int) (fv : Value) (hv : ∀ W, Sat E W F → Rd W 1 fv fs.length (i64s fs)) (hs : Sat E w F) :
    Calls Tryz.prog 158 #[.agg #[fv]] w fun e w' => e = .returned (.bool (kindMay fs)) ∧ Sat E w' F := by
  obtain ⟨g, hg⟩ : ∃ g, g = kindMay fs := ⟨_, rfl⟩
  rw [← hg]
  have HG : Hid (g = decide (0 < kindW fs ∧ kindW fs ≤ 16)) := Lib.hid hg
  obtain ⟨ao, c, rfl, hc⟩ := (hv w hs).val
  have HC := Lib.hid (fun W hW => kWords_calls W fs _ hv hW)
  generalize kindW fs = k at HG HC
  have HS := Lib.hid (Sat.right (hs.alloc (.cells #[.slice ao fs.length c] 62)))
  clear hg hv hs
  by_cases h0 : 0 < k
  · go_enter Tryz.func158, Tryz.ntmps158
    go_wp2_with (go_at_call 64; refine (HC.out _ HS.out).mono ?_; rintro e w' ⟨rfl, h1⟩)
    go_ret
    exact ⟨by rw [HG.out]; simp [h0], h1⟩
  · go_enter Tryz.func158, Tryz.ntmps158
    go_wp2_with (go_at_call 64; refine (HC.out _ HS.out).mono ?_; rintro e w' ⟨rfl, h1⟩)
    go_ret
    exact ⟨by rw [HG.out]; simp; omega, h1⟩
theorem may1_calls (w : World) (fs : List Int) (fv : Value) (hv : ∀ W, Sat E W F → Rd W 1 fv fs.length (i64s fs)) (hs : Sat E w F) :
    Calls Tryz.prog 160 #[.agg #[fv]] w fun e w' => e = .returned (.bool (!kindMay fs)) ∧ Sat E w' F := by
  obtain ⟨ao, c, rfl, hc⟩ := (hv w hs).val
  have HC := Lib.hid (fun W hW => kMay_calls W fs _ hv hW)
  generalize kindMay fs = k at HC ⊢
  have HS := Lib.hid (Sat.right (hs.alloc (.cells #[.slice ao fs.length c] 62)))
  clear hv hs
  go_enter Tryz.func160, Tryz.ntmps160
  go_wp2_with (go_at_call 158; refine (HC.out _ HS.out).mono ?_; rintro e w' ⟨rfl, h1⟩)
  go_ret
  exact ⟨rfl, h1⟩
end
end Scul
/- A class of worlds: those that meet R. A region that draws its order and whose operations and callees keep the class is walked once (the kit's wp_region_quiet). -/
namespace Go.Sl
open Go
/-- A world that meets R. -/
structure At (E : Env) (R : HP) where
  W : World
  ok : Sat E W R
/-- A callee that keeps the class. -/
theorem At.call {P : Program} {f : FuncId} {args : Array Value} {E : Env} {R : HP} {v : Value} {w : World} (h : Calls P f args w fun e w' => e = .returned v ∧ Sat E w' R) :
    Calls P f args w fun e w'' => e = .returned v ∧ ∃ x : At E R, w'' = x.W := h.mono fun _ w' ⟨he, h⟩ => ⟨he, ⟨w', h⟩, rfl⟩
/-- One walk of the lexical order, in the class of the worlds that meet R. -/
theorem wp_region_class {P : Program} {id : Nat} {Q : Exit → Act → World → Prop} {a : Act} {w : World} {l : List Oper} {E : Env} {R : HP} (hC : Sat E w R) (hm : P.follows .mixedOrders = true) (hB : Region.lexB .any l.toArray = true)
    (h : Nonempty (At E R) → wpQuiet P l.toArray (fun W => ∃ x : At E R, W = x.W) (fun a' => ∀ w', (∃ x : At E R, w' = x.W) → Q .normal a' w') l a) : (Code.region id l.toArray true).wp P Q a w :=
  wp_region_quiet (C := fun W => ∃ x : At E R, W = x.W) hm hB ⟨⟨_, hC.drew⟩, rfl⟩ (by simpa using h ⟨⟨_, hC⟩⟩)
end Go.Sl
/- layout: May. -/
namespace Scul
open Go Go.Sl Go.RowKit Go.Proofs
/-- A slice of kinds that reads as these: each kind's slice of fields, and what it reads as. -/
def RdK (w : World) (v : Value) (ks : List (Value × List Int)) : Prop := Rd w 1 v ks.length (ks.map (·.1)) ∧ ∀ p ∈ ks, (∃ a c, p.1 = .slice a p.2.length c) ∧ Rd w 1 p.1 p.2.length (i64s p.2)
theorem RdK.nth {w : World} {ao : Option Addr} {c : Nat} {ks : List (Value × List Int)} (h : RdK w (.slice ao ks.length c) ks) (k : Nat) (hk : k < ks.length) :
    ∃ bb o, ao = some ⟨bb, o, none⟩ ∧ w.cell? ⟨bb, o + k, none⟩ = some ks[k].1 := by
  obtain ⟨bb, o, rfl, hc⟩ := Rd.at h.1 (by omega)
  exact ⟨bb, o, rfl, hc k _ (by simp [hk])⟩
theorem RdK.val {w : World} {v : Value} {ks : List (Value × List Int)} (h : RdK w v ks) : ∃ ao c, v = .slice ao ks.length c ∧ ks.length ≤ c := h.1.val
section
variable {E : Env} {w : World} {F : HP}
set_option maxHeartbeats 1000000 in
theorem indexK_calls (w : World) (ks : List (Value × List Int)) (kv : Value) (hv : ∀ W, Sat E W F → RdK W kv ks) (hs : Sat E w F) :
    Calls Tryz.prog 193 #[kv, .func (.func 160) #[] #[]] w fun e w' => ∃ r : Int, e = .returned (.int .i64 r) ∧ (0 ≤ r ↔ ¬ ∀ p ∈ ks, kindMay p.2 = true) ∧ Sat E w' F := by
  obtain ⟨ao, c, rfl, hc⟩ := (hv w hs).val
  have hm := (hv w hs).1.most
  obtain ⟨n, hn⟩ : ∃ n, n = ks.length := ⟨_, rfl⟩
  rw [← hn] at hv hm hc ⊢
  have HN := Lib.hid hn
  have HV := Lib.hid hv
  have HS := Lib.hid hs
  clear hn hv hs
  go_enter Tryz.func193, Tryz.ntmps193
  go_wp2_with fail
  go_loopw [8] (fun iv wr => ∃ k : Nat, k ≤ n ∧ iv = .int .i64 k ∧ (∀ p ∈ ks.take k, kindMay p.2 = true) ∧ Sat E wr F) (fun iv _ => n - (RowKit.intOf iv).toNat)
  case atStart => exact ⟨0, Nat.zero_le _, rfl, by simp, HS.out⟩
  case round =>
    obtain ⟨k, hk, rfl, hall, hw⟩ := hrel
    have HALL := Lib.hid hall; have HW := Lib.hid hw
    clear hall hw
    by_cases hlt : k < n
    · have hk2 : k < ks.length := by rw [← HN.out]; exact hlt
      have hrd := HV.out wr HW.out
      rw [HN.out] at hrd
      obtain ⟨b, o, rfl, cx⟩ := RdK.nth hrd k hk2
      have hmem : ks[k] ∈ ks := List.getElem_mem hk2
      have HT : Hid (ks.take (k + 1) = ks.take k ++ [ks[k]]) := Lib.hid (List.take_succ_eq_append_getElem hk2)
      have HM := Lib.hid hmem
      obtain ⟨⟨pa, pc, hp1⟩, _⟩ := hrd.2 _ hmem
      have HC : Hid (∀ W, Sat E W F → Calls Tryz.prog 160 #[.agg #[ks[k].1]] W fun e w' => e = .returned (.bool (!kindMay ks[k].2)) ∧ Sat E w' F) := Lib.hid fun W hW =>
        may1_calls W ks[k].2 _ (fun W' hW' => ((HV.out W' hW').2 _ hmem).2) hW
      clear hrd hmem
      generalize ks[k] = p at *
      obtain ⟨pv, pf⟩ := p
      simp only at hp1 cx HT HM HC
      subst hp1
      cases hb : kindMay pf with
      | true =>
        rw [hb] at HC
        have HB := Lib.hid hb
        clear hb hk2
        go_wp2_with (go_at_call 160; refine (HC.out _ HW.out).mono ?_; rintro e w1 ⟨rfl, h1⟩)
        refine ⟨⟨k + 1, by omega, by go_num, ?_, h1⟩, by simp [RowKit.intOf]; omega⟩
        rw [HT.out]
        intro y hy
        rcases List.mem_append.1 hy with hy | hy
        · exact HALL.out y hy
        · rw [List.mem_singleton] at hy
          rw [hy]; exact HB.out
      | false =>
        rw [hb] at HC
        have HB := Lib.hid hb
        clear hb hk2
        go_wp2_with (go_at_call 160; refine (HC.out _ HW.out).mono ?_; rintro e w1 ⟨rfl, h1⟩)
        go_ret
        refine ⟨_, rfl, ⟨fun _ h => ?_, fun _ => by omega⟩, h1⟩
        have := h _ HM.out
        rw [HB.out] at this
        cases this
    · obtain rfl : k = n := by omega
      go_wp2_with fail
      go_ret
      refine ⟨_, rfl, ⟨fun h => by omega, fun h => ?_⟩, HW.out⟩
      have := HALL.out
      rw [HN.out, List.take_length] at this
      exact (h this).elim
theorem containsK_calls (w : World) (ks : List (Value × List Int)) (kv : Value) (hv : ∀ W, Sat E W F → RdK W kv ks) (hs : Sat E w F) :
    Calls Tryz.prog 159 #[kv, .func (.func 160) #[] #[]] w fun e w' => e = .returned (.bool (decide (¬ ∀ p ∈ ks, kindMay p.2 = true))) ∧ Sat E w' F := by
  have HC := Lib.hid (indexK_calls w ks kv hv hs)
  obtain ⟨ao, c, rfl, hc⟩ := (hv w hs).val
  clear hv hs
  go_enter Tryz.func159, Tryz.ntmps159
  go_wp2_with fail
  refine HC.out.mono ?_
  rintro e w1 ⟨r, rfl, hr, h1⟩
  have HR := Lib.hid hr
  clear hr
  go_wp2_with fail
  go_ret
  refine ⟨?_, h1⟩
  refine ret_bool ?_
  rw [decide_eq_decide]
  exact HR.out
end
end Scul
/- layout: place. -/
namespace Scul
open Go Go.Sl Go.RowKit Go.Proofs
/-- A config, as cells. -/
def cfgCells (kv : Value) (c : Cfg) : Array Value := #[kv, .int .i64 c.n0, .int .i64 c.n1, .int .i64 c.n2, .int .i64 c.n3, .int .i64 c.roots, .int .i64 c.weaks, .int .i64 c.log]
/-- A layout, as cells. -/
def layCells (kv : Value) (c : Cfg) : Array Value := #[kv, .int .i64 c.n0, .int .i64 c.n1, .int .i64 c.n2, .int .i64 c.n3, .int .i64 c.roots, .int .i64 c.weaks, .int .i64 c.log, .int .i64 c.rootsAt, .int .i64 c.bitsAt, .int .i64 c.logAt, .int .i64 c.blocksAt, .int .i64 c.words]
section
variable {E : Env} {w : World} {F : HP}
theorem wrap_id {x : Int} (h1 : -9223372036854775808 ≤ x) (h2 : x ≤ 9223372036854775807) : IntKind.i64.wrap x = x := by
  rw [IntKind.wrap_i64]
  omega
theorem idx4_0 (a b c d : Value) (w : World) : (Instr.index 22 (.agg #[a, b, c, d]) (.int .i64 0)).run Tryz.prog w = .ok a w := by kernel_rfl
theorem idx4_1 (a b c d : Value) (w : World) : (Instr.index 22 (.agg #[a, b, c, d]) (.int .i64 1)).run Tryz.prog w = .ok b w := by kernel_rfl
theorem idx4_2 (a b c d : Value) (w : World) : (Instr.index 22 (.agg #[a, b, c, d]) (.int .i64 2)).run Tryz.prog w = .ok c w := by kernel_rfl
theorem idx4_3 (a b c d : Value) (w : World) : (Instr.index 22 (.agg #[a, b, c, d]) (.int .i64 3)).run Tryz.prog w = .ok d w := by kernel_rfl
set_option maxRecDepth 100000 in
set_option maxHeartbeats 2000000 in
theorem place_calls (w : World) (c : Cfg) (ao : Option Addr) (cc : Nat) (hn : c.Near) (hs : Sat E w F) :
    Calls Tryz.prog 121 #[.agg (cfgCells (.slice ao c.kinds.length cc) c)] w fun e w' => ∃ b, e = .returned (.pointer (some ⟨b, 0, none⟩)) ∧ Sat E w' (pt b (.cells (layCells (.slice ao c.kinds.length cc) c) 165) * F) := by
  obtain ⟨kinds, n0, n1, n2, n3, roots, weaks, log⟩ := c
  have p := Cfg.near_places hn
  have hk := hn.k; have h0 := hn.n0; have h1 := hn.n1; have h2 := hn.n2; have h3 := hn.n3; have hr := hn.roots; have hw := hn.weaks; have hl := hn.log
  simp only [Cfg.rootsAt, Cfg.bitsAt, Cfg.logAt, Cfg.blocksAt, Cfg.words, Cfg.count, Cfg.all, layCells, cfgCells] at *
  generalize kinds.length = K at *
  obtain ⟨A1, hA1⟩ : ∃ x, x = Cfg.lineOf (9 + K) := ⟨_, rfl⟩
  rw [← hA1] at p ⊢
  obtain ⟨A2, hA2⟩ : ∃ x, x = Cfg.lineOf (A1 + roots + weaks) := ⟨_, rfl⟩
  rw [← hA2] at p ⊢
  obtain ⟨A3, hA3⟩ : ∃ x, x = Cfg.lineOf (A2 + (n0 + n1 + n2 + n3 + 63) / 64) := ⟨_, rfl⟩
  rw [← hA3] at p ⊢
  obtain ⟨A5, hA5⟩ : ∃ x, x = Cfg.lineOf (A3 + log + (2 * n0 + 4 * n1 + 8 * n2 + 16 * n3)) := ⟨_, rfl⟩
  rw [← hA5] at p ⊢
  have HS := Lib.hid hs
  have HS2 := Lib.hid (Sat.alloc2 hs (.cells #[.slice ao K cc, .int .i64 n0, .int .i64 n1, .int .i64 n2, .int .i64 n3, .int .i64 roots, .int .i64 weaks, .int .i64 log] 29) (.cells #[.slice ao K cc, .int .i64 n0, .int .i64 n1, .int .i64 n2, .int .i64 n3, .int .i64 roots, .int .i64 weaks, .int .i64 log, .int .i64 0, .int .i64 0, .int .i64 0, .int .i64 0, .int .i64 0] 165))
  obtain ⟨R, hR⟩ : ∃ R : Nat → HP, R = fun g => pt (g + 1) (.cells #[.slice ao K cc, .int .i64 n0, .int .i64 n1, .int .i64 n2, .int .i64 n3, .int .i64 roots, .int .i64 weaks, .int .i64 log, .int .i64 0, .int .i64 0, .int .i64 0, .int .i64 0, .int .i64 0] 165) * (pt g (.cells #[.slice ao K cc, .int .i64 n0, .int .i64 n1, .int .i64 n2, .int .i64 n3, .int .i64 roots, .int .i64 weaks, .int .i64 log] 29) * F) := ⟨_, rfl⟩
  have HR := Lib.hid hR
  have HS3 : Hid (Sat E _ (R w.heap.size)) := Lib.hid (by rw [hR]; exact HS2.out)
  have HSZ : ∀ (W : World) (i : Int), 0 ≤ i → i < 4 → Calls Tryz.prog 138 #[.int .i64 i] W fun e w' => e = .returned (.int .i64 (2 * 2 ^ i.toNat)) ∧ w' = W := fun W i => lsize_calls W i
  have HSZ2 := Lib.hid HSZ
  have HLN : Hid (∀ (W : World) (x y : Int), 0 ≤ x → x ≤ 1000000 → y = Cfg.lineOf x → Calls Tryz.prog 162 #[.int .i64 x] W fun e w' => e = .returned (.int .i64 y) ∧ w' = W) := Lib.hid fun W x y h1 h2 h3 => by rw [h3]; exact line_calls W x h1 h2
  have HA1 := Lib.hid hA1; have HA2 := Lib.hid hA2; have HA3 := Lib.hid hA3; have HA5 := Lib.hid hA5
  clear hn hs hR HS2 HSZ HS hA1 hA2 hA3 hA5
  go_enter Tryz.func121, Tryz.ntmps121
  go_wp2_with fail
  go_loopw [13, 4, 5] (fun iv cv av wr => ∃ (k x y : Int), iv = .int .i64 k ∧ cv = .int .i64 x ∧ av = .int .i64 y ∧ ((k = 0 ∧ x = 0 ∧ y = 0) ∨ (k = 1 ∧ x = n0 ∧ y = 2 * n0) ∨ (k = 2 ∧ x = n0 + n1 ∧ y = 2 * n0 + 4 * n1) ∨ (k = 3 ∧ x = n0 + n1 + n2 ∧ y = 2 * n0 + 4 * n1 + 8 * n2) ∨ (k = 4 ∧ x = n0 + n1 + n2 + n3 ∧ y = 2 * n0 + 4 * n1 + 8 * n2 + 16 * n3)) ∧ Sat E wr (R w.heap.size)) (fun iv _ _ _ => 4 - (RowKit.intOf iv).toNat)
  case atStart => exact ⟨0, 0, 0, rfl, rfl, rfl, .inl ⟨rfl, rfl, rfl⟩, HS3.out⟩
  case round =>
    obtain ⟨k, x, y, rfl, rfl, rfl, hc, hw⟩ := hrel
    have HW := Lib.hid hw
    clear hw HS3
    have i0 := idx4_0; have i1 := idx4_1; have i2 := idx4_2; have i3 := idx4_3
    rcases hc with ⟨rfl, hx, hy⟩ | ⟨rfl, hx, hy⟩ | ⟨rfl, hx, hy⟩ | ⟨rfl, hx, hy⟩ | ⟨rfl, hx, hy⟩
    · go_wp2_with (go_at_call 138; refine (HSZ2.out _ _ (by omega) (by omega)).mono ?_; rintro e w' ⟨rfl, rfl⟩)
      exact ⟨⟨1, _, _, rfl, rfl, rfl, by simp; omega, HW.out⟩, by simp [RowKit.intOf]⟩
    · go_wp2_with (go_at_call 138; refine (HSZ2.out _ _ (by omega) (by omega)).mono ?_; rintro e w' ⟨rfl, rfl⟩)
      exact ⟨⟨2, _, _, rfl, rfl, rfl, by simp; omega, HW.out⟩, by simp [RowKit.intOf]⟩
    · go_wp2_with (go_at_call 138; refine (HSZ2.out _ _ (by omega) (by omega)).mono ?_; rintro e w' ⟨rfl, rfl⟩)
      exact ⟨⟨3, _, _, rfl, rfl, rfl, by simp; omega, HW.out⟩, by simp [RowKit.intOf]⟩
    · go_wp2_with (go_at_call 138; refine (HSZ2.out _ _ (by omega) (by omega)).mono ?_; rintro e w' ⟨rfl, rfl⟩)
      exact ⟨⟨4, _, _, rfl, rfl, rfl, by simp; omega, HW.out⟩, by simp [RowKit.intOf]⟩
    · obtain ⟨CC, hCC⟩ : ∃ CC, CC = (.cells #[.slice ao K cc, .int .i64 n0, .int .i64 n1, .int .i64 n2, .int .i64 n3, .int .i64 roots, .int .i64 weaks, .int .i64 log] 29 : Obj) := ⟨_, rfl⟩
      have h9 := HW.out
      rw [HR.out] at h9
      simp only at h9
      rw [← hCC] at h9
      have CF : ∀ W : World, Sat E W (pt w.heap.size CC * F) → W.cell? ⟨w.heap.size, 0, none⟩ = some (.slice ao K cc) ∧ W.cell? ⟨w.heap.size, 5, none⟩ = some (.int .i64 roots) ∧ W.cell? ⟨w.heap.size, 6, none⟩ = some (.int .i64 weaks) ∧ W.cell? ⟨w.heap.size, 7, none⟩ = some (.int .i64 log) := fun W hW => by
        rw [hCC] at hW
        exact ⟨hW.cell 0 rfl, hW.cell 5 rfl, hW.cell 6 rfl, hW.cell 7 rfl⟩
      have HCF := Lib.hid CF
      obtain ⟨k0, _, _, _⟩ := HCF.out _ h9.right
      have l8 : wr.cell? ⟨w.heap.size + 1, 8, none⟩ = some (.int .i64 0) := h9.cell 8 rfl
      have f8 := h9.free 8
      have H9 := Lib.hid h9
      clear h9 hCC CF HR i0 i1 i2 i3
      go_upto_region 10 with (go_at_call 162; refine (HLN.out _ _ A1 (by omega) (by omega) HA1.out).mono ?_; rintro e w' ⟨rfl, rfl⟩)
      clear l8 f8 k0
      refine atSat _ (H9.out.setCell (i := 8) (v := .int .i64 A1)) fun W h10 => ?_
      simp only [List.setIfInBounds_toArray, List.set_cons_succ, List.set_cons_zero] at h10
      obtain ⟨_, k5, k6, k7⟩ := HCF.out _ h10.right
      have l8 : W.cell? ⟨w.heap.size + 1, 8, none⟩ = some (.int .i64 A1) := h10.cell 8 rfl
      have l9 : W.cell? ⟨w.heap.size + 1, 9, none⟩ = some (.int .i64 0) := h10.cell 9 rfl
      have f9 := h10.free 9
      have H10 := Lib.hid h10
      have e1 : IntKind.i64.wrap (A1 + roots) = A1 + roots := wrap_id (by omega) (by omega)
      have e2 : IntKind.i64.wrap (A1 + roots + weaks) = A1 + roots + weaks := wrap_id (by omega) (by omega)
      clear h10 H9
      obtain ⟨L, hL⟩ : ∃ L : Int → Int → Int → Int → HP, L = fun a2 a3 a4 a5 => pt (w.heap.size + 1) (.cells #[.slice ao K cc, .int .i64 n0, .int .i64 n1, .int .i64 n2, .int .i64 n3, .int .i64 roots, .int .i64 weaks, .int .i64 log, .int .i64 A1, .int .i64 a2, .int .i64 a3, .int .i64 a4, .int .i64 a5] 165) * (pt w.heap.size CC * F) := ⟨_, rfl⟩
      have HL := Lib.hid hL
      have SET9 : ∀ W : World, Sat E W (L 0 0 0 0) → Sat E (W.setCell ⟨w.heap.size + 1, 9, none⟩ (.int .i64 A2)) (L A2 0 0 0) := fun W h => by rw [hL] at h ⊢; exact h.setCell
      have HSET9 := Lib.hid SET9
      have SET11 : ∀ W : World, Sat E W (L A2 A3 0 0) → Sat E (W.setCell ⟨w.heap.size + 1, 11, none⟩ (.int .i64 (A3 + log))) (L A2 A3 (A3 + log) 0) := fun W h => by rw [hL] at h ⊢; exact h.setCell
      have HSET11 := Lib.hid SET11
      have H11 : Hid (Sat E W (L 0 0 0 0)) := Lib.hid (by rw [hL]; exact H10.out)
      clear hL SET9 SET11 H10
      go_cut [] (fun wx => Sat E wx (L A2 0 0 0))
      case first =>
        go_region_with (go_at_call 162; refine (HLN.out _ _ A2 (by omega) (by omega) HA2.out).mono ?_; rintro e w' ⟨rfl, rfl⟩)
        all_goals
          go_wp2_with fail
          go_meet
          exact HSET9.out _ H11.out
      case rest =>
        clear H11 k5 k6 k7 l8 l9 f9 e1 e2
        have H12 := Lib.hid hcut
        rename World => W
        have h12 := hcut
        rw [HL.out] at h12
        have l9 : W.cell? ⟨w.heap.size + 1, 9, none⟩ = some (.int .i64 A2) := h12.cell 9 rfl
        have l10 : W.cell? ⟨w.heap.size + 1, 10, none⟩ = some (.int .i64 0) := h12.cell 10 rfl
        have f10 := h12.free 10
        have HS10 : Hid (Sat E (W.setCell ⟨w.heap.size + 1, 10, none⟩ (.int .i64 A3)) (L A2 A3 0 0)) := Lib.hid (by rw [HL.out]; exact h12.setCell)
        clear h12 hcut
        go_upto_region 12 with (go_at_call 162; refine (HLN.out _ _ A3 (by omega) (by omega) (HA3.out.trans (congrArg Cfg.lineOf (by omega)))).mono ?_; rintro e w' ⟨rfl, rfl⟩)
        refine atSat _ HS10.out fun W h13 => ?_
        have h14 := h13
        rw [HL.out] at h14
        obtain ⟨_, k5, k6, k7⟩ := HCF.out _ h14.right
        clear l9 l10 f10 HS10
        have l10 : W.cell? ⟨w.heap.size + 1, 10, none⟩ = some (.int .i64 A3) := h14.cell 10 rfl
        have l11 : W.cell? ⟨w.heap.size + 1, 11, none⟩ = some (.int .i64 0) := h14.cell 11 rfl
        have f11 := h14.free 11
        have H13 := Lib.hid h13
        have e1 : IntKind.i64.wrap (A3 + log) = A3 + log := wrap_id (by omega) (by omega)
        clear h13 h14
        go_cut [] (fun wx => Sat E wx (L A2 A3 (A3 + log) 0))
        case first =>
          go_region
          all_goals
            go_wp2_with fail
            go_meet
            exact HSET11.out _ H13.out
        case rest =>
          clear H13 k5 k6 k7 l10 l11 f11 e1
          rename World => W
          have h12 := hcut
          rw [HL.out] at h12
          have l11 : W.cell? ⟨w.heap.size + 1, 11, none⟩ = some (.int .i64 (A3 + log)) := h12.cell 11 rfl
          have l12 : W.cell? ⟨w.heap.size + 1, 12, none⟩ = some (.int .i64 0) := h12.cell 12 rfl
          have f12 := h12.free 12
          have HS12 : Hid (Sat E (W.setCell ⟨w.heap.size + 1, 12, none⟩ (.int .i64 A5)) (pt (w.heap.size + 1) (.cells #[.slice ao K cc, .int .i64 n0, .int .i64 n1, .int .i64 n2, .int .i64 n3, .int .i64 roots, .int .i64 weaks, .int .i64 log, .int .i64 A1, .int .i64 A2, .int .i64 A3, .int .i64 (A3 + log), .int .i64 A5] 165) * (pt w.heap.size CC * F))) := Lib.hid h12.setCell
          clear h12 hcut
          go_wp2_with (go_at_call 162; refine (HLN.out _ _ A5 (by omega) (by omega) HA5.out).mono ?_; rintro e w' ⟨rfl, rfl⟩)
          go_ret
          exact ⟨_, rfl, Sat.right (HS12.out.ac (by ac_rfl))⟩
end
end Scul
/- layout: own, New. -/
namespace Scul
open Go Go.Sl Go.RowKit Go.Proofs
/-- A row of ints that is owned. -/
def ints (v : Value) (l : List Int) : HP := row 3 1 v l.length (i64s l)
theorem stI : SliceT Tryz.prog 38 3 1 8 (.int .i64 0) := .mk' Tryz.underlying38 (by kernel_rfl) rfl
theorem stK : SliceT Tryz.prog 27 62 1 24 (.agg #[.slice none 0 0]) := .mk' Tryz.underlying27 (by kernel_rfl) rfl
theorem i64s_one (l : List Int) : ∀ u ∈ i64s l, u.oneCell' = true := ints_oneCell _ _
/-- Rows of ints, each with its slice. -/
def bagI : List (Value × List Int) → HP
  | [] => emp
  | p :: r => ints p.1 p.2 * bagI r
theorem bagI_append (l m : List (Value × List Int)) : bagI (l ++ m) = bagI l * bagI m := by
  induction l with
  | nil => show _ = emp * _; rw [emp_sep]; rfl
  | cons p r ih => show ints p.1 p.2 * bagI (r ++ m) = ints p.1 p.2 * bagI r * bagI m; rw [ih]; ac_rfl
/-- Kinds that are owned. -/
def kindsR (v : Value) (ks : List (Value × List Int)) : HP := row 62 1 v ks.length (ks.map (·.1)) * bagI ks
section
variable {E : Env} {w : World} {F : HP}
theorem bagI_rd {w : World} {o : List (Value × List Int)} {F : HP} (h : Sat E w (bagI o * F)) {p : Value × List Int} (hp : p ∈ o) : Rd w 1 p.1 p.2.length (i64s p.2) := by
  induction o generalizing F with
  | nil => cases hp
  | cons q r ih =>
    have h2 : Sat E w (ints q.1 q.2 * (bagI r * F)) := h.ac (by show _ = ints q.1 q.2 * bagI r * F; ac_rfl)
    rcases List.mem_cons.1 hp with rfl | hp
    · exact h2.rd
    · exact ih h2.right hp
theorem rd_slice {w : World} {v : Value} {n size : Nat} {cs : List Value} (h : Rd w size v n cs) : ∃ a c, v = .slice a n c := by
  obtain ⟨a, c, h, _⟩ := h.val
  exact ⟨a, c, h⟩
theorem kindsR_rd {v : Value} {ks : List (Value × List Int)} (h : Sat E w (kindsR v ks * F)) : RdK w v ks := by
  unfold kindsR at h
  rw [sep_assoc] at h
  exact ⟨h.rd, fun p hp => ⟨rd_slice (bagI_rd h.right hp), bagI_rd h.right hp⟩⟩
theorem cloneI_calls (w : World) (x : List Int) (v : Value) (hb : x.length * 8 ≤ 140737488355328) (hv : Rd w 1 v x.length (i64s x)) (hs : Sat E w F) :
    Calls Tryz.prog 163 #[v] w fun e w' => ∃ v', e = .returned v' ∧ Sat E w' (ints v' x * F) := by
  have hm := hv.most
  have hnil := fun (w : World) (a : Option Addr) (n c : Nat) => Lib.run_eql_slice_nil (P := Tryz.prog) w 38 3 a n c 0 0 Tryz.underlying38
  obtain ⟨ao, c, rfl, _⟩ := hv.val
  rcases ao with _ | ⟨g, o, sp⟩
  · obtain ⟨h0, rfl⟩ := hv.nil0
    have hx : x = [] := List.eq_nil_of_length_eq_zero h0
    subst hx
    clear hb hm hv h0
    go_enter Tryz.func163, Tryz.ntmps163
    go_wp2
    go_ret
    exact ⟨_, rfl, hs.row_nil _ _⟩
  · have h1 : Sat E (w.alloc (.cells #[] 3)) (row 3 1 (.slice (some ⟨w.heap.size, 0, none⟩) 0 0) 0 [] * F) := Sat.row_mk (hs.alloc _) (Nat.le_refl _) (Nat.zero_le _) rfl rfl
    have h2 := hv.alloc (.cells #[] 3)
    have H1 := Lib.hid h1; have H2 := Lib.hid h2; have H3 : Hid (∀ u ∈ i64s x, u.oneCell' = true) := i64s_one x
    clear h1 h2 hv hm
    have b1 : 0 + x.length ≤ maxLen := by simp only [maxLen]; omega
    have b2 : (0 + x.length) * 8 ≤ 140737488355328 := by omega
    have B1 := Lib.hid b1; have B2 := Lib.hid b2
    clear b1 b2 hb
    generalize hn : x.length = n at *
    have HN := Lib.hid hn
    clear hn
    go_enter Tryz.func163, Tryz.ntmps163
    go_wp2_with (at_builtin; refine wpl_append rfl _ _ stI rfl _ _ _ H1.out rfl _ _ _ H2.out rfl H3.out B1.out B2.out ?_; intro v' w' hs')
    go_ret
    refine ⟨_, rfl, ?_⟩
    unfold ints
    rw [HN.out]
    simpa using hs'
set_option maxRecDepth 100000 in
set_option maxHeartbeats 2000000 in
theorem own_calls (w : World) (c : Cfg) (ks : List (Value × List Int)) (kv : Value) (hv : ∀ W, Sat E W F → RdK W kv ks) (hk : ks.map (·.2) = c.kinds) (h16 : ks.length ≤ 16) (h15 : ∀ p ∈ ks, p.2.length ≤ 15) (hs : Sat E w F) :
    Calls Tryz.prog 122 #[.agg (cfgCells kv c)] w fun e w' => ∃ ao cc ks', e = .returned (.agg (cfgCells (.slice ao ks'.length cc) c)) ∧ ks'.map (·.2) = c.kinds ∧ Sat E w' (kindsR (.slice ao ks'.length cc) ks' * F) := by
  obtain ⟨a0, c0, rfl, hc⟩ := (hv w hs).val
  obtain ⟨n, hn⟩ : ∃ n, n = ks.length := ⟨_, rfl⟩
  rw [← hn] at hv h16 hc ⊢
  obtain ⟨kinds, n0, n1, n2, n3, roots, weaks, log⟩ := c
  simp only [cfgCells] at *
  have HN := Lib.hid hn
  have HV := Lib.hid hv
  have HK := Lib.hid hk
  have H15 := Lib.hid h15
  have HS := Lib.hid hs
  clear hn hv hs hk h15
  go_enter Tryz.func122, Tryz.ntmps122
  go_wp2_with fail
  obtain ⟨g, hg⟩ : ∃ g, g = w.heap.size := ⟨_, rfl⟩
  obtain ⟨R, hR⟩ : ∃ R : HP, R = pt (g + 1) (.cells #[.slice none 0 0, .int .i64 0, .int .i64 0, .int .i64 0, .int .i64 0, .int .i64 0, .int .i64 0, .int .i64 0] 29) * (pt g (.cells #[.slice a0 n c0, .int .i64 n0, .int .i64 n1, .int .i64 n2, .int .i64 n3, .int .i64 roots, .int .i64 weaks, .int .i64 log] 29) * F) := ⟨_, rfl⟩
  have HR := Lib.hid hR
  have HRF : Hid (∀ W, Sat E W R → Sat E W F) := Lib.hid fun W hW => by rw [hR] at hW; exact hW.right.right
  go_loopw [9, 3] (fun iv lv wr => ∃ (k : Nat) (ks' : List (Value × List Int)), k ≤ n ∧ iv = .int .i64 k ∧ (∃ ao cc, lv = .slice ao ks'.length cc) ∧ ks'.map (·.2) = (ks.take k).map (·.2) ∧ Sat E wr (kindsR lv ks' * R)) (fun iv _ _ => n - (RowKit.intOf iv).toNat)
  case atStart =>
    refine ⟨0, [], Nat.zero_le _, rfl, ⟨none, 0, rfl⟩, by simp, ?_⟩
    have h := (Sat.alloc2 HS.out (.cells #[.slice a0 n c0, .int .i64 n0, .int .i64 n1, .int .i64 n2, .int .i64 n3, .int .i64 roots, .int .i64 weaks, .int .i64 log] 29) (.cells #[.slice none 0 0, .int .i64 0, .int .i64 0, .int .i64 0, .int .i64 0, .int .i64 0, .int .i64 0, .int .i64 0] 29)).row_nil 62 1
    rw [HR.out, hg]
    show Sat E _ (row _ _ _ _ _ * emp * _)
    rw [sep_emp]
    exact h
  case round =>
    obtain ⟨k, ks', hk, rfl, ⟨ao, cc, rfl⟩, hks, hw⟩ := hrel
    have HKS := Lib.hid hks; have HW := Lib.hid hw
    clear hks hw hR
    have hl' : ks'.length = k := by
      have := congrArg List.length HKS.out
      rw [List.length_map, List.length_map, List.length_take, ← HN.out] at this
      omega
    by_cases hlt : k < n
    · have hk2 : k < ks.length := by rw [← HN.out]; exact hlt
      have hrd := HV.out wr (HRF.out _ HW.out.right)
      rw [HN.out] at hrd
      obtain ⟨b, o, rfl, cx⟩ := RdK.nth hrd k hk2
      have hmem : ks[k] ∈ ks := List.getElem_mem hk2
      have HT : Hid (ks.take (k + 1) = ks.take k ++ [ks[k]]) := Lib.hid (List.take_succ_eq_append_getElem hk2)
      have HM15 : Hid (ks[k].2.length ≤ 15) := Lib.hid (H15.out _ hmem)
      obtain ⟨⟨pa, pc, hp1⟩, _⟩ := hrd.2 _ hmem
      have HRD : Hid (∀ W, Sat E W F → Rd W 1 ks[k].1 ks[k].2.length (i64s ks[k].2)) := Lib.hid fun W hW => ((HV.out W hW).2 _ hmem).2
      clear hrd hmem
      generalize ks[k] = p at *
      obtain ⟨pv, pf⟩ := p
      simp only at hp1 cx HT HM15 HRD
      subst hp1
      clear hk2
      have h1 := HW.out.alloc (.cells #[.slice pa pf.length pc] 62)
      have HC := Lib.hid (cloneI_calls _ pf (.slice pa pf.length pc) (by have : pf.length ≤ 15 := HM15.out; omega) (HRD.out _ (HRF.out _ h1.right.right)) h1)
      clear h1
      go_wp2_with fail
      refine HC.out.mono ?_
      rintro e w1 ⟨v1, rfl, h2⟩
      obtain ⟨a1, c1, rfl, _⟩ := Sat.row_val h2
      obtain ⟨R2, hR2⟩ : ∃ R2 : HP, R2 = pt wr.heap.size (.cells #[.slice pa pf.length pc] 62) * R := ⟨_, rfl⟩
      have hh : Sat E w1 (row 62 1 (.slice ao k cc) k (ks'.map (·.1)) * (bagI ks' * (ints (.slice a1 pf.length c1) pf * R2))) := by
        rw [hR2]
        unfold kindsR at h2
        rw [hl'] at h2
        exact h2.ac (by ac_rfl)
      have h3 := hh.alloc (.cells #[.slice a1 pf.length c1] 62)
      have HH := Lib.hid (Sat.swap h3)
      have RD1 := Lib.hid (rd_one h3)
      have HR2 := Lib.hid hR2
      clear h2 hh h3 hR2
      have B1 := Lib.hid (show k + 1 ≤ maxLen by simp only [maxLen]; omega)
      have B2 := Lib.hid (show (k + 1) * 24 ≤ 140737488355328 by omega)
      go_wp2_with (at_builtin; refine wpl_append rfl _ _ stK rfl _ _ _ HH.out rfl _ _ _ RD1.out rfl (by intro u hu; simp at hu; subst hu; rfl) B1.out B2.out ?_; intro v' w' hs')
      obtain ⟨a2, c2, rfl, _⟩ := Sat.row_val hs'
      have e3 : (ks' ++ [(Value.slice a1 pf.length c1, pf)]).length = k + 1 := by rw [List.length_append, hl']; rfl
      refine ⟨⟨k + 1, ks' ++ [(.slice a1 pf.length c1, pf)], by omega, by go_num, ⟨a2, c2, by rw [e3]⟩, ?_, ?_⟩, by simp [RowKit.intOf]; omega⟩
      · rw [List.map_append, HKS.out, HT.out, List.map_append]; rfl
      · unfold kindsR
        rw [e3, List.map_append, bagI_append]
        rw [HR2.out] at hs'
        have hs2 : Sat E w' (pt wr.heap.size (.cells #[.slice pa pf.length pc] 62) * (pt w1.heap.size (.cells #[.slice a1 pf.length c1] 62) * (row 62 1 (.slice a2 (k + 1) c2) (k + 1) (ks'.map (·.1) ++ [.slice a1 pf.length c1]) * (bagI ks' * (ints (.slice a1 pf.length c1) pf * R))))) := hs'.ac (by ac_rfl)
        have hs3 := hs2.right.right
        show Sat E w' (_ * (bagI ks' * (ints _ pf * emp)) * R)
        rw [sep_emp]
        exact hs3.ac (by ac_rfl)
    · obtain rfl : k = n := by omega
      have h9 := HW.out
      rw [HR.out] at h9
      have h10 : Sat E wr (pt g (.cells #[.slice a0 k c0, .int .i64 n0, .int .i64 n1, .int .i64 n2, .int .i64 n3, .int .i64 roots, .int .i64 weaks, .int .i64 log] 29) * (pt (g + 1) (.cells #[.slice none 0 0, .int .i64 0, .int .i64 0, .int .i64 0, .int .i64 0, .int .i64 0, .int .i64 0, .int .i64 0] 29) * (kindsR (.slice ao ks'.length cc) ks' * F))) := h9.ac (by ac_rfl)
      have f0 := h10.free 0
      rw [hg] at h10 f0
      have k0 := h10.cell 0 rfl
      have h11 := h10.setCell (i := 0) (v := .slice ao ks'.length cc)
      rw [hl'] at h11
      have H11 := Lib.hid h11
      clear h9 h10 h11
      go_upto_region 8 with fail
      refine atSat _ H11.out fun W h12 => ?_
      simp only [List.setIfInBounds_toArray, List.set_cons_zero] at h12
      clear k0 f0 H11
      have c0' := h12.cell 0 rfl; have c1' := h12.cell 1 rfl; have c2' := h12.cell 2 rfl; have c3' := h12.cell 3 rfl
      have c4' := h12.cell 4 rfl; have c5' := h12.cell 5 rfl; have c6' := h12.cell 6 rfl; have c7' := h12.cell 7 rfl
      have h13 := Sat.swap h12
      have d0 := h13.cell 0 rfl; have d1 := h13.cell 1 rfl; have d2 := h13.cell 2 rfl; have d3 := h13.cell 3 rfl
      have d4 := h13.cell 4 rfl; have d5 := h13.cell 5 rfl; have d6 := h13.cell 6 rfl; have d7 := h13.cell 7 rfl
      have f0 := h13.free 0; have f1 := h13.free 1; have f2 := h13.free 2; have f3 := h13.free 3
      have f4 := h13.free 4; have f5 := h13.free 5; have f6 := h13.free 6; have f7 := h13.free 7
      have H13 := Lib.hid h13
      clear h12 h13
      go_wp2_with fail
      have h14 := (((((((H13.out.setCell (i := 0) (v := .slice ao k cc)).setCell (i := 1) (v := .int .i64 n0)).setCell (i := 2) (v := .int .i64 n1)).setCell (i := 3) (v := .int .i64 n2)).setCell (i := 4) (v := .int .i64 n3)).setCell (i := 5) (v := .int .i64 roots)).setCell (i := 6) (v := .int .i64 weaks)).setCell (i := 7) (v := .int .i64 log)
      simp only [List.setIfInBounds_toArray, List.set_cons_zero, List.set_cons_succ] at h14
      refine bodyPost_ret (results_cell_row rfl _ _ (w.heap.size + 1) _ _ _ _ rfl h14.at Tryz.underlying29 (by rfl) (by kernel_rfl)) rfl ?_
      refine ⟨ao, cc, ks', ?_, ?_, ?_⟩
      · rw [hl']
      · rw [HKS.out, HN.out, List.take_length, HK.out]
      · rw [hl']
        exact h14.right.right
end
end Scul
/- layout: a layout in memory; Range, Blocks, Class, Size, Bits. -/
namespace Scul
open Go Go.Sl Go.RowKit Go.Proofs
/-- Block b is the layout of c. -/
def lay (b : Nat) (c : Cfg) : HP := ex fun q : Value × List (Value × List Int) => lift (c.Ok ∧ q.2.map (·.2) = c.kinds ∧ ∃ a cc, q.1 = .slice a q.2.length cc) * (pt b (.cells (layCells q.1 c) 165) * kindsR q.1 q.2)
theorem first_succ (c : Cfg) (k : Nat) (hk : k < 4) : c.first (k + 1) = c.first k + c.blk k := by
  have : k = 0 ∨ k = 1 ∨ k = 2 ∨ k = 3 := by omega
  rcases this with rfl | rfl | rfl | rfl <;> simp [Cfg.first, Cfg.blk]
theorem from_first (c : Cfg) (k : Nat) (hk : k < 4) : c.from_ k = c.first k := by
  have : k = 0 ∨ k = 1 ∨ k = 2 ∨ k = 3 := by omega
  rcases this with rfl | rfl | rfl | rfl <;> simp [Cfg.first, Cfg.from_]
theorem upto_first (c : Cfg) (k : Nat) (hk : k < 4) : c.upto k = c.first (k + 1) := by
  have : k = 0 ∨ k = 1 ∨ k = 2 ∨ k = 3 := by omega
  rcases this with rfl | rfl | rfl | rfl <;> simp [Cfg.first, Cfg.upto, Cfg.count]
theorem from_upto_out (c : Cfg) (i : Int) (h : ¬ (0 ≤ i ∧ i < 4)) : c.from_ i = 0 ∧ c.upto i = 0 := by
  unfold Cfg.from_ Cfg.upto
  constructor
  · rw [if_neg (by omega), if_neg (by omega), if_neg (by omega)]
  · rw [if_neg (by omega), if_neg (by omega), if_neg (by omega), if_neg (by omega)]
theorem first_range {c : Cfg} (h : c.Near) (k : Nat) : 0 ≤ c.first k ∧ c.first k ≤ 2048 := by
  have h0 := h.n0; have h1 := h.n1; have h2 := h.n2; have h3 := h.n3
  unfold Cfg.first
  split; omega; split; omega; split; omega; split <;> omega
theorem blk_range {c : Cfg} (h : c.Near) (k : Nat) : 0 ≤ c.blk k ∧ c.blk k ≤ 512 := by
  have h0 := h.n0; have h1 := h.n1; have h2 := h.n2; have h3 := h.n3
  unfold Cfg.blk
  split; omega; split; omega; split <;> omega
section
variable {E : Env} {w : World} {F : HP} {b : Nat} {c : Cfg}
theorem lay_open (h : Sat E w (lay b c * F)) : ∃ kv ks, (c.Ok ∧ ks.map (·.2) = c.kinds ∧ ∃ a cc, kv = .slice a ks.length cc) ∧ Sat E w (pt b (.cells (layCells kv c) 165) * (kindsR kv ks * F)) := by
  obtain ⟨⟨kv, ks⟩, h⟩ := h.exl
  rw [sep_assoc] at h
  obtain ⟨hok, h⟩ := h.pure
  exact ⟨kv, ks, hok, by simpa only [sep_assoc] using h⟩
theorem lay_mk {kv : Value} {ks : List (Value × List Int)} (hok : c.Ok ∧ ks.map (·.2) = c.kinds ∧ ∃ a cc, kv = .slice a ks.length cc) (h : Sat E w (pt b (.cells (layCells kv c) 165) * (kindsR kv ks * F))) : Sat E w (lay b c * F) := by
  refine Sat.mkExl (kv, ks) ?_
  rw [sep_assoc]
  refine Sat.mkPure hok ?_
  simpa only [sep_assoc] using h
theorem lay_ok (h : Sat E w (lay b c * F)) : c.Ok := by obtain ⟨_, _, h, _⟩ := lay_open h; exact h.1
/-- A layout's numbers. -/
theorem lay_cells (h : Sat E w (lay b c * F)) : (∀ k : Nat, k < 4 → w.cell? ⟨b, 1 + k, none⟩ = some (.int .i64 (c.blk k))) ∧ w.cell? ⟨b, 9, none⟩ = some (.int .i64 c.bitsAt) := by
  obtain ⟨kv, ks, _, hs⟩ := lay_open h
  refine ⟨fun k hk => ?_, hs.cell 9 rfl⟩
  have : k = 0 ∨ k = 1 ∨ k = 2 ∨ k = 3 := by omega
  rcases this with rfl | rfl | rfl | rfl
  · exact hs.cell 1 rfl
  · exact hs.cell 2 rfl
  · exact hs.cell 3 rfl
  · exact hs.cell 4 rfl
set_option maxRecDepth 100000 in
set_option maxHeartbeats 1000000 in
theorem range_calls (w : World) (i : Int) (h : Sat E w (lay b c * F)) :
    Calls Tryz.prog 129 #[.pointer (some ⟨b, 0, none⟩), .int .i64 i] w fun e w' => e = .returned (.tuple #[.int .i64 (c.from_ i), .int .i64 (c.upto i)]) ∧ ∃ m, w' = w.drewN m := by
  have hn := (lay_ok h).toNear
  have HC := Lib.hid (lay_cells h).1
  clear h
  by_cases h0 : i < 0
  · obtain ⟨e1, e2⟩ := from_upto_out c i (by omega)
    rw [e1, e2]
    clear e1 e2 hn
    go_enter Tryz.func129, Tryz.ntmps129
    go_wp2_with fail
    go_ret2
    exact ⟨rfl, 0, rfl⟩
  by_cases h4 : 4 ≤ i
  · obtain ⟨e1, e2⟩ := from_upto_out c i (by omega)
    rw [e1, e2]
    clear e1 e2 hn
    go_enter Tryz.func129, Tryz.ntmps129
    go_wp2_with fail
    go_ret2
    exact ⟨rfl, 0, rfl⟩
  obtain ⟨I, rfl⟩ := Int.eq_ofNat_of_zero_le (a := i) (by omega)
  have hI : I < 4 := by omega
  rw [from_first c I hI, upto_first c I hI]
  obtain ⟨f0, hf0⟩ : ∃ f, f = c.first I := ⟨_, rfl⟩
  obtain ⟨f1, hf1⟩ : ∃ f, f = c.first (I + 1) := ⟨_, rfl⟩
  rw [← hf0, ← hf1]
  have HF0 := Lib.hid hf0; have HF1 := Lib.hid hf1; have HN := Lib.hid hn
  clear hf0 hf1 hn
  have hI2 : (I : Int) ≤ 4 := by omega
  go_enter Tryz.func129, Tryz.ntmps129
  go_wp2_with fail
  go_loopw [26, 6] (fun iv xv wr => ∃ (k : Nat) (x : Int), k ≤ I ∧ iv = .int .i64 k ∧ xv = .int .i64 x ∧ x = c.first k ∧ wr = w) (fun iv _ _ => I - (RowKit.intOf iv).toNat)
  case atStart => exact ⟨0, 0, Nat.zero_le _, rfl, rfl, by simp [Cfg.first], rfl⟩
  case round =>
    obtain ⟨k, x, hk, rfl, rfl, hx, rfl⟩ := hrel
    have hxr := first_range HN.out k
    rw [← hx] at hxr
    have HX := Lib.hid hx
    clear hx
    by_cases hlt : k < I
    · have cx := HC.out k (by omega)
      have hbr := blk_range HN.out k
      have HS := Lib.hid (first_succ c k (by omega))
      generalize c.blk k = y at *
      go_wp2_with fail
      exact ⟨⟨k + 1, x + y, by omega, by go_num, by go_num, by rw [HS.out, HX.out], by first | rfl | trivial⟩, by simp [RowKit.intOf]; omega⟩
    · obtain rfl : k = I := by omega
      have cx := HC.out k hI
      have hbr := blk_range HN.out k
      have HS := Lib.hid (first_succ c k (by omega))
      generalize c.blk k = y at *
      have e1 : IntKind.i64.wrap (x + y) = x + y := wrap_id (by omega) (by omega)
      go_wp2_with fail
      go_quiet (fail)
      go_wp2_with fail
      go_ret2
      exact ⟨ret2_int (by rw [HX.out, HF0.out]) (by rw [HF1.out, HS.out, HX.out]), _, rfl⟩
/-- Range of a layout that there isn't. -/
theorem blocks_calls (w : World) (h : Sat E w (lay b c * F)) :
    Calls Tryz.prog 59 #[.pointer (some ⟨b, 0, none⟩)] w fun e w' => e = .returned (.int .i64 c.count) ∧ ∃ m, w' = w.drewN m := by
  have HR := Lib.hid (range_calls w 3 h)
  have e : c.upto 3 = c.count := by simp [Cfg.upto]
  rw [e] at HR
  clear e h
  go_enter Tryz.func59, Tryz.ntmps59
  go_wp2_with fail
  refine HR.out.mono ?_
  rintro e w1 ⟨rfl, m, rfl⟩
  go_wp2_with fail
  go_ret
  exact ⟨rfl, m, rfl⟩
set_option maxRecDepth 100000 in
set_option maxHeartbeats 1000000 in
theorem class_calls (w : World) (x : Int) (h : Sat E w (lay b c * F)) :
    Calls Tryz.prog 130 #[.pointer (some ⟨b, 0, none⟩), .int .i64 x] w fun e w' => e = .returned (.int .i64 (c.cls x)) ∧ ∃ m, w' = w.drewN m := by
  have hn := (lay_ok h).toNear
  have HR : Hid (∀ (m : Nat) (i : Int), Calls Tryz.prog 129 #[.pointer (some ⟨b, 0, none⟩), .int .i64 i] (w.drewN m) fun e w' => e = .returned (.tuple #[.int .i64 (c.from_ i), .int .i64 (c.upto i)]) ∧ ∃ k, w' = (w.drewN m).drewN k) := Lib.hid fun m i => range_calls _ i (h.drewN m)
  obtain ⟨r, hr⟩ : ∃ r, r = c.cls x := ⟨_, rfl⟩
  rw [← hr]
  have HX := Lib.hid hr
  have HN := Lib.hid hn
  clear hn h hr
  go_enter Tryz.func130, Tryz.ntmps130
  go_wp2_with fail
  go_loopw [8] (fun iv wr => ∃ (k : Nat) (m : Nat), k ≤ 4 ∧ iv = .int .i64 k ∧ (∀ j : Nat, j < k → c.cls x ≠ j) ∧ wr = w.drewN m) (fun iv _ => 4 - (RowKit.intOf iv).toNat)
  case atStart => exact ⟨0, 0, by omega, rfl, by omega, rfl⟩
  case round =>
    obtain ⟨k, m, hk, rfl, hj, rfl⟩ := hrel
    have HJ := Lib.hid hj
    clear hj
    by_cases hlt : k < 4
    · have HI := Lib.hid (Cfg.cls_in HN.out x k (by omega))
      have hki : (k : Int) < 4 := by omega
      have HRK := Lib.hid (HR.out m k)
      generalize c.from_ k = f at HRK HI
      generalize c.upto k = u at HRK HI
      by_cases h1 : f ≤ x
      · by_cases h2 : x < u
        · have e : r = k := by rw [HX.out]; exact HI.out.2 ⟨hki, h1, h2⟩
          subst e
          go_wp2_with (go_at_call 129; refine HRK.out.mono ?_; rintro e w1 ⟨rfl, m2, rfl⟩)
          go_ret
          exact ⟨rfl, m + m2, by first | rfl | rw [World.drewN_drewN]⟩
        · go_wp2_with (go_at_call 129; refine HRK.out.mono ?_; rintro e w1 ⟨rfl, m2, rfl⟩)
          refine ⟨⟨k + 1, m + m2, by omega, by go_num, fun j hj => ?_, by first | rfl | rw [World.drewN_drewN]⟩, by simp [RowKit.intOf]; omega⟩
          by_cases e : j = k
          · subst e
            intro h
            have := HI.out.1 h
            omega
          · exact HJ.out j (by omega)
      · go_wp2_with (go_at_call 129; refine HRK.out.mono ?_; rintro e w1 ⟨rfl, m2, rfl⟩)
        refine ⟨⟨k + 1, m + m2, by omega, by go_num, fun j hj => ?_, by first | rfl | rw [World.drewN_drewN]⟩, by simp [RowKit.intOf]; omega⟩
        by_cases e : j = k
        · subst e
          intro h
          have := HI.out.1 h
          omega
        · exact HJ.out j (by omega)
    · obtain rfl : k = 4 := by omega
      have e : r = -1 := by
        have h1 := Cfg.cls_range c x
        rw [HX.out]
        have h0 := HJ.out 0 (by omega); have h2 := HJ.out 1 (by omega); have h3 := HJ.out 2 (by omega); have h4 := HJ.out 3 (by omega)
        omega
      subst e
      go_wp2_with fail
      go_ret
      exact ⟨rfl, m, rfl⟩
theorem layBits_calls (w : World) (x : Int) (h : Sat E w (lay b c * F)) :
    Calls Tryz.prog 60 #[.pointer (some ⟨b, 0, none⟩), .int .i64 x] w fun e w' => e = .returned (.int .i64 (c.bitsOf x)) ∧ ∃ m, w' = w.drewN m := by
  have HC := Lib.hid (class_calls w x h)
  have c9 := (lay_cells h).2
  have hn := (lay_ok h).toNear
  have hp := Cfg.near_places hn
  have hx : 0 ≤ c.cls x → 0 ≤ x ∧ x < c.count := fun h1 => by
    have := (Cfg.cls_neg hn x)
    have h2 := Cfg.cls_range c x
    omega
  have hc2 : c.count ≤ 2048 := hp.2.2.2.2.2.2.2.2.2.2.1
  have hb1 : c.bitsAt ≤ 80 := hp.2.2.2.1
  have hb0 : 0 ≤ c.bitsAt := by unfold Cfg.bitsAt Cfg.lineOf; have := hn.roots; have := hn.weaks; omega
  obtain ⟨r, hr⟩ : ∃ r, r = c.bitsOf x := ⟨_, rfl⟩
  rw [← hr]
  have HX := Lib.hid hr
  clear h hr hp
  unfold Cfg.bitsOf at HX
  generalize c.cls x = k at *
  generalize c.bitsAt = ba at *
  clear hn
  by_cases h0 : k < 0
  · have e : r = -1 := by rw [HX.out, if_pos h0]
    subst e
    clear hx
    go_enter Tryz.func60, Tryz.ntmps60
    go_wp2_with fail
    refine HC.out.mono ?_
    rintro e w1 ⟨rfl, m, rfl⟩
    go_wp2_with fail
    go_ret
    exact ⟨rfl, m, rfl⟩
  · have e : r = ba + x / 64 := by rw [HX.out, if_neg h0]
    have hx2 := hx (by omega)
    have e1 : IntKind.i64.wrap (ba + x / 64) = ba + x / 64 := wrap_id (by omega) (by omega)
    have e2 : IntKind.i64.wrap (x / 64) = x / 64 := wrap_id (by omega) (by omega)
    subst e
    clear hx
    obtain ⟨hx3, hx4⟩ := hx2
    go_enter Tryz.func60, Tryz.ntmps60
    go_wp2_with fail
    refine HC.out.mono ?_
    rintro e w1 ⟨rfl, m, rfl⟩
    go_wp2_with fail
    go_ret
    exact ⟨rfl, m, rfl⟩
theorem laySize_calls (w : World) (x : Int) (h : Sat E w (lay b c * F)) :
    Calls Tryz.prog 67 #[.pointer (some ⟨b, 0, none⟩), .int .i64 x] w fun e w' => e = .returned (.int .i64 (c.size x)) ∧ ∃ m, w' = w.drewN m := by
  have HC := Lib.hid (class_calls w x h)
  have hr2 := Cfg.cls_range c x
  obtain ⟨r, hr⟩ : ∃ r, r = c.size x := ⟨_, rfl⟩
  rw [← hr]
  have HX := Lib.hid hr
  clear h hr
  unfold Cfg.size at HX
  generalize c.cls x = k at *
  by_cases h0 : k < 0
  · have e : r = 0 := by rw [HX.out, if_pos h0]
    subst e
    clear hr2
    go_enter Tryz.func67, Tryz.ntmps67
    go_wp2_with fail
    refine HC.out.mono ?_
    rintro e w1 ⟨rfl, m, rfl⟩
    go_wp2_with fail
    go_ret
    exact ⟨rfl, m, rfl⟩
  · have HS : Hid (∀ W : World, Calls Tryz.prog 138 #[.int .i64 k] W fun e w' => e = .returned (.int .i64 r) ∧ w' = W) := Lib.hid fun W => by
      have := lsize_calls W k (by omega) (by omega)
      rwa [HX.out, if_neg h0]
    clear hr2
    go_enter Tryz.func67, Tryz.ntmps67
    go_wp2_with fail
    refine HC.out.mono ?_
    rintro e w1 ⟨rfl, m, rfl⟩
    go_wp2_with fail
    refine (HS.out _).mono ?_
    rintro e w2 ⟨rfl, rfl⟩
    go_wp2_with fail
    go_ret
    exact ⟨rfl, m, rfl⟩
end
end Scul
/- layout: May, New. -/
namespace Scul
open Go Go.Sl Go.RowKit Go.Proofs
section
variable {E : Env} {w : World} {F : HP} {b : Nat} {c : Cfg}
/-- A config's cells. -/
structure CfgAt (W : World) (g : Nat) (kv : Value) (c : Cfg) : Prop where
  k0 : W.cell? ⟨g, 0, none⟩ = some kv
  k1 : W.cell? ⟨g, 1, none⟩ = some (.int .i64 c.n0)
  k2 : W.cell? ⟨g, 2, none⟩ = some (.int .i64 c.n1)
  k3 : W.cell? ⟨g, 3, none⟩ = some (.int .i64 c.n2)
  k4 : W.cell? ⟨g, 4, none⟩ = some (.int .i64 c.n3)
  k5 : W.cell? ⟨g, 5, none⟩ = some (.int .i64 c.roots)
  k6 : W.cell? ⟨g, 6, none⟩ = some (.int .i64 c.weaks)
  k7 : W.cell? ⟨g, 7, none⟩ = some (.int .i64 c.log)
theorem cfg_at {W : World} {g : Nat} {kv : Value} {c : Cfg} {t : TypeId} {f : Nat × Nat} {R : HP} (h : Sat E W (pt g (.cells (cfgCells kv c) t f) * R)) : CfgAt W g kv c :=
  ⟨h.cell 0 rfl, h.cell 1 rfl, h.cell 2 rfl, h.cell 3 rfl, h.cell 4 rfl, h.cell 5 rfl, h.cell 6 rfl, h.cell 7 rfl⟩
set_option maxRecDepth 100000 in
set_option maxHeartbeats 4000000 in
theorem layMay_calls (w : World) (c : Cfg) (ks : List (Value × List Int)) (kv : Value) (hv : ∀ W, Sat E W F → RdK W kv ks) (hk : ks.map (·.2) = c.kinds) (hs : Sat E w F) :
    Calls Tryz.prog 120 #[.agg (cfgCells kv c)] w fun e w' => e = .returned (.int .i64 c.may) ∧ Sat E w' F := by
  obtain ⟨a0, c0, rfl, hc⟩ := (hv w hs).val
  have hm := (hv w hs).1.most
  obtain ⟨r, hr⟩ : ∃ r, r = c.may := ⟨_, rfl⟩
  rw [← hr]
  have HX := Lib.hid hr
  have hK : c.kinds.length = ks.length := by rw [← hk, List.length_map]
  have hB : (∀ k ∈ c.kinds, kindMay k = true) ↔ ∀ p ∈ ks, kindMay p.2 = true := by
    rw [← hk]
    constructor
    · intro h p hp; exact h _ (List.mem_map.2 ⟨p, hp, rfl⟩)
    · intro h k hk'
      obtain ⟨p, hp, rfl⟩ := List.mem_map.1 hk'
      exact h p hp
  obtain ⟨BD, hBD⟩ : ∃ B, B = decide (¬ ∀ p ∈ ks, kindMay p.2 = true) := ⟨_, rfl⟩
  have hBD2 : (¬ ∀ k ∈ c.kinds, kindMay k = true) ↔ BD = true := by rw [hB, hBD, decide_eq_true_iff]
  obtain ⟨R, hR⟩ : ∃ R : HP, R = pt w.heap.size (.cells (cfgCells (.slice a0 ks.length c0) c) 29) * F := ⟨_, rfl⟩
  have HRF : Hid (∀ W, Sat E W R → Sat E W F) := Lib.hid fun W hW => by rw [hR] at hW; exact hW.right
  have HCK : Hid (∀ W, Sat E W R → Calls Tryz.prog 159 #[.slice a0 ks.length c0, .func (.func 160) #[] #[]] W fun e w' => e = .returned (.bool BD) ∧ Sat E w' R) := Lib.hid fun W hW => by
    rw [hBD]; exact containsK_calls W ks _ (fun W' hW' => hv W' (HRF.out _ hW')) hW
  obtain ⟨n, hn⟩ : ∃ n, n = ks.length := ⟨_, rfl⟩
  rw [← hn] at hR HCK hc hm hK ⊢
  have HPL : Hid (c.Near → ∀ W, Sat E W R → Calls Tryz.prog 121 #[.agg (cfgCells (.slice a0 n c0) c)] W fun e w' => ∃ b, e = .returned (.pointer (some ⟨b, 0, none⟩)) ∧ Sat E w' (pt b (.cells (layCells (.slice a0 n c0) c) 165) * R)) := Lib.hid fun hn W hW => by
    have := place_calls (F := R) W c a0 c0 hn hW
    rwa [hK] at this
  unfold Cfg.may at HX
  rw [hK] at HX
  have HBD := Lib.hid hBD2
  have HKN := Lib.hid hK
  have HWI : Hid (∀ (W : World) (n m : Int), Calls Tryz.prog 161 #[.int .i64 n, .int .i64 m] W fun e w' => e = .returned (.bool (decide (0 ≤ n ∧ n ≤ m))) ∧ w' = W) := Lib.hid fun W n m => within_calls W n m
  have HND : Hid (∀ W : World, Calls Tryz.prog 114 #[.int .i64 16] W fun e w' => e = .returned (.int .i64 40) ∧ w' = W) := Lib.hid fun W => need_calls W 16
  have HS : Hid (Sat E (w.alloc (.cells (cfgCells (.slice a0 n c0) c) 29)) R) := Lib.hid (by rw [hR]; exact hs.alloc _)
  have HR := Lib.hid hR
  clear hv hk hs hr hK hB hBD hBD2 hn hR
  by_cases h1 : n = 0
  · have e : r = 1 := by rw [HX.out, if_pos (.inl h1)]
    subst e
    subst h1
    unfold cfgCells at *
    go_enter Tryz.func120, Tryz.ntmps120
    go_wp2_with fail
    go_ret
    exact ⟨rfl, HRF.out _ HS.out⟩
  have h1' : ((n : Int) == 0) = false := by simpa using h1
  by_cases h2 : 16 < n
  · have e : r = 1 := by rw [HX.out, if_pos (.inr (.inl h2))]
    subst e
    have h2' : (16 : Int) < n := by omega
    unfold cfgCells at *
    go_enter Tryz.func120, Tryz.ntmps120
    go_wp2_with fail
    go_ret
    exact ⟨rfl, HRF.out _ HS.out⟩
  have h2' : (n : Int) ≤ 16 := by omega
  cases BD with
  | true =>
    have e : r = 1 := by rw [HX.out, if_pos (.inr (.inr (HBD.out.2 rfl)))]
    subst e
    unfold cfgCells at *
    go_enter Tryz.func120, Tryz.ntmps120
    go_wp2_with fail
    refine (HCK.out _ HS.out).mono ?_
    rintro e w1 ⟨rfl, h3⟩
    go_wp2_with fail
    go_ret
    exact ⟨rfl, HRF.out _ h3⟩
  | false =>
    have hg : ¬ (n = 0 ∨ 16 < n ∨ ¬ ∀ k ∈ c.kinds, kindMay k = true) := by
      rintro (h | h | h)
      · exact h1 h
      · exact h2 h
      · have := HBD.out.1 h; cases this
    have hx := HX.out
    rw [if_neg hg] at hx
    have HX2 := Lib.hid hx
    clear hg hx HX HBD
    obtain ⟨kinds, n0, n1, n2, n3, roots, weaks, log⟩ := c
    simp only [cfgCells] at *
    obtain ⟨c', hc'⟩ : ∃ c' : Cfg, c' = ⟨kinds, n0, n1, n2, n3, roots, weaks, log⟩ := ⟨_, rfl⟩
    have HC' := Lib.hid hc'
    have HCELL : Hid (∀ W, Sat E W R → W.cell? ⟨w.heap.size, 0, none⟩ = some (.slice a0 n c0) ∧ W.cell? ⟨w.heap.size, 1, none⟩ = some (.int .i64 n0) ∧ W.cell? ⟨w.heap.size, 2, none⟩ = some (.int .i64 n1) ∧ W.cell? ⟨w.heap.size, 3, none⟩ = some (.int .i64 n2) ∧ W.cell? ⟨w.heap.size, 4, none⟩ = some (.int .i64 n3) ∧ W.cell? ⟨w.heap.size, 5, none⟩ = some (.int .i64 roots) ∧ W.cell? ⟨w.heap.size, 6, none⟩ = some (.int .i64 weaks) ∧ W.cell? ⟨w.heap.size, 7, none⟩ = some (.int .i64 log)) := Lib.hid fun W hW => by
      rw [HR.out] at hW
      exact ⟨hW.cell 0 rfl, hW.cell 1 rfl, hW.cell 2 rfl, hW.cell 3 rfl, hW.cell 4 rfl, hW.cell 5 rfl, hW.cell 6 rfl, hW.cell 7 rfl⟩
    clear hc'
    go_enter Tryz.func120, Tryz.ntmps120
    go_wp2_with fail
    refine (HCK.out _ HS.out).mono ?_
    rintro e w1 ⟨rfl, h3⟩
    obtain ⟨k0, k1, k2, k3, k4, k5, k6, k7⟩ := HCELL.out _ h3
    have H3 := Lib.hid h3
    clear h3
    go_wp2_with fail
    clear k0 k1 k2 k3 k4 k5 k6 k7
    go_loopw [23, 3] (fun iv sv wr => ∃ (k : Nat) (s : Bool), k ≤ 4 ∧ iv = .int .i64 k ∧ sv = .bool s ∧ s = decide (0 < c'.first k) ∧ (∀ j : Nat, j < k → 0 ≤ c'.blk j ∧ c'.blk j ≤ 512) ∧ wr = w1) (fun iv _ _ => 4 - (RowKit.intOf iv).toNat)
    case atStart => exact ⟨0, false, by omega, rfl, rfl, by simp [Cfg.first], by omega, rfl⟩
    case round =>
      obtain ⟨k, s, hk, rfl, rfl, hs', hj, rfl⟩ := hrel
      have HSS := Lib.hid hs'; have HJ := Lib.hid hj
      clear hs' hj
      by_cases hlt : k < 4
      · have hix : ∀ W, (Instr.index 22 (.agg #[.int .i64 n0, .int .i64 n1, .int .i64 n2, .int .i64 n3]) (.int .i64 (k : Int))).run Tryz.prog W = .ok (.int .i64 (c'.blk k)) W := by
          intro W
          rw [HC'.out]
          have : k = 0 ∨ k = 1 ∨ k = 2 ∨ k = 3 := by omega
          rcases this with rfl | rfl | rfl | rfl
          · exact idx4_0 ..
          · exact idx4_1 ..
          · exact idx4_2 ..
          · exact idx4_3 ..
        have HFS := Lib.hid (first_succ c' k hlt)
        by_cases hb : 0 ≤ c'.blk k ∧ c'.blk k ≤ 512
        · have HWB : Hid (∀ W, Calls Tryz.prog 161 #[.int .i64 (c'.blk k), .int .i64 512] W fun e w' => e = .returned (.bool true) ∧ w' = W) := Lib.hid fun W => by
            have := HWI.out W (c'.blk k) 512
            rwa [decide_eq_true hb] at this
          have HB := Lib.hid hb
          have hfr : 0 ≤ c'.first k := by
            have hb0 := fun h => HJ.out 0 h; have hb1 := fun h => HJ.out 1 h; have hb2 := fun h => HJ.out 2 h
            rw [HC'.out] at hb0 hb1 hb2 ⊢
            simp only [Cfg.blk] at hb0 hb1 hb2
            have : k = 0 ∨ k = 1 ∨ k = 2 ∨ k = 3 := by omega
            rcases this with rfl | rfl | rfl | rfl
            · simp [Cfg.first]
            · have := hb0 (by omega); simp [Cfg.first] at *; omega
            · have := hb0 (by omega); have := hb1 (by omega); simp [Cfg.first] at *; omega
            · have := hb0 (by omega); have := hb1 (by omega); have := hb2 (by omega); simp [Cfg.first] at *; omega
          have HFR := Lib.hid hfr
          have jn : Hid (∀ j : Nat, j < k + 1 → 0 ≤ c'.blk j ∧ c'.blk j ≤ 512) := Lib.hid fun j hj => by
            by_cases e : j = k
            · subst e; exact hb
            · exact HJ.out j (by omega)
          clear hb hfr
          generalize c'.blk k = y at hix HFS HB HWB
          have nxt : ∀ t : Bool, t = decide (0 < c'.first k + y) → t = decide (0 < c'.first (k + 1)) := fun t ht => by rw [HFS.out]; exact ht
          have NXT := Lib.hid nxt
          clear nxt
          cases s with
          | true =>
            go_wp2_with (go_at_call 161; refine (HWB.out _).mono ?_; rintro e w' ⟨rfl, rfl⟩)
            exact ⟨⟨k + 1, true, by omega, by go_num, rfl, NXT.out _ (by have := of_decide_eq_true HSS.out.symm; have := HB.out; rw [decide_eq_true]; omega), jn.out, by first | rfl | trivial⟩, by simp [RowKit.intOf]; omega⟩
          | false =>
            by_cases hy : 0 < y
            · go_wp2_with (go_at_call 161; refine (HWB.out _).mono ?_; rintro e w' ⟨rfl, rfl⟩)
              exact ⟨⟨k + 1, true, by omega, by go_num, rfl, NXT.out _ (by have := HFR.out; rw [decide_eq_true]; omega), jn.out, by first | rfl | trivial⟩, by simp [RowKit.intOf]; omega⟩
            · go_wp2_with (go_at_call 161; refine (HWB.out _).mono ?_; rintro e w' ⟨rfl, rfl⟩)
              exact ⟨⟨k + 1, false, by omega, by go_num, congrArg _ (decide_eq_false (by omega)), NXT.out _ (by have := of_decide_eq_false HSS.out.symm; rw [decide_eq_false]; omega), jn.out, by first | rfl | trivial⟩, by simp [RowKit.intOf]; omega⟩
        · have e : r = 1 := by
            have h4 : ¬ ((0 ≤ n0 ∧ n0 ≤ 512) ∧ (0 ≤ n1 ∧ n1 ≤ 512) ∧ (0 ≤ n2 ∧ n2 ≤ 512) ∧ (0 ≤ n3 ∧ n3 ≤ 512)) := by
              rintro ⟨a, b, c, d⟩
              rw [HC'.out] at hb
              have : k = 0 ∨ k = 1 ∨ k = 2 ∨ k = 3 := by omega
              rcases this with rfl | rfl | rfl | rfl
              · exact hb a
              · exact hb b
              · exact hb c
              · exact hb d
            rw [HX2.out, if_pos h4]
          subst e
          have HWB : Hid (∀ W, Calls Tryz.prog 161 #[.int .i64 (c'.blk k), .int .i64 512] W fun e w' => e = .returned (.bool false) ∧ w' = W) := Lib.hid fun W => by
            have := HWI.out W (c'.blk k) 512
            rwa [decide_eq_false hb] at this
          clear hb
          generalize c'.blk k = y at hix HWB
          go_wp2_with (go_at_call 161; refine (HWB.out _).mono ?_; rintro e w' ⟨rfl, rfl⟩)
          go_ret
          exact ⟨rfl, HRF.out _ H3.out⟩
      · obtain rfl : k = 4 := by omega
        have h4 : ((0 ≤ n0 ∧ n0 ≤ 512) ∧ (0 ≤ n1 ∧ n1 ≤ 512) ∧ (0 ≤ n2 ∧ n2 ≤ 512) ∧ (0 ≤ n3 ∧ n3 ≤ 512)) := by
          have hb0 := HJ.out 0 (by omega); have hb1 := HJ.out 1 (by omega); have hb2 := HJ.out 2 (by omega); have hb3 := HJ.out 3 (by omega)
          rw [HC'.out] at hb0 hb1 hb2 hb3
          exact ⟨hb0, hb1, hb2, hb3⟩
        have hx := HX2.out
        rw [if_neg (fun h => h h4)] at hx
        have hcnt : s = decide (0 < n0 + n1 + n2 + n3) := by rw [HSS.out, HC'.out]; simp [Cfg.first]
        rw [show Cfg.count ⟨kinds, n0, n1, n2, n3, roots, weaks, log⟩ = n0 + n1 + n2 + n3 from rfl] at hx
        have HX3 := Lib.hid hx
        have HB4 := Lib.hid h4
        have HCT := Lib.hid hcnt
        clear hx h4 hcnt HJ HSS HX2
        obtain ⟨k0, k1, k2, k3, k4, k5, k6, k7⟩ := HCELL.out _ H3.out
        cases s with
        | false =>
          have e : r = 1 := by
            have := of_decide_eq_false HCT.out.symm
            have := HB4.out
            have hp : n0 + n1 + n2 + n3 = 0 ∨ ¬(1 ≤ roots ∧ roots ≤ 16) ∨ ¬(0 ≤ weaks ∧ weaks ≤ 16) := .inl (by omega)
            rw [HX3.out, if_pos hp]
          subst e
          go_wp2_with fail
          go_ret
          exact ⟨rfl, HRF.out _ H3.out⟩
        | true =>
          by_cases hr1 : 0 ≤ roots ∧ roots ≤ 16
          · have HW1 : Hid (∀ W, Calls Tryz.prog 161 #[.int .i64 roots, .int .i64 16] W fun e w' => e = .returned (.bool true) ∧ w' = W) := Lib.hid fun W => by
              have := HWI.out W roots 16
              rwa [decide_eq_true hr1] at this
            by_cases hw1 : 0 ≤ weaks ∧ weaks ≤ 16
            · have HW2 : Hid (∀ W, Calls Tryz.prog 161 #[.int .i64 weaks, .int .i64 16] W fun e w' => e = .returned (.bool true) ∧ w' = W) := Lib.hid fun W => by
                have := HWI.out W weaks 16
                rwa [decide_eq_true hw1] at this
              by_cases hr0 : roots = 0
              · have hp : n0 + n1 + n2 + n3 = 0 ∨ ¬(1 ≤ roots ∧ roots ≤ 16) ∨ ¬(0 ≤ weaks ∧ weaks ≤ 16) := .inr (.inl (by omega))
                have e : r = 1 := by rw [HX3.out, if_pos hp]
                clear hp
                subst e
                subst hr0
                go_wp2_with (first | (go_at_call_of 161 (Value.int .i64 weaks); refine (HW2.out _).mono ?_; rintro e w' ⟨rfl, rfl⟩) | (go_at_call 161; refine (HW1.out _).mono ?_; rintro e w' ⟨rfl, rfl⟩))
                go_ret
                exact ⟨rfl, HRF.out _ H3.out⟩
              · have hr0' : (roots == 0) = false := by simpa using hr0
                go_wp2_with (first | (go_at_call_of 161 (Value.int .i64 weaks); refine (HW2.out _).mono ?_; rintro e w' ⟨rfl, rfl⟩) | (go_at_call 161; refine (HW1.out _).mono ?_; rintro e w' ⟨rfl, rfl⟩))
                have hp : ¬ (n0 + n1 + n2 + n3 = 0 ∨ ¬(1 ≤ roots ∧ roots ≤ 16) ∨ ¬(0 ≤ weaks ∧ weaks ≤ 16)) := by
                  have := of_decide_eq_true HCT.out.symm
                  omega
                have hx := HX3.out
                rw [if_neg hp] at hx
                have HX4 := Lib.hid hx
                clear hp hx HX3
                by_cases g1 : log < 40
                · have hq : log < 40 ∨ 4096 < log ∨ log % 8 ≠ 0 := .inl g1
                  have e : r = 1 := by rw [HX4.out, if_pos hq]
                  subst e
                  clear hq
                  go_quiet ((go_at_call 114; exact Calls.quiet_of_same (HND.out _)))
                  go_wp2_with fail
                  go_ret
                  exact ⟨rfl, HRF.out _ (H3.out.drewN _)⟩
                by_cases g2 : 4096 < log
                · have hq : log < 40 ∨ 4096 < log ∨ log % 8 ≠ 0 := .inr (.inl g2)
                  have e : r = 1 := by rw [HX4.out, if_pos hq]
                  subst e
                  clear hq
                  go_quiet ((go_at_call 114; exact Calls.quiet_of_same (HND.out _)))
                  go_wp2_with fail
                  go_ret
                  exact ⟨rfl, HRF.out _ (H3.out.drewN _)⟩
                by_cases g3 : log % 8 = 0
                · have hq : ¬ (log < 40 ∨ 4096 < log ∨ log % 8 ≠ 0) := by omega
                  have hx := HX4.out
                  rw [if_neg hq] at hx
                  have HX5 := Lib.hid hx
                  have g3' : (log % 8 != 0) = false := by simpa using g3
                  have HG : Hid ((0 ≤ roots ∧ roots ≤ 16) ∧ (0 ≤ weaks ∧ weaks ≤ 16) ∧ (0 ≤ log ∧ log ≤ 4096)) := Lib.hid ⟨hr1, hw1, by omega⟩
                  clear hq hx HX4
                  go_quiet ((go_at_call 114; exact Calls.quiet_of_same (HND.out _)))
                  go_wp2_with fail
                  have hnr : Cfg.Near ⟨kinds, n0, n1, n2, n3, roots, weaks, log⟩ := by
                    have h4 := HB4.out; have h5 := HG.out; have h6 := HKN.out
                    exact ⟨by rw [h6]; omega, h4.1, h4.2.1, h4.2.2.1, h4.2.2.2, h5.1, h5.2.1, h5.2.2⟩
                  refine (HPL.out hnr _ (H3.out.drewN _)).mono ?_
                  rintro e w2 ⟨b, rfl, h7⟩
                  have HNR := Lib.hid hnr
                  have c12 : w2.cell? ⟨b, 12, none⟩ = some (.int .i64 (Cfg.words ⟨kinds, n0, n1, n2, n3, roots, weaks, log⟩)) := h7.cell 12 rfl
                  have H7 := Lib.hid (HRF.out _ h7.right)
                  clear h7 hnr
                  generalize Cfg.words ⟨kinds, n0, n1, n2, n3, roots, weaks, log⟩ = ws at c12 HX5
                  by_cases hw65 : 65536 < ws
                  · have e : r = 9 := by rw [HX5.out, if_pos hw65]
                    subst e
                    go_wp2_with fail
                    go_ret
                    exact ⟨rfl, H7.out⟩
                  · have e : r = 0 := by rw [HX5.out, if_neg hw65]
                    subst e
                    go_wp2_with fail
                    go_ret
                    exact ⟨rfl, H7.out⟩
                · have hq : log < 40 ∨ 4096 < log ∨ log % 8 ≠ 0 := .inr (.inr g3)
                  have e : r = 1 := by rw [HX4.out, if_pos hq]
                  subst e
                  have g3' : (log % 8 != 0) = true := by simpa using g3
                  clear hq
                  go_quiet ((go_at_call 114; exact Calls.quiet_of_same (HND.out _)))
                  go_wp2_with fail
                  go_ret
                  exact ⟨rfl, HRF.out _ (H3.out.drewN _)⟩
            · have HW2 : Hid (∀ W, Calls Tryz.prog 161 #[.int .i64 weaks, .int .i64 16] W fun e w' => e = .returned (.bool false) ∧ w' = W) := Lib.hid fun W => by
                have := HWI.out W weaks 16
                rwa [decide_eq_false hw1] at this
              have hp : n0 + n1 + n2 + n3 = 0 ∨ ¬(1 ≤ roots ∧ roots ≤ 16) ∨ ¬(0 ≤ weaks ∧ weaks ≤ 16) := .inr (.inr hw1)
              have e : r = 1 := by rw [HX3.out, if_pos hp]
              clear hp
              subst e
              go_wp2_with (first | (go_at_call_of 161 (Value.int .i64 weaks); refine (HW2.out _).mono ?_; rintro e w' ⟨rfl, rfl⟩) | (go_at_call 161; refine (HW1.out _).mono ?_; rintro e w' ⟨rfl, rfl⟩))
              go_ret
              exact ⟨rfl, HRF.out _ H3.out⟩
          · have HW1 : Hid (∀ W, Calls Tryz.prog 161 #[.int .i64 roots, .int .i64 16] W fun e w' => e = .returned (.bool false) ∧ w' = W) := Lib.hid fun W => by
              have := HWI.out W roots 16
              rwa [decide_eq_false hr1] at this
            have hp : n0 + n1 + n2 + n3 = 0 ∨ ¬(1 ≤ roots ∧ roots ≤ 16) ∨ ¬(0 ≤ weaks ∧ weaks ≤ 16) := .inr (.inl (by omega))
            have e : r = 1 := by rw [HX3.out, if_pos hp]
            clear hp
            subst e
            go_wp2_with (go_at_call 161; first | (refine (HW1.out _).mono ?_; rintro e w' ⟨rfl, rfl⟩))
            go_ret
            exact ⟨rfl, HRF.out _ H3.out⟩
set_option maxHeartbeats 1000000 in
/-- New of a config that may not be. -/
theorem layNewBad_calls (w : World) (c : Cfg) (ks : List (Value × List Int)) (kv : Value) (hv : ∀ W, Sat E W F → RdK W kv ks) (hk : ks.map (·.2) = c.kinds) (hs : Sat E w F) (hm : c.may ≠ 0) :
    Calls Tryz.prog 52 #[.agg (cfgCells kv c)] w fun e w' => e = .returned (.tuple #[.pointer none, .int .i64 c.may]) ∧ Sat E w' F := by
  have HC := Lib.hid (fun W hW => layMay_calls W c ks kv hv hk hW)
  obtain ⟨a0, c0, rfl, hc⟩ := (hv w hs).val
  generalize c.may = m at *
  have HS := Lib.hid (hs.alloc (.cells (cfgCells (.slice a0 ks.length c0) c) 29))
  have hm2 : (m != 0) = true := by simpa using hm
  clear hv hk hs
  unfold cfgCells at *
  go_enter Tryz.func52, Tryz.ntmps52
  go_wp2_with fail
  refine (HC.out _ HS.out.right).mono ?_
  rintro e w1 ⟨rfl, h1⟩
  go_wp2_with fail
  go_ret2
  exact ⟨rfl, h1⟩
set_option maxHeartbeats 1000000 in
theorem layNew_calls (w : World) (c : Cfg) (ks : List (Value × List Int)) (kv : Value) (hv : ∀ W, Sat E W F → RdK W kv ks) (hk : ks.map (·.2) = c.kinds) (hs : Sat E w F) (hm : c.may = 0) :
    Calls Tryz.prog 52 #[.agg (cfgCells kv c)] w fun e w' => ∃ b, e = .returned (.tuple #[.pointer (some ⟨b, 0, none⟩), .int .i64 0]) ∧ Sat E w' (lay b c * F) := by
  have hok := Cfg.ok_of_may hm
  obtain ⟨R, hR⟩ : ∃ R : HP, R = pt w.heap.size (.cells (cfgCells kv c) 29) * F := ⟨_, rfl⟩
  have hv2 : ∀ W, Sat E W R → RdK W kv ks := fun W hW => hv W (by rw [hR] at hW; exact hW.right)
  have HC := Lib.hid (fun W hW => layMay_calls (F := R) W c ks kv hv2 hk hW)
  rw [hm] at HC
  have hkl : ks.length = c.kinds.length := by rw [← hk, List.length_map]
  have hk15 : ∀ p ∈ ks, p.2.length ≤ 15 := by
    intro p hp
    have h1 := hok.kinds p.2 (by rw [← hk]; exact List.mem_map.2 ⟨p, hp, rfl⟩)
    unfold kindMay kindW at h1
    rw [decide_eq_true_iff] at h1
    by_cases h2 : p.2.length = 0 ∨ 15 < p.2.length ∨ ¬ ∀ f ∈ p.2, kw f ≠ 0
    · rw [if_pos h2] at h1; omega
    · omega
  have HO : Hid (∀ W, Sat E W R → Calls Tryz.prog 122 #[.agg (cfgCells kv c)] W fun e w' => ∃ ao cc ks', e = .returned (.agg (cfgCells (.slice ao ks'.length cc) c)) ∧ ks'.map (·.2) = c.kinds ∧ Sat E w' (kindsR (.slice ao ks'.length cc) ks' * R)) := Lib.hid fun W hW => own_calls (F := R) W c ks kv hv2 hk (by rw [hkl]; exact hok.k) hk15 hW
  have HPL : Hid (∀ W (ks' : List (Value × List Int)) ao cc, ks'.map (·.2) = c.kinds → Sat E W (kindsR (.slice ao ks'.length cc) ks' * R) → Calls Tryz.prog 121 #[.agg (cfgCells (.slice ao ks'.length cc) c)] W fun e w' => ∃ b, e = .returned (.pointer (some ⟨b, 0, none⟩)) ∧ Sat E w' (lay b c * R)) := Lib.hid fun W ks' ao cc hk' hW => by
    have hl : ks'.length = c.kinds.length := by rw [← hk', List.length_map]
    rw [hl] at hW ⊢
    refine (place_calls W c ao cc hok.toNear hW).mono ?_
    rintro e w' ⟨b, rfl, h⟩
    exact ⟨b, rfl, lay_mk ⟨hok, hk', ao, cc, by rw [hl]⟩ h⟩
  have HS : Hid (Sat E (w.alloc (.cells (cfgCells kv c) 29)) R) := Lib.hid (by rw [hR]; exact hs.alloc _)
  obtain ⟨a0, c0, rfl, hc⟩ := (hv w hs).val
  have HRF : Hid (∀ b W, Sat E W (lay b c * R) → Sat E W (lay b c * F)) := Lib.hid fun b W hW => by
    rw [hR] at hW
    have h : Sat E W (pt w.heap.size (.cells (cfgCells (.slice a0 ks.length c0) c) 29) * (lay b c * F)) := hW.ac (by ac_rfl)
    exact h.right
  have HCELL : Hid (∀ W, Sat E W R → CfgAt W w.heap.size (.slice a0 ks.length c0) c) := Lib.hid fun W hW => by rw [hR] at hW; exact cfg_at hW
  clear hv hv2 hk hs hR hkl hk15 hok hm
  generalize ks.length = n at *
  obtain ⟨kinds, n0, n1, n2, n3, roots, weaks, log⟩ := c
  simp only [cfgCells] at *
  go_enter Tryz.func52, Tryz.ntmps52
  go_wp2_with fail
  refine (HC.out _ HS.out).mono ?_
  rintro e w1 ⟨rfl, h1⟩
  obtain ⟨k0, k1, k2, k3, k4, k5, k6, k7⟩ := HCELL.out _ h1
  have H1 := Lib.hid h1
  clear h1
  go_wp2_with fail
  refine (HO.out _ H1.out).mono ?_
  rintro e w2 ⟨ao, cc, ks', rfl, hk', h2⟩
  go_wp2_with fail
  refine (HPL.out _ ks' ao cc hk' h2).mono ?_
  rintro e w3 ⟨b, rfl, h3⟩
  go_wp2_with fail
  go_ret2
  exact ⟨b, rfl, HRF.out _ _ h3⟩
end
end Scul
/- value: Int, Nil, Ref, Complex; cplx: Of, Words. -/
namespace Scul
open Go Go.Sl Go.RowKit Go.Proofs
/-- A value, as cells. -/
def vcells (v : Val) : Array Value := #[.int .i64 v.kind, .int .i64 v.int, .int .u64 v.re, .int .u64 v.im, .int .i64 v.ref]
def vagg (v : Val) : Value := .agg (vcells v)
section
variable {E : Env} {w : World} {F : HP}
theorem Sat.set5 {g : Nat} {a b c d e a' b' c' d' e' : Value} {t : TypeId} {f : Nat × Nat} {R : HP} (h : Sat E w (pt g (.cells #[a, b, c, d, e] t f) * R)) :
    Sat E (((((w.setCell ⟨g, 0, none⟩ a').setCell ⟨g, 1, none⟩ b').setCell ⟨g, 2, none⟩ c').setCell ⟨g, 3, none⟩ d').setCell ⟨g, 4, none⟩ e') (pt g (.cells #[a', b', c', d', e'] t f) * R) := by
  have h2 := ((((h.setCell (i := 0) (v := a')).setCell (i := 1) (v := b')).setCell (i := 2) (v := c')).setCell (i := 3) (v := d')).setCell (i := 4) (v := e')
  simpa only [List.setIfInBounds_toArray, List.set_cons_zero, List.set_cons_succ] using h2
theorem toInt_calls (w : World) (x : Int) : Calls Tryz.prog 204 #[.int .u64 x] w fun e w' => e = .returned (.int .i64 (wrap64 x)) ∧ w' = w := by
  go_enter Tryz.func204, Tryz.ntmps204
  go_wp2_with fail
  go_ret
  exact ⟨ret_int (by first | rfl | simp [wrap64, IntKind.wrap_i64]), rfl⟩
theorem wInt_calls (w : World) (x : Int) : Calls Tryz.prog 174 #[.int .i64 x] w fun e w' => e = .returned (.int .u64 (x % 18446744073709551616)) ∧ w' = w := by
  go_enter Tryz.func174, Tryz.ntmps174
  go_wp2_with fail
  go_ret
  exact ⟨ret_int (by first | rfl | simp [IntKind.wrap_u64]), rfl⟩
theorem vInt_calls (w : World) (x : Int) (hs : Sat E w F) : Calls Tryz.prog 203 #[.int .i64 x] w fun e w' => e = .returned (vagg ⟨1, x, 0, 0, 0⟩) ∧ Sat E w' F := by
  have H2 := Lib.hid (hs.alloc (.cells #[.int .i64 1, .int .i64 x, .int .u64 0, .int .u64 0, .int .i64 0] 26))
  clear hs
  go_enter Tryz.func203, Tryz.ntmps203
  go_wp2_with fail
  refine bodyPost_ret (results_cell_row rfl _ _ _ _ _ _ _ rfl H2.out.at Tryz.underlying26 (by rfl) (by kernel_rfl)) rfl ?_
  exact ⟨rfl, H2.out.right⟩
theorem vRef_calls (w : World) (x : Int) (hs : Sat E w F) : Calls Tryz.prog 208 #[.int .i64 x] w fun e w' => e = .returned (vagg ⟨3, 0, 0, 0, x⟩) ∧ Sat E w' F := by
  have H2 := Lib.hid (hs.alloc (.cells #[.int .i64 3, .int .i64 0, .int .u64 0, .int .u64 0, .int .i64 x] 26))
  clear hs
  go_enter Tryz.func208, Tryz.ntmps208
  go_wp2_with fail
  refine bodyPost_ret (results_cell_row rfl _ _ _ _ _ _ _ rfl H2.out.at Tryz.underlying26 (by rfl) (by kernel_rfl)) rfl ?_
  exact ⟨rfl, H2.out.right⟩
theorem vNil_calls (w : World) (hs : Sat E w F) : Calls Tryz.prog 207 #[] w fun e w' => e = .returned (vagg Val.nil) ∧ Sat E w' F := by
  have H2 := Lib.hid (hs.alloc (.cells #[.int .i64 0, .int .i64 0, .int .u64 0, .int .u64 0, .int .i64 0] 26))
  clear hs
  go_enter Tryz.func207, Tryz.ntmps207
  go_wp2_with fail
  refine bodyPost_ret (results_cell_row rfl _ _ _ _ _ _ _ rfl H2.out.at Tryz.underlying26 (by rfl) (by kernel_rfl)) rfl ?_
  exact ⟨rfl, H2.out.right⟩
theorem f64bits_run (b : Nat) (w : World) : (callFunc 223 #[.float .f64 b]).run Tryz.prog w = .ok (.value (.int .u64 (b : Int))) w := by
  rw [run_callFunc_extern Tryz.func223 (by kernel_rfl) (by kernel_rfl) (by kernel_rfl) (e := Extern.MathFloatBits.float64bits) (by kernel_rfl)]
  rfl
theorem f64from_run (x : Int) (w : World) : (callFunc 220 #[.int .u64 x]).run Tryz.prog w = .ok (.value (.float .f64 x.toNat)) w := by
  rw [run_callFunc_extern Tryz.func220 (by kernel_rfl) (by kernel_rfl) (by kernel_rfl) (e := Extern.MathFloatBits.float64frombits) (by kernel_rfl)]
  rfl
theorem complex_run (p q : Nat) (w : World) : (Builtin.complex_ #[247, 247] 233 #[.float .f64 p, .float .f64 q]).run Tryz.prog w = .ok (.complex .f64 p q) w := by kernel_rfl
theorem real_run (p q : Nat) (w : World) : (Builtin.real_ #[233] 247 #[.complex .f64 p q]).run Tryz.prog w = .ok (.float .f64 p) w := by kernel_rfl
theorem imag_run (p q : Nat) (w : World) : (Builtin.imag_ #[233] 247 #[.complex .f64 p q]).run Tryz.prog w = .ok (.float .f64 q) w := by kernel_rfl
theorem cplxOf_calls (w : World) (x y : Int) : Calls Tryz.prog 206 #[.int .u64 x, .int .u64 y] w fun e w' => e = .returned (.complex .f64 x.toNat y.toNat) ∧ w' = w := by
  have h1 := f64from_run; have h2 := complex_run
  go_enter Tryz.func206, Tryz.ntmps206
  go_wp2_with fail
  go_ret
  exact ⟨rfl, rfl⟩
theorem cplxWords_calls (w : World) (x y : Nat) : Calls Tryz.prog 219 #[.complex .f64 x y] w fun e w' => e = .returned (.tuple #[.int .u64 (x : Int), .int .u64 (y : Int)]) ∧ w' = w := by
  have h1 := f64bits_run; have h2 := real_run; have h3 := imag_run
  go_enter Tryz.func219, Tryz.ntmps219
  go_wp2_with fail
  go_ret2
  exact ⟨rfl, rfl⟩
theorem vComplex_calls (w : World) (x y : Nat) (hs : Sat E w F) : Calls Tryz.prog 205 #[.complex .f64 x y] w fun e w' => e = .returned (vagg ⟨2, 0, (x : Int), (y : Int), 0⟩) ∧ Sat E w' F := by
  have H2 := Lib.hid (hs.alloc (.cells #[.int .i64 2, .int .i64 0, .int .u64 (x : Int), .int .u64 (y : Int), .int .i64 0] 26))
  clear hs
  go_enter Tryz.func205, Tryz.ntmps205
  go_wp2_with (go_at_call 219; refine (cplxWords_calls _ _ _).mono ?_; rintro e w' ⟨rfl, rfl⟩)
  refine bodyPost_ret (results_cell_row rfl _ _ _ _ _ _ _ rfl H2.out.at Tryz.underlying26 (by rfl) (by kernel_rfl)) rfl ?_
  exact ⟨rfl, H2.out.right⟩
end
end Scul
