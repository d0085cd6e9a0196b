/- The document's own device: New. -/
import Derived.Test.YtffakdoobeegpaaRefC
import Derived.Test.YtffakdoobeegpaaNvmI
import Derived.Deep.RegionLaw
namespace Scul
open Go Go.Sl Go.RowKit Go.Proofs
section
variable {E : Env} {w : World} {F : HP} {b : Nat} {d : Dev}
theorem cell_alloc {w : World} {o : Obj} {a : Addr} {v : Value} (h : w.cell? a = some v) : (w.alloc o).cell? a = some v := by
  rw [World.cell?_alloc_lt w o a (World.block_lt_of_cell? w a h)]; exact h
theorem cell_drew {w : World} {a : Addr} {v : Value} (h : w.cell? a = some v) : w.drew.cell? a = some v := h
/-- append at a step of a region that draws its order. -/
theorem step_append_sl {P : Program} {ops : Array Oper} {o : Oper} {a : Act} {K : Act → World → Prop} {Q : Exit → Act → World → Prop} {X : Prop} (hgd : o.guard = none) (s x : Operand) {t : TypeId}
    (ho : o.op = .call { callee := .builtin .append, args := #[s, x], argTypes := #[t, t] }) {v sv : Value} (hs : a.eval s = v) (hx : a.eval x = sv) {Φ : Value → World → Prop}
    (hr : ∃ v' W2, (Builtin.append_ #[t, t] o.type #[v, sv]).run P w = .ok v' W2 ∧ Φ v' W2) (h : ∀ v' W2, Φ v' W2 → K (a.put o.dst v') W2) :
    if Region.wanted o (yielded ops a.tmps) = true then Oper.wp P o a w K Q else X := by
  have hw : Region.wanted o (yielded ops a.tmps) = true := by simp [Region.wanted, hgd]
  rw [if_pos hw]
  obtain ⟨v', W2, hrun, h2⟩ := hr
  unfold Oper.wp execOp
  simp only [ho, resolve, invoke, builtin, Sem.run_bind, Sem.run_pure, Result.andThen_ok, List.map_toArray, List.map_cons, List.map_nil, hs, hx, hrun]
  exact h v' W2 h2
theorem Sat.alloc3 (h : Sat E w F) (A B C : Obj) : Sat E (((w.alloc A).alloc B).alloc C) (pt (w.heap.size + 1 + 1) C * (pt (w.heap.size + 1) B * (pt w.heap.size A * F))) := by
  have h3 := ((h.alloc A).alloc B).alloc C
  simpa only [World.size_alloc] using h3
theorem lnT : SliceT Try.prog 88 152 4 80 (.agg #[.slice none 0 0, .slice none 0 0, .slice none 0 0, .bool false]) := .mk' Try.underlying88 (by kernel_rfl) rfl
/-- What the loop keeps: the first i lines of a device of n words. -/
def RNewInv (E : Env) (F : HP) (b n i : Nat) (lv : Value) (w : World) : Prop :=
  ∃ (Ls : List RL) (o : List (Value × List Int)), Ls.length = i ∧ (∀ (k : Nat) (L : RL), Ls[k]? = some L → LineOk (Dev.new n) o k L) ∧
    Sat E w (pt b (.cells #[.int .i64 n, lv, .int .i64 0, .int .i64 0, .bool false] 90) * (row 152 4 lv i (rlCells Ls) * (bag o * F)))
theorem seg_zeros (n i : Nat) : Dev.seg (List.replicate n 0) i = List.replicate (min 8 (n - 8 * i)) 0 := by
  simp [Dev.seg]
theorem words_new {w : World} {g k : Nat} {R : HP} (hk : k ≤ 8) (h : Sat E w (pt g (.cells (zeros k) 27) * R)) : Sat E w (words (.slice (some ⟨g, 0, none⟩) k k) (List.replicate k 0) * R) := by
  have h2 := Sat.row_mk (n := k) (cap := k) (size := 1) (cs := u64s (List.replicate k 0)) h (Nat.le_refl _) (by simp only [maxLen]; omega) (by simp [zeros, u64s]) (by simp [zeros, u64s])
  rw [words_def, List.length_replicate]
  exact h2
/-- One line more. -/
theorem rnew_push {w : World} {n i k g1 g2 xs : Nat} {lv : Value} (hn : n ≤ 1000) (hi : 8 * i < n) (hk : k = min 8 (n - 8 * i)) (ty : TypeId)
    {Ls : List RL} {o : List (Value × List Int)} (hl : Ls.length = i) (hok : ∀ (k : Nat) (L : RL), Ls[k]? = some L → LineOk (Dev.new n) o k L)
    (h : Sat E w (pt xs (.cells #[.slice (some ⟨g1, 0, none⟩) k k, .slice (some ⟨g2, 0, none⟩) k k, .slice none 0 0, .bool false] 152 (0, 0)) * (pt g1 (.cells (zeros k) 27 (0, 0)) * (pt g2 (.cells (zeros k) 27 (0, 0)) *
      (pt b (.cells #[.int .i64 n, lv, .int .i64 0, .int .i64 0, .bool false] 90) * (row 152 4 lv i (rlCells Ls) * (bag o * F))))))) :
    ∃ lv' W2, (Builtin.append_ #[88, 88] ty #[lv, .slice (some ⟨xs, 0, none⟩) 1 1]).run Try.prog w = .ok lv' W2 ∧
      (∃ la ln lc, lv' = .slice la ln lc) ∧ W2.cell? ⟨b, 1, none⟩ = some lv ∧ W2.frozen? ⟨b, 1, none⟩ = false ∧ RNewInv E F b n (i + 1) lv' (W2.setCell ⟨b, 1, none⟩ lv') := by
  have hxs : Rd w 4 (.slice (some ⟨xs, 0, none⟩) 1 1) 1 [.slice (some ⟨g1, 0, none⟩) k k, .slice (some ⟨g2, 0, none⟩) k k, .slice none 0 0, .bool false] := by
    refine ⟨rfl, by simp [maxLen], .inr ⟨xs, 0, 1, rfl, Nat.le_refl _, fun j u hu => ?_⟩⟩
    rw [Nat.zero_add]
    exact h.cell j (by simpa using hu)
  have h1 : Sat E w (row 152 4 lv i (rlCells Ls) * (pt g1 (.cells (zeros k) 27 (0, 0)) * (pt g2 (.cells (zeros k) 27 (0, 0)) *
      (pt b (.cells #[.int .i64 n, lv, .int .i64 0, .int .i64 0, .bool false] 90) * (bag o * F))))) := h.right.ac (by ac_rfl)
  obtain ⟨lv', W2, hrun, h2, _⟩ := run_append_sl (P := Try.prog) lnT ty lv i _ h1 _ 1 _ hxs (by intro u hu; simp at hu; rcases hu with rfl | rfl | rfl | rfl <;> rfl) (by simp only [maxLen]; omega) (by omega)
  have hk8 : k ≤ 8 := by omega
  have h3 : Sat E W2 (words (.slice (some ⟨g1, 0, none⟩) k k) (List.replicate k 0) * (words (.slice (some ⟨g2, 0, none⟩) k k) (List.replicate k 0) * (pt b (.cells #[.int .i64 n, lv, .int .i64 0, .int .i64 0, .bool false] 90) *
      (row 152 4 lv' (i + 1) (rlCells Ls ++ [.slice (some ⟨g1, 0, none⟩) k k, .slice (some ⟨g2, 0, none⟩) k k, .slice none 0 0, .bool false]) * (bag o * F))))) := by
    have := words_new hk8 (Sat.swap h2)
    have := words_new hk8 (this.ac (B := pt g2 (.cells (zeros k) 27 (0, 0)) * (words (.slice (some ⟨g1, 0, none⟩) k k) (List.replicate k 0) * (pt b (.cells #[.int .i64 n, lv, .int .i64 0, .int .i64 0, .bool false] 90) *
      (row 152 4 lv' (i + 1) (rlCells Ls ++ [.slice (some ⟨g1, 0, none⟩) k k, .slice (some ⟨g2, 0, none⟩) k k, .slice none 0 0, .bool false]) * (bag o * F))))) (by ac_rfl))
    exact this.ac (by ac_rfl)
  have h4 : Sat E W2 (pt b (.cells #[.int .i64 n, lv, .int .i64 0, .int .i64 0, .bool false] 90) * (row 152 4 lv' (i + 1) (rlCells Ls ++ [.slice (some ⟨g1, 0, none⟩) k k, .slice (some ⟨g2, 0, none⟩) k k, .slice none 0 0, .bool false]) *
      (bag ((.slice (some ⟨g1, 0, none⟩) k k, List.replicate k 0) :: (.slice (some ⟨g2, 0, none⟩) k k, List.replicate k 0) :: o) * F))) := by
    refine h3.ac ?_
    show _ * (_ * (words _ _ * (words _ _ * bag o) * F)) = _
    ac_rfl
  obtain ⟨la, lc, hla, _⟩ := (Sat.swap h4).row_val
  refine ⟨lv', W2, hrun, ⟨_, _, _, hla⟩, h4.cell 1 rfl, h4.free 1, Ls ++ [⟨.slice (some ⟨g1, 0, none⟩) k k, .slice (some ⟨g2, 0, none⟩) k k, .slice none 0 0, false⟩], (.slice (some ⟨g1, 0, none⟩) k k, List.replicate k 0) :: (.slice (some ⟨g2, 0, none⟩) k k, List.replicate k 0) :: o, by simp [hl], ?_, ?_⟩
  rotate_left
  · have e : rlCells (Ls ++ [⟨.slice (some ⟨g1, 0, none⟩) k k, .slice (some ⟨g2, 0, none⟩) k k, .slice none 0 0, false⟩]) = rlCells Ls ++ [.slice (some ⟨g1, 0, none⟩) k k, .slice (some ⟨g2, 0, none⟩) k k, .slice none 0 0, .bool false] := by
      simp [rlCells, RL.cells]
    rw [e]
    exact h4.setCell
  · intro j L hj
    by_cases hji : j < i
    · rw [List.getElem?_append_left (by omega)] at hj
      exact lineOk_mono (hok j L hj) (fun p hp => List.mem_cons_of_mem _ (List.mem_cons_of_mem _ hp))
    · have hlt := (List.getElem?_eq_some_iff.1 hj).1
      have : j = i := by simp at hlt; omega
      subst this
      rw [List.getElem?_append_right (by omega)] at hj
      simp [hl] at hj
      subst hj
      refine ⟨?_, ?_, ⟨_, _, _, rfl⟩, rfl⟩
      · show (_, Dev.seg (List.replicate n 0) j) ∈ _
        rw [seg_zeros, ← hk]
        exact List.mem_cons_self
      · show (_, Dev.seg (List.replicate n 0) j) ∈ _
        rw [seg_zeros, ← hk]
        exact List.mem_cons_of_mem _ List.mem_cons_self
theorem rnew_done {w : World} {n i : Nat} {lv : Value} (hn : n ≤ 1000) (hi : n ≤ 8 * i) (hi2 : 8 * i < n + 8) (h : RNewInv E F b n i lv w) : Sat E w (rdev b (Dev.new n) * F) := by
  obtain ⟨Ls, o, hl, hok, hs⟩ := h
  refine rdev_mk ⟨lv, Ls, o⟩ ⟨ok_new n (by omega), ?_, hok⟩ ?_
  · show Ls.length = Dev.lines (List.replicate n 0).length
    rw [List.length_replicate, hl]
    unfold Dev.lines
    omega
  · show Sat E w (pt b (.cells (rcells lv (Dev.new n)) 90) * (row 152 4 lv Ls.length (rlCells Ls) * (bag o * F)))
    have e : rcells lv (Dev.new n) = #[.int .i64 n, lv, .int .i64 0, .int .i64 0, .bool false] := by
      unfold rcells Dev.new
      simp
    rw [e, hl]
    exact hs
set_option maxRecDepth 100000 in
set_option maxHeartbeats 8000000 in
theorem rnew_loop (w : World) (n : Nat) (hn : n ≤ 1000) (b : Nat) (hb : b = w.heap.size) (hinv : RNewInv E F b n 0 (.slice none 0 0) (w.alloc (.cells #[.int .i64 n, .slice none 0 0, .int .i64 0, .int .i64 0, .bool false] 90))) (h0 : 0 < (n : Int)) :
    Calls Try.prog 86 #[.int .i64 (n : Int)] w fun e w' => ∃ b, e = .returned (.pointer (some ⟨b, 0, none⟩)) ∧ Sat E w' (rdev b (Dev.new n) * F) := by
  have hn1 : (n : Int) < 65536 := by omega
  go_enter Try.func86, Try.ntmps86
  go_wp2_with fail
  rw [← hb]
  go_loopw [4] (fun iv wr => ∃ (i : Nat) (lv : Value), 8 * i < n + 8 ∧ iv = .int .i64 (8 * i : Nat) ∧ RNewInv E F b n i lv wr) (fun iv _ => n - (intOf iv).toNat)
  case atStart => exact ⟨0, _, by omega, rfl, hinv⟩
  case round =>
    clear hinv hb
    obtain ⟨i, lv, hi, rfl, hI⟩ := hrel
    obtain ⟨at_, hat⟩ : ∃ x, x = 8 * i := ⟨_, rfl⟩
    rw [← hat]
    by_cases hlt : at_ < n
    · have hlti : (at_ : Int) < n := by omega
      obtain ⟨Ls, o, hl, hok, hs⟩ := hI
      have c0 : wr.cell? ⟨b, 0, none⟩ = some (.int .i64 n) := hs.cell 0 rfl
      have c1 : wr.cell? ⟨b, 1, none⟩ = some lv := hs.cell 1 rfl
      obtain ⟨k, hk⟩ : ∃ k, k = min 8 (n - 8 * i) := ⟨_, rfl⟩
      have HAP : Hid (∀ (W : World) (xs g1 g2 : Nat) (ty : TypeId), Sat E W (pt xs (.cells #[.slice (some ⟨g1, 0, none⟩) k k, .slice (some ⟨g2, 0, none⟩) k k, .slice none 0 0, .bool false] 152 (0, 0)) * (pt g1 (.cells (zeros k) 27 (0, 0)) * (pt g2 (.cells (zeros k) 27 (0, 0)) *
      (pt b (.cells #[.int .i64 n, lv, .int .i64 0, .int .i64 0, .bool false] 90) * (row 152 4 lv i (rlCells Ls) * (bag o * F)))))) → _) := fun W xs g1 g2 ty h => rnew_push (k := k) hn (by omega) hk ty hl hok h
      have HNX : Hid (8 * (i + 1) < n + 8) := Lib.hid (show 8 * (i + 1) < n + 8 by omega)
      have HAT := Lib.hid hat
      have HS := Lib.hid hs
      have hw : wrap64 ((at_ : Int) + 8) = (at_ : Int) + 8 := by unfold wrap64; omega
      by_cases h8 : (8 : Int) ≤ (n : Int) - at_
      · have hmk := run_make64 8 8 rfl (by omega)
        have hk8 : k = 8 := by omega
        rw [hk8] at HAP
        have h8' : ¬ ((n : Int) - at_ < 8) := by omega
        clear hs hok hl hk hat hi
        have q1 : ∀ o, (wr.alloc o).cell? ⟨b, 1, none⟩ = some lv := fun o => cell_alloc c1
        have q2 : ∀ o o', ((wr.alloc o).alloc o').cell? ⟨b, 1, none⟩ = some lv := fun o o' => cell_alloc (cell_alloc c1)
        have q3 : ∀ o o' o'', (((wr.alloc o).alloc o').alloc o'').cell? ⟨b, 1, none⟩ = some lv := fun o o' o'' => cell_alloc (cell_alloc (cell_alloc c1))
        go_wp2_with fail
        go_region_law ((refine step_append_sl rfl _ _ rfl rfl rfl (by first | exact HAP.out _ _ wr.heap.size (wr.heap.size + 1) _ (Sat.drew (Sat.ac (Sat.alloc3 HS.out _ _ _) (by ac_rfl)))| exact HAP.out _ _ (wr.heap.size + 1) (wr.heap.size) _ (Sat.drew (Sat.ac (Sat.alloc3 HS.out _ _ _) (by ac_rfl)))) ?_; rintro lv' W2 ⟨⟨la, ln, lc, rfl⟩, c5, f5, h5⟩))
        all_goals go_wp2_with fail
        all_goals exact ⟨⟨i + 1, _, HNX.out, by rw [HAT.out]; congr 1 <;> omega, h5⟩, by simp only [intOf]; omega⟩
      · have hkk : (n : Int) - at_ = k := by omega
        have hmk := run_make64 k k rfl (by omega)
        have h8' : ¬ (8 : Int) < k := by omega
        have h8'' : (k : Int) < 8 := by omega
        have hw2 : wrap64 (k : Int) = k := by unfold wrap64; omega
        clear h8
        clear hs hok hl hk hat hi
        have q1 : ∀ o, (wr.alloc o).cell? ⟨b, 1, none⟩ = some lv := fun o => cell_alloc c1
        have q2 : ∀ o o', ((wr.alloc o).alloc o').cell? ⟨b, 1, none⟩ = some lv := fun o o' => cell_alloc (cell_alloc c1)
        have q3 : ∀ o o' o'', (((wr.alloc o).alloc o').alloc o'').cell? ⟨b, 1, none⟩ = some lv := fun o o' o'' => cell_alloc (cell_alloc (cell_alloc c1))
        go_wp2_with fail
        go_region_law ((refine step_append_sl rfl _ _ rfl rfl rfl (by first | exact HAP.out _ _ wr.heap.size (wr.heap.size + 1) _ (Sat.drew (Sat.ac (Sat.alloc3 HS.out _ _ _) (by ac_rfl)))| exact HAP.out _ _ (wr.heap.size + 1) (wr.heap.size) _ (Sat.drew (Sat.ac (Sat.alloc3 HS.out _ _ _) (by ac_rfl)))) ?_; rintro lv' W2 ⟨⟨la, ln, lc, rfl⟩, c5, f5, h5⟩))
        all_goals go_wp2_with fail
        all_goals exact ⟨⟨i + 1, _, HNX.out, by rw [HAT.out]; congr 1 <;> omega, h5⟩, by simp only [intOf]; omega⟩
    · have hge : ¬ (at_ : Int) < n := by omega
      have c0 : wr.cell? ⟨b, 0, none⟩ = some (.int .i64 n) := by obtain ⟨Ls, o, hl, hok, hs⟩ := hI; exact hs.cell 0 rfl
      have HD := Lib.hid (rnew_done hn (by omega) hi hI)
      clear hI hat hi
      go_wp2_with fail
      go_ret
      exact ⟨_, rfl, HD.out⟩
set_option maxRecDepth 100000 in
set_option maxHeartbeats 8000000 in
theorem rnew_none (w : World) (h : Sat E w F) :
    Calls Try.prog 86 #[.int .i64 0] w fun e w' => ∃ b, e = .returned (.pointer (some ⟨b, 0, none⟩)) ∧ Sat E w' (rdev b (Dev.new 0) * F) := by
  have hal := h.alloc (.cells #[.int .i64 0, .slice none 0 0, .int .i64 0, .int .i64 0, .bool false] 90)
  obtain ⟨b, hb⟩ : ∃ b, b = w.heap.size := ⟨_, rfl⟩
  rw [← hb] at hal
  have c0 := hal.cell 0 rfl
  have hfin : Sat E _ (rdev b (Dev.new 0) * F) := rnew_done (n := 0) (i := 0) (lv := .slice none 0 0) (by omega) (by omega) (by omega) ⟨[], [], rfl, by simp, by
    show Sat E _ (pt b _ * (row 152 4 (.slice none 0 0) 0 [] * (emp * F)))
    rw [emp_sep]
    exact Sat.swap (hal.row_nil _ _)⟩
  have HF := Lib.hid hfin
  clear hal hfin h
  go_enter Try.func86, Try.ntmps86
  go_wp2_with fail
  rw [← hb]
  go_loopw [4] (fun iv wr => iv = .int .i64 0 ∧ wr = _) (fun iv _ => 0)
  case atStart => exact ⟨rfl, rfl⟩
  case round =>
    obtain ⟨rfl, rfl⟩ := hrel
    go_wp2_with fail
    go_ret
    exact ⟨_, rfl, HF.out⟩
theorem rnew_calls (w : World) (n : Nat) (hn : n ≤ 1000) (h : Sat E w F) :
    Calls Try.prog 86 #[.int .i64 (n : Int)] w fun e w' => ∃ b, e = .returned (.pointer (some ⟨b, 0, none⟩)) ∧ Sat E w' (rdev b (Dev.new n) * F) := by
  rcases Nat.eq_zero_or_pos n with rfl | h0
  · exact rnew_none w h
  · have hal := h.alloc (.cells #[.int .i64 n, .slice none 0 0, .int .i64 0, .int .i64 0, .bool false] 90)
    refine rnew_loop w n hn _ rfl ?_ (by omega)
    refine ⟨[], [], rfl, by simp, ?_⟩
    show Sat E _ (pt _ _ * (row 152 4 (.slice none 0 0) 0 [] * (emp * F)))
    rw [emp_sep]
    exact Sat.swap (hal.row_nil _ _)
end
end Scul
