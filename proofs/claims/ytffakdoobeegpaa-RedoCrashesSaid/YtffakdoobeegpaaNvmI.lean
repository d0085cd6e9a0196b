/- New, Of; a device that there isn't. -/
import Derived.Test.YtffakdoobeegpaaNvmH
namespace Scul
open Go Go.Sl Go.RowKit Go.Proofs
section
variable {E : Env} {w : World} {F : HP} {b : Nat} {d : Dev}

/-- n words 0, as cells. -/
def zeros (n : Nat) : Array Value := (u64s (List.replicate n 0)).toArray
set_option maxRecDepth 100000 in
theorem run_make64 (N : Int) (n : Nat) (hN : N = n) (hn : n ≤ 65536) (w : World) : (Instr.makeSlice 23 (.int .i64 N) (.int .i64 N)).run Try.prog w = .ok (.slice (some ⟨w.heap.size, 0, none⟩) n n) (w.alloc (.cells (zeros n) 27)) := by
  subst hN
  obtain ⟨i, hi, hz, hs, hb⟩ := st64.info
  have h := run_make (P := Try.prog) w 23 27 i _ st64.slice hi hz .i64 .i64 (n : Int) (n : Int) (by omega) (by omega) (by rw [hb]; omega) (by omega)
  rw [h, hs]
  simp only [Int.toNat_natCast, Nat.mul_one]
  congr 3
  apply Array.ext'
  rw [show (Value.int .u64 0).cells = #[Value.int .u64 0] from rfl, toList_madeCells_one]
  simp [zeros, u64s]
theorem ok_new (n : Nat) (hn : n ≤ 65536) : (Dev.new n).Ok :=
  ⟨by simp [Dev.new], by simpa [Dev.new] using hn, fun x hx => by simp [Dev.new] at hx; obtain ⟨_, rfl⟩ := hx; exact ⟨by decide, by decide⟩, fun x hx => by simp [Dev.new] at hx; obtain ⟨_, rfl⟩ := hx; exact ⟨by decide, by decide⟩, by simp [Dev.new], by simp [Dev.new], by simp [Dev.new]⟩

theorem Sat.alloc2 (h : Sat E w F) (A B : Obj) : Sat E ((w.alloc A).alloc B) (pt (w.heap.size + 1) B * (pt w.heap.size A * F)) := by
  have h2 := (h.alloc A).alloc B
  simpa only [World.size_alloc] using h2
theorem Sat.alloc4 (h : Sat E w F) (A B C D : Obj) : Sat E ((((w.alloc A).alloc B).alloc C).alloc D) (pt (w.heap.size + 1 + 1 + 1) D * (pt (w.heap.size + 1 + 1) C * (pt (w.heap.size + 1) B * (pt w.heap.size A * F)))) := by
  have h4 := (((h.alloc A).alloc B).alloc C).alloc D
  simpa only [World.size_alloc] using h4
/-- Three new blocks and the box over them. -/
theorem dev_new (n : Nat) (hn : n ≤ 65536) {b1 b2 b3 b4 : Nat} (h : Sat E w (pt b1 (.cells (zeros n) 27) * (pt b2 (.cells (zeros n) 27) * (pt b3 (.map #[] 0) * (pt b4 (.cells #[.slice (some ⟨b1, 0, none⟩) n n, .slice (some ⟨b2, 0, none⟩) n n, .map (some b3), .int .i64 0, .int .i64 0, .bool false] 117) * F))))) :
    Sat E w (dev b4 (Dev.new n) * F) := by
  have hml : n ≤ maxLen := by simp only [maxLen]; omega
  have h1 : Sat E w (words (.slice (some ⟨b1, 0, none⟩) n n) (List.replicate n 0) * (pt b2 (.cells (zeros n) 27) * (pt b3 (.map #[] 0) * (pt b4 (.cells #[.slice (some ⟨b1, 0, none⟩) n n, .slice (some ⟨b2, 0, none⟩) n n, .map (some b3), .int .i64 0, .int .i64 0, .bool false] 117) * F)))) := by
    rw [words_def, List.length_replicate]
    exact Sat.row_mk h (Nat.le_refl _) hml (by simp [zeros, u64s]) (by simp [zeros, u64s])
  rw [sep_left_comm] at h1
  have h2 : Sat E w (words (.slice (some ⟨b2, 0, none⟩) n n) (List.replicate n 0) * (words (.slice (some ⟨b1, 0, none⟩) n n) (List.replicate n 0) * (pt b3 (.map #[] 0) * (pt b4 (.cells #[.slice (some ⟨b1, 0, none⟩) n n, .slice (some ⟨b2, 0, none⟩) n n, .map (some b3), .int .i64 0, .int .i64 0, .bool false] 117) * F)))) := by
    rw [words_def _ (List.replicate n 0), List.length_replicate]
    exact Sat.row_mk h1 (Nat.le_refl _) hml (by simp [zeros, u64s]) (by simp [zeros, u64s])
  have h3 : Sat E w (pt b3 (.map #[] 0) * (words (.slice (some ⟨b2, 0, none⟩) n n) (List.replicate n 0) * (words (.slice (some ⟨b1, 0, none⟩) n n) (List.replicate n 0) * (pt b4 (.cells #[.slice (some ⟨b1, 0, none⟩) n n, .slice (some ⟨b2, 0, none⟩) n n, .map (some b3), .int .i64 0, .int .i64 0, .bool false] 117) * F)))) := h2.ac (by ac_rfl)
  have h4 : Sat E w (imap b3 [] * (words (.slice (some ⟨b2, 0, none⟩) n n) (List.replicate n 0) * (words (.slice (some ⟨b1, 0, none⟩) n n) (List.replicate n 0) * (pt b4 (.cells #[.slice (some ⟨b1, 0, none⟩) n n, .slice (some ⟨b2, 0, none⟩) n n, .map (some b3), .int .i64 0, .int .i64 0, .bool false] 117) * F)))) :=
    h3.imap_mk (by simp [reads]) (by simp) (by simp) (by simp)
  refine dev_mk (rv := .slice (some ⟨b1, 0, none⟩) n n) (sv := .slice (some ⟨b2, 0, none⟩) n n) (mb := b3) (m := []) (ok_new n hn) ?_
  show Sat E w (pt b4 _ * (words _ (List.replicate n 0) * (words _ (List.replicate n 0) * (imap b3 [] * (flrows [] [] * F)))))
  rw [flrows_nil, emp_sep]
  exact h4.ac (by ac_rfl)

set_option maxRecDepth 100000 in
set_option maxHeartbeats 4000000 in
theorem new_calls (w : World) (words : Int) (n : Nat) (hn : n ≤ 65536) (hw : (n : Int) = if 0 < (if words < 65536 then words else 65536) then (if words < 65536 then words else 65536) else 0) (hsat : Sat E w F) :
    Calls Try.prog 23 #[.int .i64 words] w fun e w' => ∃ b, e = .returned (.pointer (some ⟨b, 0, none⟩)) ∧ Sat E w' (dev b (Dev.new n) * F) := by
  have hmm := @run_makeMap Try.prog
  by_cases h1 : words < 65536
  · by_cases h2 : 0 < words
    · obtain rfl : words = n := by rw [hw, if_pos h1, if_pos h2]
      clear hw
      have hmk := run_make64 (n : Int) n rfl hn
      go_enter Try.func23, Try.ntmps23
      go_wp2
      go_region
      all_goals go_wp2
      all_goals go_ret
      all_goals
        refine ⟨_, rfl, ?_⟩
        first
          | exact dev_new (b1 := w.heap.size) (b2 := w.heap.size + 1) (b3 := w.heap.size + 1 + 1) n hn (Sat.drew (Sat.ac (Sat.alloc4 hsat _ _ _ _) (by ac_rfl)))
          | exact dev_new (b1 := w.heap.size) (b3 := w.heap.size + 1) (b2 := w.heap.size + 1 + 1) n hn (Sat.drew (Sat.ac (Sat.alloc4 hsat _ _ _ _) (by ac_rfl)))
          | exact dev_new (b2 := w.heap.size) (b1 := w.heap.size + 1) (b3 := w.heap.size + 1 + 1) n hn (Sat.drew (Sat.ac (Sat.alloc4 hsat _ _ _ _) (by ac_rfl)))
          | exact dev_new (b2 := w.heap.size) (b3 := w.heap.size + 1) (b1 := w.heap.size + 1 + 1) n hn (Sat.drew (Sat.ac (Sat.alloc4 hsat _ _ _ _) (by ac_rfl)))
          | exact dev_new (b3 := w.heap.size) (b1 := w.heap.size + 1) (b2 := w.heap.size + 1 + 1) n hn (Sat.drew (Sat.ac (Sat.alloc4 hsat _ _ _ _) (by ac_rfl)))
          | exact dev_new (b3 := w.heap.size) (b2 := w.heap.size + 1) (b1 := w.heap.size + 1 + 1) n hn (Sat.drew (Sat.ac (Sat.alloc4 hsat _ _ _ _) (by ac_rfl)))
    · obtain rfl : n = 0 := by rw [if_pos h1, if_neg h2] at hw; omega
      have hmk := run_make64 0 0 rfl hn
      clear hw hn
      have hn : Hid (0 ≤ 65536) := Nat.zero_le _
      go_enter Try.func23, Try.ntmps23
      go_wp2
      go_region
      all_goals go_wp2
      all_goals go_ret
      all_goals
        refine ⟨_, rfl, ?_⟩
        first
          | exact dev_new (b1 := w.heap.size) (b2 := w.heap.size + 1) (b3 := w.heap.size + 1 + 1) _ hn.out (Sat.drew (Sat.ac (Sat.alloc4 hsat _ _ _ _) (by ac_rfl)))
          | exact dev_new (b1 := w.heap.size) (b3 := w.heap.size + 1) (b2 := w.heap.size + 1 + 1) _ hn.out (Sat.drew (Sat.ac (Sat.alloc4 hsat _ _ _ _) (by ac_rfl)))
          | exact dev_new (b2 := w.heap.size) (b1 := w.heap.size + 1) (b3 := w.heap.size + 1 + 1) _ hn.out (Sat.drew (Sat.ac (Sat.alloc4 hsat _ _ _ _) (by ac_rfl)))
          | exact dev_new (b2 := w.heap.size) (b3 := w.heap.size + 1) (b1 := w.heap.size + 1 + 1) _ hn.out (Sat.drew (Sat.ac (Sat.alloc4 hsat _ _ _ _) (by ac_rfl)))
          | exact dev_new (b3 := w.heap.size) (b1 := w.heap.size + 1) (b2 := w.heap.size + 1 + 1) _ hn.out (Sat.drew (Sat.ac (Sat.alloc4 hsat _ _ _ _) (by ac_rfl)))
          | exact dev_new (b3 := w.heap.size) (b2 := w.heap.size + 1) (b1 := w.heap.size + 1 + 1) _ hn.out (Sat.drew (Sat.ac (Sat.alloc4 hsat _ _ _ _) (by ac_rfl)))
  · obtain rfl : n = 65536 := by rw [if_neg h1] at hw; simp at hw; omega
    have hmk := run_make64 65536 65536 rfl hn
    clear hw hn
    have hn : Hid (65536 ≤ 65536) := Nat.le_refl _
    by_cases h2 : words = 65536
    · subst h2
      go_enter Try.func23, Try.ntmps23
      go_wp2
      go_region
      all_goals go_wp2
      all_goals go_ret
      all_goals
        refine ⟨_, rfl, ?_⟩
        first
          | exact dev_new (b1 := w.heap.size) (b2 := w.heap.size + 1) (b3 := w.heap.size + 1 + 1) _ hn.out (Sat.drew (Sat.ac (Sat.alloc4 hsat _ _ _ _) (by ac_rfl)))
          | exact dev_new (b1 := w.heap.size) (b3 := w.heap.size + 1) (b2 := w.heap.size + 1 + 1) _ hn.out (Sat.drew (Sat.ac (Sat.alloc4 hsat _ _ _ _) (by ac_rfl)))
          | exact dev_new (b2 := w.heap.size) (b1 := w.heap.size + 1) (b3 := w.heap.size + 1 + 1) _ hn.out (Sat.drew (Sat.ac (Sat.alloc4 hsat _ _ _ _) (by ac_rfl)))
          | exact dev_new (b2 := w.heap.size) (b3 := w.heap.size + 1) (b1 := w.heap.size + 1 + 1) _ hn.out (Sat.drew (Sat.ac (Sat.alloc4 hsat _ _ _ _) (by ac_rfl)))
          | exact dev_new (b3 := w.heap.size) (b1 := w.heap.size + 1) (b2 := w.heap.size + 1 + 1) _ hn.out (Sat.drew (Sat.ac (Sat.alloc4 hsat _ _ _ _) (by ac_rfl)))
          | exact dev_new (b3 := w.heap.size) (b2 := w.heap.size + 1) (b1 := w.heap.size + 1 + 1) _ hn.out (Sat.drew (Sat.ac (Sat.alloc4 hsat _ _ _ _) (by ac_rfl)))
    · have h3 : 65536 < words := by omega
      clear h1 h2
      go_enter Try.func23, Try.ntmps23
      go_wp2
      go_region
      all_goals go_wp2
      all_goals go_ret
      all_goals
        refine ⟨_, rfl, ?_⟩
        first
          | exact dev_new (b1 := w.heap.size) (b2 := w.heap.size + 1) (b3 := w.heap.size + 1 + 1) _ hn.out (Sat.drew (Sat.ac (Sat.alloc4 hsat _ _ _ _) (by ac_rfl)))
          | exact dev_new (b1 := w.heap.size) (b3 := w.heap.size + 1) (b2 := w.heap.size + 1 + 1) _ hn.out (Sat.drew (Sat.ac (Sat.alloc4 hsat _ _ _ _) (by ac_rfl)))
          | exact dev_new (b2 := w.heap.size) (b1 := w.heap.size + 1) (b3 := w.heap.size + 1 + 1) _ hn.out (Sat.drew (Sat.ac (Sat.alloc4 hsat _ _ _ _) (by ac_rfl)))
          | exact dev_new (b2 := w.heap.size) (b3 := w.heap.size + 1) (b1 := w.heap.size + 1 + 1) _ hn.out (Sat.drew (Sat.ac (Sat.alloc4 hsat _ _ _ _) (by ac_rfl)))
          | exact dev_new (b3 := w.heap.size) (b1 := w.heap.size + 1) (b2 := w.heap.size + 1 + 1) _ hn.out (Sat.drew (Sat.ac (Sat.alloc4 hsat _ _ _ _) (by ac_rfl)))
          | exact dev_new (b3 := w.heap.size) (b2 := w.heap.size + 1) (b1 := w.heap.size + 1 + 1) _ hn.out (Sat.drew (Sat.ac (Sat.alloc4 hsat _ _ _ _) (by ac_rfl)))

/-- of whatever number. -/
theorem new_any (w : World) (words : Int) (hsat : Sat E w F) :
    Calls Try.prog 23 #[.int .i64 words] w fun e w' => ∃ b, e = .returned (.pointer (some ⟨b, 0, none⟩)) ∧ Sat E w' (dev b (Dev.new (min (max words 0) 65536).toNat) * F) := by
  refine new_calls w words (min (max words 0) 65536).toNat (by omega) ?_ hsat
  split <;> split <;> omega
theorem new_nat (w : World) (n : Nat) (hn : n ≤ 65536) (hsat : Sat E w F) :
    Calls Try.prog 23 #[.int .i64 (n : Int)] w fun e w' => ∃ b, e = .returned (.pointer (some ⟨b, 0, none⟩)) ∧ Sat E w' (dev b (Dev.new n) * F) := by
  refine new_calls w n n hn ?_ hsat
  split <;> split <;> omega

/- A device that there isn't. -/
theorem nil_store (w : World) (at_ x : Int) : Calls Try.prog 24 #[.pointer none, .int .i64 at_, .int .u64 x] w fun e w' => e = .returned (.int .i64 1) ∧ w' = w := by
  go_enter Try.func24, Try.ntmps24
  go_wp2_with fail
  go_ret
  exact ⟨rfl, rfl⟩
theorem nil_load (w : World) (at_ : Int) : Calls Try.prog 32 #[.pointer none, .int .i64 at_] w fun e w' => e = .returned (.tuple #[.int .u64 0, .int .i64 1]) ∧ w' = w := by
  go_enter Try.func32, Try.ntmps32
  go_wp2_with fail
  go_ret2
  exact ⟨rfl, rfl⟩
theorem nil_flush (w : World) (at_ : Int) : Calls Try.prog 25 #[.pointer none, .int .i64 at_] w fun e w' => e = .returned (.int .i64 1) ∧ w' = w := by
  go_enter Try.func25, Try.ntmps25
  go_wp2_with fail
  go_ret
  exact ⟨rfl, rfl⟩
theorem nil_fence (w : World) : Calls Try.prog 26 #[.pointer none] w fun e w' => e = .returned (.int .i64 1) ∧ w' = w := by
  go_enter Try.func26, Try.ntmps26
  go_wp2_with fail
  go_ret
  exact ⟨rfl, rfl⟩
theorem nil_len (w : World) : Calls Try.prog 38 #[.pointer none] w fun e w' => e = .returned (.int .i64 0) ∧ w' = w := by
  go_enter Try.func38, Try.ntmps38
  go_wp2_with fail
  go_ret
  exact ⟨rfl, rfl⟩
theorem nil_steps (w : World) : Calls Try.prog 34 #[.pointer none] w fun e w' => e = .returned (.int .i64 0) ∧ w' = w := by
  go_enter Try.func34, Try.ntmps34
  go_wp2_with fail
  go_ret
  exact ⟨rfl, rfl⟩
theorem nil_down (w : World) : Calls Try.prog 35 #[.pointer none] w fun e w' => e = .returned (.bool false) ∧ w' = w := by
  go_enter Try.func35, Try.ntmps35
  go_wp2_with fail
  go_ret
  exact ⟨rfl, rfl⟩
theorem nil_evict (w : World) (L : Int) : Calls Try.prog 36 #[.pointer none, .int .i64 L] w fun e w' => e = .returned (.bool false) ∧ w' = w := by
  go_enter Try.func36, Try.ntmps36
  go_wp2_with fail
  go_ret
  exact ⟨rfl, rfl⟩
theorem nil_fuse (w : World) (n : Int) : Calls Try.prog 33 #[.pointer none, .int .i64 n] w fun e w' => e = .returned (.tuple #[]) ∧ w' = w := by
  go_enter Try.func33, Try.ntmps33
  go_wp2_with fail
  go_end0
  exact ⟨rfl, rfl⟩
theorem nil_copy (w : World) : Calls Try.prog 39 #[.pointer none] w fun e w' => e = .returned (.pointer none) ∧ w' = w := by
  go_enter Try.func39, Try.ntmps39
  go_wp2_with fail
  go_ret
  exact ⟨rfl, rfl⟩
theorem nil_words (w : World) : Calls Try.prog 27 #[.pointer none] w fun e w' => e = .returned (.slice none 0 0) ∧ w' = w := by
  go_enter Try.func27, Try.ntmps27
  go_wp2_with fail
  go_ret
  exact ⟨rfl, rfl⟩
theorem nil_crash (w : World) (pv : Value) : Calls Try.prog 28 #[.pointer none, pv] w fun e w' => e = .returned (.tuple #[]) ∧ w' = w := by
  go_enter Try.func28, Try.ntmps28
  apply wp_scope_straight
  go_wp2_with fail
  rw [Exit.noGoto_ret]
  refine bodyPost_ret (results_none rfl _ _ _) rfl ?_
  exact ⟨rfl, rfl⟩
end
end Scul
