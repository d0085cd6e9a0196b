/- Lemmas and contracts for scullion's BlockPlays: NvmI, NvmJ, Args, NvmK, BitM, BitA, BitB, LayM, BlkM. -/
import Derived.Test.YtffakdoobeegpaaBlockPlaysQ2
import Derived.Below
import Derived.ProofKit
import Derived.Deep.Slices
import Derived.Lib.SmallJoins
import Derived.Test.YtffakdoobeegpaaRows
import Derived.Test.YtffakdoobeegpaaBlockPlaysQ1
import Derived.Laws.BitsAllLaws
/- New, Of; a device that there isn't. -/
namespace Scul
open Go Go.Sl Go.RowKit Go.Proofs
section
variable {E : Env} {w : World} {F : HP} {b : Nat} {d : Dev}

/-- n words 0, as cells. -/
def zeros (n : Nat) : Array Value := (u64s (List.replicate n 0)).toArray
set_option maxRecDepth 100000 in
theorem run_make64 (N : Int) (n : Nat) (hN : N = n) (hn : n ≤ 65536) (w : World) : (Instr.makeSlice 23 (.int .i64 N) (.int .i64 N)).run Try.prog w = .ok (.slice (some ⟨w.heap.size, 0, none⟩) n n) (w.alloc (.cells (zeros n) 27)) := by
  subst hN
  obtain ⟨i, hi, hz, hs, hb⟩ := st64.info
  have h := run_make (P := Try.prog) w 23 27 i _ st64.slice hi hz .i64 .i64 (n : Int) (n : Int) (by omega) (by omega) (by rw [hb]; omega) (by omega)
  rw [h, hs]
  simp only [Int.toNat_natCast, Nat.mul_one]
  congr 3
  apply Array.ext'
  rw [show (Value.int .u64 0).cells = #[Value.int .u64 0] from rfl, toList_madeCells_one]
  simp [zeros, u64s]
theorem ok_new (n : Nat) (hn : n ≤ 65536) : (Dev.new n).Ok :=
  ⟨by simp [Dev.new], by simpa [Dev.new] using hn, fun x hx => by simp [Dev.new] at hx; obtain ⟨_, rfl⟩ := hx; exact ⟨by decide, by decide⟩, fun x hx => by simp [Dev.new] at hx; obtain ⟨_, rfl⟩ := hx; exact ⟨by decide, by decide⟩, by simp [Dev.new], by simp [Dev.new], by simp [Dev.new]⟩

theorem Sat.alloc2 (h : Sat E w F) (A B : Obj) : Sat E ((w.alloc A).alloc B) (pt (w.heap.size + 1) B * (pt w.heap.size A * F)) := by
  have h2 := (h.alloc A).alloc B
  simpa only [World.size_alloc] using h2
theorem Sat.alloc4 (h : Sat E w F) (A B C D : Obj) : Sat E ((((w.alloc A).alloc B).alloc C).alloc D) (pt (w.heap.size + 1 + 1 + 1) D * (pt (w.heap.size + 1 + 1) C * (pt (w.heap.size + 1) B * (pt w.heap.size A * F)))) := by
  have h4 := (((h.alloc A).alloc B).alloc C).alloc D
  simpa only [World.size_alloc] using h4
/-- Three new blocks and the box over them. -/
theorem dev_new (n : Nat) (hn : n ≤ 65536) {b1 b2 b3 b4 : Nat} (h : Sat E w (pt b1 (.cells (zeros n) 27) * (pt b2 (.cells (zeros n) 27) * (pt b3 (.map #[] 0) * (pt b4 (.cells #[.slice (some ⟨b1, 0, none⟩) n n, .slice (some ⟨b2, 0, none⟩) n n, .map (some b3), .int .i64 0, .int .i64 0, .bool false] 117) * F))))) :
    Sat E w (dev b4 (Dev.new n) * F) := by
  have hml : n ≤ maxLen := by simp only [maxLen]; omega
  have h1 : Sat E w (words (.slice (some ⟨b1, 0, none⟩) n n) (List.replicate n 0) * (pt b2 (.cells (zeros n) 27) * (pt b3 (.map #[] 0) * (pt b4 (.cells #[.slice (some ⟨b1, 0, none⟩) n n, .slice (some ⟨b2, 0, none⟩) n n, .map (some b3), .int .i64 0, .int .i64 0, .bool false] 117) * F)))) := by
    rw [words_def, List.length_replicate]
    exact Sat.row_mk h (Nat.le_refl _) hml (by simp [zeros, u64s]) (by simp [zeros, u64s])
  rw [sep_left_comm] at h1
  have h2 : Sat E w (words (.slice (some ⟨b2, 0, none⟩) n n) (List.replicate n 0) * (words (.slice (some ⟨b1, 0, none⟩) n n) (List.replicate n 0) * (pt b3 (.map #[] 0) * (pt b4 (.cells #[.slice (some ⟨b1, 0, none⟩) n n, .slice (some ⟨b2, 0, none⟩) n n, .map (some b3), .int .i64 0, .int .i64 0, .bool false] 117) * F)))) := by
    rw [words_def _ (List.replicate n 0), List.length_replicate]
    exact Sat.row_mk h1 (Nat.le_refl _) hml (by simp [zeros, u64s]) (by simp [zeros, u64s])
  have h3 : Sat E w (pt b3 (.map #[] 0) * (words (.slice (some ⟨b2, 0, none⟩) n n) (List.replicate n 0) * (words (.slice (some ⟨b1, 0, none⟩) n n) (List.replicate n 0) * (pt b4 (.cells #[.slice (some ⟨b1, 0, none⟩) n n, .slice (some ⟨b2, 0, none⟩) n n, .map (some b3), .int .i64 0, .int .i64 0, .bool false] 117) * F)))) := h2.ac (by ac_rfl)
  have h4 : Sat E w (imap b3 [] * (words (.slice (some ⟨b2, 0, none⟩) n n) (List.replicate n 0) * (words (.slice (some ⟨b1, 0, none⟩) n n) (List.replicate n 0) * (pt b4 (.cells #[.slice (some ⟨b1, 0, none⟩) n n, .slice (some ⟨b2, 0, none⟩) n n, .map (some b3), .int .i64 0, .int .i64 0, .bool false] 117) * F)))) :=
    h3.imap_mk (by simp [reads]) (by simp) (by simp) (by simp)
  refine dev_mk (rv := .slice (some ⟨b1, 0, none⟩) n n) (sv := .slice (some ⟨b2, 0, none⟩) n n) (mb := b3) (m := []) (ok_new n hn) ?_
  show Sat E w (pt b4 _ * (words _ (List.replicate n 0) * (words _ (List.replicate n 0) * (imap b3 [] * (flrows [] [] * F)))))
  rw [flrows_nil, emp_sep]
  exact h4.ac (by ac_rfl)

set_option maxRecDepth 100000 in
set_option maxHeartbeats 4000000 in
theorem new_calls (w : World) (words : Int) (n : Nat) (hn : n ≤ 65536) (hw : (n : Int) = if 0 < (if words < 65536 then words else 65536) then (if words < 65536 then words else 65536) else 0) (hsat : Sat E w F) :
    Calls Try.prog 23 #[.int .i64 words] w fun e w' => ∃ b, e = .returned (.pointer (some ⟨b, 0, none⟩)) ∧ Sat E w' (dev b (Dev.new n) * F) := by
  have hmm := @run_makeMap Try.prog
  by_cases h1 : words < 65536
  · by_cases h2 : 0 < words
    · obtain rfl : words = n := by rw [hw, if_pos h1, if_pos h2]
      clear hw
      have hmk := run_make64 (n : Int) n rfl hn
      go_enter Try.func23, Try.ntmps23
      go_wp2
      go_region
      all_goals go_wp2
      all_goals go_ret
      all_goals
        refine ⟨_, rfl, ?_⟩
        first
          | exact dev_new (b1 := w.heap.size) (b2 := w.heap.size + 1) (b3 := w.heap.size + 1 + 1) n hn (Sat.drew (Sat.ac (Sat.alloc4 hsat _ _ _ _) (by ac_rfl)))
          | exact dev_new (b1 := w.heap.size) (b3 := w.heap.size + 1) (b2 := w.heap.size + 1 + 1) n hn (Sat.drew (Sat.ac (Sat.alloc4 hsat _ _ _ _) (by ac_rfl)))
          | exact dev_new (b2 := w.heap.size) (b1 := w.heap.size + 1) (b3 := w.heap.size + 1 + 1) n hn (Sat.drew (Sat.ac (Sat.alloc4 hsat _ _ _ _) (by ac_rfl)))
          | exact dev_new (b2 := w.heap.size) (b3 := w.heap.size + 1) (b1 := w.heap.size + 1 + 1) n hn (Sat.drew (Sat.ac (Sat.alloc4 hsat _ _ _ _) (by ac_rfl)))
          | exact dev_new (b3 := w.heap.size) (b1 := w.heap.size + 1) (b2 := w.heap.size + 1 + 1) n hn (Sat.drew (Sat.ac (Sat.alloc4 hsat _ _ _ _) (by ac_rfl)))
          | exact dev_new (b3 := w.heap.size) (b2 := w.heap.size + 1) (b1 := w.heap.size + 1 + 1) n hn (Sat.drew (Sat.ac (Sat.alloc4 hsat _ _ _ _) (by ac_rfl)))
    · obtain rfl : n = 0 := by rw [if_pos h1, if_neg h2] at hw; omega
      have hmk := run_make64 0 0 rfl hn
      clear hw hn
      have hn : Hid (0 ≤ 65536) := Nat.zero_le _
      go_enter Try.func23, Try.ntmps23
      go_wp2
      go_region
      all_goals go_wp2
      all_goals go_ret
      all_goals
        refine ⟨_, rfl, ?_⟩
        first
          | exact dev_new (b1 := w.heap.size) (b2 := w.heap.size + 1) (b3 := w.heap.size + 1 + 1) _ hn.out (Sat.drew (Sat.ac (Sat.alloc4 hsat _ _ _ _) (by ac_rfl)))
          | exact dev_new (b1 := w.heap.size) (b3 := w.heap.size + 1) (b2 := w.heap.size + 1 + 1) _ hn.out (Sat.drew (Sat.ac (Sat.alloc4 hsat _ _ _ _) (by ac_rfl)))
          | exact dev_new (b2 := w.heap.size) (b1 := w.heap.size + 1) (b3 := w.heap.size + 1 + 1) _ hn.out (Sat.drew (Sat.ac (Sat.alloc4 hsat _ _ _ _) (by ac_rfl)))
          | exact dev_new (b2 := w.heap.size) (b3 := w.heap.size + 1) (b1 := w.heap.size + 1 + 1) _ hn.out (Sat.drew (Sat.ac (Sat.alloc4 hsat _ _ _ _) (by ac_rfl)))
          | exact dev_new (b3 := w.heap.size) (b1 := w.heap.size + 1) (b2 := w.heap.size + 1 + 1) _ hn.out (Sat.drew (Sat.ac (Sat.alloc4 hsat _ _ _ _) (by ac_rfl)))
          | exact dev_new (b3 := w.heap.size) (b2 := w.heap.size + 1) (b1 := w.heap.size + 1 + 1) _ hn.out (Sat.drew (Sat.ac (Sat.alloc4 hsat _ _ _ _) (by ac_rfl)))
  · obtain rfl : n = 65536 := by rw [if_neg h1] at hw; simp at hw; omega
    have hmk := run_make64 65536 65536 rfl hn
    clear hw hn
    have hn : Hid (65536 ≤ 65536) := Nat.le_refl _
    by_cases h2 : words = 65536
    · subst h2
      go_enter Try.func23, Try.ntmps23
      go_wp2
      go_region
      all_goals go_wp2
      all_goals go_ret
      all_goals
        refine ⟨_, rfl, ?_⟩
        first
          | exact dev_new (b1 := w.heap.size) (b2 := w.heap.size + 1) (b3 := w.heap.size + 1 + 1) _ hn.out (Sat.drew (Sat.ac (Sat.alloc4 hsat _ _ _ _) (by ac_rfl)))
          | exact dev_new (b1 := w.heap.size) (b3 := w.heap.size + 1) (b2 := w.heap.size + 1 + 1) _ hn.out (Sat.drew (Sat.ac (Sat.alloc4 hsat _ _ _ _) (by ac_rfl)))
          | exact dev_new (b2 := w.heap.size) (b1 := w.heap.size + 1) (b3 := w.heap.size + 1 + 1) _ hn.out (Sat.drew (Sat.ac (Sat.alloc4 hsat _ _ _ _) (by ac_rfl)))
          | exact dev_new (b2 := w.heap.size) (b3 := w.heap.size + 1) (b1 := w.heap.size + 1 + 1) _ hn.out (Sat.drew (Sat.ac (Sat.alloc4 hsat _ _ _ _) (by ac_rfl)))
          | exact dev_new (b3 := w.heap.size) (b1 := w.heap.size + 1) (b2 := w.heap.size + 1 + 1) _ hn.out (Sat.drew (Sat.ac (Sat.alloc4 hsat _ _ _ _) (by ac_rfl)))
          | exact dev_new (b3 := w.heap.size) (b2 := w.heap.size + 1) (b1 := w.heap.size + 1 + 1) _ hn.out (Sat.drew (Sat.ac (Sat.alloc4 hsat _ _ _ _) (by ac_rfl)))
    · have h3 : 65536 < words := by omega
      clear h1 h2
      go_enter Try.func23, Try.ntmps23
      go_wp2
      go_region
      all_goals go_wp2
      all_goals go_ret
      all_goals
        refine ⟨_, rfl, ?_⟩
        first
          | exact dev_new (b1 := w.heap.size) (b2 := w.heap.size + 1) (b3 := w.heap.size + 1 + 1) _ hn.out (Sat.drew (Sat.ac (Sat.alloc4 hsat _ _ _ _) (by ac_rfl)))
          | exact dev_new (b1 := w.heap.size) (b3 := w.heap.size + 1) (b2 := w.heap.size + 1 + 1) _ hn.out (Sat.drew (Sat.ac (Sat.alloc4 hsat _ _ _ _) (by ac_rfl)))
          | exact dev_new (b2 := w.heap.size) (b1 := w.heap.size + 1) (b3 := w.heap.size + 1 + 1) _ hn.out (Sat.drew (Sat.ac (Sat.alloc4 hsat _ _ _ _) (by ac_rfl)))
          | exact dev_new (b2 := w.heap.size) (b3 := w.heap.size + 1) (b1 := w.heap.size + 1 + 1) _ hn.out (Sat.drew (Sat.ac (Sat.alloc4 hsat _ _ _ _) (by ac_rfl)))
          | exact dev_new (b3 := w.heap.size) (b1 := w.heap.size + 1) (b2 := w.heap.size + 1 + 1) _ hn.out (Sat.drew (Sat.ac (Sat.alloc4 hsat _ _ _ _) (by ac_rfl)))
          | exact dev_new (b3 := w.heap.size) (b2 := w.heap.size + 1) (b1 := w.heap.size + 1 + 1) _ hn.out (Sat.drew (Sat.ac (Sat.alloc4 hsat _ _ _ _) (by ac_rfl)))

/-- of whatever number. -/
theorem new_any (w : World) (words : Int) (hsat : Sat E w F) :
    Calls Try.prog 23 #[.int .i64 words] w fun e w' => ∃ b, e = .returned (.pointer (some ⟨b, 0, none⟩)) ∧ Sat E w' (dev b (Dev.new (min (max words 0) 65536).toNat) * F) := by
  refine new_calls w words (min (max words 0) 65536).toNat (by omega) ?_ hsat
  split <;> split <;> omega
theorem new_nat (w : World) (n : Nat) (hn : n ≤ 65536) (hsat : Sat E w F) :
    Calls Try.prog 23 #[.int .i64 (n : Int)] w fun e w' => ∃ b, e = .returned (.pointer (some ⟨b, 0, none⟩)) ∧ Sat E w' (dev b (Dev.new n) * F) := by
  refine new_calls w n n hn ?_ hsat
  split <;> split <;> omega

/- A device that there isn't. -/
theorem nil_store (w : World) (at_ x : Int) : Calls Try.prog 24 #[.pointer none, .int .i64 at_, .int .u64 x] w fun e w' => e = .returned (.int .i64 1) ∧ w' = w := by
  go_enter Try.func24, Try.ntmps24
  go_wp2_with fail
  go_ret
  exact ⟨rfl, rfl⟩
theorem nil_load (w : World) (at_ : Int) : Calls Try.prog 32 #[.pointer none, .int .i64 at_] w fun e w' => e = .returned (.tuple #[.int .u64 0, .int .i64 1]) ∧ w' = w := by
  go_enter Try.func32, Try.ntmps32
  go_wp2_with fail
  go_ret2
  exact ⟨rfl, rfl⟩
theorem nil_flush (w : World) (at_ : Int) : Calls Try.prog 25 #[.pointer none, .int .i64 at_] w fun e w' => e = .returned (.int .i64 1) ∧ w' = w := by
  go_enter Try.func25, Try.ntmps25
  go_wp2_with fail
  go_ret
  exact ⟨rfl, rfl⟩
theorem nil_fence (w : World) : Calls Try.prog 26 #[.pointer none] w fun e w' => e = .returned (.int .i64 1) ∧ w' = w := by
  go_enter Try.func26, Try.ntmps26
  go_wp2_with fail
  go_ret
  exact ⟨rfl, rfl⟩
theorem nil_len (w : World) : Calls Try.prog 38 #[.pointer none] w fun e w' => e = .returned (.int .i64 0) ∧ w' = w := by
  go_enter Try.func38, Try.ntmps38
  go_wp2_with fail
  go_ret
  exact ⟨rfl, rfl⟩
theorem nil_steps (w : World) : Calls Try.prog 34 #[.pointer none] w fun e w' => e = .returned (.int .i64 0) ∧ w' = w := by
  go_enter Try.func34, Try.ntmps34
  go_wp2_with fail
  go_ret
  exact ⟨rfl, rfl⟩
theorem nil_down (w : World) : Calls Try.prog 35 #[.pointer none] w fun e w' => e = .returned (.bool false) ∧ w' = w := by
  go_enter Try.func35, Try.ntmps35
  go_wp2_with fail
  go_ret
  exact ⟨rfl, rfl⟩
theorem nil_evict (w : World) (L : Int) : Calls Try.prog 36 #[.pointer none, .int .i64 L] w fun e w' => e = .returned (.bool false) ∧ w' = w := by
  go_enter Try.func36, Try.ntmps36
  go_wp2_with fail
  go_ret
  exact ⟨rfl, rfl⟩
theorem nil_fuse (w : World) (n : Int) : Calls Try.prog 33 #[.pointer none, .int .i64 n] w fun e w' => e = .returned (.tuple #[]) ∧ w' = w := by
  go_enter Try.func33, Try.ntmps33
  go_wp2_with fail
  go_end0
  exact ⟨rfl, rfl⟩
theorem nil_copy (w : World) : Calls Try.prog 39 #[.pointer none] w fun e w' => e = .returned (.pointer none) ∧ w' = w := by
  go_enter Try.func39, Try.ntmps39
  go_wp2_with fail
  go_ret
  exact ⟨rfl, rfl⟩
theorem nil_words (w : World) : Calls Try.prog 27 #[.pointer none] w fun e w' => e = .returned (.slice none 0 0) ∧ w' = w := by
  go_enter Try.func27, Try.ntmps27
  go_wp2_with fail
  go_ret
  exact ⟨rfl, rfl⟩
theorem nil_crash (w : World) (pv : Value) : Calls Try.prog 28 #[.pointer none, pv] w fun e w' => e = .returned (.tuple #[]) ∧ w' = w := by
  go_enter Try.func28, Try.ntmps28
  apply wp_scope_straight
  go_wp2_with fail
  rw [Exit.noGoto_ret]
  refine bodyPost_ret (results_none rfl _ _ _) rfl ?_
  exact ⟨rfl, rfl⟩
end
end Scul
/- What every law of the layer asks besides: awake. From the old memory's resource to 'Below'. -/
namespace Scul
open Go Go.Sl Go.RowKit Go.Proofs
section
variable {E : Env} {w : World} {F : HP}

theorem below_of_old {w w' : World} {A : HP} (h : Sat w.env w' (A * old w)) : Below w.heap.size w w' := by
  have h2 := h.right
  have he := h.1
  have hb : ∀ k, k < w.heap.size → w'.heap[k]? = w.heap[k]? := fun k hk => h2.ofOld hk
  refine ⟨congrArg Env.os he, congrArg Env.tape he, congrArg Env.output he, ?_, hb⟩
  rcases Nat.eq_zero_or_pos w.heap.size with h0 | h0
  · omega
  · have := hb (w.heap.size - 1) (by omega)
    have h1 : w.heap[w.heap.size - 1]? = some (w.heap[w.heap.size - 1]'(by omega)) := Array.getElem?_eq_getElem (by omega)
    rw [h1] at this
    have h2 := (Array.getElem?_eq_some_iff.1 this).1
    omega
theorem below_of_old' {w w' : World} (h : Sat w.env w' (old w)) : Below w.heap.size w w' := by
  have : Sat w.env w' (emp * old w) := by rw [emp_sep]; exact h
  exact below_of_old this

theorem Rd.empty (w : World) (size : Nat) : Rd w size (.slice none 0 0) 0 [] := ⟨by simp, Nat.zero_le _, .inl ⟨rfl, _, _, rfl, fun _ => rfl⟩⟩

set_option maxRecDepth 100000 in
set_option maxHeartbeats 2000000 in
theorem awake3_calls (w : World) (hF : Sat E w F) :
    Calls Try.prog 30 #[] w fun e w' => e = .returned (.bool true) ∧ Sat E w' F := by
  have e1 : Hid ((Dev.new 16).storeE 0 = 0) := by show _ = _; decide +kernel
  have e2 : Hid (((Dev.new 16).store 0 7).storeE 8 = 0) := by show _ = _; decide +kernel
  have e3 : Hid ((((Dev.new 16).store 0 7).store 8 9).flushE 0 = 0) := by show _ = _; decide +kernel
  have e4 : Hid (((((Dev.new 16).store 0 7).store 8 9).flush 0).fenceE = 0) := by show _ = _; decide +kernel
  have e5 : Hid (((((((Dev.new 16).store 0 7).store 8 9).flush 0).fence).crash []).load 0 = 7) := by show _ = _; decide +kernel
  have e6 : Hid (((((((Dev.new 16).store 0 7).store 8 9).flush 0).fence).crash []).load 8 = 0) := by show _ = _; decide +kernel
  have e7 : Hid (((((((Dev.new 16).store 0 7).store 8 9).flush 0).fence).crash []).loadE 0 = 0) := by show _ = _; decide +kernel
  have e8 : Hid (((((((Dev.new 16).store 0 7).store 8 9).flush 0).fence).crash []).loadE 8 = 0) := by show _ = _; decide +kernel
  go_enter Try.func30, Try.ntmps30
  go_wp2_with fail
  refine (new_nat _ 16 (by omega) hF).mono ?_
  rintro e w1 ⟨b, rfl, h1⟩
  go_wp2_with fail
  refine (store_calls _ 0 7 ⟨by decide, by decide⟩ h1).mono ?_
  rintro e w2 ⟨rfl, h2⟩
  rw [e1.out]
  go_wp2_with fail
  refine (store_calls _ 8 9 ⟨by decide, by decide⟩ h2).mono ?_
  rintro e w3 ⟨rfl, h3⟩
  rw [e2.out]
  go_wp2_with fail
  refine (flush_calls _ 0 h3).mono ?_
  rintro e w4 ⟨rfl, h4⟩
  rw [e3.out]
  go_wp2_with fail
  refine (fence_calls _ h4).mono ?_
  rintro e w5 ⟨rfl, h5⟩
  rw [e4.out]
  go_wp2_with fail
  refine (crash_calls _ _ [] (by simp) (fun W _ => Rd.empty W 1) h5).mono ?_
  rintro e w6 ⟨rfl, h6⟩
  go_wp2_with fail
  refine (load_calls _ 0 h6).mono ?_
  rintro e w7 ⟨rfl, q7, rfl⟩
  rw [e5.out, e7.out]
  go_wp2_with fail
  refine (load_calls _ 8 (h6.drewN _)).mono ?_
  rintro e w8 ⟨rfl, q8, rfl⟩
  rw [e6.out, e8.out]
  go_wp2_with fail
  go_ret
  exact ⟨rfl, h6.right⟩
end
end Scul
/- Slices that come in: from what the row's form says of them to 'Rd'. -/
namespace Go.Sl
open Go Go.ChangeShapes Go.RowKit Go.Deep

theorem flat_len {size n : Nat} (g : Nat → List Value) (hg : ∀ i, i < n → (g i).length = size) : ((List.range n).map g).flatten.length = n * size := by
  induction n with
  | zero => simp
  | succ n ih =>
    rw [List.range_succ, List.map_append, List.flatten_append, List.length_append, ih (fun i hi => hg i (by omega))]
    simp [hg n (by omega), Nat.add_mul]
theorem flat_at {size n : Nat} {w : World} {a : Addr} (g : Nat → List Value) (hg : ∀ i, i < n → (g i).length = size) (hc : ∀ i, i < n → ∀ k, k < size → w.cell? ((a.add (i * size)).add k) = (g i)[k]?)
    (j : Nat) (u : Value) (hj : ((List.range n).map g).flatten[j]? = some u) : w.cell? (a.add j) = some u := by
  induction n generalizing j with
  | zero => simp at hj
  | succ n ih =>
    rw [List.range_succ, List.map_append, List.flatten_append] at hj
    have hl := flat_len g (n := n) (fun i hi => hg i (by omega))
    by_cases h : j < n * size
    · rw [List.getElem?_append_left (by omega)] at hj
      exact ih (fun i hi => hg i (by omega)) (fun i hi => hc i (by omega)) j hj
    · rw [List.getElem?_append_right (by omega), hl] at hj
      simp only [List.map_cons, List.map_nil, List.flatten_cons, List.flatten_nil, List.append_nil] at hj
      have hlt : j - n * size < size := by
        have := (List.getElem?_eq_some_iff.1 hj).1
        rwa [hg n (by omega)] at this
      have h2 := hc n (by omega) (j - n * size) hlt
      rw [hj] at h2
      have e : (a.add (n * size)).add (j - n * size) = a.add j := by
        have e2 : j = n * size + (j - n * size) := by omega
        generalize j - n * size = k at *
        generalize n * size = m at *
        subst e2
        unfold Addr.add
        by_cases hm : m = 0 <;> by_cases hk : k = 0 <;> simp [hm, hk, Nat.add_assoc]
      rwa [e] at h2

theorem Rd.of_addr {w : World} {size len cap : Nat} {a : Addr} {cs : List Value} (hp : 0 < size) (h1 : cs.length = len * size) (h2 : len ≤ cap) (h3 : cap ≤ maxLen) (h4 : ∀ j u, cs[j]? = some u → w.cell? (a.add j) = some u) :
    Rd w size (.slice (some a) len cap) len cs := by
  refine ⟨h1, by omega, ?_⟩
  by_cases h0 : len = 0
  · left; subst h0; exact ⟨rfl, _, _, rfl, fun h => by cases h⟩
  · right
    have hpos : 0 < cs.length := by rw [h1]; exact Nat.mul_pos (by omega) hp
    have hs : a.spot = none := by
      have := World.cell?_spot (h4 0 _ (List.getElem?_eq_getElem hpos))
      simpa [Addr.add] using this
    obtain ⟨b, o, sp⟩ := a
    simp only at hs
    subst hs
    refine ⟨b, o, cap, rfl, h2, fun j u hu => ?_⟩
    rw [← Addr.add_lit]
    exact h4 j u hu

section
variable {H : Type} {enc : TypeId × Value → H} {P : Program} {w : World} {base : Nat} {spare : Nat → Bool} {held : Bool}
/-- A slice that came in: its elements, each with its cells, each of them read as data. -/
theorem open_rows {t e : TypeId} {size len cap : Nat} {ao : Option Addr} {d : DataW H} {ps : List MemPlace} (ht : P.underlying t = some (.slice e)) (hc : P.cellsOf e = size) (hp : 0 < size)
    (h : DataW.Trod enc P w base spare held t (.slice ao len cap) d ps) :
    ∃ rows : List (List Value), rows.length = len ∧ (∀ r ∈ rows, r.length = size ∧ ∃ n x, DataW.trod enc P w base spare held n e r = some x) ∧ Rd w size (.slice ao len cap) len rows.flatten := by
  obtain ⟨fuel, hf⟩ := h
  rcases open_slice ht hf with ⟨hcs, _⟩ | ⟨a, l, c, m, n, D, Pl, hcs, _, hlc, hcm, hm, _, hx⟩
  · simp only [Value.cells, List.cons.injEq, Value.slice.injEq, and_true] at hcs
    obtain ⟨rfl, rfl, rfl⟩ := hcs
    exact ⟨[], rfl, by simp, by simp, Nat.zero_le _, .inl ⟨rfl, _, _, rfl, fun _ => rfl⟩⟩
  · simp only [Value.cells, List.cons.injEq, Value.slice.injEq, and_true] at hcs
    obtain ⟨rfl, rfl, rfl⟩ := hcs
    have hlm : len ≤ m := by rw [hm]; split <;> omega
    obtain ⟨g, hg⟩ := choose_lt (α := List Value) (n := len) (p := fun i cs' => w.cells? base (a.add (i * P.cellsOf e)) (P.cellsOf e) = some cs' ∧ DataW.trod enc P w base spare held n e cs' = some (D i, Pl i)) (fun i hi => hx i (by omega))
    have hgl : ∀ i, i < len → (g i).length = size := fun i hi => by rw [← hc]; exact (World.cells?_some (hg i hi).1).2.1
    refine ⟨(List.range len).map g, by simp, ?_, ?_⟩
    · intro r hr
      simp only [List.mem_map, List.mem_range] at hr
      obtain ⟨i, hi, rfl⟩ := hr
      exact ⟨hgl i hi, n, _, (hg i hi).2⟩
    · refine Rd.of_addr hp (flat_len g hgl) hlc hcm (flat_at g hgl ?_)
      intro i hi k hk
      have := (World.cells?_some (hg i hi).1).2.2 k (by rw [hc]; exact hk)
      rw [hc] at this
      exact this
/-- Its elements as what they say. -/
theorem rows_as {α : Type} {rows : List (List Value)} {cellsOf : α → List Value} {ok : α → Prop} (h : ∀ r ∈ rows, ∃ x, r = cellsOf x ∧ ok x) : ∃ l : List α, l.length = rows.length ∧ rows.flatten = l.flatMap cellsOf ∧ ∀ x ∈ l, ok x := by
  induction rows with
  | nil => exact ⟨[], rfl, rfl, by simp⟩
  | cons r rows ih =>
    obtain ⟨x, rfl, hx⟩ := h r (by simp)
    obtain ⟨l, h1, h2, h3⟩ := ih (fun r hr => h r (by simp [hr]))
    exact ⟨x :: l, by simp [h1], by simp [h2], by simpa using ⟨hx, h3⟩⟩
/-- A slice of integers. -/
theorem open_nums {t e : TypeId} {k : IntKind} {len cap : Nat} {ao : Option Addr} {d : DataW H} {ps : List MemPlace} (ht : P.underlying t = some (.slice e)) (he : P.underlying e = some (.int k)) (hc : P.cellsOf e = 1)
    (h : DataW.Trod enc P w base spare held t (.slice ao len cap) d ps) :
    ∃ l : List Int, l.length = len ∧ Rd w 1 (.slice ao len cap) len (l.map (Value.int k)) ∧ ∀ x ∈ l, (Lit.int k x).wf = true := by
  obtain ⟨rows, h1, h2, h3⟩ := open_rows ht hc (by omega) h
  obtain ⟨l, h4, h5, h6⟩ := rows_as (α := Int) (rows := rows) (cellsOf := fun x => [Value.int k x]) (ok := fun x => (Lit.int k x).wf = true) (by
    intro r hr
    obtain ⟨_, n, x, hx⟩ := h2 r hr
    obtain ⟨z, rfl, _, hz⟩ := DataW.trod_int he hx
    exact ⟨z, rfl, hz⟩)
  refine ⟨l, by omega, ?_, h6⟩
  rw [h5] at h3
  have e : l.flatMap (fun x => [Value.int k x]) = l.map (Value.int k) := by
    clear h5 h4 h6 h3
    induction l with
    | nil => rfl
    | cons x l ih => simp [ih]
  rwa [e] at h3
end
end Go.Sl
/- Device of words; a slice of calls that came in; do2. -/
namespace Scul
open Go Go.Sl Go.RowKit Go.Proofs
section
variable {E : Env} {w : World} {F : HP} {b : Nat} {d : Dev}

/-- What reads in the first world reads in each one that keeps it. -/
theorem Rd.old {w W : World} {E : Env} {size n : Nat} {v : Value} {cs : List Value} (h : Rd w size v n cs) (hs : Sat E W (old w)) : Rd W size v n cs := by
  refine h.mono fun a u ha => ?_
  have hb := World.block_lt_of_cell? w a ha
  unfold World.cell? at ha ⊢
  rw [hs.ofOld hb]
  exact ha
theorem Rd.take {w : World} {size n c : Nat} {ao : Option Addr} {cs : List Value} (h : Rd w size (.slice ao n c) n cs) (k : Nat) (hk : k ≤ n) : Rd w size (.slice ao k c) k (cs.take (k * size)) := by
  obtain ⟨h1, h2, h3⟩ := h
  have hm : k * size ≤ n * size := Nat.mul_le_mul_right _ hk
  refine ⟨by rw [List.length_take, h1]; omega, by omega, ?_⟩
  rcases h3 with ⟨h0, ao', c', hv, hc⟩ | ⟨b, o, c', hv, hn, hc⟩
  · left
    simp only [Value.slice.injEq] at hv
    obtain ⟨rfl, _, rfl⟩ := hv
    have : k = 0 := by omega
    subst this
    exact ⟨rfl, _, _, rfl, hc⟩
  · right
    simp only [Value.slice.injEq, true_and] at hv
    obtain ⟨rfl, rfl⟩ := hv
    refine ⟨b, o, c, rfl, by omega, fun j u hu => hc j u ?_⟩
    rw [List.getElem?_take] at hu
    split at hu
    · exact hu
    · cases hu

theorem u64s_take (l : List Int) (k : Nat) : u64s (l.take k) = (u64s l).take k := by simp [u64s]
theorem u64s_length (l : List Int) : (u64s l).length = l.length := by simp [u64s]

theorem Sat.mid {w : World} {A B C : HP} (h : Sat E w (A * (B * C))) : Sat E w (A * C) := by
  rw [sep_left_comm] at h
  exact h.right
theorem Sat.swap {w : World} {A B C : HP} (h : Sat E w (A * (B * C))) : Sat E w (B * (A * C)) := by
  rw [sep_left_comm]
  exact h
theorem words_push {w : World} {v : Value} {l : List Int} {x : Int} {R : HP} (h : Sat E w (row 27 1 v (l.length + 1) (u64s l ++ [.int .u64 x]) * R)) : Sat E w (words v (l ++ [x]) * R) := by
  have e1 : (l ++ [x]).length = l.length + 1 := by simp
  have e2 : u64s (l ++ [x]) = u64s l ++ [.int .u64 x] := by simp [u64s]
  rw [words_def, e1, e2]
  exact h
/-- A word of a row is stored into. -/
theorem words_set {w : World} {g c : Nat} {l : List Int} {R : HP} (h : Sat E w (words (.slice (some ⟨g, 0, none⟩) l.length c) l * R)) (i : Nat) (x : Int) (hi : i < l.length) :
    Sat E (w.setCell ⟨g, i, none⟩ (.int .u64 x)) (words (.slice (some ⟨g, 0, none⟩) l.length c) (l.set i x) * R) := by
  have h2 := h.row_set i (.int .u64 x) (by omega)
  have e : u64s (l.set i x) = (u64s l).set i (.int .u64 x) := by simp [u64s]
  rw [words_def, e, List.length_set]
  exact h2
theorem words_free {w : World} {g c : Nat} {l : List Int} {R : HP} (h : Sat E w (words (.slice (some ⟨g, 0, none⟩) l.length c) l * R)) (i : Nat) : w.frozen? ⟨g, i, none⟩ = false := h.row_free i
/-- A copy of words, one cell of it at hand. -/
theorem app_tail {w : World} {v : Value} {m : List Int} {R : HP} (h : Sat E w (row 27 1 v (0 + m.length) ([] ++ u64s m) * R)) (j : Nat) (x : Int) (hj : j < m.length) :
    ∃ g c, v = .slice (some ⟨g, 0, none⟩) m.length c ∧ w.cell? ⟨g, j, none⟩ = some (.int .u64 (m.getD j 0)) ∧ w.frozen? ⟨g, j, none⟩ = false ∧ (j : Int) < m.length ∧
      Hid (Sat E (w.setCell ⟨g, j, none⟩ (.int .u64 x)) (words (.slice (some ⟨g, 0, none⟩) m.length c) (m.set j x) * R)) := by
  have h9 : Sat E w (words v m * R) := by simpa [words_def] using h
  obtain ⟨g, c, rfl, _⟩ := words_at h9 j hj
  exact ⟨g, c, rfl, words_cell h9 j hj, words_free h9 j, by omega, words_set h9 j x hj⟩
/-- A call that came in: what to do, where, a word, picks (a slice). -/
structure CallA where
  act : Int
  at_ : Int
  word : Int
  picks : Value
def CallA.cells (c : CallA) : List Value := [.int .i64 c.act, .int .i64 c.at_, .int .u64 c.word, c.picks]
def callCells (l : List CallA) : List Value := l.flatMap CallA.cells
theorem callCells_length (l : List CallA) : (callCells l).length = l.length * 4 := by
  induction l with
  | nil => rfl
  | cons c l ih => simp [callCells, CallA.cells] at ih ⊢; omega
theorem callCells_at (l : List CallA) (k j : Nat) (hk : k < l.length) (hj : j < 4) : (callCells l)[4 * k + j]? = (CallA.cells l[k])[j]? := by
  induction l generalizing k with
  | nil => simp at hk
  | cons c l ih =>
    show (c.cells ++ callCells l)[4 * k + j]? = _
    cases k with
    | zero =>
      rw [List.getElem?_append_left (by simp [CallA.cells]; omega)]
      simp
    | succ k =>
      rw [List.getElem?_append_right (by simp [CallA.cells]; omega)]
      have : 4 * (k + 1) + j - c.cells.length = 4 * k + j := by simp [CallA.cells]; omega
      rw [this, ih k (by simpa using hk)]
      simp
/-- The slice reads as these calls. -/
def RdC (w : World) (v : Value) (l : List CallA) : Prop := Rd w 4 v l.length (callCells l) ∧ (∀ c ∈ l, U64 c.word) ∧ ∀ c ∈ l, ∃ a n k, c.picks = .slice a n k
theorem RdC.old {w W : World} {E : Env} {v : Value} {l : List CallA} (h : RdC w v l) (hs : Sat E W (old w)) : RdC W v l := ⟨Rd.old h.1 hs, h.2⟩
theorem RdC.nth {w : World} {ao : Option Addr} {c : Nat} {l : List CallA} (h : RdC w (.slice ao l.length c) l) (k : Nat) (hk : k < l.length) :
    ∃ bb o, ao = some ⟨bb, o, none⟩ ∧ w.cell? ⟨bb, o + k * 4, none⟩ = some (.int .i64 l[k].act) ∧ w.cell? ⟨bb, o + k * 4 + 1, none⟩ = some (.int .i64 l[k].at_) ∧
      w.cell? ⟨bb, o + k * 4 + 2, none⟩ = some (.int .u64 l[k].word) ∧ w.cell? ⟨bb, o + k * 4 + 3, none⟩ = some l[k].picks := by
  obtain ⟨bb, o, rfl, hc⟩ := Rd.at h.1 (by omega)
  refine ⟨bb, o, rfl, ?_, ?_, ?_, ?_⟩
  · have := hc (4 * k + 0) _ (by rw [callCells_at l k 0 hk (by omega)]; rfl)
    rwa [show o + (4 * k + 0) = o + k * 4 by omega] at this
  · have := hc (4 * k + 1) _ (by rw [callCells_at l k 1 hk (by omega)]; rfl)
    rwa [show o + (4 * k + 1) = o + k * 4 + 1 by omega] at this
  · have := hc (4 * k + 2) _ (by rw [callCells_at l k 2 hk (by omega)]; rfl)
    rwa [show o + (4 * k + 2) = o + k * 4 + 2 by omega] at this
  · have := hc (4 * k + 3) _ (by rw [callCells_at l k 3 hk (by omega)]; rfl)
    rwa [show o + (4 * k + 3) = o + k * 4 + 3 by omega] at this

/-- An int's range. -/
def I64 (x : Int) : Prop := -9223372036854775808 ≤ x ∧ x ≤ 9223372036854775807
theorem u64_wf {x : Int} (h : (Lit.int .u64 x).wf = true) : U64 x := by
  simp [Lit.wf, IntKind.min, IntKind.max, IntKind.bits, IntKind.signed] at h
  unfold U64
  omega
theorem u8_wf {x : Int} (h : (Lit.int .u8 x).wf = true) : U8 x := by
  simp [Lit.wf, IntKind.min, IntKind.max, IntKind.bits, IntKind.signed] at h
  unfold U8
  omega
theorem i64_wf {x : Int} (h : (Lit.int .i64 x).wf = true) : I64 x := by
  simp [Lit.wf, IntKind.min, IntKind.max, IntKind.bits, IntKind.signed] at h
  unfold I64
  omega

theorem list4 {α : Type} {r : List α} (h : r.length = 4) : ∃ a b c d, r = [a, b, c, d] := by
  match r, h with
  | [a, b, c, d], _ => exact ⟨a, b, c, d, rfl⟩
set_option maxRecDepth 20000 in
open Go.ChangeShapes in
/-- A slice of calls that came in. -/
theorem open_calls {H : Type} {enc : TypeId × Value → H} {w : World} {base : Nat} {spare : Nat → Bool} {held : Bool} {len cap : Nat} {ao : Option Addr} {d : DataW H} {ps : List MemPlace}
    (h : DataW.Trod enc Try.prog w base spare held 22 (.slice ao len cap) d ps) : ∃ l : List CallA, l.length = len ∧ RdC w (.slice ao len cap) l := by
  obtain ⟨rows, h1, h2, h3⟩ := open_rows Try.underlying22 (size := 4) (by kernel_rfl) (by omega) h
  obtain ⟨l, h4, h5, h6⟩ := rows_as (α := CallA) (rows := rows) (cellsOf := CallA.cells) (ok := fun c => U64 c.word ∧ ∃ a n k, c.picks = .slice a n k) (by
    intro r hr
    obtain ⟨hr4, n, x, hx⟩ := h2 r hr
    obtain ⟨y0, y1, y2, y3, n', _, _, t0, t1, t2, t3⟩ := Go.Joins.trod_struct4 Try.underlying29 hx
    clear hx h1 h2 h3 h
    obtain ⟨z0, e0, _, _⟩ := DataW.trod_int Try.underlying3 t0
    obtain ⟨z1, e1, _, _⟩ := DataW.trod_int Try.underlying3 t1
    obtain ⟨z2, e2, _, hz2⟩ := DataW.trod_int Try.underlying27 t2
    have q3 : ∃ a n k, (r.drop 3).take 1 = [.slice a n k] := by
      have t3' : DataW.trod enc Try.prog w base spare held n' 24 ((r.drop 3).take 1) = some y3 := (show Try.prog.cellsOf 24 = 1 from by kernel_rfl) ▸ t3
      rcases Go.Deep.open_slice Try.underlying24 t3' with ⟨e, _⟩ | ⟨a, ln, cp, _, _, _, _, e, _⟩
      · exact ⟨_, _, _, e⟩
      · exact ⟨_, _, _, e⟩
    clear t0 t1 t2 t3
    have q0 : (r.drop 0).take 1 = [.int .i64 z0] := (show Try.prog.cellsOf 3 = 1 from by kernel_rfl) ▸ e0
    have q1 : (r.drop 1).take 1 = [.int .i64 z1] := (show Try.prog.cellsOf 3 = 1 from by kernel_rfl) ▸ e1
    have q2 : (r.drop 2).take 1 = [.int .u64 z2] := (show Try.prog.cellsOf 27 = 1 from by kernel_rfl) ▸ e2
    clear e0 e1 e2
    obtain ⟨r0, r1, r2, r3, rfl⟩ := list4 hr4
    simp only [List.drop_zero, List.drop_succ_cons, List.take_succ_cons, List.take_zero, List.cons.injEq, and_true] at q0 q1 q2 q3
    subst q0 q1 q2
    exact ⟨⟨z0, z1, z2, r3⟩, rfl, u64_wf hz2, q3⟩)
  refine ⟨l, by omega, ?_, fun c hc => (h6 c hc).1, fun c hc => (h6 c hc).2⟩
  rw [h4, h1]
  rw [h5] at h3
  exact h3
/-- do2 in words: a Store or a Flush. -/
def Dev.do2 (d : Dev) (c : CallA) : Dev := if c.act = 0 then d.store c.at_ c.word else d.flush c.at_

theorem do2_calls (w : World) (c : CallA) (hx : U64 c.word) (h : Sat E w (dev b d * F)) :
    Calls Try.prog 31 #[.pointer (some ⟨b, 0, none⟩), .agg #[.int .i64 c.act, .int .i64 c.at_, .int .u64 c.word, c.picks]] w fun e w' => e = .returned (.tuple #[]) ∧ Sat E w' (dev b (d.do2 c) * F) := by
  obtain ⟨ca, cat, cw, cp⟩ := c
  simp only [Dev.do2]
  have hal : Sat E (w.alloc (.cells #[.int .i64 ca, .int .i64 cat, .int .u64 cw, cp] 29)) _ := h.alloc _
  simp only at hx
  by_cases h0 : ca = 0
  · subst h0
    rw [if_pos rfl]
    go_enter Try.func31, Try.ntmps31
    go_wp2_with fail
    refine (store_calls _ _ _ hx hal.right).mono ?_
    rintro e w2 ⟨rfl, h2⟩
    go_wp2_with fail
    go_end0
    exact ⟨rfl, h2⟩
  · rw [if_neg h0]
    go_enter Try.func31, Try.ntmps31
    go_wp2_with fail
    refine (flush_calls _ _ hal.right).mono ?_
    rintro e w2 ⟨rfl, h2⟩
    go_wp2_with fail
    go_end0
    exact ⟨rfl, h2⟩
end
end Scul
/- Bits in words: plain. -/
namespace Scul
/-- The number whose bits are f's, the lowest k. -/
def bitsN (f : Nat → Bool) : Nat → Nat
  | 0 => 0
  | k + 1 => bitsN f k + if f k then 2 ^ k else 0
theorem bitsN_lt (f : Nat → Bool) (k : Nat) : bitsN f k < 2 ^ k := by
  induction k with
  | zero => simp [bitsN]
  | succ k ih => simp only [bitsN, Nat.pow_succ]; split <;> omega
theorem bitsN_bit (f : Nat → Bool) (k i : Nat) : (bitsN f k).testBit i = (decide (i < k) && f i) := by
  induction k with
  | zero => simp [bitsN]
  | succ k ih =>
    have hlt := bitsN_lt f k
    simp only [bitsN]
    cases hf : f k with
    | false =>
      simp only [Bool.false_eq_true, if_false, Nat.add_zero, ih]
      by_cases h : i = k
      · subst h; simp [hf]
      · have : decide (i < k + 1) = decide (i < k) := by rw [decide_eq_decide]; omega
        rw [this]
    | true =>
      simp only [if_true]
      have e := Nat.two_pow_add_eq_or_of_lt hlt 1
      rw [Nat.mul_one] at e
      rw [Nat.add_comm, e]
      rw [Nat.testBit_or, ih, Nat.testBit_two_pow]
      by_cases h : i = k
      · subst h; simp [hf]
      · have : decide (i < k + 1) = decide (i < k) := by rw [decide_eq_decide]; omega
        rw [this]
        have h2 : decide (k = i) = false := by rw [decide_eq_false_iff_not]; omega
        rw [h2]; simp
/-- The jth word of bits. -/
def wordAt (bs : List Bool) (j : Nat) : Nat := bitsN (fun i => bs.getD (64 * j + i) false) 64
theorem wordAt_lt (bs : List Bool) (j : Nat) : wordAt bs j < 18446744073709551616 := bitsN_lt _ 64
theorem wordAt_bit (bs : List Bool) (j i : Nat) : (wordAt bs j).testBit i = (decide (i < 64) && bs.getD (64 * j + i) false) := bitsN_bit _ _ _
/-- Bits as words. -/
def packW (bs : List Bool) : List Int := (List.range ((bs.length + 63) / 64)).map fun j => (wordAt bs j : Int)
theorem packW_length (bs : List Bool) : (packW bs).length = (bs.length + 63) / 64 := by simp [packW]
theorem packW_get (bs : List Bool) (j : Nat) (h : j < (bs.length + 63) / 64) : (packW bs)[j]? = some (wordAt bs j : Int) := by
  simp [packW, h]
theorem packW_getD (bs : List Bool) (j : Nat) (h : j < (bs.length + 63) / 64) : (packW bs).getD j 0 = (wordAt bs j : Int) := by
  rw [List.getD_eq_getElem?_getD, packW_get bs j h]; rfl
theorem packW_u64 (bs : List Bool) : ∀ x ∈ packW bs, U64 x := by
  intro x hx
  simp only [packW, List.mem_map, List.mem_range] at hx
  obtain ⟨j, _, rfl⟩ := hx
  have := wordAt_lt bs j
  unfold U64; omega
theorem u64_nat {x : Int} (h : U64 x) : ∃ n : Nat, x = (n : Int) ∧ n < 18446744073709551616 := ⟨x.toNat, by unfold U64 at h; omega, by unfold U64 at h; omega⟩
theorem wordAt_ext {bs : List Bool} {j n : Nat} (hn : n < 18446744073709551616) (h : ∀ i, i < 64 → bs.getD (64 * j + i) false = n.testBit i) : wordAt bs j = n := by
  refine Nat.eq_of_testBit_eq fun i => ?_
  rw [wordAt_bit]
  by_cases hi : i < 64
  · rw [h i hi]; simp [hi]
  · simp only [hi, decide_false, Bool.false_and]
    have : n < 2 ^ i := Nat.lt_of_lt_of_le hn (Nat.pow_le_pow_right (n := 2) (by omega) (by omega : 64 ≤ i))
    exact (Nat.testBit_lt_two_pow this).symm
/-- The first n bits of words. -/
def unpackW (n : Nat) (w : List Int) : List Bool := (List.range n).map fun i => (w.getD (i / 64) 0).toNat.testBit (i % 64)
theorem unpackW_length (n : Nat) (w : List Int) : (unpackW n w).length = n := by simp [unpackW]
theorem unpackW_getD (n : Nat) (w : List Int) (i : Nat) : (unpackW n w).getD i false = (decide (i < n) && (w.getD (i / 64) 0).toNat.testBit (i % 64)) := by
  unfold unpackW
  rw [List.getD_eq_getElem?_getD, List.getElem?_map]
  by_cases h : i < n
  · simp [h]
  · simp [h]
theorem getD_set {bs : List Bool} {k : Nat} {b : Bool} (hk : k < bs.length) (i : Nat) : (bs.set k b).getD i false = if i = k then b else bs.getD i false := by
  rw [List.getD_eq_getElem?_getD, List.getElem?_set, List.getD_eq_getElem?_getD]
  by_cases h : i = k
  · subst h; simp [hk]
  · rw [if_neg (fun e => h e.symm), if_neg h]
/-- One bit is turned: its word's bit is. -/
theorem wordAt_set {bs : List Bool} {k : Nat} {b : Bool} (hk : k < bs.length) (hb : bs.getD k false = !b) (j : Nat) : wordAt (bs.set k b) j = if j = k / 64 then wordAt bs j ^^^ 2 ^ (k % 64) else wordAt bs j := by
  by_cases hj : j = k / 64
  · rw [if_pos hj]
    have hlt : wordAt bs j ^^^ 2 ^ (k % 64) < 18446744073709551616 := Nat.xor_lt_two_pow (n := 64) (wordAt_lt bs j) (Nat.pow_lt_pow_right (a := 2) (by omega) (Nat.mod_lt _ (by omega)))
    refine wordAt_ext hlt fun i hi => ?_
    rw [getD_set hk, Nat.testBit_xor, wordAt_bit, Nat.testBit_two_pow]
    by_cases e : 64 * j + i = k
    · have e2 : k % 64 = i := by omega
      rw [if_pos e, e, hb, e2]
      simp [hi]
    · have e2 : ¬ k % 64 = i := by omega
      rw [if_neg e]
      simp [hi, e2]
  · rw [if_neg hj]
    refine wordAt_ext (wordAt_lt bs j) fun i hi => ?_
    rw [getD_set hk, wordAt_bit, if_neg (by omega)]
    simp [hi]
theorem packW_set {bs : List Bool} {k : Nat} {b : Bool} (hk : k < bs.length) (hb : bs.getD k false = !b) : packW (bs.set k b) = (packW bs).set (k / 64) ((wordAt bs (k / 64) ^^^ 2 ^ (k % 64) : Nat) : Int) := by
  refine List.ext_getElem? fun j => ?_
  rw [List.getElem?_set, packW_length]
  by_cases hj : j < (bs.length + 63) / 64
  · rw [packW_get _ _ (by simpa using hj), packW_get _ _ hj, wordAt_set hk hb]
    by_cases e : k / 64 = j
    · subst e; simp [hj]
    · rw [if_neg (fun h => e h.symm), if_neg e]
  · rw [List.getElem?_eq_none (by simp [packW]; omega), List.getElem?_eq_none (by simp [packW]; omega)]
    split
    · rw [if_neg (by omega)]
    · rfl
/-- Words of bits, of the same length, are the same only if the bits are. -/
theorem packW_inj {a b : List Bool} (hl : a.length = b.length) (h : packW a = packW b) : a = b := by
  refine List.ext_getElem? fun i => ?_
  by_cases hi : i < a.length
  · have hj : i / 64 < (a.length + 63) / 64 := by omega
    have h1 := packW_get a (i / 64) hj
    rw [h, packW_get b (i / 64) (by omega)] at h1
    have h2 : wordAt b (i / 64) = wordAt a (i / 64) := by
      have := Option.some.inj h1
      omega
    have h3 := congrArg (fun x => Nat.testBit x (i % 64)) h2
    simp only [wordAt_bit] at h3
    have e : 64 * (i / 64) + i % 64 = i := by omega
    rw [e] at h3
    have hm : i % 64 < 64 := by omega
    simp only [hm, decide_true, Bool.true_and] at h3
    rw [List.getElem?_eq_getElem hi, List.getElem?_eq_getElem (by omega)]
    rw [List.getD_eq_getElem?_getD, List.getD_eq_getElem?_getD, List.getElem?_eq_getElem hi, List.getElem?_eq_getElem (by omega)] at h3
    simp only [Option.getD_some] at h3
    rw [h3]
  · rw [List.getElem?_eq_none (by omega), List.getElem?_eq_none (by omega)]
theorem unpack_pack (bs : List Bool) : unpackW bs.length (packW bs) = bs := by
  refine List.ext_getElem? fun i => ?_
  by_cases hi : i < bs.length
  · unfold unpackW
    rw [List.getElem?_map, List.getElem?_range hi]
    simp only [Option.map_some]
    rw [packW_getD _ _ (by omega), Int.toNat_natCast, wordAt_bit]
    have e : 64 * (i / 64) + i % 64 = i := by omega
    rw [e, List.getD_eq_getElem?_getD, List.getElem?_eq_getElem hi]
    simp; omega
  · rw [List.getElem?_eq_none (by simp [unpackW]; omega), List.getElem?_eq_none (by omega)]
/-- word.Get of one bit. -/
theorem bit_of (x i : Nat) : (x / 2 ^ i) % 2 = if x.testBit i then 1 else 0 := by
  rw [Nat.testBit_eq_decide_div_mod_eq]
  by_cases h : x / 2 ^ i % 2 = 1
  · simp [h]
  · simp only [h, decide_false, Bool.false_eq_true, if_false]; omega
/-- The last word of what Of makes. -/
theorem wordAt_unpack {n : Nat} {w : List Int} (hw : ∀ x ∈ w, U64 x) (j : Nat) (hj : 64 * (j + 1) ≤ n) : (wordAt (unpackW n w) j : Int) = w.getD j 0 := by
  have hU : U64 (w.getD j 0) := by
    rw [List.getD_eq_getElem?_getD]
    cases h : w[j]? with
    | none => exact ⟨by simp, by simp⟩
    | some x => exact hw x (List.mem_of_getElem? h)
  obtain ⟨m, hm, hlt⟩ := u64_nat hU
  rw [hm]
  congr 1
  refine wordAt_ext hlt fun i hi => ?_
  rw [unpackW_getD]
  have e1 : (64 * j + i) / 64 = j := by omega
  have e2 : (64 * j + i) % 64 = i := by omega
  rw [e1, e2, hm, Int.toNat_natCast]
  have : 64 * j + i < n := by omega
  simp [this]
theorem wordAt_unpack_last {n : Nat} {w : List Int} (hw : ∀ x ∈ w, U64 x) (j r : Nat) (hr : n = 64 * j + r) : (wordAt (unpackW n w) j : Int) = w.getD j 0 % 2 ^ r := by
  have hU : U64 (w.getD j 0) := by
    rw [List.getD_eq_getElem?_getD]
    cases h : w[j]? with
    | none => exact ⟨by simp, by simp⟩
    | some x => exact hw x (List.mem_of_getElem? h)
  obtain ⟨m, hm, hlt⟩ := u64_nat hU
  rw [hm]
  have e : ((m : Int) % 2 ^ r) = ((m % 2 ^ r : Nat) : Int) := by simp
  rw [e]
  congr 1
  refine wordAt_ext (Nat.lt_of_le_of_lt (Nat.mod_le _ _) hlt) fun i hi => ?_
  rw [unpackW_getD, Nat.testBit_mod_two_pow]
  have e1 : (64 * j + i) / 64 = j := by omega
  have e2 : (64 * j + i) % 64 = i := by omega
  rw [e1, e2, hm, Int.toNat_natCast]
  have : decide (64 * j + i < n) = decide (i < r) := by rw [decide_eq_decide]; omega
  rw [this]
end Scul
/- word.mask, word.Get. -/
namespace Scul
open Go Go.Sl Go.RowKit Go.Proofs
/-- Is there such a field of bits? -/
def maskOk (a n : Int) : Bool := !(decide (n < 0) || decide (n > 64) || decide (a < 0) || decide (a > 64 - n))
def maskV (a n : Int) : Int := if maskOk a n then (2 ^ n.toNat - 1) * 2 ^ a.toNat else 0
theorem ret_mask {a b : Int} {p q : Bool} (h : a = b) (h' : p = q) : Ending.returned (.tuple #[.int .u64 a, .bool p]) = .returned (.tuple #[.int .u64 b, .bool q]) := by rw [h, h']
theorem mask_wrap (a n : Int) (h1 : 0 < n) (h2 : n < 64) (h3 : 0 ≤ a) (h4 : a ≤ 64 - n) :
    IntKind.u64.wrap (IntKind.u64.wrap (IntKind.u64.wrap (2 ^ n.toNat) - 1) * 2 ^ a.toNat) = if true = true then (2 ^ n.toNat - 1) * 2 ^ a.toNat else 0 := by
  obtain ⟨N, rfl⟩ := Int.eq_ofNat_of_zero_le (a := n) (by omega)
  obtain ⟨A, rfl⟩ := Int.eq_ofNat_of_zero_le h3
  rw [Int.toNat_natCast, Int.toNat_natCast, if_pos rfl]
  have p1 : 2 ^ N < 2 ^ 64 := Nat.pow_lt_pow_right (by omega) (by omega)
  have p0 : 0 < 2 ^ N := Nat.two_pow_pos _
  have p2 : 2 ^ N * 2 ^ A ≤ 2 ^ 64 := by rw [← Nat.pow_add]; exact Nat.pow_le_pow_right (by omega) (by omega)
  have p3 : 0 < 2 ^ A := Nat.two_pow_pos _
  have e1 : ((2 : Int) ^ N) = ((2 ^ N : Nat) : Int) := by simp
  have e2 : ((2 : Int) ^ A) = ((2 ^ A : Nat) : Int) := by simp
  have e3 : (2 ^ N - 1) * 2 ^ A < 2 ^ 64 := by
    rw [Nat.sub_mul]
    omega
  rw [e1, e2]
  generalize 2 ^ N = X at *
  generalize 2 ^ A = Y at *
  rw [IntKind.wrap_u64, IntKind.wrap_u64, IntKind.wrap_u64]
  have q1 : ((X : Int) % 18446744073709551616) = X := by omega
  have q2 : ((X : Int) - 1) % 18446744073709551616 = ((X - 1 : Nat) : Int) := by omega
  rw [q1, q2, ← Int.natCast_mul]
  have q3 : ((X : Int) - 1) = ((X - 1 : Nat) : Int) := by omega
  rw [q3, ← Int.natCast_mul]
  omega
set_option maxHeartbeats 400000 in
theorem mask_calls (w : World) (a n : Int) (ha : I64 a) (hn : I64 n) :
    Calls Try.prog 131 #[.int .i64 a, .int .i64 n] w fun e w' => e = .returned (.tuple #[.int .u64 (maskV a n), .bool (maskOk a n)]) ∧ w' = w := by
  obtain ⟨m, hm⟩ : ∃ m, m = maskV a n := ⟨_, rfl⟩
  obtain ⟨o, ho⟩ : ∃ o, o = maskOk a n := ⟨_, rfl⟩
  rw [← hm, ← ho]
  have HM := Lib.hid hm; have HO := Lib.hid ho
  unfold I64 at ha hn
  clear hm ho
  have bad : maskOk a n = false → (Value.int .u64 0 = Value.int .u64 m) ∧ false = o := by
    intro h
    rw [HM.out, HO.out, maskV, h]
    simp
  have BAD := Lib.hid bad
  clear bad
  by_cases h1 : n < 0
  · go_enter Try.func131, Try.ntmps131
    go_wp2
    go_ret2
    obtain ⟨e1, e2⟩ := BAD.out (by simp [maskOk, h1])
    rw [e1, e2]
    exact ⟨rfl, rfl⟩
  by_cases h2 : n > 64
  · go_enter Try.func131, Try.ntmps131
    go_wp2
    go_ret2
    obtain ⟨e1, e2⟩ := BAD.out (by simp [maskOk, h2])
    rw [e1, e2]
    exact ⟨rfl, rfl⟩
  by_cases h3 : a < 0
  · go_enter Try.func131, Try.ntmps131
    go_wp2
    go_ret2
    obtain ⟨e1, e2⟩ := BAD.out (by simp [maskOk, h3])
    rw [e1, e2]
    exact ⟨rfl, rfl⟩
  by_cases h4 : a > 64 - n
  · go_enter Try.func131, Try.ntmps131
    go_wp2
    go_ret2
    obtain ⟨e1, e2⟩ := BAD.out (by simp [maskOk, h4])
    rw [e1, e2]
    exact ⟨rfl, rfl⟩
  have hok : maskOk a n = true := by simp [maskOk]; omega
  have HOK := Lib.hid hok
  clear hok BAD
  by_cases h5 : n = 64
  · subst h5
    go_enter Try.func131, Try.ntmps131
    go_wp2
    go_ret2
    rw [HM.out, HO.out, maskV, HOK.out]
    have : a = 0 := by omega
    subst this
    exact ⟨rfl, rfl⟩
  by_cases h6 : n = 0
  · subst h6
    go_enter Try.func131, Try.ntmps131
    go_wp2
    go_ret2
    rw [HM.out, HO.out, maskV, HOK.out]
    exact ⟨by simp, rfl⟩
  · go_enter Try.func131, Try.ntmps131
    go_wp2
    go_ret2
    refine ⟨ret_mask ?_ (by rw [HO.out, HOK.out]), rfl⟩
    rw [HM.out, maskV, HOK.out]
    exact mask_wrap a n (by omega) (by omega) (by omega) (by omega)
theorem getV_nat (X A N : Nat) : (X &&& ((2 ^ N - 1) * 2 ^ A)) / 2 ^ A = X / 2 ^ A % 2 ^ N := by
  refine Nat.eq_of_testBit_eq fun i => ?_
  rw [← Nat.shiftRight_eq_div_pow, Nat.testBit_shiftRight, Nat.testBit_and, Nat.testBit_mod_two_pow, ← Nat.shiftRight_eq_div_pow, Nat.testBit_shiftRight, ← Nat.shiftLeft_eq, Nat.testBit_shiftLeft, Nat.testBit_two_pow_sub_one]
  have e : A + i - A = i := by omega
  rw [e]
  have : decide (A + i ≥ A) = true := by simp
  rw [this, Bool.true_and, Bool.and_comm]
/-- A field of bits. -/
def getV (x a n : Int) : Int := if maskOk a n then x / 2 ^ a.toNat % 2 ^ n.toNat else 0
theorem getV_u64 {x a n : Int} (h : U64 x) : U64 (getV x a n) := by
  unfold getV
  split
  · obtain ⟨m, rfl, hlt⟩ := u64_nat h
    have e : ((m : Int) / 2 ^ a.toNat % 2 ^ n.toNat) = ((m / 2 ^ a.toNat % 2 ^ n.toNat : Nat) : Int) := by simp
    rw [e]
    have h1 : m / 2 ^ a.toNat % 2 ^ n.toNat ≤ m / 2 ^ a.toNat := Nat.mod_le _ _
    have h2 : m / 2 ^ a.toNat ≤ m := Nat.div_le_self _ _
    exact ⟨by omega, by omega⟩
  · exact ⟨by omega, by omega⟩
theorem getV_bit (X i : Nat) (hi : i < 64) : getV (X : Int) (i : Int) 1 = if X.testBit i then 1 else 0 := by
  have h : maskOk (i : Int) 1 = true := by simp [maskOk]; omega
  unfold getV
  rw [if_pos h, Int.toNat_natCast]
  have e : ((X : Int) / 2 ^ i % 2 ^ (1 : Int).toNat) = ((X / 2 ^ i % 2 : Nat) : Int) := by simp
  rw [e, bit_of]
  split <;> rfl
theorem getV_and {x a n : Int} (hx : U64 x) (ho : maskOk a n = true) : bits .and .u64 x (maskV a n) / 2 ^ a.toNat = getV x a n := by
  obtain ⟨X, rfl, hX⟩ := u64_nat hx
  unfold getV maskV
  rw [ho, if_pos rfl, if_pos rfl]
  simp [maskOk] at ho
  obtain ⟨N, rfl⟩ := Int.eq_ofNat_of_zero_le (a := n) (by omega)
  obtain ⟨A, rfl⟩ := Int.eq_ofNat_of_zero_le (a := a) (by omega)
  rw [Int.toNat_natCast, Int.toNat_natCast]
  have p0 : 0 < 2 ^ N := Nat.two_pow_pos _
  have p2 : 2 ^ N * 2 ^ A ≤ 2 ^ 64 := by rw [← Nat.pow_add]; exact Nat.pow_le_pow_right (by omega) (by omega)
  have p3 : 0 < 2 ^ A := Nat.two_pow_pos _
  have e3 : (2 ^ N - 1) * 2 ^ A < 2 ^ 64 := by
    rw [Nat.sub_mul]
    omega
  have e4 : (((2 : Int) ^ N - 1) * 2 ^ A) = (((2 ^ N - 1) * 2 ^ A : Nat) : Int) := by
    rw [Int.natCast_mul, Int.natCast_sub p0]
    simp
  rw [e4, u64_and_nat _ _ hX (by omega)]
  have e5 : (((X &&& (2 ^ N - 1) * 2 ^ A : Nat) : Int) / 2 ^ A) = (((X &&& (2 ^ N - 1) * 2 ^ A) / 2 ^ A : Nat) : Int) := by simp
  rw [e5, getV_nat]
  simp
set_option maxHeartbeats 400000 in
theorem wordGet_calls (w : World) (x a n : Int) (hx : U64 x) (ha : I64 a) (hn : I64 n) :
    Calls Try.prog 100 #[.int .u64 x, .int .i64 a, .int .i64 n] w fun e w' => e = .returned (.int .u64 (getV x a n)) ∧ w' = w := by
  have HC := Lib.hid (mask_calls w a n ha hn)
  obtain ⟨g, hg⟩ : ∃ g, g = getV x a n := ⟨_, rfl⟩
  rw [← hg]
  have HG := Lib.hid hg
  obtain ⟨M, hM⟩ : ∃ M, M = maskV a n := ⟨_, rfl⟩
  rw [← hM] at HC
  have HM := Lib.hid hM
  have HX := Lib.hid hx
  clear hg hM hx ha hn
  cases ho : maskOk a n with
  | false =>
    rw [ho] at HC
    have e : g = 0 := by rw [HG.out, getV, ho]; rfl
    subst e
    clear ho
    go_enter Try.func100, Try.ntmps100
    go_wp2_with fail
    refine HC.out.mono ?_
    rintro e w1 ⟨rfl, rfl⟩
    go_wp2_with fail
    go_ret
    exact ⟨rfl, rfl⟩
  | true =>
    rw [ho] at HC
    have HO := Lib.hid ho
    by_cases h0 : M = 0
    · have hn0 : n = 0 := by
        rw [HM.out, maskV, ho] at h0
        simp only [if_true] at h0
        simp [maskOk] at ho
        rcases Int.mul_eq_zero.1 h0 with h1 | h1
        · obtain ⟨N, rfl⟩ := Int.eq_ofNat_of_zero_le (a := n) (by omega)
          rw [Int.toNat_natCast] at h1
          rcases Nat.eq_zero_or_pos N with rfl | hp
          · rfl
          · have : 2 ^ 1 ≤ 2 ^ N := Nat.pow_le_pow_right (by omega) hp
            have e : ((2 : Int) ^ N) = ((2 ^ N : Nat) : Int) := by simp
            rw [e] at h1
            omega
        · have : 0 < 2 ^ a.toNat := Nat.two_pow_pos _
          have e : ((2 : Int) ^ a.toNat) = ((2 ^ a.toNat : Nat) : Int) := by simp
          rw [e] at h1
          omega
      have e : g = 0 := by rw [HG.out, getV, ho, hn0]; simp
      subst e
      subst h0
      clear ho hn0
      go_enter Try.func100, Try.ntmps100
      go_wp2_with fail
      refine HC.out.mono ?_
      rintro e w1 ⟨rfl, rfl⟩
      go_wp2_with fail
      go_ret
      exact ⟨rfl, rfl⟩
    · have hr : 0 ≤ a ∧ a ≤ 64 := by simp [maskOk] at ho; omega
      clear ho
      obtain ⟨h1, h2⟩ := hr
      go_enter Try.func100, Try.ntmps100
      go_wp2_with fail
      refine HC.out.mono ?_
      rintro e w1 ⟨rfl, rfl⟩
      go_wp2_with fail
      go_ret
      refine ⟨ret_int ?_, rfl⟩
      rw [HG.out, HM.out]
      exact getV_and HX.out HO.out
/-- A nil map. -/
theorem lenNil_calls (w : World) : Calls Try.prog 132 #[.pointer none] w fun e w' => e = .returned (.int .i64 0) ∧ w' = w := by
  go_enter Try.func132, Try.ntmps132
  go_wp2_with fail
  go_ret
  exact ⟨rfl, rfl⟩
end Scul
/- bitmap: maps of bits in memory. -/
namespace Scul
open Go Go.Sl Go.RowKit Go.Proofs
/-- Block b is a map of the bits bs. -/
def bm (b : Nat) (bs : List Bool) : HP := ex fun v : Value => lift (bs.length ≤ 1048576) * (pt b (.cells #[.int .i64 bs.length, v] 138) * words v (packW bs))
/-- A map's bit. -/
def getB (bs : List Bool) (i : Int) : Bool := decide (0 ≤ i) && bs.getD i.toNat false
/-- What Set leaves, and tells. -/
def setB (bs : List Bool) (i : Int) (x : Bool) : List Bool := if 0 ≤ i ∧ i < bs.length then bs.set i.toNat x else bs
def setsB (bs : List Bool) (i : Int) (x : Bool) : Bool := decide (0 ≤ i ∧ i < bs.length) && (getB bs i != x)
theorem setB_length (bs : List Bool) (i : Int) (x : Bool) : (setB bs i x).length = bs.length := by unfold setB; split <;> simp
theorem getB_nat (bs : List Bool) (k : Nat) : getB bs (k : Int) = bs.getD k false := by simp [getB]
theorem getB_out (bs : List Bool) (i : Int) (h : ¬ (0 ≤ i ∧ i < bs.length)) : getB bs i = false := by
  unfold getB
  by_cases h0 : 0 ≤ i
  · have : bs.length ≤ i.toNat := by omega
    rw [List.getD_eq_getElem?_getD, List.getElem?_eq_none this]; simp
  · simp [h0]
theorem getB_setB (bs : List Bool) (i j : Int) (x : Bool) : getB (setB bs i x) j = if i = j ∧ 0 ≤ i ∧ i < bs.length then x else getB bs j := by
  unfold setB
  by_cases h : 0 ≤ i ∧ i < bs.length
  · rw [if_pos h]
    obtain ⟨k, rfl⟩ := Int.eq_ofNat_of_zero_le h.1
    by_cases hj : 0 ≤ j
    · obtain ⟨m, rfl⟩ := Int.eq_ofNat_of_zero_le hj
      rw [getB_nat, getB_nat, Int.toNat_natCast, getD_set (by omega)]
      by_cases e : m = k
      · subst e; rw [if_pos rfl, if_pos ⟨rfl, h⟩]
      · rw [if_neg e, if_neg (by omega)]
    · rw [if_neg (by omega)]; simp [getB, hj]
  · rw [if_neg h, if_neg (fun e => h e.2)]
theorem setB_same {bs : List Bool} {i : Int} {x : Bool} (h : setsB bs i x = false) : setB bs i x = bs := by
  unfold setB
  split
  · rename_i hr
    obtain ⟨k, rfl⟩ := Int.eq_ofNat_of_zero_le hr.1
    unfold setsB at h
    simp only [hr, and_self, decide_true, Bool.true_and, bne_eq_false_iff_eq] at h
    rw [Int.toNat_natCast]
    refine List.ext_getElem? fun j => ?_
    rw [List.getElem?_set]
    split
    · rename_i e
      subst e
      rw [if_pos (by omega), ← h, getB_nat, List.getD_eq_getElem?_getD, List.getElem?_eq_getElem (by omega)]
      simp
    · rfl
  · rfl
section
variable {E : Env} {w : World} {F : HP} {b : Nat} {bs : List Bool}
theorem bm_open (h : Sat E w (bm b bs * F)) : ∃ v, bs.length ≤ 1048576 ∧ Sat E w (pt b (.cells #[.int .i64 bs.length, v] 138) * (words v (packW bs) * F)) := by
  obtain ⟨v, h⟩ := h.exl
  rw [sep_assoc] at h
  obtain ⟨hl, h⟩ := h.pure
  exact ⟨v, hl, by simpa only [sep_assoc] using h⟩
theorem bm_mk {v : Value} (hl : bs.length ≤ 1048576) (h : Sat E w (pt b (.cells #[.int .i64 bs.length, v] 138) * (words v (packW bs) * F))) : Sat E w (bm b bs * F) := by
  refine Sat.mkExl v ?_
  rw [sep_assoc]
  refine Sat.mkPure hl ?_
  simpa only [sep_assoc] using h
theorem bm_len (h : Sat E w (bm b bs * F)) : bs.length ≤ 1048576 := by obtain ⟨_, h, _⟩ := bm_open h; exact h

theorem mLen_calls (w : World) (h : Sat E w (bm b bs * F)) :
    Calls Try.prog 132 #[.pointer (some ⟨b, 0, none⟩)] w fun e w' => e = .returned (.int .i64 bs.length) ∧ w' = w := by
  obtain ⟨v, hl, hs⟩ := bm_open h
  have c0 : w.cell? ⟨b, 0, none⟩ = some (.int .i64 bs.length) := hs.cell 0 rfl
  clear hs h
  go_enter Try.func132, Try.ntmps132
  go_wp2_with fail
  go_ret
  exact ⟨rfl, rfl⟩
set_option maxHeartbeats 400000 in
theorem mGet_calls (w : World) (i : Int) (h : Sat E w (bm b bs * F)) :
    Calls Try.prog 102 #[.pointer (some ⟨b, 0, none⟩), .int .i64 i] w fun e w' => e = .returned (.bool (getB bs i)) ∧ w' = w := by
  have HL := Lib.hid (mLen_calls w h)
  obtain ⟨v, hl, hs⟩ := bm_open h
  have c1 : w.cell? ⟨b, 1, none⟩ = some v := hs.cell 1 rfl
  obtain ⟨g, hg⟩ : ∃ g, g = getB bs i := ⟨_, rfl⟩
  rw [← hg]
  have HG := Lib.hid hg
  clear hg
  by_cases h0 : 0 ≤ i
  · by_cases h1 : i < bs.length
    · obtain ⟨k, rfl⟩ := Int.eq_ofNat_of_zero_le h0
      have hk : k / 64 < (packW bs).length := by rw [packW_length]; omega
      obtain ⟨ga, c, rfl, hc⟩ := words_at hs.right (k / 64) hk
      have cx := words_cell hs.right (k / 64) hk
      rw [packW_getD _ _ (by rw [packW_length] at hk; exact hk)] at cx
      have hx : U64 (wordAt bs (k / 64) : Int) := by have := wordAt_lt bs (k / 64); unfold U64; omega
      have HC := Lib.hid (wordGet_calls w (wordAt bs (k / 64)) ((k : Int) % 64) 1 hx (by unfold I64; omega) (by unfold I64; omega))
      have hgv : getV (wordAt bs (k / 64) : Int) ((k : Int) % 64) 1 = if g then 1 else 0 := by
        have e : ((k : Int) % 64) = ((k % 64 : Nat) : Int) := by omega
        rw [e, getV_bit _ _ (Nat.mod_lt _ (by omega)), wordAt_bit, HG.out, getB_nat]
        have e2 : 64 * (k / 64) + k % 64 = k := by omega
        have e3 : k % 64 < 64 := by omega
        rw [e2]; simp [e3]
      rw [hgv] at HC
      have hl2 : (packW bs).length = (bs.length + 63) / 64 := packW_length bs
      have hk2 : (k : Int) / 64 < ((packW bs).length : Int) := by omega
      have cx2 : w.cell? ⟨ga, ((k : Int) / 64).toNat, none⟩ = some (.int .u64 (wordAt bs (k / 64))) := by
        have e : ((k : Int) / 64).toNat = k / 64 := by omega
        rw [e]; exact cx
      generalize wordAt bs (k / 64) = x at *
      generalize (packW bs).length = n at *
      generalize bs.length = m at *
      clear hs h hx hgv hl2 hk HG
      cases g with
      | true =>
        go_enter Try.func102, Try.ntmps102
        go_wp2_with (first | (go_at_call 132; refine HL.out.mono ?_; rintro e w' ⟨rfl, rfl⟩) | (go_at_call 100; refine HC.out.mono ?_; rintro e w' ⟨rfl, rfl⟩))
        go_ret
        exact ⟨rfl, rfl⟩
      | false =>
        go_enter Try.func102, Try.ntmps102
        go_wp2_with (first | (go_at_call 132; refine HL.out.mono ?_; rintro e w' ⟨rfl, rfl⟩) | (go_at_call 100; refine HC.out.mono ?_; rintro e w' ⟨rfl, rfl⟩))
        go_ret
        exact ⟨rfl, rfl⟩
    · have e : g = false := by rw [HG.out]; exact getB_out bs i (by omega)
      subst e
      generalize bs.length = m at *
      clear hs h HG
      go_enter Try.func102, Try.ntmps102
      go_wp2_with (first | (go_at_call 132; refine HL.out.mono ?_; rintro e w' ⟨rfl, rfl⟩))
      go_ret
      exact ⟨rfl, rfl⟩
  · have e : g = false := by rw [HG.out]; exact getB_out bs i (by omega)
    subst e
    clear hs h HG
    go_enter Try.func102, Try.ntmps102
    go_wp2_with fail
    go_ret
    exact ⟨rfl, rfl⟩
/-- A nil map's bit. -/
theorem mGetNil_calls (w : World) (i : Int) :
    Calls Try.prog 102 #[.pointer none, .int .i64 i] w fun e w' => e = .returned (.bool false) ∧ w' = w := by
  have HL := Lib.hid (lenNil_calls w)
  by_cases h0 : 0 ≤ i
  · have h1 : ¬ i < 0 := by omega
    go_enter Try.func102, Try.ntmps102
    go_wp2_with (first | (go_at_call 132; refine HL.out.mono ?_; rintro e w' ⟨rfl, rfl⟩))
    go_ret
    exact ⟨rfl, rfl⟩
  · go_enter Try.func102, Try.ntmps102
    go_wp2_with fail
    go_ret
    exact ⟨rfl, rfl⟩
theorem xor_bit (x k : Nat) (hx : x < 18446744073709551616) (hk : k < 64) : bits .xor .u64 (x : Int) (IntKind.u64.wrap (2 ^ k)) = ((x ^^^ 2 ^ k : Nat) : Int) := by
  have h1 : 2 ^ k < 2 ^ 64 := Nat.pow_lt_pow_right (by omega) hk
  have e : IntKind.u64.wrap (2 ^ k) = ((2 ^ k : Nat) : Int) := by
    have e1 : ((2 : Int) ^ k) = ((2 ^ k : Nat) : Int) := by simp
    rw [e1, IntKind.wrap_u64]
    generalize 2 ^ k = y at *
    omega
  rw [e]
  exact u64_xor_nat _ _ hx (by omega)
set_option maxHeartbeats 1000000 in
theorem mSet_calls (w : World) (i : Int) (x : Bool) (h : Sat E w (bm b bs * F)) :
    Calls Try.prog 104 #[.pointer (some ⟨b, 0, none⟩), .int .i64 i, .bool x] w fun e w' => e = .returned (.bool (setsB bs i x)) ∧ Sat E w' (bm b (setB bs i x) * F) := by
  have HL := Lib.hid (mLen_calls w h)
  have HC := Lib.hid (mGet_calls w i h)
  obtain ⟨g, hg⟩ : ∃ g, g = getB bs i := ⟨_, rfl⟩
  rw [← hg] at HC
  have HG := Lib.hid hg
  clear hg
  by_cases h0 : i < 0
  · have e1 : setsB bs i x = false := by unfold setsB; rw [decide_eq_false (by omega)]; rfl
    rw [setB_same e1, e1]
    go_enter Try.func104, Try.ntmps104
    go_wp2_with fail
    go_ret
    exact ⟨rfl, h⟩
  by_cases h1 : i < bs.length
  · by_cases h2 : g = x
    · subst h2
      have e1 : setsB bs i g = false := by unfold setsB; rw [HG.out]; simp
      rw [setB_same e1, e1]
      have hgg : (g == g) = true := by simp
      generalize hm : bs.length = m at *
      have H := Lib.hid h
      clear h hm
      go_enter Try.func104, Try.ntmps104
      go_wp2_with (first | (go_at_call 132; refine HL.out.mono ?_; rintro e w' ⟨rfl, rfl⟩) | (go_at_call 102; refine HC.out.mono ?_; rintro e w' ⟨rfl, rfl⟩))
      go_ret
      exact ⟨rfl, H.out⟩
    · have hgx : (g == x) = false := by simpa using h2
      obtain ⟨k, rfl⟩ := Int.eq_ofNat_of_zero_le (a := i) (by omega)
      have e1 : setsB bs k x = true := by
        unfold setsB
        rw [decide_eq_true (by omega), ← HG.out, Bool.true_and]
        simpa using h2
      have e2 : setB bs k x = bs.set k x := by unfold setB; rw [if_pos (by omega), Int.toNat_natCast]
      rw [e1, e2]
      have hb : bs.getD k false = !x := by
        have := HG.out
        rw [getB_nat] at this
        rw [← this]
        revert h2; cases g <;> cases x <;> simp
      obtain ⟨v, hl, hs⟩ := bm_open h
      have c1 : w.cell? ⟨b, 1, none⟩ = some v := hs.cell 1 rfl
      have hk : k / 64 < (packW bs).length := by rw [packW_length]; omega
      obtain ⟨ga, c, rfl, hc⟩ := words_at hs.right (k / 64) hk
      have cx := words_cell hs.right (k / 64) hk
      have fx := words_free hs.right (k / 64)
      rw [packW_getD _ _ (by rw [packW_length] at hk; exact hk)] at cx
      have hx := wordAt_lt bs (k / 64)
      have HS : Hid (∀ v, v = ((wordAt bs (k / 64) ^^^ 2 ^ (k % 64) : Nat) : Int) → Sat E (w.setCell ⟨ga, k / 64, none⟩ (.int .u64 v)) (bm b (bs.set k x) * F)) := by
        rintro v rfl
        have h2 : Sat E w (words (.slice (some ⟨ga, 0, none⟩) (packW bs).length c) (packW bs) * (pt b (.cells #[.int .i64 bs.length, .slice (some ⟨ga, 0, none⟩) (packW bs).length c] 138) * F)) := hs.ac (by ac_rfl)
        have h3 := words_set h2 (k / 64) ((wordAt bs (k / 64) ^^^ 2 ^ (k % 64) : Nat) : Int) hk
        rw [← packW_set (by omega) hb] at h3
        have e3 : (packW bs).length = (packW (bs.set k x)).length := by rw [packW_length, packW_length, List.length_set]
        rw [e3] at h3
        have e4 : bs.length = (bs.set k x).length := by rw [List.length_set]
        rw [e4] at h3
        exact bm_mk (by rw [← e4]; exact hl) (h3.ac (by ac_rfl))
      have hl2 : (packW bs).length = (bs.length + 63) / 64 := packW_length bs
      have hk2 : (k : Int) / 64 < ((packW bs).length : Int) := by omega
      have hxb := xor_bit (wordAt bs (k / 64)) (k % 64) hx (Nat.mod_lt _ (by omega))
      have HXB := Lib.hid hxb
      generalize wordAt bs (k / 64) = X at *
      generalize (packW bs).length = n at *
      generalize bs.length = m at *
      clear hs h hx hl2 hk HG hb e1 e2 hxb
      go_enter Try.func104, Try.ntmps104
      go_wp2_with (first | (go_at_call 132; refine HL.out.mono ?_; rintro e w' ⟨rfl, rfl⟩) | (go_at_call 102; refine HC.out.mono ?_; rintro e w' ⟨rfl, rfl⟩))
      go_region
      all_goals
        go_wp2_with fail
        go_ret
        exact ⟨rfl, HS.out _ HXB.out⟩
  · have e1 : setsB bs i x = false := by unfold setsB; rw [decide_eq_false (by omega)]; rfl
    rw [setB_same e1, e1]
    generalize hm : bs.length = m at *
    have H := Lib.hid h
    clear h hm
    go_enter Try.func104, Try.ntmps104
    go_wp2_with (first | (go_at_call 132; refine HL.out.mono ?_; rintro e w' ⟨rfl, rfl⟩))
    go_ret
    exact ⟨rfl, H.out⟩
end
end Scul
/- Layouts: plain. -/
namespace Scul
/-- Words of a field of a kind; 0: there is no such field. -/
def kw (k : Int) : Int := if k = 1 ∨ k = 3 then 1 else if k = 2 then 2 else 0
def kwSum : List Int → Int
  | [] => 0
  | f :: r => kw f + kwSum r
/-- Words of an object of a kind; 0: there is no such kind. -/
def kindW (fs : List Int) : Int := if fs.length = 0 ∨ 15 < fs.length ∨ ¬ (∀ f ∈ fs, kw f ≠ 0) then 0 else 1 + kwSum fs
def kindMay (fs : List Int) : Bool := decide (0 < kindW fs ∧ kindW fs ≤ 16)
theorem kw_range (k : Int) : 0 ≤ kw k ∧ kw k ≤ 2 := by unfold kw; split; omega; split <;> omega
theorem kwSum_range (l : List Int) : 0 ≤ kwSum l ∧ kwSum l ≤ 2 * l.length := by
  induction l with
  | nil => simp [kwSum]
  | cons f r ih => have := kw_range f; simp only [kwSum, List.length_cons]; omega
theorem kwSum_append (l m : List Int) : kwSum (l ++ m) = kwSum l + kwSum m := by
  induction l with
  | nil => simp [kwSum]
  | cons f r ih => simp only [List.cons_append, kwSum, ih]; omega
structure Cfg where
  kinds : List (List Int)
  n0 : Int
  n1 : Int
  n2 : Int
  n3 : Int
  roots : Int
  weaks : Int
  log : Int
namespace Cfg
variable (c : Cfg)
def blk (i : Nat) : Int := if i = 0 then c.n0 else if i = 1 then c.n1 else if i = 2 then c.n2 else c.n3
/-- The first block of a class. -/
def first (i : Nat) : Int := if i = 0 then 0 else if i = 1 then c.n0 else if i = 2 then c.n0 + c.n1 else if i = 3 then c.n0 + c.n1 + c.n2 else c.n0 + c.n1 + c.n2 + c.n3
def count : Int := c.n0 + c.n1 + c.n2 + c.n3
def all : Int := 2 * c.n0 + 4 * c.n1 + 8 * c.n2 + 16 * c.n3
def lineOf (x : Int) : Int := (x + 7) / 8 * 8
def rootsAt : Int := lineOf (9 + c.kinds.length)
def bitsAt : Int := lineOf (c.rootsAt + c.roots + c.weaks)
def logAt : Int := lineOf (c.bitsAt + (c.count + 63) / 64)
def blocksAt : Int := c.logAt + c.log
def words : Int := lineOf (c.blocksAt + c.all)
/-- Bounds of numbers, ahead of the last one of May. -/
structure Near : Prop where
  k : c.kinds.length ≤ 16
  n0 : 0 ≤ c.n0 ∧ c.n0 ≤ 512
  n1 : 0 ≤ c.n1 ∧ c.n1 ≤ 512
  n2 : 0 ≤ c.n2 ∧ c.n2 ≤ 512
  n3 : 0 ≤ c.n3 ∧ c.n3 ≤ 512
  roots : 0 ≤ c.roots ∧ c.roots ≤ 16
  weaks : 0 ≤ c.weaks ∧ c.weaks ≤ 16
  log : 0 ≤ c.log ∧ c.log ≤ 4096
/-- What May tells. -/
def may : Int :=
  if c.kinds.length = 0 ∨ 16 < c.kinds.length ∨ ¬ (∀ k ∈ c.kinds, kindMay k = true) then 1
  else if ¬ ((0 ≤ c.n0 ∧ c.n0 ≤ 512) ∧ (0 ≤ c.n1 ∧ c.n1 ≤ 512) ∧ (0 ≤ c.n2 ∧ c.n2 ≤ 512) ∧ (0 ≤ c.n3 ∧ c.n3 ≤ 512)) then 1
  else if c.count = 0 ∨ ¬ (1 ≤ c.roots ∧ c.roots ≤ 16) ∨ ¬ (0 ≤ c.weaks ∧ c.weaks ≤ 16) then 1
  else if c.log < 40 ∨ 4096 < c.log ∨ c.log % 8 ≠ 0 then 1
  else if 65536 < c.words then 9 else 0
/-- A config that may be. -/
structure Ok : Prop extends Near c where
  kinds : ∀ k ∈ c.kinds, kindMay k = true
  k1 : 1 ≤ c.kinds.length
  some : 0 < c.count
  roots1 : 1 ≤ c.roots
  log40 : 40 ≤ c.log
  log8 : c.log % 8 = 0
  words : c.words ≤ 65536
theorem ok_of_may {c : Cfg} (h : c.may = 0) : c.Ok := by
  unfold may at h
  split at h
  · cases h
  rename_i h1
  split at h
  · cases h
  rename_i h2
  split at h
  · cases h
  rename_i h3
  split at h
  · cases h
  rename_i h4
  split at h
  · cases h
  rename_i h5
  simp only [not_or, Classical.not_not] at h1 h2 h3 h4
  obtain ⟨a1, a2, a3, a4⟩ := h2
  obtain ⟨b1, b2, b3⟩ := h3
  have hc : c.count = c.n0 + c.n1 + c.n2 + c.n3 := rfl
  exact ⟨⟨by omega, a1, a2, a3, a4, ⟨by omega, by omega⟩, b3, ⟨by omega, by omega⟩⟩, h1.2.2, by omega, by omega, by omega, by omega, h4.2.2, by omega⟩
theorem may_of_ok {c : Cfg} (h : c.Ok) : c.may = 0 := by
  have hk := h.k; have h0 := h.n0; have h1 := h.n1; have h2 := h.n2; have h3 := h.n3; have hr := h.roots; have hw := h.weaks; have hl := h.log
  have a := h.k1; have b := h.some; have d := h.roots1; have e := h.log40; have f := h.log8; have g := h.words
  unfold may
  rw [if_neg, if_neg, if_neg, if_neg, if_neg]
  · omega
  · omega
  · omega
  · omega
  · rintro (h1 | h1 | h1)
    · omega
    · omega
    · exact h1 h.kinds
theorem lineOf_range {x : Int} : x ≤ lineOf x ∧ lineOf x ≤ x + 7 := by unfold lineOf; omega
/-- The parts' places, in order. -/
theorem near_places {c : Cfg} (h : c.Near) : 0 < c.rootsAt ∧ c.rootsAt ≤ 32 ∧ c.rootsAt + c.roots + c.weaks ≤ c.bitsAt ∧ c.bitsAt ≤ 80 ∧ c.bitsAt < c.logAt + 1 ∧ c.logAt ≤ 130 ∧ c.blocksAt ≤ 5000 ∧ c.words ≤ 100000 ∧ 0 ≤ c.words ∧ 0 ≤ c.count ∧ c.count ≤ 2048 ∧ 0 ≤ c.all ∧ c.all ≤ 16384 := by
  have hk := h.k; have h0 := h.n0; have h1 := h.n1; have h2 := h.n2; have h3 := h.n3; have hr := h.roots; have hw := h.weaks; have hl := h.log
  have e1 : c.rootsAt = lineOf (9 + c.kinds.length) := rfl
  have e2 : c.bitsAt = lineOf (c.rootsAt + c.roots + c.weaks) := rfl
  have e3 : c.logAt = lineOf (c.bitsAt + (c.count + 63) / 64) := rfl
  have e4 : c.blocksAt = c.logAt + c.log := rfl
  have e5 : c.words = lineOf (c.blocksAt + c.all) := rfl
  have e6 : c.count = c.n0 + c.n1 + c.n2 + c.n3 := rfl
  have e7 : c.all = 2 * c.n0 + 4 * c.n1 + 8 * c.n2 + 16 * c.n3 := rfl
  unfold lineOf at e1 e2 e3 e5
  omega
/-- The class of a block; -1: there is no such block. -/
def cls (b : Int) : Int := if 0 ≤ b ∧ b < c.n0 then 0 else if c.n0 ≤ b ∧ b < c.n0 + c.n1 then 1 else if c.n0 + c.n1 ≤ b ∧ b < c.n0 + c.n1 + c.n2 then 2 else if c.n0 + c.n1 + c.n2 ≤ b ∧ b < c.count then 3 else -1
def size (b : Int) : Int := if c.cls b < 0 then 0 else 2 * 2 ^ (c.cls b).toNat
def bitsOf (b : Int) : Int := if c.cls b < 0 then -1 else c.bitsAt + b / 64
def from_ (i : Int) : Int := if i = 1 then c.n0 else if i = 2 then c.n0 + c.n1 else if i = 3 then c.n0 + c.n1 + c.n2 else 0
def upto (i : Int) : Int := if i = 0 then c.n0 else if i = 1 then c.n0 + c.n1 else if i = 2 then c.n0 + c.n1 + c.n2 else if i = 3 then c.count else 0
theorem cls_in {c : Cfg} (h : c.Near) (b : Int) (i : Int) (hi : 0 ≤ i) : c.cls b = i ↔ (i < 4 ∧ c.from_ i ≤ b ∧ b < c.upto i) := by
  have h0 := h.n0; have h1 := h.n1; have h2 := h.n2; have h3 := h.n3
  unfold cls from_ upto count
  constructor
  · intro e
    split at e
    · subst e; simp; omega
    · split at e
      · subst e; simp; omega
      · split at e
        · subst e; simp; omega
        · split at e
          · subst e; simp; omega
          · omega
  · rintro ⟨h4, h5, h6⟩
    have : i = 0 ∨ i = 1 ∨ i = 2 ∨ i = 3 := by omega
    rcases this with rfl | rfl | rfl | rfl
    · simp at h5 h6; rw [if_pos ⟨h5, h6⟩]
    · simp at h5 h6; rw [if_neg (by omega), if_pos ⟨h5, h6⟩]
    · simp at h5 h6; rw [if_neg (by omega), if_neg (by omega), if_pos ⟨h5, h6⟩]
    · simp at h5 h6; rw [if_neg (by omega), if_neg (by omega), if_neg (by omega), if_pos ⟨h5, h6⟩]
theorem cls_range (b : Int) : -1 ≤ c.cls b ∧ c.cls b ≤ 3 := by unfold cls; split; omega; split; omega; split; omega; split <;> omega
theorem cls_neg {c : Cfg} (h : c.Near) (b : Int) : c.cls b = -1 ↔ ¬ (0 ≤ b ∧ b < c.count) := by
  have h0 := h.n0; have h1 := h.n1; have h2 := h.n2; have h3 := h.n3
  unfold cls count
  constructor
  · intro e
    split at e
    · omega
    · split at e
      · omega
      · split at e
        · omega
        · split at e
          · omega
          · omega
  · intro h
    rw [if_neg (by omega), if_neg (by omega), if_neg (by omega), if_neg (by omega)]
end Cfg
end Scul
/- Blocks: plain. -/
namespace Scul
/-- Is a block neither used nor reserved? -/
def freeB (U R : List Bool) (b : Int) : Bool := !getB U b && !getB R b
/-- The first of n from b on that is free; -1. -/
def leastFrom (U R : List Bool) (b : Int) : Nat → Int
  | 0 => -1
  | n + 1 => if freeB U R b then b else leastFrom U R (b + 1) n
theorem leastFrom_spec (U R : List Bool) (b : Int) (n : Nat) (hb : 0 ≤ b) : (leastFrom U R b n = -1 ∧ ∀ x, b ≤ x → x < b + n → freeB U R x = false) ∨
    (b ≤ leastFrom U R b n ∧ leastFrom U R b n < b + n ∧ freeB U R (leastFrom U R b n) = true ∧ ∀ x, b ≤ x → x < leastFrom U R b n → freeB U R x = false) := by
  induction n generalizing b with
  | zero => left; exact ⟨rfl, fun x h1 h2 => by omega⟩
  | succ n ih =>
    unfold leastFrom
    cases hf : freeB U R b with
    | true => right; simp only [if_true]; exact ⟨by omega, by omega, hf, fun x h1 h2 => by omega⟩
    | false =>
      simp only [Bool.false_eq_true, if_false]
      rcases ih (b + 1) (by omega) with ⟨h1, h2⟩ | ⟨h1, h2, h3, h4⟩
      · left
        refine ⟨h1, fun x h3 h4 => ?_⟩
        by_cases e : x = b
        · rw [e]; exact hf
        · exact h2 x (by omega) (by omega)
      · right
        refine ⟨by omega, by omega, h3, fun x h5 h6 => ?_⟩
        by_cases e : x = b
        · rw [e]; exact hf
        · exact h4 x (by omega) h6
/-- How many of n from b on are free. -/
def freeFrom (U R : List Bool) (b : Int) : Nat → Int
  | 0 => 0
  | n + 1 => freeFrom U R b n + if freeB U R (b + n) then 1 else 0
theorem freeFrom_range (U R : List Bool) (b : Int) (n : Nat) : 0 ≤ freeFrom U R b n ∧ freeFrom U R b n ≤ n := by
  induction n with
  | zero => simp [freeFrom]
  | succ n ih => unfold freeFrom; split <;> omega
namespace Cfg
variable (c : Cfg)
/-- The least free block of a class. -/
def least (U R : List Bool) (i : Int) : Int := leastFrom U R (c.from_ i) (c.upto i - c.from_ i).toNat
def free (U R : List Bool) (i : Int) : Int := freeFrom U R (c.from_ i) (c.upto i - c.from_ i).toNat
/-- Reserve from class k on (n classes more): the block; -1. -/
def resFrom (U R : List Bool) (words : Int) (k : Nat) : Nat → Int
  | 0 => -1
  | n + 1 => if words ≤ 2 * 2 ^ k ∧ 0 ≤ c.least U R k then c.least U R k else resFrom U R words (k + 1) n
def reserve (U R : List Bool) (words : Int) : Int := c.resFrom U R words 0 4
/-- What Reserve tells. -/
def reserveA (U R : List Bool) (words : Int) : Int := if words < 1 ∨ 16 < words ∨ c.reserve U R words < 0 then 0 else c.reserve U R words
def reserveE (U R : List Bool) (words : Int) : Int := if words < 1 ∨ 16 < words then 1 else if c.reserve U R words < 0 then 5 else 0
def reserveR (U R : List Bool) (words : Int) : List Bool := if words < 1 ∨ 16 < words ∨ c.reserve U R words < 0 then R else setB R (c.reserve U R words) true
theorem upto_from {c : Cfg} (h : c.Near) (i : Int) : 0 ≤ c.from_ i ∧ c.from_ i ≤ c.upto i ∧ c.upto i ≤ c.count := by
  have h0 := h.n0; have h1 := h.n1; have h2 := h.n2; have h3 := h.n3
  unfold from_ upto count
  by_cases e0 : i = 0
  · subst e0; simp; omega
  by_cases e1 : i = 1
  · subst e1; simp; omega
  by_cases e2 : i = 2
  · subst e2; simp; omega
  by_cases e3 : i = 3
  · subst e3; simp; omega
  simp [e0, e1, e2, e3]; omega
theorem least_range {c : Cfg} (h : c.Near) (U R : List Bool) (i : Int) : c.least U R i = -1 ∨ (0 ≤ c.least U R i ∧ c.least U R i < c.count ∧ freeB U R (c.least U R i) = true ∧ c.from_ i ≤ c.least U R i ∧ c.least U R i < c.upto i) := by
  have hr := upto_from h i
  unfold least
  rcases leastFrom_spec U R (c.from_ i) (c.upto i - c.from_ i).toNat hr.1 with ⟨h1, _⟩ | ⟨h1, h2, h3, _⟩
  · exact .inl h1
  · exact .inr ⟨by omega, by omega, h3, h1, by omega⟩
theorem resFrom_range {c : Cfg} (h : c.Near) (U R : List Bool) (words : Int) (n k : Nat) : c.resFrom U R words k n = -1 ∨ (0 ≤ c.resFrom U R words k n ∧ c.resFrom U R words k n < c.count ∧ freeB U R (c.resFrom U R words k n) = true) := by
  induction n generalizing k with
  | zero => exact .inl rfl
  | succ n ih =>
    unfold resFrom
    split
    · rename_i h1
      rcases least_range h U R k with h2 | h2
      · omega
      · exact .inr ⟨h2.1, h2.2.1, h2.2.2.1⟩
    · exact ih (k + 1)
end Cfg
end Scul
