/- Of: a device of words, all sure. -/
import Derived.Test.YtffakdoobeegpaaNvmK
namespace Scul
open Go Go.Sl Go.RowKit Go.Proofs
section
variable {E : Env} {w : World} {F : HP} {b : Nat} {d : Dev}

theorem ok_of (l : List Int) (hl : l.length ≤ 65536) (hU : ∀ x ∈ l, U64 x) : (Dev.of l).Ok :=
  ⟨rfl, hl, hU, hU, by simp [Dev.of], by simp [Dev.of], by simp [Dev.of]⟩
theorem dev_of (l : List Int) (hl : l.length ≤ 65536) (hU : ∀ x ∈ l, U64 x) {v1 v2 : Value} {b3 b4 : Nat} (h : Sat E w (words v1 l * (words v2 l * (pt b3 (.map #[] 0) * (pt b4 (.cells #[v1, v2, .map (some b3), .int .i64 0, .int .i64 0, .bool false] 117) * F))))) :
    Sat E w (dev b4 (Dev.of l) * F) := by
  have h3 : Sat E w (pt b3 (.map #[] 0) * (words v1 l * (words v2 l * (pt b4 (.cells #[v1, v2, .map (some b3), .int .i64 0, .int .i64 0, .bool false] 117) * F)))) := h.ac (by ac_rfl)
  have h4 : Sat E w (imap b3 [] * (words v1 l * (words v2 l * (pt b4 (.cells #[v1, v2, .map (some b3), .int .i64 0, .int .i64 0, .bool false] 117) * F)))) :=
    h3.imap_mk (by simp [reads]) (by simp) (by simp) (by simp)
  refine dev_mk (rv := v1) (sv := v2) (mb := b3) (m := []) (ok_of l hl hU) ?_
  show Sat E w (pt b4 _ * (words _ l * (words _ l * (imap b3 [] * (flrows [] [] * F)))))
  rw [flrows_nil, emp_sep]
  exact h4.ac (by ac_rfl)

set_option maxRecDepth 100000 in
set_option maxHeartbeats 4000000 in
theorem of_calls (w : World) (l : List Int) (ao : Option Addr) (c : Nat) (hU : ∀ x ∈ l, U64 x) (hv : ∀ W, Sat E W F → Rd W 1 (.slice ao l.length c) l.length (u64s l)) (hs : Sat E w F) :
    Calls Try.prog 37 #[.slice ao l.length c] w fun e w' => ∃ b, e = .returned (.pointer (some ⟨b, 0, none⟩)) ∧ Sat E w' (dev b (Dev.of (l.take 65536)) * F) := by
  have hmm := @run_makeMap Try.prog
  have HU := Lib.hid (fun x hx => hU x (List.mem_of_mem_take hx) : ∀ x ∈ l.take 65536, U64 x)
  have HR : Hid (∀ k, k ≤ l.length → ∀ W, Sat E W F → Rd W 1 (.slice ao k c) k (u64s (l.take k))) := by
    intro k hk W hW
    have := Rd.take (hv W hW) k hk
    rw [Nat.mul_one] at this
    rwa [u64s_take]
  have HM := Lib.hid (hv w hs).most
  obtain ⟨_, _, heq, hc⟩ := (hv w hs).val
  cases heq
  clear hU hv
  rcases (show (l.length : Int) < 65536 ∨ (l.length : Int) = 65536 ∨ 65536 < (l.length : Int) from by omega) with hl | hl | hl
  · have ht : l.take 65536 = l := List.take_of_length_le (by omega)
    have HT := Lib.hid ht
    have HL := Lib.hid (show l.length ≤ 65536 from by omega)
    clear ht
    go_enter Try.func37, Try.ntmps37
    go_wp2_with fail
    refine (clone64_calls _ l _ (by omega) (by simpa using HR.out l.length (Nat.le_refl _) _ hs) hs).mono ?_
    rintro e w1 ⟨v1, rfl, h1⟩
    obtain ⟨a1, c1, rfl, _, _⟩ := words_val h1
    go_wp2_with fail
    refine (clone64_calls _ l _ (by omega) (by simpa using HR.out l.length (Nat.le_refl _) _ h1.right) h1).mono ?_
    rintro e w2 ⟨v2, rfl, h2⟩
    obtain ⟨a2, c2, rfl, _, _⟩ := words_val h2
    go_wp2_with fail
    go_ret
    rw [HT.out] at HU ⊢
    exact ⟨_, rfl, dev_of l HL.out HU.out (Sat.ac (Sat.alloc2 h2 _ _) (by ac_rfl))⟩
  · obtain ⟨m, hm⟩ : ∃ m, m = l.take 65536 := ⟨_, rfl⟩
    have hml : m.length = 65536 := by rw [hm, List.length_take]; omega
    have hR2 := HR.out 65536 (by omega)
    rw [← hm] at hR2 HU ⊢
    have hR3 : ∀ W, Sat E W F → Rd W 1 (.slice ao 65536 c) m.length (u64s m) := by rw [hml]; exact hR2
    have HR3 := Lib.hid hR3
    have HL := Lib.hid hml
    clear hm hR2 hR3 hml HR
    go_enter Try.func37, Try.ntmps37
    go_wp2_with fail
    refine (clone64_calls _ m _ (by have := HL.out; omega) (HR3.out _ hs) hs).mono ?_
    rintro e w1 ⟨v1, rfl, h1⟩
    obtain ⟨a1, c1, rfl, _, _⟩ := words_val h1
    go_wp2_with fail
    refine (clone64_calls _ m _ (by have := HL.out; omega) (HR3.out _ h1.right) h1).mono ?_
    rintro e w2 ⟨v2, rfl, h2⟩
    obtain ⟨a2, c2, rfl, _, _⟩ := words_val h2
    go_wp2_with fail
    go_ret
    exact ⟨_, rfl, dev_of m (by have := HL.out; omega) HU.out (Sat.ac (Sat.alloc2 h2 _ _) (by ac_rfl))⟩
  · obtain ⟨m, hm⟩ : ∃ m, m = l.take 65536 := ⟨_, rfl⟩
    have hml : m.length = 65536 := by rw [hm, List.length_take]; omega
    have hR2 := HR.out 65536 (by omega)
    rw [← hm] at hR2 HU ⊢
    have hR3 : ∀ W, Sat E W F → Rd W 1 (.slice ao 65536 c) m.length (u64s m) := by rw [hml]; exact hR2
    have HR3 := Lib.hid hR3
    have HL := Lib.hid hml
    clear hm hR2 hR3 hml HR
    go_enter Try.func37, Try.ntmps37
    go_wp2_with fail
    refine (clone64_calls _ m _ (by have := HL.out; omega) (HR3.out _ hs) hs).mono ?_
    rintro e w1 ⟨v1, rfl, h1⟩
    obtain ⟨a1, c1, rfl, _, _⟩ := words_val h1
    go_wp2_with fail
    refine (clone64_calls _ m _ (by have := HL.out; omega) (HR3.out _ h1.right) h1).mono ?_
    rintro e w2 ⟨v2, rfl, h2⟩
    obtain ⟨a2, c2, rfl, _, _⟩ := words_val h2
    go_wp2_with fail
    go_ret
    exact ⟨_, rfl, dev_of m (by have := HL.out; omega) HU.out (Sat.ac (Sat.alloc2 h2 _ _) (by ac_rfl))⟩
end
end Scul
