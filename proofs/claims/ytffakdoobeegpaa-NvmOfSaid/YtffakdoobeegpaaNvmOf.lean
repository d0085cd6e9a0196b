/- scullionlaw3.NvmOf: whatever words, address and word: a device of any words has them, sure, and no step counted; a store changes what is sure only behind a flush and a fence, and only the word that it names. No condition. -/
import Derived.Test.YtffakdoobeegpaaNvmO
import Derived.Test.YtffakdoobeegpaaNvmL
namespace Scul
open Go Go.Sl Go.RowKit Go.Proofs
section
variable {E : Env} {F : HP}
theorem of_calls' (w : World) (l : List Int) (ao : Option Addr) (n c : Nat) (hn : l.length = n) (hU : ∀ x ∈ l, U64 x) (hl : l.length ≤ 65536) (hv : ∀ W, Sat E W F → Rd W 1 (.slice ao n c) l.length (u64s l)) (hs : Sat E w F) :
    Calls Try.prog 37 #[.slice ao n c] w fun e w' => ∃ b, e = .returned (.pointer (some ⟨b, 0, none⟩)) ∧ Sat E w' (dev b (Dev.of l) * F) := by
  subst hn
  have := of_calls w l ao c hU hv hs
  rwa [List.take_of_length_le (by omega)] at this
theorem app_tail {w : World} {v : Value} {m : List Int} {R : HP} (h : Sat E w (row 27 1 v (0 + m.length) ([] ++ u64s m) * R)) (j : Nat) (x : Int) (hj : j < m.length) :
    ∃ g c, v = .slice (some ⟨g, 0, none⟩) m.length c ∧ w.cell? ⟨g, j, none⟩ = some (.int .u64 (m.getD j 0)) ∧ w.frozen? ⟨g, j, none⟩ = false ∧ (j : Int) < m.length ∧
      Hid (Sat E (w.setCell ⟨g, j, none⟩ (.int .u64 x)) (words (.slice (some ⟨g, 0, none⟩) m.length c) (m.set j x) * R)) := by
  have h9 : Sat E w (words v m * R) := by simpa [words_def] using h
  obtain ⟨g, c, rfl, _⟩ := words_at h9 j hj
  exact ⟨g, c, rfl, words_cell h9 j hj, words_free h9 j, by omega, words_set h9 j x hj⟩
set_option maxRecDepth 100000 in
set_option maxHeartbeats 4000000 in
theorem nvmOf_walk (w : World) (l : List Int) (ao : Option Addr) (c : Nat) (at_ x : Int) (hv : Rd w 1 (.slice ao l.length c) l.length (u64s l)) (hU : ∀ x ∈ l, U64 x) (_ : I64 at_) (hx : U64 x) :
    Calls Try.prog 7 #[.slice ao l.length c, .int .i64 at_, .int .u64 x] w fun e w' => e = .returned (.bool true) ∧ Sat w.env w' (old w) := by
  have hs := Sat.init w
  rcases (show 300 < (l.length : Int) ∨ (l.length : Int) ≤ 300 from by omega) with q | q
  · obtain ⟨m, hm⟩ : ∃ m, m = l.take 300 := ⟨_, rfl⟩
    have hml : m.length = 300 := by rw [hm, List.length_take]; omega
    have hmU : ∀ x ∈ m, U64 x := by rw [hm]; exact fun x hx => hU x (List.mem_of_mem_take hx)
    have hR : ∀ W, Sat w.env W (old w) → Rd W 1 (.slice ao 300 c) m.length (u64s m) := by
      intro W hW
      have := Rd.take (Rd.old hv hW) 300 (by omega)
      rw [Nat.mul_one] at this
      rw [hml, hm, u64s_take]
      exact this
    have HR := Lib.hid hR; have HL := Lib.hid hml; have HMU := Lib.hid hmU
    obtain ⟨_, _, heq, hc⟩ := hv.val
    cases heq
    have hvm := Lib.hid hv.most
    clear hR hml hmU hm hU hv
    go_enter Try.func7, Try.ntmps7
    go_wp2_with fail
    refine (of_calls' _ m ao _ c HL.out HMU.out (by have := HL.out; omega) HR.out hs).mono ?_
    rintro e w1 ⟨b, rfl, h1⟩
    go_wp2_with fail
    refine (len_calls _ h1).mono ?_
    rintro e w2 ⟨rfl, rfl⟩
    rw [show ((Dev.of m).read.length : Int) = 300 from by rw [show (Dev.of m).read = m from rfl, HL.out]; rfl]
    go_wp2_with fail
    refine (steps_calls _ h1).mono ?_
    rintro e w2 ⟨rfl, rfl⟩
    rw [show (Dev.of m).steps = 0 from rfl]
    go_wp2_with fail
    refine (wordsD_calls _ h1).mono ?_
    rintro e w2 ⟨v2, rfl, h2⟩
    rw [show (Dev.of m).sure = m from rfl] at h2
    go_wp2_with fail
    refine (same_calls _ m m _ _ h2.rd (HR.out _ h2.right.right)).mono ?_
    rintro e w3 ⟨rfl, n3, rfl⟩
    rw [decide_eq_true rfl]
    have h3 := h2.right.drewN n3
    clear h1 h2
    go_wp2_with fail
    obtain ⟨j, hj, hjm⟩ := Dev.pick_idx at_ 300 (by omega) (by omega)
    rw [← HL.out] at hjm
    replace hj : wrap64 ((IntKind.u64.wrap at_).tmod 300) = (j : Int) := hj
    rw [hj]
    obtain ⟨d1, hd1⟩ : ∃ d1, d1 = (Dev.of m).store j x := ⟨_, rfl⟩
    have he1 : (Dev.of m).storeE j = 0 := by
      rw [Dev.store_upE (Dev.up_of m)]
      simp [Dev.isB, Dev.of, hjm]
    have hs1 : d1.sure = m := by rw [hd1, Dev.store_sure]; rfl
    have hfin := Dev.of_sure m j x hjm
    have HJ := Lib.hid hj; have HJM := Lib.hid hjm; have HS1 := Lib.hid hs1
    refine (store_calls _ _ _ hx h3).mono ?_
    rintro e w4 ⟨rfl, h4⟩
    rw [he1]
    rw [← hd1] at h4 hfin
    have HFIN := Lib.hid hfin
    clear hd1 he1 hfin h3 hs1 hj hjm
    go_wp2_with fail
    refine (wordsD_calls _ h4).mono ?_
    rintro e w5 ⟨v5, rfl, h5⟩
    rw [HS1.out] at h5
    go_wp2_with fail
    refine (same_calls _ m m _ _ h5.rd (HR.out _ h5.right.right)).mono ?_
    rintro e w6 ⟨rfl, n6, rfl⟩
    rw [decide_eq_true rfl]
    have h6 := h5.right.drewN n6
    clear h4 h5
    go_wp2_with fail
    refine (flush_calls _ _ h6).mono ?_
    rintro e w7 ⟨rfl, h7⟩
    go_wp2_with fail
    refine (fence_calls _ h7).mono ?_
    rintro e w8 ⟨rfl, h8⟩
    generalize ((d1.flush ↑j).fence) = d4 at *
    generalize (d1.flush ↑j).fenceE = E4
    generalize d1.flushE ↑j = E3
    have hA := h8.row_nil 27 1
    have HA := Lib.hid hA
    have HRD := Lib.hid (HR.out _ h8.right)
    have b1 : 0 + m.length ≤ maxLen := by have := HL.out; simp only [maxLen]; omega
    have b2 : (0 + m.length) * 8 ≤ 140737488355328 := by have := HL.out; omega
    have B1 := Lib.hid b1; have B2 := Lib.hid b2; have H1 := Lib.hid (u64s_one m)
    clear hA b1 b2 h6 h7
    go_wp2_with (at_builtin; refine wpl_append rfl _ _ st64 rfl _ _ _ HA.out rfl _ _ _ HRD.out rfl H1.out B1.out B2.out ?_; intro v9 w9 h9; obtain ⟨g, cg, rfl, cj, fj, hjlt, H9⟩ := app_tail h9 j x HJM.out)
    refine (wordsD_calls _ (Sat.swap H9.out)).mono ?_
    rintro e w10 ⟨v10, rfl, h10⟩
    rw [HFIN.out.1] at h10
    go_wp2_with fail
    refine (same_calls _ (m.set j x) (m.set j x) _ _ h10.rd h10.right.right.rd).mono ?_
    rintro e w11 ⟨rfl, n11, rfl⟩
    rw [decide_eq_true rfl]
    have h11 := h10.right.drewN n11
    clear h10 H9
    go_wp2_with fail
    refine (steps_calls _ h11).mono ?_
    rintro e w12 ⟨rfl, rfl⟩
    rw [HFIN.out.2]
    go_wp2_with fail
    refine (awake3_calls _ h11).mono ?_
    rintro e w13 ⟨rfl, h13⟩
    go_wp2_with fail
    go_ret
    exact ⟨rfl, h13.right.right⟩
  · obtain ⟨m, rfl⟩ : ∃ m, m = l := ⟨_, rfl⟩
    have HR : Hid (∀ W, Sat w.env W (old w) → Rd W 1 (.slice ao m.length c) m.length (u64s m)) := fun W hW => Rd.old hv hW
    have HL := Lib.hid q; have HMU := Lib.hid hU
    obtain ⟨_, _, heq, hc⟩ := hv.val
    cases heq
    clear hU hv
    rcases (show (m.length : Int) = 0 ∨ 0 < m.length from by omega) with h0 | h0
    · have H0 := Lib.hid (List.eq_nil_of_length_eq_zero (by omega) : m = [])
      go_enter Try.func7, Try.ntmps7
      go_wp2_with fail
      refine (of_calls' _ m ao _ c rfl HMU.out (by have := HL.out; omega) HR.out hs).mono ?_
      rintro e w1 ⟨b, rfl, h1⟩
      go_wp2_with fail
      refine (len_calls _ h1).mono ?_
      rintro e w2 ⟨rfl, rfl⟩
      rw [show ((Dev.of m).read.length : Int) = m.length from rfl]
      go_wp2_with fail
      refine (steps_calls _ h1).mono ?_
      rintro e w2 ⟨rfl, rfl⟩
      rw [show (Dev.of m).steps = 0 from rfl]
      go_wp2_with fail
      refine (wordsD_calls _ h1).mono ?_
      rintro e w2 ⟨v2, rfl, h2⟩
      rw [show (Dev.of m).sure = m from rfl] at h2
      go_wp2_with fail
      refine (same_calls _ m m _ _ h2.rd (HR.out _ h2.right.right)).mono ?_
      rintro e w3 ⟨rfl, n3, rfl⟩
      rw [decide_eq_true rfl]
      have h3 := h2.right.drewN n3
      clear h1 h2
      go_wp2_with fail
      refine (store_calls _ _ _ hx h3).mono ?_
      rintro e w4 ⟨rfl, h4⟩
      rw [show (Dev.of m).storeE 0 = 1 from by rw [Dev.store_upE (Dev.up_of m)]; simp [Dev.isB, Dev.of, H0.out]]
      go_wp2_with fail
      refine (awake3_calls _ h4).mono ?_
      rintro e w13 ⟨rfl, h13⟩
      go_wp2_with fail
      go_ret
      exact ⟨rfl, h13.right⟩
    · have H0 := Lib.hid h0
      have h0' : ¬ ((m.length : Int) = 0) := by omega
      go_enter Try.func7, Try.ntmps7
      go_wp2_with fail
      refine (of_calls' _ m ao _ c rfl HMU.out (by have := HL.out; omega) HR.out hs).mono ?_
      rintro e w1 ⟨b, rfl, h1⟩
      go_wp2_with fail
      refine (len_calls _ h1).mono ?_
      rintro e w2 ⟨rfl, rfl⟩
      rw [show ((Dev.of m).read.length : Int) = m.length from rfl]
      go_wp2_with fail
      refine (steps_calls _ h1).mono ?_
      rintro e w2 ⟨rfl, rfl⟩
      rw [show (Dev.of m).steps = 0 from rfl]
      go_wp2_with fail
      refine (wordsD_calls _ h1).mono ?_
      rintro e w2 ⟨v2, rfl, h2⟩
      rw [show (Dev.of m).sure = m from rfl] at h2
      go_wp2_with fail
      refine (same_calls _ m m _ _ h2.rd (HR.out _ h2.right.right)).mono ?_
      rintro e w3 ⟨rfl, n3, rfl⟩
      rw [decide_eq_true rfl]
      have h3 := h2.right.drewN n3
      clear h1 h2
      go_wp2_with fail
      obtain ⟨j, hj, hjm⟩ := Dev.pick_idx at_ m.length H0.out (by have := HL.out; omega)
      rw [hj]
      obtain ⟨d1, hd1⟩ : ∃ d1, d1 = (Dev.of m).store j x := ⟨_, rfl⟩
      have he1 : (Dev.of m).storeE j = 0 := by
        rw [Dev.store_upE (Dev.up_of m)]
        simp [Dev.isB, Dev.of, hjm]
      have hs1 : d1.sure = m := by rw [hd1, Dev.store_sure]; rfl
      have hfin := Dev.of_sure m j x hjm
      have HJ := Lib.hid hj; have HJM := Lib.hid hjm; have HS1 := Lib.hid hs1
      refine (store_calls _ _ _ hx h3).mono ?_
      rintro e w4 ⟨rfl, h4⟩
      rw [he1]
      rw [← hd1] at h4 hfin
      have HFIN := Lib.hid hfin
      clear hd1 he1 hfin h3 hs1 hj hjm
      go_wp2_with fail
      refine (wordsD_calls _ h4).mono ?_
      rintro e w5 ⟨v5, rfl, h5⟩
      rw [HS1.out] at h5
      go_wp2_with fail
      refine (same_calls _ m m _ _ h5.rd (HR.out _ h5.right.right)).mono ?_
      rintro e w6 ⟨rfl, n6, rfl⟩
      rw [decide_eq_true rfl]
      have h6 := h5.right.drewN n6
      clear h4 h5
      go_wp2_with fail
      refine (flush_calls _ _ h6).mono ?_
      rintro e w7 ⟨rfl, h7⟩
      go_wp2_with fail
      refine (fence_calls _ h7).mono ?_
      rintro e w8 ⟨rfl, h8⟩
      generalize ((d1.flush ↑j).fence) = d4 at *
      generalize (d1.flush ↑j).fenceE = E4
      generalize d1.flushE ↑j = E3
      have hA := h8.row_nil 27 1
      have HA := Lib.hid hA
      have HRD := Lib.hid (HR.out _ h8.right)
      have b1 : 0 + m.length ≤ maxLen := by have := HL.out; simp only [maxLen]; omega
      have b2 : (0 + m.length) * 8 ≤ 140737488355328 := by have := HL.out; omega
      have B1 := Lib.hid b1; have B2 := Lib.hid b2; have H1 := Lib.hid (u64s_one m)
      clear hA b1 b2 h6 h7
      go_wp2_with (at_builtin; refine wpl_append rfl _ _ st64 rfl _ _ _ HA.out rfl _ _ _ HRD.out rfl H1.out B1.out B2.out ?_; intro v9 w9 h9; obtain ⟨g, cg, rfl, cj, fj, hjlt, H9⟩ := app_tail h9 j x HJM.out)
      refine (wordsD_calls _ (Sat.swap H9.out)).mono ?_
      rintro e w10 ⟨v10, rfl, h10⟩
      rw [HFIN.out.1] at h10
      go_wp2_with fail
      refine (same_calls _ (m.set j x) (m.set j x) _ _ h10.rd h10.right.right.rd).mono ?_
      rintro e w11 ⟨rfl, n11, rfl⟩
      rw [decide_eq_true rfl]
      have h11 := h10.right.drewN n11
      clear h10 H9
      go_wp2_with fail
      refine (steps_calls _ h11).mono ?_
      rintro e w12 ⟨rfl, rfl⟩
      rw [HFIN.out.2]
      go_wp2_with fail
      refine (awake3_calls _ h11).mono ?_
      rintro e w13 ⟨rfl, h13⟩
      go_wp2_with fail
      go_ret
      exact ⟨rfl, h13.right.right⟩
end
end Scul
