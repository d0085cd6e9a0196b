/- Lemmas and contracts for scullion's HeapNil: HyA, HyB, HyC, HyD, HeapNil. -/
import Derived.Test.YtcfbanfbldionaaGreatHeapNilQ20
import Derived.Test.YtcfbanfbldionaaGreatHeapNilQ17
import Derived.Test.YtcfbanfbldionaaGreatHeapNilQ9
import Derived.Test.YtcfbanfbldionaaGreatHeapNilQ2
import Derived.ProofKit
import Derived.OpenShut
import Derived.ShutString
import Derived.ChangeOld
import Derived.Test.YtcfbanfbldionaaGreatRows
/- scullionlaw22: config, ref. -/
namespace Scul
open Go Go.Sl Go.RowKit Go.Proofs
def m12 (n : Int) : Int := n % 18446744073709551616 % 12
def kinds22 : List (List Int) := [[1], [3, 1, 3], [2, 3], [3, 3, 3, 3, 3, 3, 3, 3]]
def cfg22 (n0 n1 n2 n3 wk lg : Int) : Cfg := ⟨kinds22, if m12 n0 = 0 ∧ m12 n1 = 0 ∧ m12 n2 = 0 ∧ m12 n3 = 0 then 1 else m12 n0, m12 n1, m12 n2, m12 n3, 2, wk, 40 + 8 * lg⟩
theorem m12_go (n : Int) : wrap64 ((IntKind.u64.wrap n).tmod 12) = m12 n := by
  rw [IntKind.wrap_u64, tmod_of_emod]
  unfold wrap64 m12
  omega
theorem m12_range (n : Int) : 0 ≤ m12 n ∧ m12 n < 12 := by unfold m12; omega
theorem kinds22_may : ∀ k ∈ kinds22, kindMay k = true := by decide +kernel
theorem cfg22_ok (n0 n1 n2 n3 wk lg : Int) (hwk : 0 ≤ wk ∧ wk < 4) (hlg : 0 ≤ lg ∧ lg < 8) : (cfg22 n0 n1 n2 n3 wk lg).Ok := by
  have h0 := m12_range n0; have h1 := m12_range n1; have h2 := m12_range n2; have h3 := m12_range n3
  unfold cfg22
  generalize m12 n0 = a at *
  generalize m12 n1 = b at *
  generalize m12 n2 = c at *
  generalize m12 n3 = d at *
  have hx : ∃ x : Int, x = (if a = 0 ∧ b = 0 ∧ c = 0 ∧ d = 0 then 1 else a) ∧ 0 ≤ x ∧ x < 12 ∧ 0 < x + b + c + d := by
    refine ⟨_, rfl, ?_⟩
    split <;> omega
  obtain ⟨x, hx1, hx2, hx3, hx4⟩ := hx
  rw [← hx1]
  refine { k := by simp [kinds22], n0 := ⟨hx2, by simp; omega⟩, n1 := ⟨h1.1, by simp; omega⟩, n2 := ⟨h2.1, by simp; omega⟩, n3 := ⟨h3.1, by simp; omega⟩, roots := by simp, weaks := ⟨hwk.1, by simp; omega⟩, log := ⟨by simp; omega, by simp; omega⟩, kinds := kinds22_may, k1 := by simp [kinds22], some := hx4, roots1 := by simp, log40 := by simp; omega, log8 := (by show (40 + 8 * lg) % 8 = 0; omega), words := ?_ }
  have e6 : (Cfg.mk kinds22 x b c d 2 wk (40 + 8 * lg)).words = Cfg.lineOf (Cfg.lineOf (Cfg.lineOf (Cfg.lineOf 13 + 2 + wk) + (x + b + c + d + 63) / 64) + (40 + 8 * lg) + (2 * x + 4 * b + 8 * c + 16 * d)) := rfl
  rw [e6]
  unfold Cfg.lineOf
  omega
section
variable {E : Env} {w : World} {F : HP}
set_option maxHeartbeats 1000000 in
theorem ref22_calls (w : World) (x : Int) (hs : Sat E w F) : Calls Tryz.prog 16 #[.int .i64 x] w fun e w' => e = .returned (vagg ⟨3, 0, 0, 0, x⟩) ∧ Sat E w' F := by
  have H2 := Lib.hid (hs.alloc (.cells #[.int .i64 3, .int .i64 0, .int .u64 0, .int .u64 0, .int .i64 x] 26))
  clear hs
  go_enter Tryz.func16, Tryz.ntmps16
  go_wp2_with fail
  refine bodyPost_ret (results_cell_row rfl _ _ _ _ _ _ _ rfl H2.out.at Tryz.underlying26 (by rfl) (by kernel_rfl)) rfl ?_
  exact ⟨rfl, H2.out.right⟩
set_option maxRecDepth 100000 in
set_option maxHeartbeats 2000000 in
theorem config22_calls (w : World) (n0 n1 n2 n3 wk lg : Int) (hwk : 0 ≤ wk ∧ wk < 4) (hlg : 0 ≤ lg ∧ lg < 8) (hs : Sat E w F) :
    Calls Tryz.prog 10 #[.agg #[.int .i64 n0, .int .i64 n1, .int .i64 n2, .int .i64 n3], .int .i64 wk, .int .i64 lg] w fun e w' => ∃ kv ks, e = .returned (.agg (cfgCells kv (cfg22 n0 n1 n2 n3 wk lg))) ∧ ks.map (·.2) = (cfg22 n0 n1 n2 n3 wk lg).kinds ∧ (∃ a cc, kv = .slice a ks.length cc) ∧ Sat E w' (kindsR kv ks * F) := by
  have t1 : IntKind.u64.wrap wk = wk := by rw [IntKind.wrap_u64]; omega
  have t2 : wk.tmod 4 = wk := by rw [Int.tmod_eq_emod_of_nonneg hwk.1]; omega
  have t3 : IntKind.u64.wrap lg = lg := by rw [IntKind.wrap_u64]; omega
  have t4 : lg.tmod 8 = lg := by rw [Int.tmod_eq_emod_of_nonneg hlg.1]; omega
  have HS := Lib.hid (((((((((hs.alloc (.cells #[.int .i64 n0, .int .i64 n1, .int .i64 n2, .int .i64 n3] 22)).alloc (.cells #[.slice none 0 0, .int .i64 0, .int .i64 0, .int .i64 0, .int .i64 0, .int .i64 0, .int .i64 0, .int .i64 0] 29)).alloc (.cells #[.int .i64 1] 3)).alloc (.cells #[.int .i64 3, .int .i64 1, .int .i64 3] 3)).alloc (.cells #[.int .i64 2, .int .i64 3] 3)).alloc (.cells #[.int .i64 3, .int .i64 3, .int .i64 3, .int .i64 3, .int .i64 3, .int .i64 3, .int .i64 3, .int .i64 3] 3)).alloc (.cells #[.slice (some ⟨w.heap.size + 1 + 1, 0, none⟩) 1 1, .slice (some ⟨w.heap.size + 1 + 1 + 1, 0, none⟩) 3 3, .slice (some ⟨w.heap.size + 1 + 1 + 1 + 1, 0, none⟩) 2 2, .slice (some ⟨w.heap.size + 1 + 1 + 1 + 1 + 1, 0, none⟩) 8 8] 62)).alloc (.cells #[.slice (some ⟨w.heap.size + 1 + 1 + 1 + 1 + 1 + 1, 0, none⟩) 4 4, .int .i64 0, .int .i64 0, .int .i64 0, .int .i64 0, .int .i64 2, .int .i64 wk, .int .i64 (40 + 8 * lg)] 29)))
  clear hs
  go_enter Tryz.func10, Tryz.ntmps10
  go_upto_region 2 with fail
  refine atSat (pt (w.heap.size + 1 + 1 + 1 + 1 + 1 + 1 + 1) (.cells #[.slice (some ⟨w.heap.size + 1 + 1 + 1 + 1 + 1 + 1, 0, none⟩) 4 4, .int .i64 0, .int .i64 0, .int .i64 0, .int .i64 0, .int .i64 2, .int .i64 wk, .int .i64 (40 + 8 * lg)] 29) * (pt (w.heap.size + 1 + 1 + 1 + 1 + 1 + 1) (.cells #[.slice (some ⟨w.heap.size + 1 + 1, 0, none⟩) 1 1, .slice (some ⟨w.heap.size + 1 + 1 + 1, 0, none⟩) 3 3, .slice (some ⟨w.heap.size + 1 + 1 + 1 + 1, 0, none⟩) 2 2, .slice (some ⟨w.heap.size + 1 + 1 + 1 + 1 + 1, 0, none⟩) 8 8] 62) * (pt (w.heap.size + 1 + 1 + 1 + 1 + 1) (.cells #[.int .i64 3, .int .i64 3, .int .i64 3, .int .i64 3, .int .i64 3, .int .i64 3, .int .i64 3, .int .i64 3] 3) * (pt (w.heap.size + 1 + 1 + 1 + 1) (.cells #[.int .i64 2, .int .i64 3] 3) * (pt (w.heap.size + 1 + 1 + 1) (.cells #[.int .i64 3, .int .i64 1, .int .i64 3] 3) * (pt (w.heap.size + 1 + 1) (.cells #[.int .i64 1] 3) * (pt (w.heap.size + 1) (.cells #[.slice none 0 0, .int .i64 0, .int .i64 0, .int .i64 0, .int .i64 0, .int .i64 0, .int .i64 0, .int .i64 0] 29) * (pt (w.heap.size) (.cells #[.int .i64 n0, .int .i64 n1, .int .i64 n2, .int .i64 n3] 22) * F)))))))) (by have h8 := HS.out; simpa only [World.size_alloc] using h8) fun W hW => ?_
  clear HS
  generalize w.heap.size + 1 + 1 + 1 + 1 + 1 + 1 + 1 = g7 at *
  generalize w.heap.size + 1 + 1 + 1 + 1 + 1 + 1 = g6 at *
  generalize w.heap.size + 1 + 1 + 1 + 1 + 1 = g5 at *
  generalize w.heap.size + 1 + 1 + 1 + 1 = g4 at *
  generalize w.heap.size + 1 + 1 + 1 = g3 at *
  generalize w.heap.size + 1 + 1 = g2 at *
  generalize w.heap.size + 1 = g1 at *
  generalize w.heap.size = g0 at *
  obtain ⟨R, hR⟩ : ∃ R : Int → Int → Int → Int → HP, R = fun b0 b1 b2 b3 => pt (g7) (.cells #[.slice (some ⟨g6, 0, none⟩) 4 4, .int .i64 b0, .int .i64 b1, .int .i64 b2, .int .i64 b3, .int .i64 2, .int .i64 wk, .int .i64 (40 + 8 * lg)] 29) * (pt (g6) (.cells #[.slice (some ⟨g2, 0, none⟩) 1 1, .slice (some ⟨g3, 0, none⟩) 3 3, .slice (some ⟨g4, 0, none⟩) 2 2, .slice (some ⟨g5, 0, none⟩) 8 8] 62) * (pt (g5) (.cells #[.int .i64 3, .int .i64 3, .int .i64 3, .int .i64 3, .int .i64 3, .int .i64 3, .int .i64 3, .int .i64 3] 3) * (pt (g4) (.cells #[.int .i64 2, .int .i64 3] 3) * (pt (g3) (.cells #[.int .i64 3, .int .i64 1, .int .i64 3] 3) * (pt (g2) (.cells #[.int .i64 1] 3) * (pt (g1) (.cells #[.slice none 0 0, .int .i64 0, .int .i64 0, .int .i64 0, .int .i64 0, .int .i64 0, .int .i64 0, .int .i64 0] 29) * (pt (g0) (.cells #[.int .i64 n0, .int .i64 n1, .int .i64 n2, .int .i64 n3] 22) * F))))))) := ⟨_, rfl⟩
  have HS : Hid (Sat E W (R 0 0 0 0)) := Lib.hid (by rw [hR]; exact hW)
  have HR := Lib.hid hR
  have HN : Hid (∀ b0 b1 b2 b3 W, Sat E W (R b0 b1 b2 b3) → (W.cell? ⟨g0, 0, none⟩ = some (.int .i64 n0) ∧ W.cell? ⟨g0, 1, none⟩ = some (.int .i64 n1) ∧ W.cell? ⟨g0, 2, none⟩ = some (.int .i64 n2) ∧ W.cell? ⟨g0, 3, none⟩ = some (.int .i64 n3)) ∧ CfgAt W g7 (.slice (some ⟨g6, 0, none⟩) 4 4) ⟨kinds22, b0, b1, b2, b3, 2, wk, 40 + 8 * lg⟩ ∧ ∀ i, W.frozen? ⟨g7, i, none⟩ = false) := Lib.hid fun b0 b1 b2 b3 W hW => by
    rw [hR] at hW
    have h5 := hW.right.right.right.right.right.right.right
    exact ⟨⟨h5.cell 0 rfl, h5.cell 1 rfl, h5.cell 2 rfl, h5.cell 3 rfl⟩, cfg_at hW, fun i => hW.free i⟩
  have HW0 : Hid (∀ b0 b1 b2 b3 x W, Sat E W (R b0 b1 b2 b3) → Sat E (W.setCell ⟨g7, 1, none⟩ (.int .i64 x)) (R x b1 b2 b3)) := Lib.hid fun b0 b1 b2 b3 x W hW => by rw [hR] at hW ⊢; exact hW.setCell
  have HW1 : Hid (∀ b0 b1 b2 b3 x W, Sat E W (R b0 b1 b2 b3) → Sat E (W.setCell ⟨g7, 2, none⟩ (.int .i64 x)) (R b0 x b2 b3)) := Lib.hid fun b0 b1 b2 b3 x W hW => by rw [hR] at hW ⊢; exact hW.setCell
  have HW2 : Hid (∀ b0 b1 b2 b3 x W, Sat E W (R b0 b1 b2 b3) → Sat E (W.setCell ⟨g7, 3, none⟩ (.int .i64 x)) (R b0 b1 x b3)) := Lib.hid fun b0 b1 b2 b3 x W hW => by rw [hR] at hW ⊢; exact hW.setCell
  have HW3 : Hid (∀ b0 b1 b2 b3 x W, Sat E W (R b0 b1 b2 b3) → Sat E (W.setCell ⟨g7, 4, none⟩ (.int .i64 x)) (R b0 b1 b2 x)) := Lib.hid fun b0 b1 b2 b3 x W hW => by rw [hR] at hW ⊢; exact hW.setCell
  clear hW hR t1 t2 t3 t4
  go_wp2_with fail
  go_loopw [29] (fun iv wr => ∃ (k b0 b1 b2 b3 : Int), iv = .int .i64 k ∧ ((k = 0 ∧ b0 = 0 ∧ b1 = 0 ∧ b2 = 0 ∧ b3 = 0) ∨ (k = 1 ∧ b0 = m12 n0 ∧ b1 = 0 ∧ b2 = 0 ∧ b3 = 0) ∨ (k = 2 ∧ b0 = m12 n0 ∧ b1 = m12 n1 ∧ b2 = 0 ∧ b3 = 0) ∨ (k = 3 ∧ b0 = m12 n0 ∧ b1 = m12 n1 ∧ b2 = m12 n2 ∧ b3 = 0) ∨ (k = 4 ∧ b0 = m12 n0 ∧ b1 = m12 n1 ∧ b2 = m12 n2 ∧ b3 = m12 n3)) ∧ Sat E wr (R b0 b1 b2 b3)) (fun iv _ => 4 - (RowKit.intOf iv).toNat)
  case atStart => exact ⟨0, 0, 0, 0, 0, rfl, .inl ⟨rfl, rfl, rfl, rfl, rfl⟩, HS.out⟩
  case round =>
    obtain ⟨k, b0, b1, b2, b3, rfl, hc, hw⟩ := hrel
    have HW := Lib.hid hw
    obtain ⟨⟨a0, a1, a2, a3⟩, ⟨k0, k1, k2, k3, k4, k5, k6, k7⟩, fz⟩ := HN.out _ _ _ _ _ hw
    simp only at k1 k2 k3 k4 k5 k6 k7
    have f1 := fz 1; have f2 := fz 2; have f3 := fz 3; have f4 := fz 4
    clear hw HS fz
    rcases hc with ⟨rfl, rfl, rfl, rfl, rfl⟩ | ⟨rfl, rfl, rfl, rfl, rfl⟩ | ⟨rfl, rfl, rfl, rfl, rfl⟩ | ⟨rfl, rfl, rfl, rfl, rfl⟩ | ⟨rfl, rfl, rfl, rfl, rfl⟩
    · go_wp2_with fail
      rw [m12_go]
      exact ⟨⟨1, _, _, _, _, rfl, .inr (.inl ⟨rfl, rfl, rfl, rfl, rfl⟩), HW0.out _ _ _ _ _ _ HW.out⟩, by simp [RowKit.intOf]⟩
    · go_wp2_with fail
      rw [m12_go]
      exact ⟨⟨2, _, _, _, _, rfl, .inr (.inr (.inl ⟨rfl, rfl, rfl, rfl, rfl⟩)), HW1.out _ _ _ _ _ _ HW.out⟩, by simp [RowKit.intOf]⟩
    · go_wp2_with fail
      rw [m12_go]
      exact ⟨⟨3, _, _, _, _, rfl, .inr (.inr (.inr (.inl ⟨rfl, rfl, rfl, rfl, rfl⟩))), HW2.out _ _ _ _ _ _ HW.out⟩, by simp [RowKit.intOf]⟩
    · go_wp2_with fail
      rw [m12_go]
      exact ⟨⟨4, _, _, _, _, rfl, .inr (.inr (.inr (.inr ⟨rfl, rfl, rfl, rfl, rfl⟩))), HW3.out _ _ _ _ _ _ HW.out⟩, by simp [RowKit.intOf]⟩
    · have r0 := m12_range n0; have r1 := m12_range n1; have r2 := m12_range n2; have r3 := m12_range n3
      have heq := eq4i r0.1 r1.1 r2.1 r3.1
      obtain ⟨C0, hC0⟩ : ∃ C0 : Int, C0 = if m12 n0 = 0 ∧ m12 n1 = 0 ∧ m12 n2 = 0 ∧ m12 n3 = 0 then 1 else m12 n0 := ⟨_, rfl⟩
      have HC0 := Lib.hid hC0
      obtain ⟨Z, hZ⟩ : ∃ Z, Z = decide (m12 n0 = 0 ∧ m12 n1 = 0 ∧ m12 n2 = 0 ∧ m12 n3 = 0) := ⟨_, rfl⟩
      rw [← hZ] at heq
      have HZ := Lib.hid hZ
      clear r0 r1 r2 r3 hC0 hZ
      go_upto_if 45 with fail
      go_cut [] (fun wx => Sat E wx (R C0 (m12 n1) (m12 n2) (m12 n3)))
      case first =>
        cases Z with
        | true =>
          have e : C0 = 1 := by rw [HC0.out, if_pos (of_decide_eq_true HZ.out.symm)]
          subst e
          go_wp2_with fail
          go_meet
          exact HW0.out _ _ _ _ _ _ HW.out
        | false =>
          have e : C0 = m12 n0 := by rw [HC0.out, if_neg (of_decide_eq_false HZ.out.symm)]
          subst e
          go_wp2_with fail
          go_meet
          exact HW.out
      case rest =>
        clear heq HW k0 k1 k2 k3 k4 k5 k6 k7 f1 f2 f3 f4 a0 a1 a2 a3
        rename World => W
        obtain ⟨_, ⟨k0, k1, k2, k3, k4, k5, k6, k7⟩, _⟩ := HN.out _ _ _ _ _ hcut
        simp only at k1 k2 k3 k4 k5 k6 k7
        have h2 := hcut
        rw [HR.out] at h2
        have h3 : Sat E W (pt g1 (.cells #[.slice none 0 0, .int .i64 0, .int .i64 0, .int .i64 0, .int .i64 0, .int .i64 0, .int .i64 0, .int .i64 0] 29) * (pt g7 (.cells #[.slice (some ⟨g6, 0, none⟩) 4 4, .int .i64 C0, .int .i64 (m12 n1), .int .i64 (m12 n2), .int .i64 (m12 n3), .int .i64 2, .int .i64 wk, .int .i64 (40 + 8 * lg)] 29) * (pt g6 (.cells #[.slice (some ⟨g2, 0, none⟩) 1 1, .slice (some ⟨g3, 0, none⟩) 3 3, .slice (some ⟨g4, 0, none⟩) 2 2, .slice (some ⟨g5, 0, none⟩) 8 8] 62) * (pt g5 (.cells #[.int .i64 3, .int .i64 3, .int .i64 3, .int .i64 3, .int .i64 3, .int .i64 3, .int .i64 3, .int .i64 3] 3) * (pt g4 (.cells #[.int .i64 2, .int .i64 3] 3) * (pt g3 (.cells #[.int .i64 3, .int .i64 1, .int .i64 3] 3) * (pt g2 (.cells #[.int .i64 1] 3) * (pt g0 (.cells #[.int .i64 n0, .int .i64 n1, .int .i64 n2, .int .i64 n3] 22) * F)))))))) := h2.ac (by ac_rfl)
        clear h2 hcut
        have d0 := h3.cell 0 rfl; have d1 := h3.cell 1 rfl; have d2 := h3.cell 2 rfl; have d3 := h3.cell 3 rfl
        have d4 := h3.cell 4 rfl; have d5 := h3.cell 5 rfl; have d6 := h3.cell 6 rfl; have d7 := h3.cell 7 rfl
        have f0 := h3.free 0; have f1 := h3.free 1; have f2 := h3.free 2; have f3 := h3.free 3
        have f4 := h3.free 4; have f5 := h3.free 5; have f6 := h3.free 6; have f7 := h3.free 7
        have H14 := Lib.hid (Sat.set8 (b0 := .slice (some ⟨g6, 0, none⟩) 4 4) (b1 := .int .i64 C0) (b2 := .int .i64 (m12 n1)) (b3 := .int .i64 (m12 n2)) (b4 := .int .i64 (m12 n3)) (b5 := .int .i64 2) (b6 := .int .i64 wk) (b7 := .int .i64 (40 + 8 * lg)) h3)
        clear h3
        go_wp2_with fail
        refine bodyPost_ret (results_cell_row rfl _ _ g1 _ _ _ _ rfl H14.out.at Tryz.underlying29 (by rfl) (by kernel_rfl)) rfl ?_
        refine ⟨.slice (some ⟨g6, 0, none⟩) 4 4, [(.slice (some ⟨g2, 0, none⟩) 1 1, [1]), (.slice (some ⟨g3, 0, none⟩) 3 3, [3, 1, 3]), (.slice (some ⟨g4, 0, none⟩) 2 2, [2, 3]), (.slice (some ⟨g5, 0, none⟩) 8 8, [3, 3, 3, 3, 3, 3, 3, 3])], ?_, rfl, ⟨some ⟨g6, 0, none⟩, 4, rfl⟩, ?_⟩
        · rw [HC0.out]; rfl
        · have h4 := H14.out.right.right
          have m6 := Sat.row_mk (e := 62) (n := 4) (cap := 4) (size := 1) (cs := [Value.slice (some ⟨g2, 0, none⟩) 1 1, .slice (some ⟨g3, 0, none⟩) 3 3, .slice (some ⟨g4, 0, none⟩) 2 2, .slice (some ⟨g5, 0, none⟩) 8 8]) h4 (Nat.le_refl _) (by simp [maxLen]) rfl rfl
          have m5 := Sat.row_mk (e := 3) (n := 8) (cap := 8) (size := 1) (cs := i64s [3, 3, 3, 3, 3, 3, 3, 3]) (Sat.swap m6) (Nat.le_refl _) (by simp [maxLen]) rfl rfl
          obtain ⟨K6, hK6⟩ : ∃ K6 : HP, K6 = row 62 1 (.slice (some ⟨g6, 0, none⟩) 4 4) 4 [Value.slice (some ⟨g2, 0, none⟩) 1 1, .slice (some ⟨g3, 0, none⟩) 3 3, .slice (some ⟨g4, 0, none⟩) 2 2, .slice (some ⟨g5, 0, none⟩) 8 8] := ⟨_, rfl⟩
          rw [← hK6] at m5
          obtain ⟨K5, hK5⟩ : ∃ K5 : HP, K5 = ints (.slice (some ⟨g5, 0, none⟩) 8 8) [3, 3, 3, 3, 3, 3, 3, 3] := ⟨_, rfl⟩
          have m5' := Sat.eq m5 (show _ = K5 * (K6 * (pt g4 (.cells #[.int .i64 2, .int .i64 3] 3) * (pt g3 (.cells #[.int .i64 3, .int .i64 1, .int .i64 3] 3) * (pt g2 (.cells #[.int .i64 1] 3) * (pt g0 (.cells #[.int .i64 n0, .int .i64 n1, .int .i64 n2, .int .i64 n3] 22) * F))))) from by rw [hK5]; rfl)
          have m4 := Sat.row_mk (e := 3) (n := 2) (cap := 2) (size := 1) (cs := i64s [2, 3]) (m5'.ac (B := pt g4 (.cells #[.int .i64 2, .int .i64 3] 3) * (K5 * (K6 * (pt g3 (.cells #[.int .i64 3, .int .i64 1, .int .i64 3] 3) * (pt g2 (.cells #[.int .i64 1] 3) * (pt g0 (.cells #[.int .i64 n0, .int .i64 n1, .int .i64 n2, .int .i64 n3] 22) * F)))))) (by ac_rfl)) (Nat.le_refl _) (by simp [maxLen]) rfl rfl
          obtain ⟨K4, hK4⟩ : ∃ K4 : HP, K4 = ints (.slice (some ⟨g4, 0, none⟩) 2 2) [2, 3] := ⟨_, rfl⟩
          have m4' := Sat.eq m4 (show _ = K4 * (K5 * (K6 * (pt g3 (.cells #[.int .i64 3, .int .i64 1, .int .i64 3] 3) * (pt g2 (.cells #[.int .i64 1] 3) * (pt g0 (.cells #[.int .i64 n0, .int .i64 n1, .int .i64 n2, .int .i64 n3] 22) * F))))) from by rw [hK4]; rfl)
          have m3 := Sat.row_mk (e := 3) (n := 3) (cap := 3) (size := 1) (cs := i64s [3, 1, 3]) (m4'.ac (B := pt g3 (.cells #[.int .i64 3, .int .i64 1, .int .i64 3] 3) * (K4 * (K5 * (K6 * (pt g2 (.cells #[.int .i64 1] 3) * (pt g0 (.cells #[.int .i64 n0, .int .i64 n1, .int .i64 n2, .int .i64 n3] 22) * F)))))) (by ac_rfl)) (Nat.le_refl _) (by simp [maxLen]) rfl rfl
          obtain ⟨K3, hK3⟩ : ∃ K3 : HP, K3 = ints (.slice (some ⟨g3, 0, none⟩) 3 3) [3, 1, 3] := ⟨_, rfl⟩
          have m3' := Sat.eq m3 (show _ = K3 * (K4 * (K5 * (K6 * (pt g2 (.cells #[.int .i64 1] 3) * (pt g0 (.cells #[.int .i64 n0, .int .i64 n1, .int .i64 n2, .int .i64 n3] 22) * F))))) from by rw [hK3]; rfl)
          have m2 := Sat.row_mk (e := 3) (n := 1) (cap := 1) (size := 1) (cs := i64s [1]) (m3'.ac (B := pt g2 (.cells #[.int .i64 1] 3) * (K3 * (K4 * (K5 * (K6 * (pt g0 (.cells #[.int .i64 n0, .int .i64 n1, .int .i64 n2, .int .i64 n3] 22) * F)))))) (by ac_rfl)) (Nat.le_refl _) (by simp [maxLen]) rfl rfl
          obtain ⟨K2, hK2⟩ : ∃ K2 : HP, K2 = ints (.slice (some ⟨g2, 0, none⟩) 1 1) [1] := ⟨_, rfl⟩
          have m2' := Sat.eq m2 (show _ = K2 * (K3 * (K4 * (K5 * (K6 * (pt g0 (.cells #[.int .i64 n0, .int .i64 n1, .int .i64 n2, .int .i64 n3] 22) * F))))) from by rw [hK2]; rfl)
          have hkr : kindsR (.slice (some ⟨g6, 0, none⟩) 4 4) [(.slice (some ⟨g2, 0, none⟩) 1 1, [1]), (.slice (some ⟨g3, 0, none⟩) 3 3, [3, 1, 3]), (.slice (some ⟨g4, 0, none⟩) 2 2, [2, 3]), (.slice (some ⟨g5, 0, none⟩) 8 8, [3, 3, 3, 3, 3, 3, 3, 3])] = K6 * (K2 * (K3 * (K4 * K5))) := by
            rw [hK6, hK2, hK3, hK4, hK5]
            show row 62 1 _ _ _ * (_ * (_ * (_ * (_ * emp)))) = _
            rw [sep_emp]
            rfl
          rw [hkr]
          exact Sat.right (m2'.ac (B := pt g0 (.cells #[.int .i64 n0, .int .i64 n1, .int .i64 n2, .int .i64 n3] 22) * ((K6 * (K2 * (K3 * (K4 * K5)))) * F)) (by ac_rfl))
end
end Scul
/- scullionlaw22: Open, Lay, Commit, Crash of a heap that is one. -/
namespace Scul
open Go Go.Sl Go.RowKit Go.Proofs
open Hp Redo
section
variable {E : Env} {w : World} {F : HP} {X : HX} {U R : List Bool} {d : Dev} {db : Nat} {c : Cfg}
theorem openI (w : World) (hi : HInv c d U) (h : Sat E w (dev db d * F)) :
    Calls Tryz.prog 12 #[.pointer (some ⟨db, 0, none⟩)] w fun e w' => ∃ X : HX, X.db = db ∧ X.c = c ∧ e = .returned (.tuple #[.pointer (some ⟨X.h, 0, none⟩), .int .i64 0]) ∧ Sat E w' (hpR X U (List.replicate c.count.toNat false) * (dev db d * F)) := by
  refine (hOpen_calls w hi.up.1 h).mono fun e w' h2 => ?_
  unfold OP at h2
  rw [open_inv hi] at h2
  exact h2
theorem layI (w : World) (hXc : X.c = c) (hi : HInv c d U) {b k : Int} {vs : List Val} {fv : Value} {e : Nat} {l : List Int} (hR : getB R b = true) (hU : getB U b = false) (hk64 : I64 k) (ho : objE c.kinds k vs e = (0, l)) (hl : (l.length : Int) ≤ c.size b) (hl1 : 1 ≤ l.length) (hwf : ∀ v ∈ vs, v.Wf) (hlu : ∀ x ∈ l, U64 x) (hf : ∀ W, Sat E W F → RdV W fv vs) (h : Sat E w (hpR X U R * (dev X.db d * F))) :
    Calls Tryz.prog 14 #[.pointer (some ⟨X.h, 0, none⟩), .int .i64 b, .int .i64 k, fv, .int .u64 (e : Int)] w fun e' w' => e' = .returned (.int .i64 0) ∧ ∃ d', HInv c d' U ∧ objD c.kinds (blockW c d'.read b) = some (k, vs.map Val.told, e % 2 ^ 32) ∧ (∀ i : Nat, (i : Int) < c.at_ b ∨ c.at_ b + c.size b ≤ i → d'.read[i]? = d.read[i]?) ∧ Sat E w' (hpR X U R * (dev X.db d' * F)) := by
  subst hXc
  have hb : 0 ≤ b ∧ b < X.c.count := by
    have h1 := getB_in hR
    rw [(hp_len h).2] at h1
    have := hi.w.ok.some
    omega
  refine (hLay_calls w b k vs fv e hk64 hwf hf h).mono fun e' w' ⟨he, h2⟩ => ?_
  obtain ⟨h3, h4, h5, h6⟩ := lay_inv hi hR hU hb ho hl hl1 hwf hlu (dev_ok h2.right)
  rw [h3] at he
  exact ⟨he, _, h4, h5, h6, h2⟩
theorem commitI (w : World) (hXc : X.c = c) (hi : HInv c d U) {bl : List Int} {ba : Option Addr} {bc : Nat} {ws : List Wr} {wa : Option Addr} {wc : Nat} (hwf : ∀ x ∈ ws, x.Wf) (hwl : ws.length ≤ 100000) (hbl : ∀ W, Sat E W F → Rd W 1 (.slice ba bl.length bc) bl.length (i64s bl)) (hws : ∀ W, Sat E W F → RdW W (.slice wa ws.length wc) ws)
    (hfit : fits c U R d bl ws = 0) (hne : ¬ (bl = [] ∧ ws = [])) (hg : ∀ b ∈ bl, Good c d.read (setAll U bl true) b) (h : Sat E w (hpR X U R * (dev X.db d * F))) :
    Calls Tryz.prog 17 #[.pointer (some ⟨X.h, 0, none⟩), .slice ba bl.length bc, .slice wa ws.length wc] w fun e w' => e = .returned (.int .i64 0) ∧ ∃ d', HInv c d' (setAll U bl true) ∧ Clean d' ∧ (∀ i : Nat, (i : Int) < c.logAt ∨ c.blocksAt ≤ i → d'.read[i]? = (Dev.sets d.read (Redo.ents (turnE c (setAll U bl true) (wordsOf bl) ++ wents c U d ws)))[i]?) ∧ Sat E w' (hpR X (setAll U bl true) (setAll R bl false) * (dev X.db d' * F)) := by
  subst hXc
  refine (hCommit_calls w bl ba bc ws wa wc hwf hwl hbl hws (by rw [hi.w.len]; exact Int.le_refl _) h).mono fun e' w' ⟨he, h2⟩ => ?_
  obtain ⟨h3, h4, h5, h6, h7, h8⟩ := commit_inv hi (fun x hx => ⟨(hwf x hx).val, (hwf x hx).field⟩) hfit hne (hp_len h).2 hg (dev_ok h2.right)
  rw [h3] at he
  rw [h4, h5] at h2
  exact ⟨he, _, h6, h7, h8, h2⟩
theorem crashI (w : World) (hi : HInv c d U) (hc : Clean d) (h : Sat E w (dev db d * F)) :
    Calls Tryz.prog 23 #[.pointer (some ⟨db, 0, none⟩), .slice none 0 0] w fun e w' => e = .returned (.tuple #[]) ∧ ∃ d', HInv c d' U ∧ Clean d' ∧ d'.read = d.read ∧ Sat E w' (dev db d' * F) := by
  refine (crash_calls w (.slice none 0 0) [] (by simp) (fun W _ => ⟨rfl, Nat.zero_le _, .inl ⟨rfl, none, 0, rfl, fun _ => rfl⟩⟩) h).mono fun e w' ⟨he, h2⟩ => ?_
  obtain ⟨h3, h4, h5⟩ := crash_inv hi hc (dev_ok h2)
  exact ⟨he, _, h3, h4, h5, h2⟩
theorem formatI (w : World) (c : Cfg) (ks : List (Value × List Int)) (kv : Value) (hok : c.Ok) (hk : ks.map (·.2) = c.kinds) (hs : Sat E w (kindsR kv ks * F)) :
    Calls Tryz.prog 11 #[.agg (cfgCells kv c)] w fun e w' => ∃ b d, e = .returned (.tuple #[.pointer (some ⟨b, 0, none⟩), .int .i64 0]) ∧ HInv c d (List.replicate c.count.toNat false) ∧ Clean d ∧ Sat E w' (dev b d * F) := by
  refine (format_calls w c ks kv (fun W hW => kindsR_rd hW) hk hs (Cfg.may_of_ok hok)).mono fun e w' ⟨b, he, h2⟩ => ?_
  exact ⟨b, _, he, format_inv hok (dev_ok h2), of_clean _, Sat.mid h2⟩
end
end Scul
/- scullionlaw22: awake. -/
namespace Scul
open Go Go.Sl Go.RowKit Go.Proofs
open Hp Redo
def v7 : Val := ⟨1, 7, 0, 0, 0⟩
def wr0 : Wr := ⟨2, 0, 0, ⟨3, 0, 0, 0, 0⟩⟩
theorem cfgA_eq : cfg22 2 0 0 0 0 0 = ⟨kinds22, 2, 0, 0, 0, 2, 0, 40⟩ := by kernel_rfl
theorem objE_v7 : objE kinds22 0 [v7] 0 = (0, [((hdrW 0 2 0 : Nat) : Int), 7]) := by
  unfold objE
  rw [show kindAt kinds22 0 = some [1] from by decide +kernel]
  rfl
section
variable {E : Env} {w : World} {F : HP}
set_option maxRecDepth 100000 in
set_option maxHeartbeats 2000000 in
theorem awake22_calls (w : World) (hs : Sat E w F) : Calls Tryz.prog 18 #[] w fun e w' => e = .returned (.bool true) ∧ Sat E w' F := by
  have hok : (cfg22 2 0 0 0 0 0).Ok := cfg22_ok 2 0 0 0 0 0 (by decide) (by decide)
  obtain ⟨c, hc⟩ : ∃ c, c = cfg22 2 0 0 0 0 0 := ⟨_, rfl⟩
  have hce : c = ⟨kinds22, 2, 0, 0, 0, 2, 0, 40⟩ := by rw [hc, cfgA_eq]
  rw [← hc] at hok
  obtain ⟨U0, hU0⟩ : ∃ U0, U0 = List.replicate c.count.toNat false := ⟨_, rfl⟩
  have hU02 : U0 = [false, false] := by rw [hU0, hce]; decide +kernel
  have hkinds : c.kinds = kinds22 := by rw [hce]
  have hroot : c.rootOf 0 = 16 := by rw [hce]; decide +kernel
  have hat0 : c.at_ 0 = 72 ∧ c.size 0 = 2 ∧ c.blocksAt = 72 ∧ c.bitsAt = 24 ∧ c.logAt = 32 ∧ c.log = 40 ∧ c.words = 80 ∧ c.count = 2 := by rw [hce]; decide +kernel
  have hrv : Hp.reserveA c U0 U0 0 = 0 ∧ Hp.reserveE c U0 U0 0 = 0 ∧ Hp.reserveR c U0 U0 0 = [true, false] := by rw [hU02, hce]; decide +kernel
  have HOK := Lib.hid hok
  have HCF := Lib.hid (config22_calls w 2 0 0 0 0 0 (by decide) (by decide) hs)
  rw [← hc] at HCF
  have HFM : Hid (∀ V kv ks, ks.map (·.2) = c.kinds → Sat E V (kindsR kv ks * F) → Calls Tryz.prog 11 #[.agg (cfgCells kv c)] V fun e w' => ∃ b d, e = .returned (.tuple #[.pointer (some ⟨b, 0, none⟩), .int .i64 0]) ∧ HInv c d U0 ∧ Clean d ∧ Sat E w' (dev b d * F)) := Lib.hid fun V kv ks hk hV => by rw [hU0]; exact formatI V c ks kv hok hk hV
  have HOP : Hid (∀ V b d U (G : HP), HInv c d U → Sat E V (dev b d * G) → Calls Tryz.prog 12 #[.pointer (some ⟨b, 0, none⟩)] V fun e w' => ∃ X : HX, X.db = b ∧ X.c = c ∧ e = .returned (.tuple #[.pointer (some ⟨X.h, 0, none⟩), .int .i64 0]) ∧ Sat E w' (hpR X U U0 * (dev b d * G))) := Lib.hid fun V b d U G hi hV => by rw [hU0]; exact openI V hi hV
  have HRS : Hid (∀ V (X : HX) (G : HP), X.c = c → Sat E V (hpR X U0 U0 * G) → Calls Tryz.prog 13 #[.pointer (some ⟨X.h, 0, none⟩), .int .i64 0] V fun e w' => e = .returned (.tuple #[.int .i64 0, .int .i64 0]) ∧ Sat E w' (hpR X U0 [true, false] * G)) := Lib.hid fun V X G hX hV => by
    have h1 := hReserve_calls V 0 hV
    rw [hX, hrv.1, hrv.2.1, hrv.2.2] at h1
    exact h1
  have HLY : Hid (∀ V (X : HX) d (G : HP) g t f, X.c = c → HInv c d U0 → Sat E V (pt g (.cells (vcells v7) t f) * (hpR X U0 [true, false] * (dev X.db d * G))) → Calls Tryz.prog 14 #[.pointer (some ⟨X.h, 0, none⟩), .int .i64 0, .int .i64 0, .slice (some ⟨g, 0, none⟩) 1 1, .int .u64 0] V fun e' w' => e' = .returned (.int .i64 0) ∧ ∃ d', HInv c d' U0 ∧ objD c.kinds (blockW c d'.read 0) = some (0, [v7], 0) ∧ Sat E w' (hpR X U0 [true, false] * (dev X.db d' * G))) := Lib.hid fun V X d G g t f hX hi hV => by
    have h1 := layI (X := X) (R := [true, false]) (F := pt g (.cells (vcells v7) t f) * G) V hX hi (b := 0) (k := 0) (vs := [v7]) (fv := .slice (some ⟨g, 0, none⟩) 1 1) (e := 0) (l := [((hdrW 0 2 0 : Nat) : Int), 7]) (by decide) (by rw [hU02]; decide) ⟨by decide, by decide⟩ (by rw [hkinds]; exact objE_v7) (by rw [hat0.2.1]; decide) (by decide) (by intro v hv; rw [List.mem_singleton] at hv; subst hv; exact ⟨by decide, by decide, ⟨by decide, by decide⟩, ⟨by decide, by decide⟩, by decide⟩) (by
        intro x hx
        have := hdrW_lt 0 2 0
        simp only [List.mem_cons, List.not_mem_nil, or_false] at hx
        unfold U64
        rcases hx with rfl | rfl <;> omega) (fun W hW => rd_val hW) (hV.ac (by ac_rfl))
    refine h1.mono fun e' w' ⟨he, d', h2, h3, _, h4⟩ => ⟨he, d', h2, h3, ?_⟩
    exact Sat.right (h4.ac (B := pt g (.cells (vcells v7) t f) * (hpR X U0 [true, false] * (dev X.db d' * G))) (by ac_rfl))
  have HCM : Hid (∀ V (X : HX) d (G : HP) g1 t1 f1 g2 t2 f2, X.c = c → HInv c d U0 → objD c.kinds (blockW c d.read 0) = some (0, [v7], 0) → Sat E V (pt g1 (.cells #[.int .i64 0] t1 f1) * (pt g2 (.cells (wcells wr0) t2 f2) * (hpR X U0 [true, false] * (dev X.db d * G)))) → Calls Tryz.prog 17 #[.pointer (some ⟨X.h, 0, none⟩), .slice (some ⟨g1, 0, none⟩) 1 1, .slice (some ⟨g2, 0, none⟩) 1 1] V fun e' w' => e' = .returned (.int .i64 0) ∧ ∃ d', HInv c d' (setAll U0 [0] true) ∧ Clean d' ∧ d'.read[16]? = some 1 ∧ objD c.kinds (blockW c d'.read 0) = some (0, [v7], 0) ∧ Sat E w' (dev X.db d' * G)) := Lib.hid fun V X d G g1 t1 f1 g2 t2 f2 hX hi ho hV => by
    have hro : rootAt c wr0 = 16 := by unfold rootAt; rw [if_pos (show wr0.kind = 2 from rfl)]; exact hroot
    have hwok : WrOk c U0 d wr0 := wrOk_root (.inl rfl) ⟨by decide, by decide, ⟨by decide, by decide⟩, ⟨by decide, by decide⟩, by decide⟩ ⟨by decide, by decide⟩ (by rw [hro]; decide) (.inr rfl)
    have hcn : countN c U0 d [0] [wr0] = 1 + (wordsOf [0]).length := by
      rw [countN_roots hok (by intro b hb; rw [List.mem_singleton] at hb; subst hb; rw [hat0.2.2.2.2.2.2.2]; decide) (by intro w hw; rw [List.mem_singleton] at hw; subst hw; decide)]
      rfl
    have hwl := wordsOf_length [0]
    simp only [List.length_cons, List.length_nil] at hwl
    have hfit : fits c U0 [true, false] d [0] [wr0] = 0 := fits_of (by decide) (by intro w hw; rw [List.mem_singleton] at hw; subst hw; exact ⟨hwok, fun _ => .inr (by decide)⟩) (by rw [hcn]; omega) (by rw [hcn, hat0.2.2.2.2.2.1]; omega) (by rw [hcn]; omega)
    have h1 := commitI (X := X) (R := [true, false]) (F := (pt g1 (.cells #[.int .i64 0] t1 f1) * pt g2 (.cells (wcells wr0) t2 f2)) * G) V hX hi (bl := [0]) (ba := some ⟨g1, 0, none⟩) (bc := 1) (ws := [wr0]) (wa := some ⟨g2, 0, none⟩) (wc := 1)
      (by intro x hx; rw [List.mem_singleton] at hx; subst hx; exact ⟨⟨by decide, by decide, ⟨by decide, by decide⟩, ⟨by decide, by decide⟩, by decide⟩, ⟨by decide, by decide⟩, ⟨by decide, by decide⟩, ⟨by decide, by decide⟩⟩) (by decide) (fun W hW => rd_one (hW.ac (B := pt g1 (.cells #[.int .i64 0] t1 f1) * (pt g2 (.cells (wcells wr0) t2 f2) * G)) (by ac_rfl)))
      (fun W hW => ⟨rfl, by simp [maxLen], .inr ⟨g2, 0, 1, rfl, Nat.le_refl _, fun j u hu => by rw [Nat.zero_add]; exact (hW.ac (B := pt g2 (.cells (wcells wr0) t2 f2) * (pt g1 (.cells #[.int .i64 0] t1 f1) * G)) (by ac_rfl)).cell j (by simpa [wrCells] using hu)⟩⟩) hfit (by simp)
      (by intro b hb; rw [List.mem_singleton] at hb; subst hb; exact ⟨0, [v7], 0, ho, by intro v hv h3; rw [List.mem_singleton] at hv; subst hv; cases h3⟩) (hV.ac (by ac_rfl))
    refine h1.mono fun e' w' ⟨he, d', h2, h3, h4, h5⟩ => ⟨he, d', h2, h3, ?_, ?_, ?_⟩
    · have h6 := h4 16 (.inl (by rw [hat0.2.2.2.2.1]; decide))
      rw [h6, roots_word hok _ (by intro b hb; rw [List.mem_singleton] at hb; subst hb; rw [hat0.2.2.2.2.2.2.2]; decide) (by intro w hw; rw [List.mem_singleton] at hw; subst hw; decide) (by rw [hat0.2.2.2.1]; decide)]
      simp only [List.map_cons, List.map_nil, hro]
      rw [Dev.sets_cons, Dev.sets_nil]
      show (d.read.set 16 (rootW wr0))[16]? = some 1
      rw [List.getElem?_set_self (by have := hi.w.len; rw [hat0.2.2.2.2.2.2.1] at this; omega)]
      rfl
    · have hbe : blockW c d'.read 0 = blockW c d.read 0 := by
        refine blockW_congr hok ⟨by decide, by rw [hat0.2.2.2.2.2.2.2]; decide⟩ fun i hi1 hi2 => ?_
        rw [hat0.1] at hi1
        rw [h4 i (.inr (by rw [hat0.2.2.1]; omega)), roots_block hok _ (by intro b hb; rw [List.mem_singleton] at hb; subst hb; rw [hat0.2.2.2.2.2.2.2]; decide) (by intro w hw; rw [List.mem_singleton] at hw; subst hw; exact ⟨by decide, by rw [hro]; decide⟩) (by rw [hat0.2.2.1]; omega)]
      rw [hbe]
      exact ho
    · exact Sat.right (h5.ac (B := (hpR X (setAll U0 [0] true) (setAll [true, false] [0] false) * (pt g1 (.cells #[.int .i64 0] t1 f1) * pt g2 (.cells (wcells wr0) t2 f2))) * (dev X.db d' * G)) (by ac_rfl))
  have HCR : Hid (∀ V b d U (G : HP), HInv c d U → Clean d → Sat E V (dev b d * G) → Calls Tryz.prog 23 #[.pointer (some ⟨b, 0, none⟩), .slice none 0 0] V fun e w' => e = .returned (.tuple #[]) ∧ ∃ d', HInv c d' U ∧ d'.read = d.read ∧ Sat E w' (dev b d' * G)) := Lib.hid fun V b d U G hi hcl hV => (crashI V hi hcl hV).mono fun e w' ⟨he, d', h1, _, h2, h3⟩ => ⟨he, d', h1, h2, h3⟩
  have HRT : Hid (∀ V (X : HX) d U R (G : HP), X.c = c → HInv c d U → d.read[16]? = some 1 → Sat E V (hpR X U R * (dev X.db d * G)) → Calls Tryz.prog 25 #[.pointer (some ⟨X.h, 0, none⟩), .int .i64 0] V fun e w' => e = .returned (.tuple #[.int .i64 0, .int .i64 0]) ∧ Sat E w' (hpR X U R * (dev X.db d * G))) := Lib.hid fun V X d U R G hX hi h16 hV => by
    have h1 := hRoot_calls V 0 hV
    rw [hX, hroot, show (16 : Int) = ((16 : Nat) : Int) from rfl, rootV_of hi.up.1 (by have := hi.w.len; rw [hat0.2.2.2.2.2.2.1] at this; omega) h16, show wrap64 (wrap64 1 - 1) = (0 : Int) from by unfold wrap64; omega] at h1
    exact h1
  have HLD : Hid (∀ V (X : HX) d R (G : HP), X.c = c → HInv c d (setAll U0 [0] true) → objD c.kinds (blockW c d.read 0) = some (0, [v7], 0) → Sat E V (hpR X (setAll U0 [0] true) R * (dev X.db d * G)) → Calls Tryz.prog 20 #[.pointer (some ⟨X.h, 0, none⟩), .int .i64 0, .int .i64 0] V fun e w' => e = .returned (.tuple #[vagg v7, .int .i64 0]) ∧ Sat E w' (hpR X (setAll U0 [0] true) R * (dev X.db d * G))) := Lib.hid fun V X d R G hX hi ho hV => by
    have h1 := hload_calls V 0 0 (by rw [hX, hi.w.len]; exact Int.le_refl _) hV
    rw [hX, obj_of hi.up.1 (by rw [hU02]; decide) ho] at h1
    exact h1
  clear hs hok hce hU0 hU02 hkinds hroot hat0 hrv hc
  unfold cfgCells at *
  generalize setAll U0 [0] true = U1 at *
  go_enter Tryz.func18, Tryz.ntmps18
  have HRF := Lib.hid (fun V (x : Int) (G : HP) (hV : Sat E V G) => ref22_calls V x hV)
  unfold vagg at HRF HLD
  unfold vcells at HRF HLD HLY
  unfold wcells at HCM
  go_wp2_with (first
    | (go_at_call 10; refine HCF.out.mono ?_; rintro e w1 ⟨kv, ks, rfl, hk, ⟨ka, kc, rfl⟩, h1⟩)
    | (go_at_call 11; refine (HFM.out _ _ _ hk h1).mono ?_; rintro e w2 ⟨b, d0, rfl, hi0, hcl0, h2⟩)
    | (go_at_call 12; refine (HOP.out _ _ _ _ _ hi0 h2).mono ?_; clear h2; rintro e w3 ⟨X, rfl, hXc, rfl, h3⟩)
    | (go_at_call 13; refine (HRS.out _ X _ hXc h3).mono ?_; clear h3; rintro e w4 ⟨rfl, h4⟩)
    | (go_at_call 14; refine (HLY.out _ X _ _ _ _ _ hXc hi0 (h4.alloc _)).mono ?_; rintro e w5 ⟨rfl, d1, hi1, ho1, h5⟩)
    | (go_at_call 16; refine (HRF.out _ _ _ (h5.alloc _)).mono ?_; rintro e w6 ⟨rfl, h6⟩)
    | (go_at_call 17; refine (HCM.out _ X _ _ _ _ _ _ _ _ hXc hi1 ho1 (Sat.swap (h6.alloc _))).mono ?_; rintro e w7 ⟨rfl, d2, hi2, hcl2, hw2, ho2, h7⟩)
    | (go_at_call 23; refine (HCR.out _ _ _ _ _ hi2 hcl2 h7).mono ?_; rintro e w8 ⟨rfl, d3, hi3, hr3, h8⟩; rw [← hr3] at hw2 ho2)
    | (go_at_call 12; refine (HOP.out _ _ _ _ _ hi3 h8).mono ?_; clear h8; rintro e w9 ⟨X2, hX2b, hX2c, rfl, h9⟩; rw [← hX2b] at h9)
    | (go_at_call 25; refine (HRT.out _ X2 _ _ _ _ hX2c hi3 hw2 h9).mono ?_; clear h9; rintro e w10 ⟨rfl, h10⟩)
    | (go_at_call 20; refine (HLD.out _ X2 _ _ _ hX2c hi3 ho2 h10).mono ?_; clear h10; rintro e w11 ⟨rfl, h11⟩))
  go_ret
  exact ⟨rfl, (h11.alloc _).right.right.right⟩
end
end Scul
/- heap: a heap that there isn't. -/
namespace Scul
open Go Go.Sl Go.RowKit Go.Proofs
def HN.J (E : Env) (F : HP) (_ : Nat) (a : Act) (w : World) : Prop := Sat E w F ∧ HC.fr 1 a
section
variable {E : Env} {w : World} {F : HP}
theorem hreadNil_calls (w : World) (b : Int) : Calls Tryz.prog 78 #[.pointer none, .int .i64 b] w fun e w' => e = .returned (.tuple #[.int .i64 0, .slice none 0 0, .int .i64 1]) ∧ w' = w := by
  go_enter Tryz.func78, Tryz.ntmps78
  go_wp2_with fail
  go_ret3
  exact ⟨rfl, rfl⟩
theorem hKindNil_calls (w : World) (b : Int) : Calls Tryz.prog 21 #[.pointer none, .int .i64 b] w fun e w' => e = .returned (.tuple #[.int .i64 0, .int .i64 1]) ∧ w' = w := by
  have HR := Lib.hid (hreadNil_calls w b)
  go_enter Tryz.func21, Tryz.ntmps21
  go_wp2_with (go_at_call 78; refine HR.out.mono ?_; rintro e w1 ⟨rfl, rfl⟩)
  go_ret2
  exact ⟨rfl, rfl⟩
set_option maxRecDepth 100000 in
set_option maxHeartbeats 1000000 in
theorem hLoadNil_calls (w : World) (b i : Int) (h : Sat E w F) : Calls Tryz.prog 20 #[.pointer none, .int .i64 b, .int .i64 i] w fun e w' => e = .returned (.tuple #[vagg Val.nil, .int .i64 1]) ∧ Sat E w' F := by
  obtain ⟨g, hg⟩ : ∃ g, g = w.heap.size := ⟨_, rfl⟩
  obtain ⟨Z, hZ⟩ : ∃ Z : HP, Z = pt g (.cells #[.int .i64 0, .int .i64 0, .int .u64 0, .int .u64 0, .int .i64 0] 26) := ⟨_, rfl⟩
  have HR := Lib.hid (fun V => hreadNil_calls V b)
  have HS : Hid (Sat E (w.alloc (.cells #[.int .i64 0, .int .i64 0, .int .u64 0, .int .u64 0, .int .i64 0] 26)) (Z * F)) := Lib.hid (by rw [hZ, hg]; exact h.alloc _)
  have HZ : Hid (∀ V (A : HP), Sat E V (Z * A) → (V.cell? ⟨g, 0, none⟩ = some (.int .i64 0) ∧ V.cell? ⟨g, 1, none⟩ = some (.int .i64 0) ∧ V.cell? ⟨g, 2, none⟩ = some (.int .u64 0) ∧ V.cell? ⟨g, 3, none⟩ = some (.int .u64 0) ∧ V.cell? ⟨g, 4, none⟩ = some (.int .i64 0)) ∧ V.frozen? ⟨g, 0, none⟩ = false ∧ V.frozen? ⟨g, 1, none⟩ = false ∧ V.frozen? ⟨g, 2, none⟩ = false ∧ V.frozen? ⟨g, 3, none⟩ = false ∧ V.frozen? ⟨g, 4, none⟩ = false) := Lib.hid fun V A hV => by
    rw [hZ] at hV
    exact ⟨⟨hV.cell 0 rfl, hV.cell 1 rfl, hV.cell 2 rfl, hV.cell 3 rfl, hV.cell 4 rfl⟩, hV.free 0, hV.free 1, hV.free 2, hV.free 3, hV.free 4⟩
  have HSET : Hid (∀ V (A : HP) a b c d e, Sat E V (Z * A) → Sat E (((((V.setCell ⟨g, 0, none⟩ a).setCell ⟨g, 1, none⟩ b).setCell ⟨g, 2, none⟩ c).setCell ⟨g, 3, none⟩ d).setCell ⟨g, 4, none⟩ e) (pt g (.cells #[a, b, c, d, e] 26) * A)) := Lib.hid fun V A a b c d e hV => by
    rw [hZ] at hV
    exact Sat.set5 hV
  subst hg
  clear h hZ
  go_enter Tryz.func20, Tryz.ntmps20
  go_upto_region 1 with fail
  refine atSat _ HS.out fun W h1 => ?_
  have H1 := Lib.hid h1
  clear h1 HS
  go_upto_region 2 with (go_at_call 78; refine (HR.out _).mono ?_; rintro e w2 ⟨rfl, rfl⟩)
  obtain ⟨⟨z0, z1, z2, z3, z4⟩, f0, f1, f2, f3, f4⟩ := HZ.out _ _ H1.out
  clear HR
  go_wp2_with fail
  refine bodyPost_ret (results_cell_row_tmp rfl _ _ _ _ _ _ _ rfl (HSET.out _ _ _ _ _ _ _ H1.out).at Tryz.underlying26 (by rfl) (by kernel_rfl)) rfl ?_
  exact ⟨rfl, (HSET.out _ _ _ _ _ _ _ H1.out).right⟩
theorem hRefsNil_calls (w : World) (b : Int) : Calls Tryz.prog 40 #[.pointer none, .int .i64 b] w fun e w' => e = .returned (.slice none 0 0) ∧ w' = w := by
  have HR := Lib.hid (hreadNil_calls w b)
  go_enter Tryz.func40, Tryz.ntmps40
  go_wp2_with (go_at_call 78; refine HR.out.mono ?_; rintro e w1 ⟨rfl, rfl⟩)
  go_loopw [20, 8] (fun iv lv wr => iv = .int .i64 0 ∧ lv = .slice none 0 0 ∧ wr = w1) (fun _ _ _ => 0)
  case atStart => exact ⟨rfl, rfl, rfl⟩
  case round =>
    obtain ⟨rfl, rfl, rfl⟩ := hrel
    go_wp2_with fail
    go_ret
    exact ⟨rfl, rfl⟩
theorem hRootNil_calls (w : World) (b : Int) : Calls Tryz.prog 25 #[.pointer none, .int .i64 b] w fun e w' => e = .returned (.tuple #[.int .i64 0, .int .i64 1]) ∧ w' = w := by
  go_enter Tryz.func25, Tryz.ntmps25
  go_wp2_with fail
  go_ret2
  exact ⟨rfl, rfl⟩
theorem hWeakNil_calls (w : World) (b : Int) : Calls Tryz.prog 38 #[.pointer none, .int .i64 b] w fun e w' => e = .returned (.tuple #[.int .i64 0, .int .i64 1]) ∧ w' = w := by
  go_enter Tryz.func38, Tryz.ntmps38
  go_wp2_with fail
  go_ret2
  exact ⟨rfl, rfl⟩
theorem hReserveNil_calls (w : World) (b : Int) : Calls Tryz.prog 13 #[.pointer none, .int .i64 b] w fun e w' => e = .returned (.tuple #[.int .i64 0, .int .i64 1]) ∧ w' = w := by
  go_enter Tryz.func13, Tryz.ntmps13
  go_wp2_with fail
  go_ret2
  exact ⟨rfl, rfl⟩
theorem hCancelNil_calls (w : World) (b : Int) : Calls Tryz.prog 47 #[.pointer none, .int .i64 b] w fun e w' => e = .returned (.bool false) ∧ w' = w := by
  go_enter Tryz.func47, Tryz.ntmps47
  go_wp2_with fail
  go_ret
  exact ⟨rfl, rfl⟩
theorem hLayNil_calls (w : World) (b k : Int) (v : Value) (e : Nat) : Calls Tryz.prog 14 #[.pointer none, .int .i64 b, .int .i64 k, v, .int .u64 e] w fun e w' => e = .returned (.int .i64 1) ∧ w' = w := by
  go_enter Tryz.func14, Tryz.ntmps14
  go_wp2_with fail
  go_ret
  exact ⟨rfl, rfl⟩
theorem hReleaseNil_calls (w : World) (v : Value) : Calls Tryz.prog 43 #[.pointer none, v] w fun e w' => e = .returned (.int .i64 1) ∧ w' = w := by
  go_enter Tryz.func43, Tryz.ntmps43
  go_wp2_with fail
  go_ret
  exact ⟨rfl, rfl⟩
theorem hWeakenNil_calls (w : World) (v : Value) : Calls Tryz.prog 37 #[.pointer none, v] w fun e w' => e = .returned (.int .i64 1) ∧ w' = w := by
  go_enter Tryz.func37, Tryz.ntmps37
  go_wp2_with fail
  go_ret
  exact ⟨rfl, rfl⟩
theorem hUsedNil_calls (w : World) : Calls Tryz.prog 35 #[.pointer none] w fun e w' => e = .returned (.pointer none) ∧ w' = w := by
  go_enter Tryz.func35, Tryz.ntmps35
  go_wp2_with fail
  go_ret
  exact ⟨rfl, rfl⟩
theorem hLayoutNil_calls (w : World) : Calls Tryz.prog 48 #[.pointer none] w fun e w' => e = .returned (.pointer none) ∧ w' = w := by
  go_enter Tryz.func48, Tryz.ntmps48
  go_wp2_with fail
  go_ret
  exact ⟨rfl, rfl⟩
theorem hFreeNil_calls (w : World) (i : Int) : Calls Tryz.prog 45 #[.pointer none, .int .i64 i] w fun e w' => e = .returned (.int .i64 0) ∧ w' = w := by
  go_enter Tryz.func45, Tryz.ntmps45
  go_wp2_with fail
  go_ret
  exact ⟨rfl, rfl⟩
set_option maxRecDepth 100000 in
set_option maxHeartbeats 1000000 in
theorem hFitsNil_calls (w : World) (ba wa : Option Addr) (bn bc wn wc : Nat) (h : Sat E w F) : Calls Tryz.prog 46 #[.pointer none, .slice ba bn bc, .slice wa wn wc] w fun e w' => e = .returned (.int .i64 1) ∧ Sat E w' F := by
  have H0 := Lib.hid (Sat.alloc2 h (.cells #[.pointer none] 35) (.cells #[.slice ba bn bc] 38))
  clear h
  go_enter Tryz.func46, Tryz.ntmps46
  go_upto_region 1 with fail
  refine atSat _ H0.out fun W0 hW0 => ?_
  have b0 := hW0.right.cell 0 rfl
  have b1 := hW0.cell 0 rfl
  have H1 := Lib.hid hW0
  clear hW0 H0
  go_wp2_with fail
  go_ret
  exact ⟨rfl, H1.out.right.right⟩
set_option maxRecDepth 100000 in
set_option maxHeartbeats 1000000 in
theorem hCommitNil_calls (w : World) (ba wa : Option Addr) (bn bc wn wc : Nat) (h : Sat E w F) : Calls Tryz.prog 17 #[.pointer none, .slice ba bn bc, .slice wa wn wc] w fun e w' => e = .returned (.int .i64 1) ∧ Sat E w' F := by
  have HFT := Lib.hid (hFitsNil_calls w ba wa bn bc wn wc h)
  clear h
  go_enter Tryz.func17, Tryz.ntmps17
  go_wp2_with fail
  refine wp_scope_ghost 0 (HN.J E F) rfl ?_ ?_
  · rintro n a w ⟨hW, ha⟩
    obtain ⟨u, hu⟩ : ∃ u : Nat → Value, u = fun k => a.tmps.getD k undef := ⟨_, rfl⟩
    unfold HC.fr at ha
    rw [← hu] at ha
    clear hu HFT
    unfold HC.arr at ha
    subst ha
    go_wp2_with fail
    simp only [Exit.jump]
    go_ret
    exact ⟨rfl, hW⟩
  · intro hpass
    have HPASS := Lib.hid hpass
    clear hpass
    go_wp2_with (go_at_call 46; refine HFT.out.mono ?_; rintro e w1 ⟨rfl, h1⟩)
    refine wp_goto ?_
    show (0 : Nat) = 0 ∧ _
    exact ⟨rfl, 0, h1, rfl⟩
end
end Scul
/- scullionlaw22.HeapNil: whatever number and writes: a heap that there isn't answers ErrArg (or zero values) to each call, and of no device none is opened. No condition. -/
namespace Scul
open Go Go.Sl Go.RowKit Go.Proofs
section
variable {E : Env} {F : HP}
set_option maxRecDepth 100000 in
set_option maxHeartbeats 4000000 in
theorem heapNil_walk0 (w : World) (b : Int) (o : Option Addr) (n c : Nat) (h : Sat E w F) :
    Calls Tryz.prog 9 #[.int .i64 b, .slice o n c] w fun e w' => e = .returned (.bool true) ∧ Sat E w' F := by
  have H := Lib.hid h
  have HL := Lib.hid (fun V (hV : Sat E V F) => hLoadNil_calls V b b hV)
  have HK := Lib.hid (fun V => hKindNil_calls V b)
  have HRT := Lib.hid (fun V => hRootNil_calls V b)
  have HWK := Lib.hid (fun V => hWeakNil_calls V b)
  have HRS := Lib.hid (fun V => hReserveNil_calls V b)
  have HOP := Lib.hid (fun V => hOpenNil_calls V)
  unfold vagg vcells at HL
  unfold Val.nil at HL
  simp only at HL
  clear h
  go_enter Tryz.func9, Tryz.ntmps9
  go_upto_region 3 with (go_at_call 21; refine (HK.out _).mono ?_; rintro e w1 ⟨rfl, rfl⟩)
  go_upto_region 4 with (go_at_call 20; refine (HL.out _ H.out).mono ?_; rintro e w2 ⟨rfl, h2⟩)
  refine atSat _ (h2.alloc _).right fun W h3 => ?_
  have H3 := Lib.hid h3
  clear h3 h2 HL HK H
  go_upto_region 7 with (first
    | (go_at_call 25; refine (HRT.out _).mono ?_; rintro e w3 ⟨rfl, rfl⟩)
    | (go_at_call 38; refine (HWK.out _).mono ?_; rintro e w3 ⟨rfl, rfl⟩)
    | (go_at_call 13; refine (HRS.out _).mono ?_; rintro e w3 ⟨rfl, rfl⟩))
  clear HRT HWK HRS
  go_wp2_with (first
    | (go_at_call 12; refine (HOP.out _).mono ?_; rintro e w3 ⟨rfl, rfl⟩)
    | (go_at_call 47; refine (hCancelNil_calls _ _).mono ?_; rintro e w3 ⟨rfl, rfl⟩)
    | (go_at_call 46; refine (hFitsNil_calls _ _ _ _ _ _ _ H3.out).mono ?_; rintro e w4 ⟨rfl, h4⟩)
    | (go_at_call 14; refine (hLayNil_calls _ _ _ _ _).mono ?_; rintro e w3 ⟨rfl, rfl⟩)
    | (go_at_call 17; refine (hCommitNil_calls _ _ _ _ _ _ _ h4).mono ?_; clear h4; rintro e w5 ⟨rfl, h5⟩)
    | (go_at_call 43; refine (hReleaseNil_calls _ _).mono ?_; rintro e w3 ⟨rfl, rfl⟩)
    | (go_at_call 37; refine (hWeakenNil_calls _ _).mono ?_; rintro e w3 ⟨rfl, rfl⟩)
    | (go_at_call 40; refine (hRefsNil_calls _ _).mono ?_; rintro e w3 ⟨rfl, rfl⟩)
    | (go_at_call 35; refine (hUsedNil_calls _).mono ?_; rintro e w3 ⟨rfl, rfl⟩)
    | (go_at_call 45; refine (hFreeNil_calls _ _).mono ?_; rintro e w3 ⟨rfl, rfl⟩)
    | (go_at_call 48; refine (hLayoutNil_calls _).mono ?_; rintro e w3 ⟨rfl, rfl⟩)
    | (go_at_call 18; refine (awake22_calls _ h5).mono ?_; rintro e w6 ⟨rfl, h6⟩))
  go_ret
  exact ⟨rfl, h6⟩
theorem heapNil_walk (w : World) (b : Int) (o : Option Addr) (n c : Nat) (_ : I64 b) :
    Calls Tryz.prog 9 #[.int .i64 b, .slice o n c] w fun e w' => e = .returned (.bool true) ∧ Sat w.env w' (old w) :=
  heapNil_walk0 w b o n c (Sat.init w)
end
end Scul
