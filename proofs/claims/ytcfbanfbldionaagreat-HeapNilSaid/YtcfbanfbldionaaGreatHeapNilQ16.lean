/- Lemmas and contracts for scullion's HeapNil: HwV, HwW, HwX, HwY, HwZ, HpD, HpM. -/
import Derived.Test.YtcfbanfbldionaaGreatHeapNilQ15
import Derived.Lib.AppendZeros
import Derived.Test.YtcfbanfbldionaaGreatHeapNilQ4
import Derived.Test.YtcfbanfbldionaaGreatHeapNilQ9
import Derived.Test.YtcfbanfbldionaaGreatHeapNilQ11
/- graph: is, root, field; what graphs that may be answer. -/
namespace Scul
open Go Go.Sl Go.RowKit Go.Proofs
section
variable {E : Env} {w : World} {F R : HP}
theorem gis_calls (w : World) (na : Option Addr) (N nc : Nat) (ra : Option Addr) (rn rc : Nat) (xa : Option Addr) (xn xc : Nat) (n : Int) (hs : Sat E w F) :
    Calls Tryz.prog 217 #[.agg #[.slice na N nc, .slice ra rn rc, .slice xa xn xc], .int .i64 n] w fun e w' => e = .returned (.bool (decide (0 ≤ n ∧ n < N))) ∧ Sat E w' F := by
  have HS := Lib.hid (Sat.right (hs.alloc (.cells #[.slice na N nc, .slice ra rn rc, .slice xa xn xc] 77)))
  clear hs
  by_cases h0 : 0 ≤ n
  · go_enter Tryz.func217, Tryz.ntmps217
    go_wp2_with fail
    go_ret
    exact ⟨by simp [h0], HS.out⟩
  · go_enter Tryz.func217, Tryz.ntmps217
    go_wp2_with fail
    go_ret
    exact ⟨by simp; omega, HS.out⟩
theorem groot_calls (w : World) (na : Option Addr) (N nc : Nat) (ra : Option Addr) (rn rc : Nat) (xa : Option Addr) (xn xc : Nat) (n : Int) (hm : placeMay N n) (hs : Sat E w F) :
    Calls Tryz.prog 197 #[.agg #[.slice na N nc, .slice ra rn rc, .slice xa xn xc], .int .i64 n] w fun e w' => e = .returned (.bool true) ∧ Sat E w' F := by
  have HA := Lib.hid (hs.alloc (.cells #[.slice na N nc, .slice ra rn rc, .slice xa xn xc] 77))
  have HS := Lib.hid (Sat.right HA.out)
  have HI := Lib.hid (fun V (hV : Sat E V F) => gis_calls V na N nc ra rn rc xa xn xc n hV)
  unfold placeMay at hm
  clear hs
  by_cases h1 : n = -1
  · subst h1
    clear hm
    go_enter Tryz.func197, Tryz.ntmps197
    go_wp2_with fail
    go_ret
    exact ⟨rfl, HS.out⟩
  · have hz : (n == -1) = false := by simpa using h1
    have hd : decide (0 ≤ n ∧ n < (N : Int)) = true := by rw [decide_eq_true_iff]; omega
    rw [hd] at HI
    clear hm h1 hd
    go_enter Tryz.func197, Tryz.ntmps197
    go_wp2_with (go_at_call 217; refine (HI.out _ HS.out).mono ?_; rintro e w2 ⟨rfl, h2⟩)
    go_ret
    exact ⟨rfl, h2⟩
theorem gfield_calls (w : World) (na : Option Addr) (N nc : Nat) (ra : Option Addr) (rn rc : Nat) (xa : Option Addr) (xn xc : Nat) (v : Val) (hm : valMay N v) (hs : Sat E w F) :
    Calls Tryz.prog 200 #[.agg #[.slice na N nc, .slice ra rn rc, .slice xa xn xc], vagg v] w fun e w' => e = .returned (.bool true) ∧ Sat E w' F := by
  obtain ⟨kd, iv, re, im, rf⟩ := v
  unfold valMay at hm
  simp only at hm
  obtain ⟨h0, h1, h2⟩ := hm
  have HA := Lib.hid (Sat.alloc2 hs (.cells #[.slice na N nc, .slice ra rn rc, .slice xa xn xc] 77) (.cells #[.int .i64 kd, .int .i64 iv, .int .u64 re, .int .u64 im, .int .i64 rf] 26))
  have HS := Lib.hid (Sat.right (Sat.right HA.out))
  have HI := Lib.hid (fun V (hV : Sat E V F) => gis_calls V na N nc ra rn rc xa xn xc rf hV)
  clear hs
  unfold vagg vcells
  by_cases h3 : kd = 3
  · subst h3
    have hd : decide (0 ≤ rf ∧ rf < (N : Int)) = true := by rw [decide_eq_true_iff]; exact h2 rfl
    rw [hd] at HI
    clear h0 h1 h2 hd
    go_enter Tryz.func200, Tryz.ntmps200
    go_wp2_with (go_at_call 217; refine (HI.out _ HS.out).mono ?_; rintro e w2 ⟨rfl, h2⟩)
    go_ret
    exact ⟨rfl, h2⟩
  · have hz : (kd != 3) = true := by simpa using h3
    clear h2 h3
    go_enter Tryz.func200, Tryz.ntmps200
    go_wp2_with fail
    go_ret
    exact ⟨rfl, HS.out⟩
/-- The closure that May asks of fields. -/
theorem gmay1_calls (w : World) (gb : Nat) (na : Option Addr) (N nc : Nat) (ra : Option Addr) (rn rc : Nat) (xa : Option Addr) (xn xc : Nat) (v : Val) (hm : valMay N v) (hs : Sat E w (pt gb (.cells #[.slice na N nc, .slice ra rn rc, .slice xa xn xc] 77) * F)) :
    Calls Tryz.prog 199 #[vagg v, .pointer (some ⟨gb, 0, none⟩)] w fun e w' => e = .returned (.bool false) ∧ Sat E w' (pt gb (.cells #[.slice na N nc, .slice ra rn rc, .slice xa xn xc] 77) * F) := by
  have hA := hs.alloc (.cells (vcells v) 26)
  have HA := Lib.hid hA
  have HF := Lib.hid (fun V (hV : Sat E V (pt w.heap.size (.cells (vcells v) 26) * (pt gb (.cells #[.slice na N nc, .slice ra rn rc, .slice xa xn xc] 77) * F))) => gfield_calls V na N nc ra rn rc xa xn xc v hm hV)
  clear hs hm
  unfold vagg vcells at *
  go_enter Tryz.func199, Tryz.ntmps199
  go_upto_region 1 with fail
  refine atSat _ HA.out fun V hV => ?_
  have y0 : V.cell? ⟨w.heap.size, 0, none⟩ = some (.int .i64 v.kind) := hV.cell 0 rfl
  have y1 : V.cell? ⟨w.heap.size, 1, none⟩ = some (.int .i64 v.int) := hV.cell 1 rfl
  have y2 : V.cell? ⟨w.heap.size, 2, none⟩ = some (.int .u64 v.re) := hV.cell 2 rfl
  have y3 : V.cell? ⟨w.heap.size, 3, none⟩ = some (.int .u64 v.im) := hV.cell 3 rfl
  have y4 : V.cell? ⟨w.heap.size, 4, none⟩ = some (.int .i64 v.ref) := hV.cell 4 rfl
  have z0 : V.cell? ⟨gb, 0, none⟩ = some (.slice na N nc) := hV.right.cell 0 rfl
  have z1 : V.cell? ⟨gb, 1, none⟩ = some (.slice ra rn rc) := hV.right.cell 1 rfl
  have z2 : V.cell? ⟨gb, 2, none⟩ = some (.slice xa xn xc) := hV.right.cell 2 rfl
  have HV := Lib.hid hV
  clear hV hA
  go_wp2_with (go_at_call 200; refine (HF.out _ HV.out).mono ?_; rintro e w2 ⟨rfl, h2⟩)
  go_ret
  exact ⟨rfl, h2.right⟩
theorem indexV_calls (w : World) (gb : Nat) (na : Option Addr) (N nc : Nat) (ra : Option Addr) (rn rc : Nat) (xa : Option Addr) (xn xc : Nat) (vs : List Val) (fv : Value) (hm : ∀ v ∈ vs, valMay N v) (hv : ∀ V, Sat E V F → RdV V fv vs) (hs : Sat E w (pt gb (.cells #[.slice na N nc, .slice ra rn rc, .slice xa xn xc] 77) * F)) :
    Calls Tryz.prog 218 #[fv, .func (.func 199) #[] #[.pointer (some ⟨gb, 0, none⟩)]] w fun e w' => e = .returned (.int .i64 (-1)) ∧ Sat E w' (pt gb (.cells #[.slice na N nc, .slice ra rn rc, .slice xa xn xc] 77) * F) := by
  obtain ⟨fa, fc, rfl, hfc⟩ := Rd.val (hv w hs.right)
  have hmo := Rd.most (hv w hs.right)
  have HV := Lib.hid hv
  have HM := Lib.hid hm
  have HS := Lib.hid hs
  obtain ⟨G, hG⟩ : ∃ G : HP, G = pt gb (.cells #[.slice na N nc, .slice ra rn rc, .slice xa xn xc] 77) * F := ⟨_, rfl⟩
  have HC := Lib.hid (fun V (v : Val) (hv : v ∈ vs) (hV : Sat E V (pt gb (.cells #[.slice na N nc, .slice ra rn rc, .slice xa xn xc] 77) * F)) => gmay1_calls V gb na N nc ra rn rc xa xn xc v (hm v hv) hV)
  have HR : Hid (∀ V, Sat E V G → Sat E V F) := Lib.hid fun V h => by rw [hG] at h; exact h.right
  rw [← hG] at HS HC ⊢
  obtain ⟨n, hn⟩ : ∃ n, n = vs.length := ⟨_, rfl⟩
  have HN := Lib.hid hn
  rw [← hn] at hfc hmo ⊢
  clear hs hv hm hG hn
  go_enter Tryz.func218, Tryz.ntmps218
  go_wp2_with fail
  go_loopw [8] (fun iv wr => ∃ k : Nat, k ≤ n ∧ iv = .int .i64 (k : Int) ∧ Sat E wr G) (fun iv _ => n - (RowKit.intOf iv).toNat)
  case atStart => exact ⟨0, Nat.zero_le _, rfl, HS.out⟩
  case round =>
    obtain ⟨k, hk, rfl, hw⟩ := hrel
    have HW := Lib.hid hw
    clear HS
    by_cases hkn : k = n
    · subst hkn
      clear hw
      go_wp2_with fail
      go_ret
      exact ⟨rfl, HW.out⟩
    · have hk1 : (k : Int) < n := by omega
      have hkc : ¬ n ≤ k := by omega
      have hkv : k < vs.length := by have := HN.out; omega
      have hrv := HV.out wr (HR.out wr hw)
      obtain ⟨bb, oo, rfl, y0, y1, y2, y3, y4⟩ := RdV.nth hrv k hkv
      have HCK := Lib.hid (HC.out wr _ (List.getElem_mem hkv) hw)
      unfold vagg vcells at HCK
      generalize vs[k] = v at *
      clear hrv hw hkv
      go_wp2_with (go_at_call 199; refine HCK.out.mono ?_; rintro e w2 ⟨rfl, h2⟩)
      exact ⟨⟨k + 1, by omega, by go_num, h2⟩, by simp [RowKit.intOf]; omega⟩
theorem containsV_calls (w : World) (gb : Nat) (na : Option Addr) (N nc : Nat) (ra : Option Addr) (rn rc : Nat) (xa : Option Addr) (xn xc : Nat) (vs : List Val) (fv : Value) (hm : ∀ v ∈ vs, valMay N v) (hv : ∀ V, Sat E V F → RdV V fv vs) (hs : Sat E w (pt gb (.cells #[.slice na N nc, .slice ra rn rc, .slice xa xn xc] 77) * F)) :
    Calls Tryz.prog 198 #[fv, .func (.func 199) #[] #[.pointer (some ⟨gb, 0, none⟩)]] w fun e w' => e = .returned (.bool false) ∧ Sat E w' (pt gb (.cells #[.slice na N nc, .slice ra rn rc, .slice xa xn xc] 77) * F) := by
  have HC := Lib.hid (indexV_calls w gb na N nc ra rn rc xa xn xc vs fv hm hv hs)
  obtain ⟨fa, fc, rfl, hfc⟩ := Rd.val (hv w hs.right)
  clear hm hv hs
  go_enter Tryz.func198, Tryz.ntmps198
  go_wp2_with (go_at_call 218; refine HC.out.mono ?_; rintro e w2 ⟨rfl, h2⟩)
  go_ret
  exact ⟨rfl, h2⟩
end
end Scul
/- slices.Grow, slices.Concat of ints; graph.May. -/
namespace Scul
open Go Go.Sl Go.RowKit Go.Proofs
section
variable {E : Env} {w : World} {F R : HP}
set_option maxHeartbeats 1000000 in
theorem growI_calls (w : World) (n : Nat) (hn : n ≤ 10000) (hs : Sat E w F) :
    Calls Tryz.prog 216 #[.slice none 0 0, .int .i64 (n : Int)] w fun e w' => ∃ a c, e = .returned (.slice a 0 c) ∧ Sat E w' (ints (.slice a 0 c) [] * F) := by
  have HS := Lib.hid hs
  have hn4 : (n : Int) ≤ 10000 := by omega
  by_cases h0 : n = 0
  · subst h0
    have HN := Lib.hid (ints_nil hs)
    clear hs
    go_enter Tryz.func216, Tryz.ntmps216
    go_wp2_with fail
    go_ret
    exact ⟨none, 0, rfl, HN.out⟩
  · have h1 : 0 < (n : Int) := by omega
    have hnn : ¬ n = 0 := h0
    obtain ⟨i, hi, hz, hsz, hb⟩ := stI.info
    have HR : Hid (∀ W ty, (Builtin.append_ #[38, 3] ty #[.slice none 0 0, .int .i64 (n : Int)]).run Tryz.prog W =
      .ok (.slice (some ⟨W.heap.size, 0, none⟩) n (grownCap W n 0 3)) (W.drew.alloc (.cells (Builtin.zeroCells (Value.int .i64 0).cells n ++ Builtin.zeroCells (Value.int .i64 0).cells (grownCap W n 0 3 - n)) 3))) := Lib.hid fun W ty =>
      Lib.run_append_nil_zeros W _ _ ty _ i (.int .i64 0) .i64 .i64 Tryz.underlying38 Tryz.underlying3 hi hz n (by omega) (by omega) (by omega) (by rw [hb]; omega)
    have HG : Hid (∀ W, Sat E W F → n ≤ grownCap W n 0 3 ∧ Sat E (W.drew.alloc (.cells (Builtin.zeroCells (Value.int .i64 0).cells n ++ Builtin.zeroCells (Value.int .i64 0).cells (grownCap W n 0 3 - n)) 3)) (ints (.slice (some ⟨W.heap.size, 0, none⟩) 0 (grownCap W n 0 3)) [] * F)) := Lib.hid fun W hW => by
      have hge := grownCap_ge W n 0 3
      refine ⟨hge, ?_⟩
      have hle := grownCap_le_maxLen W n 0 3 (by simp only [maxLen]; omega)
      exact Sat.row_mk (n := 0) (size := 1) (cs := []) (Sat.alloc (Sat.drew hW) _) (Nat.zero_le _) hle (by simp [Builtin.zeroCells, Value.cells]; omega) (by simp)
    clear hs hi hz hsz hb h0
    go_enter Tryz.func216, Tryz.ntmps216
    go_wp2_with (at_builtin; refine Lib.wpList_append_run _ rfl _ _ _ _ rfl _ _ rfl rfl _ _ (HR.out _ _) ?_)
    go_ret
    exact ⟨_, _, rfl, (HG.out w HS.out).2⟩
theorem ints_app {ops : Array Oper} {rest : List Oper} {o : Oper} {a : Act} {Q : Exit → Act → World → Prop} (hgd : o.guard = none) (s x : Operand)
    (ho : o.op = .call { callee := .builtin .append, args := #[s, x], argTypes := #[38, 38] })
    {v sv : Value} {l m : List Int} (hs : Sat E w (ints v l * (ints sv m * R))) (hv : a.eval s = v) (hx : a.eval x = sv) (hn : l.length + m.length ≤ 1000000)
    (h : ∀ r, Hid (r = l ++ m) → ∀ ao c w', Sat E w' (ints (.slice ao r.length c) r * (ints sv m * R)) → wpList Tryz.prog ops Q rest (a.put o.dst (.slice ao r.length c)) w') : wpList Tryz.prog ops Q (o :: rest) a w := by
  refine wpl_append hgd s x stI ho v l.length (i64s l) hs hv sv m.length (i64s m) (ints_rd (Sat.swap hs)) hx (i64s_one m) (by simp only [maxLen]; omega) (by omega) fun v' w' h' => ?_
  have h2 : Sat E w' (ints v' (l ++ m) * (ints sv m * R)) := by
    unfold ints at h' ⊢
    rw [List.length_append, i64s_append]
    exact h'
  obtain ⟨ao, c, rfl⟩ := ints_val h2
  exact h _ (Lib.hid rfl) ao c w' h2
set_option maxRecDepth 100000 in
set_option maxHeartbeats 4000000 in
theorem concatI_calls (w : World) (sb : Nat) (t : TypeId) (l1 l2 : List Int) (a1 a2 : Option Addr) (c1 c2 : Nat) (h1 : l1.length ≤ 1000) (h2 : l2.length ≤ 1000)
    (hs : Sat E w (pt sb (.cells #[.slice a1 l1.length c1, .slice a2 l2.length c2] t) * (ints (.slice a1 l1.length c1) l1 * (ints (.slice a2 l2.length c2) l2 * F)))) :
    Calls Tryz.prog 196 #[.slice (some ⟨sb, 0, none⟩) 2 2] w fun e w' => ∃ a c, e = .returned (.slice a (l1 ++ l2).length c) ∧ Sat E w' (ints (.slice a (l1 ++ l2).length c) (l1 ++ l2) * (ints (.slice a1 l1.length c1) l1 * (ints (.slice a2 l2.length c2) l2 * F))) := by
  obtain ⟨N1, hN1⟩ : ∃ N, N = l1.length := ⟨_, rfl⟩
  obtain ⟨N2, hN2⟩ : ∃ N, N = l2.length := ⟨_, rfl⟩
  have hll : (l1 ++ l2).length = N1 + N2 := by rw [List.length_append, hN1, hN2]
  rw [← hN1] at hs h1 ⊢
  rw [← hN2] at hs h2 ⊢
  obtain ⟨G, hG⟩ : ∃ G : HP, G = pt sb (.cells #[.slice a1 N1 c1, .slice a2 N2 c2] t) * (ints (.slice a1 N1 c1) l1 * (ints (.slice a2 N2 c2) l2 * F)) := ⟨_, rfl⟩
  rw [← hG] at hs
  have HS := Lib.hid hs
  have HC : Hid (∀ V, Sat E V G → V.cell? ⟨sb, 0, none⟩ = some (.slice a1 N1 c1) ∧ V.cell? ⟨sb, 1, none⟩ = some (.slice a2 N2 c2)) := Lib.hid fun V hV => by
    rw [hG] at hV
    exact ⟨hV.cell 0 rfl, hV.cell 1 rfl⟩
  have HGR : Hid (∀ V, Sat E V G → Calls Tryz.prog 216 #[.slice none 0 0, .int .i64 ((N1 + N2 : Nat) : Int)] V fun e w' => ∃ a c, e = .returned (.slice a 0 c) ∧ Sat E w' (ints (.slice a 0 c) [] * G)) := Lib.hid fun V hV => growI_calls V (N1 + N2) (by omega) hV
  have HFIN : Hid (∀ V a c, Sat E V (ints (.slice a (N1 + N2) c) (l1 ++ l2) * G) → Sat E V (ints (.slice a (l1 ++ l2).length c) (l1 ++ l2) * (ints (.slice a1 N1 c1) l1 * (ints (.slice a2 N2 c2) l2 * F)))) := Lib.hid fun V a c hV => by
    rw [hG] at hV
    rw [hll]
    exact Sat.right (Sat.swap hV)
  have HX1 : Hid (∀ V (A : HP), Sat E V (A * G) → Sat E V (A * (ints (.slice a1 N1 c1) l1 * (pt sb (.cells #[.slice a1 N1 c1, .slice a2 N2 c2] t) * (ints (.slice a2 N2 c2) l2 * F))))) := Lib.hid fun V A hV => by rw [hG] at hV; exact hV.ac (by ac_rfl)
  have HX2 : Hid (∀ V (A : HP), Sat E V (A * G) → Sat E V (A * (ints (.slice a2 N2 c2) l2 * (pt sb (.cells #[.slice a1 N1 c1, .slice a2 N2 c2] t) * (ints (.slice a1 N1 c1) l1 * F))))) := Lib.hid fun V A hV => by rw [hG] at hV; exact hV.ac (by ac_rfl)
  have HY1 : Hid (∀ V (A : HP), Sat E V (A * (ints (.slice a1 N1 c1) l1 * (pt sb (.cells #[.slice a1 N1 c1, .slice a2 N2 c2] t) * (ints (.slice a2 N2 c2) l2 * F)))) → Sat E V (A * G)) := Lib.hid fun V A hV => by rw [hG]; exact hV.ac (by ac_rfl)
  have HY2 : Hid (∀ V (A : HP), Sat E V (A * (ints (.slice a2 N2 c2) l2 * (pt sb (.cells #[.slice a1 N1 c1, .slice a2 N2 c2] t) * (ints (.slice a1 N1 c1) l1 * F)))) → Sat E V (A * G)) := Lib.hid fun V A hV => by rw [hG]; exact hV.ac (by ac_rfl)
  have HL1 := Lib.hid hN1
  have HL2 := Lib.hid hN2
  have HLL := Lib.hid hll
  have b1 : (N1 : Int) ≤ 1000 := by omega
  have b2 : (N2 : Int) ≤ 1000 := by omega
  obtain ⟨c0, c1'⟩ := HC.out w hs
  clear hs hG hN1 hN2 hll
  go_enter Tryz.func196, Tryz.ntmps196
  go_wp2_with fail
  go_loopw [11, 3] (fun iv tv wr => Sat E wr G ∧ ((iv = .int .i64 0 ∧ tv = .int .i64 0) ∨ (iv = .int .i64 1 ∧ tv = .int .i64 (N1 : Int)) ∨ (iv = .int .i64 2 ∧ tv = .int .i64 ((N1 + N2 : Nat) : Int)))) (fun iv _ _ => 2 - (RowKit.intOf iv).toNat)
  case atStart => exact ⟨HS.out, .inl ⟨rfl, rfl⟩⟩
  case round =>
    obtain ⟨hw, hc⟩ := hrel
    clear c0 c1' HS
    obtain ⟨c0, c1'⟩ := HC.out _ hw
    have HW := Lib.hid hw
    clear hw
    have e12 : ((N1 + N2 : Nat) : Int) = (N1 : Int) + N2 := by omega
    rcases hc with ⟨rfl, rfl⟩ | ⟨rfl, rfl⟩ | ⟨rfl, rfl⟩
    · go_wp2_with fail
      exact ⟨⟨HW.out, .inr (.inl ⟨rfl, by first | rfl | simp⟩)⟩, by simp [RowKit.intOf]⟩
    · go_wp2_with fail
      exact ⟨⟨HW.out, .inr (.inr ⟨rfl, by rw [e12]⟩)⟩, by simp [RowKit.intOf]⟩
    · clear c0 c1'
      have HGRw := Lib.hid (HGR.out _ HW.out)
      rw [e12] at HGRw ⊢
      go_wp2_with (go_at_call 216; refine HGRw.out.mono ?_; rintro e w2 ⟨ga, gc, rfl, h3⟩; have H3 := Lib.hid h3; clear h3)
      go_loopw [27, 6] (fun iv tv wr => ∃ (a : Option Addr) (c : Nat) (cur : List Int), tv = .slice a cur.length c ∧ Sat E wr (ints (.slice a cur.length c) cur * G) ∧ ((iv = .int .i64 0 ∧ cur = []) ∨ (iv = .int .i64 1 ∧ cur = l1) ∨ (iv = .int .i64 2 ∧ cur = l1 ++ l2))) (fun iv _ _ => 2 - (RowKit.intOf iv).toNat)
      case atStart => exact ⟨ga, gc, [], rfl, H3.out, .inl ⟨rfl, rfl⟩⟩
      case round =>
        obtain ⟨a, c, cur, rfl, hw, hc⟩ := hrel
        clear H3 HW
        obtain ⟨c0, c1'⟩ := HC.out _ hw.right
        have HW := Lib.hid hw
        clear hw
        rcases hc with ⟨rfl, rfl⟩ | ⟨rfl, rfl⟩ | ⟨rfl, rfl⟩
        · have HP := Lib.hid (HX1.out _ _ HW.out)
          go_wp2_with (at_builtin; refine ints_app rfl _ _ rfl HP.out rfl rfl (by rw [← HL1.out]; simp; omega) ?_; intro r er ra rc w7 h7)
          have er' : r = l1 := by rw [er.out]; rfl
          subst er'
          exact ⟨⟨ra, rc, r, rfl, HY1.out _ _ h7, .inr (.inl ⟨rfl, rfl⟩)⟩, by simp [RowKit.intOf]⟩
        · have HP := Lib.hid (HX2.out _ _ HW.out)
          go_wp2_with (at_builtin; refine ints_app rfl _ _ rfl HP.out rfl rfl (by rw [← HL1.out, ← HL2.out]; omega) ?_; intro r er ra rc w7 h7)
          exact ⟨⟨ra, rc, r, rfl, HY2.out _ _ h7, .inr (.inr ⟨rfl, er.out⟩)⟩, by simp [RowKit.intOf]⟩
        · have HFF := Lib.hid (HFIN.out wr a c (by have := HW.out; rwa [HLL.out] at this))
          clear c0 c1'
          go_wp2_with fail
          go_ret
          exact ⟨_, _, rfl, HFF.out⟩
end
end Scul
/- graph.May, of graphs that may be. -/
namespace Scul
open Go Go.Sl Go.RowKit Go.Proofs
theorem nodeCells_at (l : List (Value × Int × List Val)) (k : Nat) (hk : k < l.length) : (nodeCells l)[2 * k]? = some (.int .i64 (l[k]).2.1) ∧ (nodeCells l)[2 * k + 1]? = some (l[k]).1 := by
  induction l generalizing k with
  | nil => simp at hk
  | cons p l ih =>
    cases k with
    | zero => exact ⟨rfl, rfl⟩
    | succ k =>
      have := ih k (by simpa using hk)
      exact this
section
variable {E : Env} {w : World} {F R : HP}
theorem bagN_rd {l : List (Value × Int × List Val)} {F : HP} (h : Sat E w (bagN l * F)) {p : Value × Int × List Val} (hp : p ∈ l) : RdV w p.1 p.2.2 ∧ ∃ a c, p.1 = .slice a p.2.2.length c := by
  induction l generalizing F with
  | nil => cases hp
  | cons q l ih =>
    have h2 : Sat E w (valRow q.1 q.2.2 * (bagN l * F)) := by
      have h3 : Sat E w ((valRow q.1 q.2.2 * bagN l) * F) := h
      rwa [sep_assoc] at h3
    rcases List.mem_cons.1 hp with rfl | hp
    · exact ⟨valRow_rd h2, valRow_val h2⟩
    · exact ih (F := valRow q.1 q.2.2 * F) (h2.ac (by ac_rfl)) hp
theorem nodesR_rd {nv : Value} {l : List (Value × Int × List Val)} {F : HP} (h : Sat E w (nodesR nv l * F)) {k : Nat} (hk : k < l.length) : ∃ na nc, nv = .slice (some ⟨na, 0, none⟩) l.length nc ∧ w.cell? ⟨na, k * 2, none⟩ = some (.int .i64 (l[k]).2.1) ∧ w.cell? ⟨na, k * 2 + 1, none⟩ = some (l[k]).1 ∧ RdV w (l[k]).1 (l[k]).2.2 ∧ ∃ a c, (l[k]).1 = .slice a (l[k]).2.2.length c := by
  have h1 : Sat E w (row 149 2 nv l.length (nodeCells l) * (bagN l * F)) := h.ac (by unfold nodesR; ac_rfl)
  have h2 := bagN_rd (h1.ac (B := bagN l * (row 149 2 nv l.length (nodeCells l) * F)) (by ac_rfl)) (List.getElem_mem hk)
  obtain ⟨e1, e2⟩ := nodeCells_at l k hk
  obtain ⟨_, ⟨h0, _⟩ | ⟨g, cap, cur, rfl, _⟩⟩ := h1.row_cases
  · omega
  · exact ⟨g, cap, rfl, h1.row_cell (k * 2) (by rw [Nat.mul_comm]; exact e1), h1.row_cell (k * 2 + 1) (by rw [Nat.mul_comm k 2]; exact e2), h2⟩
set_option maxRecDepth 100000 in
set_option maxHeartbeats 4000000 in
theorem gMay_calls (w : World) (nv rv xv : Value) (l : List (Value × Int × List Val)) (rs xs : List Int) (hm : grMay ⟨l.map (·.2), rs, xs⟩) (hl : l.length ≤ 4096) (hrs : rs.length ≤ 1000) (hxs : xs.length ≤ 1000) (h : Sat E w (nodesR nv l * (ints rv rs * (ints xv xs * F)))) :
    Calls Tryz.prog 169 #[.agg #[nv, rv, xv]] w fun e w' => e = .returned (.bool true) ∧ Sat E w' (nodesR nv l * (ints rv rs * (ints xv xs * F))) := by
  obtain ⟨na, nc, rfl⟩ := nodesR_val h
  obtain ⟨ra, rc, rfl⟩ := ints_val (h.ac (B := ints rv rs * (nodesR (.slice na l.length nc) l * (ints xv xs * F))) (by ac_rfl))
  obtain ⟨xa, xc, rfl⟩ := ints_val (h.ac (B := ints xv xs * (nodesR (.slice na l.length nc) l * (ints (.slice ra rs.length rc) rs * F))) (by ac_rfl))
  obtain ⟨hm1, hm2, hm3⟩ := hm
  simp only [List.length_map] at hm1 hm2 hm3
  have hall : ∀ r ∈ rs ++ xs, placeMay l.length r := fun r hr => by
    rcases List.mem_append.1 hr with hr | hr
    · exact hm2 r hr
    · exact hm3 r hr
  obtain ⟨N, hN⟩ : ∃ N, N = l.length := ⟨_, rfl⟩
  have hnod : ∀ k (hk : k < l.length), ∀ v ∈ (l[k]).2.2, valMay N v := fun k hk v hv => by
    rw [hN]
    exact hm1 (l[k]).2 (List.mem_map.2 ⟨_, List.getElem_mem hk, rfl⟩) v hv
  obtain ⟨M1, hM1⟩ : ∃ N, N = rs.length := ⟨_, rfl⟩
  obtain ⟨M2, hM2⟩ : ∃ N, N = xs.length := ⟨_, rfl⟩
  have HN := Lib.hid hN
  obtain ⟨G, hG⟩ : ∃ G : HP, G = nodesR (.slice na N nc) l * (ints (.slice ra M1 rc) rs * (ints (.slice xa M2 xc) xs * F)) := ⟨_, rfl⟩
  rw [← hN, ← hM1, ← hM2, ← hG] at h ⊢
  rw [← hN] at hl hall
  have HA := Lib.hid (h.alloc (.cells #[.slice na N nc, .slice ra M1 rc, .slice xa M2 xc] 77))
  have hl4 : (N : Int) ≤ 4096 := by omega
  have HT : Hid (∀ V, Sat E V (pt w.heap.size (.cells #[.slice na N nc, .slice ra M1 rc, .slice xa M2 xc] 77) * G) → V.cell? ⟨w.heap.size, 0, none⟩ = some (.slice na N nc) ∧ V.cell? ⟨w.heap.size, 1, none⟩ = some (.slice ra M1 rc) ∧ V.cell? ⟨w.heap.size, 2, none⟩ = some (.slice xa M2 xc)) := Lib.hid fun V hV => ⟨hV.cell 0 rfl, hV.cell 1 rfl, hV.cell 2 rfl⟩
  have HCN : Hid (∀ V sb, Sat E V (pt sb (.cells #[.slice ra M1 rc, .slice xa M2 xc] 38) * (pt w.heap.size (.cells #[.slice na N nc, .slice ra M1 rc, .slice xa M2 xc] 77) * G)) → Calls Tryz.prog 196 #[.slice (some ⟨sb, 0, none⟩) 2 2] V fun e w' => ∃ a c, e = .returned (.slice a (rs ++ xs).length c) ∧ Sat E w' (ints (.slice a (rs ++ xs).length c) (rs ++ xs) * (pt w.heap.size (.cells #[.slice na N nc, .slice ra M1 rc, .slice xa M2 xc] 77) * G))) := Lib.hid fun V sb hV => by
    subst hM1
    subst hM2
    rw [hG] at hV
    refine (concatI_calls V sb 38 rs xs ra xa rc xc hrs hxs (F := pt w.heap.size (.cells #[.slice na N nc, .slice ra rs.length rc, .slice xa xs.length xc] 77) * (nodesR (.slice na N nc) l * F)) (hV.ac (by ac_rfl))).mono ?_
    rintro e w' ⟨a, c, he, h2⟩
    refine ⟨a, c, he, ?_⟩
    rw [hG]
    exact h2.ac (by ac_rfl)
  have HRT := Lib.hid (fun V (A : HP) (r : Int) (hr : r ∈ rs ++ xs) (hV : Sat E V (A * (pt w.heap.size (.cells #[.slice na N nc, .slice ra M1 rc, .slice xa M2 xc] 77) * G))) => groot_calls V na N nc ra M1 rc xa M2 xc r (hall r hr) hV)
  have HND : Hid (∀ V (A : HP) k (hk : k < l.length), Sat E V (A * (pt w.heap.size (.cells #[.slice na N nc, .slice ra M1 rc, .slice xa M2 xc] 77) * G)) → ∃ nb, na = some ⟨nb, 0, none⟩ ∧ V.cell? ⟨nb, k * 2, none⟩ = some (.int .i64 (l[k]).2.1) ∧ V.cell? ⟨nb, k * 2 + 1, none⟩ = some (l[k]).1 ∧ ∃ a c, (l[k]).1 = .slice a (l[k]).2.2.length c) := Lib.hid fun V A k hk hV => by
    rw [hG] at hV
    obtain ⟨nb, ncc, e, h1, h2, _, h3⟩ := nodesR_rd hV.right.right hk
    simp only [Value.slice.injEq] at e
    exact ⟨nb, e.1, h1, h2, h3⟩
  have HCV : Hid (∀ V (A : HP) k (hk : k < l.length), Sat E V (A * (pt w.heap.size (.cells #[.slice na N nc, .slice ra M1 rc, .slice xa M2 xc] 77) * G)) → Calls Tryz.prog 198 #[(l[k]).1, .func (.func 199) #[] #[.pointer (some ⟨w.heap.size, 0, none⟩)]] V fun e w' => e = .returned (.bool false) ∧ Sat E w' (A * (pt w.heap.size (.cells #[.slice na N nc, .slice ra M1 rc, .slice xa M2 xc] 77) * G))) := Lib.hid fun V A k hk hV => by
    have h1 := containsV_calls V w.heap.size na N nc ra M1 rc xa M2 xc (l[k]).2.2 (l[k]).1 (hnod k hk) (F := A * G) (fun V2 h2 => by
      rw [hG] at h2
      obtain ⟨_, _, _, _, _, h3, _⟩ := nodesR_rd h2.right hk
      exact h3) (Sat.swap hV)
    exact h1.mono fun e w' ⟨he, h⟩ => ⟨he, Sat.swap h⟩
  have HML : Hid ((rs ++ xs).length ≤ 2000) := Lib.hid (by rw [List.length_append]; omega)
  clear h hG hm1 hm2 hm3 hall hnod hN hM1 hM2 hrs hxs
  go_enter Tryz.func169, Tryz.ntmps169
  go_upto_region 1 with fail
  refine atSat _ HA.out fun V1 h1 => ?_
  obtain ⟨t0, t1, t2⟩ := HT.out _ h1
  have H1 := Lib.hid h1
  clear h1 HA
  generalize hL : rs ++ xs = L at *
  clear hL
  obtain ⟨M, hM⟩ : ∃ M, M = L.length := ⟨_, rfl⟩
  have HMM := Lib.hid hM
  rw [← hM] at HCN HML
  have hM2 : (M : Int) ≤ 2000 := by have := HML.out; omega
  clear hM
  go_wp2_with (go_at_call 196; refine (HCN.out _ _ (H1.out.alloc _)).mono ?_; rintro e w2 ⟨ca, cc, rfl, h2⟩; have H2 := Lib.hid h2; clear h2)
  go_loopw [18] (fun iv wr => ∃ k : Nat, k ≤ M ∧ iv = .int .i64 (k : Int) ∧ Sat E wr (ints (.slice ca M cc) L * (pt w.heap.size (.cells #[.slice na N nc, .slice ra M1 rc, .slice xa M2 xc] 77) * G))) (fun iv _ => M - (RowKit.intOf iv).toNat)
  case atStart => exact ⟨0, Nat.zero_le _, rfl, H2.out⟩
  case round =>
    obtain ⟨k, hk, rfl, hw⟩ := hrel
    have HW := Lib.hid hw
    clear H2 t0 t1 t2 H1
    obtain ⟨t0, t1, t2⟩ := HT.out _ hw.right
    by_cases hkM : k = M
    · subst hkM
      clear hw
      go_wp2_with fail
      go_loopw [30] (fun iv wr => ∃ j : Nat, j ≤ N ∧ iv = .int .i64 (j : Int) ∧ Sat E wr (ints (.slice ca k cc) L * (pt w.heap.size (.cells #[.slice na N nc, .slice ra M1 rc, .slice xa M2 xc] 77) * G))) (fun iv _ => N - (RowKit.intOf iv).toNat)
      case atStart => exact ⟨0, Nat.zero_le _, rfl, HW.out⟩
      case round =>
        obtain ⟨j, hj, rfl, hw2⟩ := hrel
        have HW2 := Lib.hid hw2
        clear HW t0 t1 t2
        by_cases hjN : j = N
        · subst hjN
          clear hw2
          go_wp2_with fail
          go_ret
          exact ⟨rfl, HW2.out.right.right⟩
        · have hj1 : (j : Int) < N := by omega
          have hjl : j < l.length := by have := HN.out; omega
          have hj4 : (j : Int) ≤ 4096 := by omega
          have hjc : ¬ N ≤ j := by omega
          obtain ⟨nb, rfl, n0, n1, fa, fc, hfv⟩ := HND.out _ _ j hjl hw2
          have HCJ := Lib.hid (fun V A hV => HCV.out V A j hjl hV)
          rw [hfv] at n1 HCJ
          generalize (l[j]).2.1 = kd at *
          generalize (l[j]).2.2.length = fn at *
          clear hw2 hfv HND HCV
          have HAL : Hid (∀ o, Sat E (wr.alloc o) ((pt wr.heap.size o * ints (.slice ca k cc) L) * (pt w.heap.size (.cells #[.slice (some ⟨nb, 0, none⟩) N nc, .slice ra M1 rc, .slice xa M2 xc] 77) * G))) := Lib.hid fun o => (HW2.out.alloc o).ac (by ac_rfl)
          go_wp2_with (go_at_call 198; refine (HCJ.out _ _ (HAL.out _)).mono ?_; rintro e w3 ⟨rfl, h3⟩)
          exact ⟨⟨j + 1, by omega, by go_num, Sat.right (h3.ac (B := pt wr.heap.size _ * (ints (.slice ca k cc) L * (pt w.heap.size (.cells #[.slice (some ⟨nb, 0, none⟩) N nc, .slice ra M1 rc, .slice xa M2 xc] 77) * G))) (by ac_rfl))⟩, by simp [RowKit.intOf]; omega⟩
    · have hk1 : (k : Int) < M := by omega
      have hkL : k < L.length := by have := HMM.out; omega
      have hkc : ¬ M ≤ k := by omega
      have hk2 : (k : Int) ≤ 2000 := by omega
      have hir : Rd wr 1 (.slice ca M cc) M (i64s L) := by have := ints_rd hw; rwa [← HMM.out] at this
      obtain ⟨cb, co, rfl, _⟩ := hir.at (by omega)
      have cx := Rd.nthI hir k (by omega)
      have hmem : L.getD k 0 ∈ L := by
        rw [List.getD_eq_getElem?_getD, List.getElem?_eq_getElem hkL]
        exact List.getElem_mem hkL
      have HRK := Lib.hid (HRT.out wr _ _ hmem hw)
      generalize L.getD k 0 = x at *
      clear hw hir hmem
      go_wp2_with (go_at_call 197; refine HRK.out.mono ?_; rintro e w3 ⟨rfl, h3⟩)
      exact ⟨⟨k + 1, by omega, by go_num, h3⟩, by simp [RowKit.intOf]; omega⟩
end
end Scul
/- image: reader.read. -/
namespace Scul
open Go Go.Sl Go.RowKit Go.Proofs
/-- The words of roots, of weak roots. -/
def rootsL (c : Cfg) (W : List Int) : List Int := (W.drop c.rootsAt.toNat).take c.roots.toNat
def weaksL (c : Cfg) (W : List Int) : List Int := (W.drop (c.rootsAt + c.roots).toNat).take c.weaks.toNat
/-- What a reader reads. -/
def readG (c : Cfg) (W : List Int) (U : List Bool) : Option (Grf × List Int) :=
  match rootsP U c.count [] (rootsL c W) with
  | none => none
  | some (rs, m1) => match followP c W U (c.count.toNat + 1) m1 [] with
    | none => none
    | some (m2, ns2) => match rootsP U c.count m2 (weaksL c W) with
      | none => none
      | some (ws, m3) => match followP c W U (c.count.toNat + 1) m3 ns2 with
        | none => none
        | some (m4, ns4) => some (⟨ns4, rs, ws⟩, m4)
theorem readP_readG (W : List Int) : readP W = match cfgP W with
    | none => none
    | some c => if (W.length : Int) < c.words ∨ W.getD c.logAt.toNat 0 ≠ 0 then none else (readG c W (usedW c W)).map fun p => (c, p.1, p.2) := by
  unfold readP readG rootsL weaksL
  cases cfgP W with
  | none => rfl
  | some c =>
    simp only
    split
    · rfl
    · cases rootsP (usedW c W) c.count [] ((W.drop c.rootsAt.toNat).take c.roots.toNat) with
      | none => rfl
      | some p =>
        obtain ⟨rs, m1⟩ := p
        simp only
        cases followP c W (usedW c W) (c.count.toNat + 1) m1 [] with
        | none => rfl
        | some p =>
          obtain ⟨m2, ns2⟩ := p
          simp only
          cases rootsP (usedW c W) c.count m2 ((W.drop (c.rootsAt + c.roots).toNat).take c.weaks.toNat) with
          | none => rfl
          | some p =>
            obtain ⟨ws, m3⟩ := p
            simp only
            cases followP c W (usedW c W) (c.count.toNat + 1) m3 ns2 with
            | none => rfl
            | some p => rfl
theorem rootsP_ok {U : List Bool} {count : Int} : ∀ {l met rs met' : List Int}, rootsP U count met l = some (rs, met') → MetU U met → MetU U met' ∧ met.length ≤ met'.length ∧ rs.length = l.length ∧ ∀ r ∈ rs, placeMay met'.length r
  | [], met, rs, met', h, hm => by
    simp only [rootsP, Option.some.injEq, Prod.mk.injEq] at h
    obtain ⟨rfl, rfl⟩ := h
    exact ⟨hm, Nat.le_refl _, rfl, by simp⟩
  | x :: r, met, rs, met', h, hm => by
    unfold rootsP at h
    split at h
    · obtain ⟨p, hp, he⟩ := Option.map_eq_some_iff.1 h
      obtain ⟨p1, p2⟩ := p
      simp only [Prod.mk.injEq] at he
      obtain ⟨rfl, rfl⟩ := he
      obtain ⟨a1, a2, a3, a4⟩ := rootsP_ok hp hm
      refine ⟨a1, a2, by simp [a3], fun y hy => ?_⟩
      rcases List.mem_cons.1 hy with rfl | hy
      · exact ⟨by omega, by omega⟩
      · exact a4 y hy
    · split at h
      · cases h
      · cases hmp : meetP U met (x - 1) with
        | none => rw [hmp] at h; cases h
        | some q =>
          obtain ⟨i, m1⟩ := q
          rw [hmp] at h
          obtain ⟨p, hp, he⟩ := Option.map_eq_some_iff.1 h
          obtain ⟨p1, p2⟩ := p
          simp only [Prod.mk.injEq] at he
          obtain ⟨rfl, rfl⟩ := he
          obtain ⟨h1, h2, h3, h4⟩ := meetP_len hmp hm.1 hm.2
          obtain ⟨a1, a2, a3, a4⟩ := rootsP_ok hp ⟨h1, h2⟩
          refine ⟨a1, Nat.le_trans (meetP_pre hmp) a2, by simp [a3], fun y hy => ?_⟩
          rcases List.mem_cons.1 hy with rfl | hy
          · exact ⟨by omega, by omega⟩
          · exact a4 y hy
theorem fieldsP_may {U : List Bool} : ∀ {vs : List Val} {met : List Int} {l : List Val} {met' : List Int}, fieldsP U met vs = some (l, met') → MetU U met → (∀ v ∈ vs, 0 ≤ v.kind ∧ v.kind ≤ 3) → ∀ v ∈ l, valMay met'.length v
  | [], met, l, met', h, hm, hk => by
    simp only [fieldsP, Option.some.injEq, Prod.mk.injEq] at h
    rw [← h.1]
    simp
  | v :: r, met, l, met', h, hm, hk => by
    have hk0 := hk v (by simp)
    unfold fieldsP at h
    split at h
    · cases hmp : meetP U met v.ref with
      | none => rw [hmp] at h; cases h
      | some q =>
        obtain ⟨i, m1⟩ := q
        rw [hmp] at h
        obtain ⟨p, hp, he⟩ := Option.map_eq_some_iff.1 h
        obtain ⟨p1, p2⟩ := p
        simp only [Prod.mk.injEq] at he
        obtain ⟨h1, h2, h3, h4⟩ := meetP_len hmp hm.1 hm.2
        have hle := (fieldsP_met hp ⟨h1, h2⟩).2
        obtain ⟨rfl, rfl⟩ := he
        intro y hy
        rcases List.mem_cons.1 hy with rfl | hy
        · exact ⟨hk0.1, hk0.2, fun _ => ⟨by simp; omega, by simp; omega⟩⟩
        · exact fieldsP_may hp ⟨h1, h2⟩ (fun x hx => hk x (by simp [hx])) y hy
    · rename_i h3
      obtain ⟨p, hp, he⟩ := Option.map_eq_some_iff.1 h
      obtain ⟨p1, p2⟩ := p
      simp only [Prod.mk.injEq] at he
      obtain ⟨rfl, rfl⟩ := he
      intro y hy
      rcases List.mem_cons.1 hy with rfl | hy
      · exact ⟨hk0.1, hk0.2, fun e => absurd e h3⟩
      · exact fieldsP_may hp hm (fun x hx => hk x (by simp [hx])) y hy
theorem followP_ok {c : Cfg} {W : List Int} {U : List Bool} : ∀ {K : Nat} {met : List Int} {ns : List (Int × List Val)} {met' : List Int} {ns' : List (Int × List Val)}, followP c W U K met ns = some (met', ns') → MetU U met → NodesOk ns met.length →
    MetU U met' ∧ met.length ≤ met'.length ∧ ns'.length = met'.length ∧ NodesOk ns' met'.length
  | 0, met, ns, met', ns', h, hm, hno => by simp [followP] at h
  | K + 1, met, ns, met', ns', h, hm, hno => by
    unfold followP at h
    split at h
    · rename_i he
      simp only [Option.some.injEq, Prod.mk.injEq] at h
      obtain ⟨rfl, rfl⟩ := h
      exact ⟨hm, Nat.le_refl _, he, hno⟩
    · cases hn : nodeP c W U met (met.getD ns.length 0) with
      | none => rw [hn] at h; cases h
      | some q =>
        obtain ⟨⟨k, vs⟩, m1⟩ := q
        rw [hn] at h
        simp only at h
        obtain ⟨h1, h2⟩ := nodeP_met hn hm
        have hv : ∀ v ∈ vs, valMay m1.length v := by
          unfold nodeP at hn
          cases ho : objD c.kinds (blockW c W (met.getD ns.length 0)) with
          | none => rw [ho] at hn; cases hn
          | some q =>
            obtain ⟨k', vs', e⟩ := q
            rw [ho] at hn
            obtain ⟨p, hp, he⟩ := Option.map_eq_some_iff.1 hn
            obtain ⟨p1, p2⟩ := p
            simp only [Prod.mk.injEq] at he
            obtain ⟨⟨_, rfl⟩, rfl⟩ := he
            exact fieldsP_may hp hm (objD_kinds ho).1
        obtain ⟨a1, a2, a3, a4⟩ := followP_ok h h1 (fun x hx => by
          rcases List.mem_append.1 hx with hx | hx
          · exact fun v hv => valMay_mono h2 (hno x hx v hv)
          · simp only [List.mem_singleton] at hx; subst hx; exact hv)
        exact ⟨a1, Nat.le_trans h2 a2, a3, a4⟩
end Scul
/- image: reader.read. -/
namespace Scul
open Go Go.Sl Go.RowKit Go.Proofs
section
variable {E : Env} {w : World} {F R : HP} {X : RX} {met rs xs : List Int} {ns : List (Int × List Val)}
theorem rdr_set7 {V : World} {v : Value} {r : List Int} (h : Sat E V (ints v r * (rdr X met ns rs xs * F))) : (∃ u, V.cell? ⟨X.r, 7, none⟩ = some u) ∧ V.frozen? ⟨X.r, 7, none⟩ = false ∧ Hid (Sat E (V.setCell ⟨X.r, 7, none⟩ v) (rdr X met ns r xs * F)) := by
  obtain ⟨q, ⟨hpl, hql⟩, hs⟩ := rdr_open (Sat.swap h)
  obtain ⟨m, bv, nv, rv, xv, l⟩ := q
  unfold rdCells at hs
  try simp only at hpl hql hs
  have h2 := hs.setCell (i := 7) (v := v)
  simp only [List.setIfInBounds_toArray, List.set_cons_zero, List.set_cons_succ] at h2
  refine ⟨⟨_, hs.cell 7 rfl⟩, hs.free 7, Lib.hid ?_⟩
  have h3 : Sat E _ (rdr X met ns r xs * (ints rv rs * F)) := rdr_mk ⟨m, bv, nv, v, xv, l⟩ ⟨hpl, hql⟩ (h2.ac (by unfold rdCells; simp only; ac_rfl))
  exact Sat.right (Sat.swap h3)
theorem rdr_set8 {V : World} {v : Value} {r : List Int} (h : Sat E V (ints v r * (rdr X met ns rs xs * F))) : (∃ u, V.cell? ⟨X.r, 8, none⟩ = some u) ∧ V.frozen? ⟨X.r, 8, none⟩ = false ∧ Hid (Sat E (V.setCell ⟨X.r, 8, none⟩ v) (rdr X met ns rs r * F)) := by
  obtain ⟨q, ⟨hpl, hql⟩, hs⟩ := rdr_open (Sat.swap h)
  obtain ⟨m, bv, nv, rv, xv, l⟩ := q
  unfold rdCells at hs
  try simp only at hpl hql hs
  have h2 := hs.setCell (i := 8) (v := v)
  simp only [List.setIfInBounds_toArray, List.set_cons_zero, List.set_cons_succ] at h2
  refine ⟨⟨_, hs.cell 8 rfl⟩, hs.free 8, Lib.hid ?_⟩
  have h3 : Sat E _ (rdr X met ns rs r * (ints xv xs * F)) := rdr_mk ⟨m, bv, nv, rv, v, l⟩ ⟨hpl, hql⟩ (h2.ac (by unfold rdCells; simp only; ac_rfl))
  exact Sat.right (Sat.swap h3)
theorem rdr_may {V : World} (hg : grMay ⟨ns, rs, xs⟩) (hl : ns.length ≤ 4096) (hr : rs.length ≤ 1000) (hx : xs.length ≤ 1000) (h : Sat E V (rdr X met ns rs xs * F)) : ∃ na nn nc ra rn rc xa xn xc, V.cell? ⟨X.r, 6, none⟩ = some (.slice na nn nc) ∧ V.cell? ⟨X.r, 7, none⟩ = some (.slice ra rn rc) ∧ V.cell? ⟨X.r, 8, none⟩ = some (.slice xa xn xc) ∧
    Hid (Calls Tryz.prog 169 #[.agg #[.slice na nn nc, .slice ra rn rc, .slice xa xn xc]] V fun e w' => e = .returned (.bool true) ∧ Sat E w' (rdr X met ns rs xs * F)) := by
  obtain ⟨q, ⟨hpl, hql⟩, hs⟩ := rdr_open h
  obtain ⟨m, bv, nv, rv, xv, l⟩ := q
  unfold rdCells at hs
  try simp only at hpl hql hs
  have h2 : Sat E V (nodesR nv l * (ints rv rs * (ints xv xs * (pt X.r (.cells #[X.wv, .pointer (some ⟨X.lb, 0, none⟩), X.kv, .pointer (some ⟨X.ub, 0, none⟩), .map (some X.mb), bv, nv, rv, xv] 172) * (imap X.mb m * (ints bv met * (lay X.lb X.c * (bm X.ub X.U * F)))))))) := hs.ac (by ac_rfl)
  obtain ⟨na, nc, rfl⟩ := nodesR_val h2
  obtain ⟨ra, rc, rfl⟩ := ints_val (Sat.swap h2)
  obtain ⟨xa, xc, rfl⟩ := ints_val (Sat.swap h2.right)
  refine ⟨_, _, _, _, _, _, _, _, _, hs.cell 6 rfl, hs.cell 7 rfl, hs.cell 8 rfl, Lib.hid ?_⟩
  refine (gMay_calls V _ _ _ l rs xs (by rw [hql]; exact hg) (by rw [← List.length_map (f := (·.2)), hql]; exact hl) hr hx h2).mono ?_
  rintro e w' ⟨he, h3⟩
  exact ⟨he, rdr_mk ⟨m, bv, _, _, _, l⟩ ⟨hpl, hql⟩ (h3.ac (by unfold rdCells; simp only; ac_rfl))⟩
/-- What read answers. -/
def RDP (E : Env) (F : HP) (X : RX) (W : List Int) (e : Ending) (w' : World) : Prop :=
  match readG X.c W X.U with
  | none => e = .returned (.bool false) ∧ Sat E w' F
  | some (g, bs) => e = .returned (.bool true) ∧ MetU X.U bs ∧ Sat E w' (rdr X bs g.nodes g.roots g.weaks * F)
theorem rootsA (w : World) (W : List Int) (ks : List (Value × List Int)) (hX : RDS E F X W ks) (hok : X.c.Ok) (hmu : MetU X.U met) (hwl : X.c.words ≤ W.length) (h : Sat E w (rdr X met ns rs xs * F)) :
    Calls Tryz.prog 167 #[.pointer (some ⟨X.r, 0, none⟩), .int .i64 X.c.roots, .func (.func 86) #[.pointer (some ⟨X.lb, 0, none⟩)] #[]] w fun e w' => RP E F X met (rootsL X.c W) ns rs xs e w' := by
  have hp := Cfg.near_places hok.toNear
  have h1 := hok.toNear.roots; have h2 := hok.toNear.weaks; have h3 := hok.toNear.log
  have hc := hp.2.2.2.2.2.2.2.2.2.1
  have hwd : X.c.bitsAt ≤ X.c.words := by
    have ha : 0 ≤ X.c.all := by have := hok.toNear.n0; have := hok.toNear.n1; have := hok.toNear.n2; have := hok.toNear.n3; unfold Cfg.all; omega
    unfold Cfg.words Cfg.blocksAt Cfg.logAt Cfg.lineOf
    omega
  have := rootsR_calls w W ks X.c.roots.toNat X.c.rootsAt.toNat hX hmu (Int.toNat_of_nonneg h1.1) (Int.toNat_of_nonneg (by omega)) (by omega) (by omega) h
  rwa [Int.toNat_of_nonneg h1.1] at this
theorem weaksA (w : World) (W : List Int) (ks : List (Value × List Int)) (hX : RDS E F X W ks) (hok : X.c.Ok) (hmu : MetU X.U met) (hwl : X.c.words ≤ W.length) (h : Sat E w (rdr X met ns rs xs * F)) :
    Calls Tryz.prog 167 #[.pointer (some ⟨X.r, 0, none⟩), .int .i64 X.c.weaks, .func (.func 99) #[.pointer (some ⟨X.lb, 0, none⟩)] #[]] w fun e w' => RP E F X met (weaksL X.c W) ns rs xs e w' := by
  have hp := Cfg.near_places hok.toNear
  have h1 := hok.toNear.roots; have h2 := hok.toNear.weaks; have h3 := hok.toNear.log
  have hc := hp.2.2.2.2.2.2.2.2.2.1
  have hwd : X.c.bitsAt ≤ X.c.words := by
    have ha : 0 ≤ X.c.all := by have := hok.toNear.n0; have := hok.toNear.n1; have := hok.toNear.n2; have := hok.toNear.n3; unfold Cfg.all; omega
    unfold Cfg.words Cfg.blocksAt Cfg.logAt Cfg.lineOf
    omega
  have := weaksR_calls w W ks X.c.weaks.toNat (X.c.rootsAt + X.c.roots).toNat hX hmu (Int.toNat_of_nonneg h2.1) (Int.toNat_of_nonneg (by omega)) (by omega) (by omega) h
  rwa [Int.toNat_of_nonneg h2.1] at this
set_option maxRecDepth 100000 in
set_option maxHeartbeats 8000000 in
theorem rread_calls (w : World) (W : List Int) (ks : List (Value × List Int)) (ka : Option Addr) (kn kc : Nat) (hX : RDS E F X W ks) (hUc : (X.U.length : Int) = X.c.count) (hwl : X.c.words ≤ W.length) (h : Sat E w (rdr X [] [] [] [] * F)) :
    Calls Tryz.prog 126 #[.pointer (some ⟨X.r, 0, none⟩), .agg (cfgCells (.slice ka kn kc) X.c)] w fun e w' => RDP E F X W e w' := by
  obtain ⟨P, hP⟩ : ∃ P : Ending → World → Prop, P = fun e w' => RDP E F X W e w' := ⟨_, rfl⟩
  have HPP : Hid (∀ e w', P e w' ↔ RDP E F X W e w') := Lib.hid fun e w' => by rw [hP]
  refine Calls.mono (R := P) ?_ fun e w' hp => (HPP.out e w').1 hp
  clear hP
  have hok : X.c.Ok := by obtain ⟨_, h2⟩ := rdr_lay h; exact lay_ok h2
  obtain ⟨F0, hF0⟩ : ∃ F0 : HP, F0 = pt w.heap.size (.cells (cfgCells (.slice ka kn kc) X.c) 29) * F := ⟨_, rfl⟩
  have hX0 : RDS E F0 X W ks := ⟨hX.ul, fun V h => hX.wds V (by rw [hF0] at h; exact h.right), hX.wu, fun V h => hX.kds V (by rw [hF0] at h; exact h.right), hX.kk⟩
  have H0 : Hid (Sat E _ (rdr X [] [] [] [] * F0)) := Lib.hid (by rw [hF0]; exact Sat.swap (h.alloc (.cells (cfgCells (.slice ka kn kc) X.c) 29)))
  have HCF : Hid (∀ V (A : HP), Sat E V (A * F0) → V.cell? ⟨w.heap.size, 5, none⟩ = some (.int .i64 X.c.roots) ∧ V.cell? ⟨w.heap.size, 6, none⟩ = some (.int .i64 X.c.weaks)) := Lib.hid fun V A hV => by
    rw [hF0] at hV
    have h2 := Sat.swap hV
    exact ⟨h2.cell 5 rfl, h2.cell 6 rfl⟩
  have HC1 : Hid (∀ V met ns rs xs, Sat E V (rdr X met ns rs xs * F0) → V.cell? ⟨X.r, 1, none⟩ = some (.pointer (some ⟨X.lb, 0, none⟩))) := Lib.hid fun V met ns rs xs hV => (rdr_cells hV).2.1
  have HNO : Hid (readG X.c W X.U = none → ∀ V e (A : HP), e = .returned (.bool false) → Sat E V (A * F0) → P e V) := Lib.hid fun hn V e A he hV => by
    rw [HPP.out]
    unfold RDP
    rw [hn]
    rw [hF0] at hV
    exact ⟨he, hV.right.right⟩
  have HYES : Hid (∀ g bs, readG X.c W X.U = some (g, bs) → ∀ V e, e = .returned (.bool true) → MetU X.U bs → Sat E V (rdr X bs g.nodes g.roots g.weaks * F0) → P e V) := Lib.hid fun g bs hn V e he hm hV => by
    rw [HPP.out]
    unfold RDP
    rw [hn]
    rw [hF0] at hV
    exact ⟨he, hm, Sat.right (Sat.swap hV)⟩
  have HRA := Lib.hid (fun V (hV : Sat E V (rdr X [] [] [] [] * F0)) => rootsA V W ks hX0 hok ⟨List.nodup_nil, by simp⟩ hwl hV)
  have HWA := Lib.hid (fun V met ns rs xs (hm : MetU X.U met) (hV : Sat E V (rdr X met ns rs xs * F0)) => weaksA V W ks hX0 hok hm hwl hV)
  have HFA := Lib.hid (fun V met (ns : List (Int × List Val)) rs xs (hm : MetU X.U met) (hl : ns.length ≤ met.length) (hV : Sat E V (rdr X met ns rs xs * F0)) => follow_calls V W ks (X.c.count.toNat + 1) hX0 hm hl (by omega) hUc hwl hV)
  have HOK := Lib.hid hok
  have HUL := Lib.hid hX.ul
  clear hX hUc hwl h hok hF0 hX0 HPP
  unfold cfgCells
  go_enter Tryz.func126, Tryz.ntmps126
  go_upto_region 1 with fail
  refine atSat _ H0.out fun V1 h1 => ?_
  obtain ⟨b5, b6⟩ := HCF.out _ _ h1
  have c1 := HC1.out _ _ _ _ _ h1
  have H1 := Lib.hid h1
  clear h1 H0
  cases hr1 : rootsP X.U X.c.count [] (rootsL X.c W) with
  | none =>
    have HF := Lib.hid (HNO.out (by unfold readG; rw [hr1]))
    have HRn : Hid (∀ V, Sat E V (rdr X [] [] [] [] * F0) → Calls Tryz.prog 167 #[.pointer (some ⟨X.r, 0, none⟩), .int .i64 X.c.roots, .func (.func 86) #[.pointer (some ⟨X.lb, 0, none⟩)] #[]] V fun e w' => e = .returned (.tuple #[.slice none 0 0, .bool false]) ∧ ∃ met', (∃ u, w'.cell? ⟨X.r, 7, none⟩ = some u) ∧ w'.frozen? ⟨X.r, 7, none⟩ = false ∧ Hid (Sat E (w'.setCell ⟨X.r, 7, none⟩ (.slice none 0 0)) (rdr X met' [] [] [] * F0))) := Lib.hid fun V hV => (HRA.out V hV).mono fun e w' hm => by
      unfold RP at hm
      rw [hr1] at hm
      obtain ⟨he, met', _, h2⟩ := hm
      exact ⟨he, met', rdr_set7 (ints_nil h2)⟩
    clear hr1 HNO HYES HRA HWA HFA
    go_upto_region 2 with fail
    go_region_with (go_at_call 167; refine (HRn.out _ (by first | exact H1.out | exact H1.out.drew | exact H1.out.drewN _)).mono ?_; rintro e w2 ⟨rfl, m2, ⟨u7, q7⟩, f7, h2⟩)
    all_goals
      go_wp2_with fail
      exact HF.out _ _ _ rfl h2.out
  | some p =>
    obtain ⟨r1, m1⟩ := p
    obtain ⟨hm1, _, hl1, hp1⟩ := rootsP_ok hr1 ⟨List.nodup_nil, by simp⟩
    have HRs : Hid (∀ V, Sat E V (rdr X [] [] [] [] * F0) → Calls Tryz.prog 167 #[.pointer (some ⟨X.r, 0, none⟩), .int .i64 X.c.roots, .func (.func 86) #[.pointer (some ⟨X.lb, 0, none⟩)] #[]] V fun e w' => ∃ a cc, e = .returned (.tuple #[.slice a r1.length cc, .bool true]) ∧ (∃ u, w'.cell? ⟨X.r, 7, none⟩ = some u) ∧ w'.frozen? ⟨X.r, 7, none⟩ = false ∧ Hid (Sat E (w'.setCell ⟨X.r, 7, none⟩ (.slice a r1.length cc)) (rdr X m1 [] r1 [] * F0))) := Lib.hid fun V hV => (HRA.out V hV).mono fun e w' hm => by
      unfold RP at hm
      rw [hr1] at hm
      obtain ⟨v, he, _, h2⟩ := hm
      obtain ⟨a, cc, rfl⟩ := ints_val h2
      exact ⟨a, cc, he, rdr_set7 h2⟩
    have HR1 := Lib.hid hr1
    have HM1 := Lib.hid hm1
    have HL1 : Hid (r1.length ≤ 1000) := Lib.hid (by rw [hl1]; unfold rootsL; rw [List.length_take]; have := HOK.out.toNear.roots; omega)
    have HP1 := Lib.hid hp1
    clear HRA hr1 hm1 hl1 hp1
    go_upto_region 2 with fail
    go_cut [5] (fun s5 wx => s5 = .bool true ∧ Sat E wx (rdr X m1 [] r1 [] * F0))
    case first =>
      go_region_with (go_at_call 167; refine (HRs.out _ (by first | exact H1.out | exact H1.out.drew | exact H1.out.drewN _)).mono ?_; rintro e w2 ⟨a, cc, rfl, ⟨u7, q7⟩, f7, h2⟩)
      all_goals
        go_wp2_with fail
        go_meet
        exact ⟨rfl, h2.out⟩
    case rest =>
      obtain ⟨rfl, h2⟩ := hcut
      have H2 := Lib.hid h2
      clear h2 b5 b6 c1 H1 HRs
      rename World => V2
      cases hf1 : followP X.c W X.U (X.c.count.toNat + 1) m1 [] with
      | none =>
        have HF := Lib.hid (HNO.out (by unfold readG; rw [HR1.out]; simp only; rw [hf1]))
        have HFn : Hid (Calls Tryz.prog 168 #[.pointer (some ⟨X.r, 0, none⟩)] V2 fun e w' => e = .returned (.bool false) ∧ ∃ A, Sat E w' (A * F0)) := Lib.hid ((HFA.out V2 m1 [] r1 [] HM1.out (Nat.zero_le _) H2.out).mono fun e w' hm => by
          unfold FP at hm
          rw [hf1] at hm
          obtain ⟨he, met', ns', h3⟩ := hm
          exact ⟨he, _, h3⟩)
        clear hf1 HNO HYES HWA HFA
        go_wp2_with (go_at_call 168; refine HFn.out.mono ?_; rintro e w3 ⟨rfl, A, h3⟩)
        exact HF.out _ _ _ rfl h3
      | some p =>
        obtain ⟨m2, n2⟩ := p
        obtain ⟨hm2, hle2, hnl2, hno2⟩ := followP_ok hf1 HM1.out (by intro x hx; cases hx)
        have HFs : Hid (Calls Tryz.prog 168 #[.pointer (some ⟨X.r, 0, none⟩)] V2 fun e w' => e = .returned (.bool true) ∧ Sat E w' (rdr X m2 n2 r1 [] * F0)) := Lib.hid ((HFA.out V2 m1 [] r1 [] HM1.out (Nat.zero_le _) H2.out).mono fun e w' hm => by
          unfold FP at hm
          rw [hf1] at hm
          exact ⟨hm.1, hm.2.2⟩)
        have HF1 := Lib.hid hf1
        have HM2 := Lib.hid hm2
        have HN2 := Lib.hid hnl2
        have HO2 := Lib.hid hno2
        have HLE2 := Lib.hid hle2
        clear hf1 hm2 hnl2 hno2 hle2
        go_upto_region 5 with (go_at_call 168; refine HFs.out.mono ?_; rintro e w3 ⟨rfl, h3⟩)
        obtain ⟨b5, b6⟩ := HCF.out _ _ h3
        have c1 := HC1.out _ _ _ _ _ h3
        have H3 := Lib.hid h3
        clear h3 HFs H2
        cases hr2 : rootsP X.U X.c.count m2 (weaksL X.c W) with
        | none =>
          have HF := Lib.hid (HNO.out (by unfold readG; rw [HR1.out]; simp only; rw [HF1.out]; simp only; rw [hr2]))
          have HRn : Hid (∀ V, Sat E V (rdr X m2 n2 r1 [] * F0) → Calls Tryz.prog 167 #[.pointer (some ⟨X.r, 0, none⟩), .int .i64 X.c.weaks, .func (.func 99) #[.pointer (some ⟨X.lb, 0, none⟩)] #[]] V fun e w' => e = .returned (.tuple #[.slice none 0 0, .bool false]) ∧ ∃ met', (∃ u, w'.cell? ⟨X.r, 8, none⟩ = some u) ∧ w'.frozen? ⟨X.r, 8, none⟩ = false ∧ Hid (Sat E (w'.setCell ⟨X.r, 8, none⟩ (.slice none 0 0)) (rdr X met' n2 r1 [] * F0))) := Lib.hid fun V hV => (HWA.out V _ _ _ _ HM2.out hV).mono fun e w' hm => by
            unfold RP at hm
            rw [hr2] at hm
            obtain ⟨he, met', _, h2⟩ := hm
            exact ⟨he, met', rdr_set8 (ints_nil h2)⟩
          clear hr2 HNO HYES HWA HFA
          go_region_with (go_at_call 167; refine (HRn.out _ (by first | exact H3.out | exact H3.out.drew | exact H3.out.drewN _)).mono ?_; rintro e w4 ⟨rfl, m4, ⟨u7, q7⟩, f7, h4⟩)
          all_goals
            go_wp2_with fail
            exact HF.out _ _ _ rfl h4.out
        | some p =>
          obtain ⟨x3, m3⟩ := p
          obtain ⟨hm3, hle3, hl3, hp3⟩ := rootsP_ok hr2 HM2.out
          have HRs2 : Hid (∀ V, Sat E V (rdr X m2 n2 r1 [] * F0) → Calls Tryz.prog 167 #[.pointer (some ⟨X.r, 0, none⟩), .int .i64 X.c.weaks, .func (.func 99) #[.pointer (some ⟨X.lb, 0, none⟩)] #[]] V fun e w' => ∃ a cc, e = .returned (.tuple #[.slice a x3.length cc, .bool true]) ∧ (∃ u, w'.cell? ⟨X.r, 8, none⟩ = some u) ∧ w'.frozen? ⟨X.r, 8, none⟩ = false ∧ Hid (Sat E (w'.setCell ⟨X.r, 8, none⟩ (.slice a x3.length cc)) (rdr X m3 n2 r1 x3 * F0))) := Lib.hid fun V hV => (HWA.out V _ _ _ _ HM2.out hV).mono fun e w' hm => by
            unfold RP at hm
            rw [hr2] at hm
            obtain ⟨v, he, _, h2⟩ := hm
            obtain ⟨a, cc, rfl⟩ := ints_val h2
            exact ⟨a, cc, he, rdr_set8 h2⟩
          have HR2 := Lib.hid hr2
          have HM3 := Lib.hid hm3
          have HL3 : Hid (x3.length ≤ 1000) := Lib.hid (by rw [hl3]; unfold weaksL; rw [List.length_take]; have := HOK.out.toNear.weaks; omega)
          have HP3 := Lib.hid hp3
          have HLE3 := Lib.hid hle3
          clear HWA hr2 hm3 hl3 hp3 hle3
          go_cut [5] (fun s5 wx => s5 = .bool true ∧ Sat E wx (rdr X m3 n2 r1 x3 * F0))
          case first =>
            go_region_with (go_at_call 167; refine (HRs2.out _ (by first | exact H3.out | exact H3.out.drew | exact H3.out.drewN _)).mono ?_; rintro e w4 ⟨a, cc, rfl, ⟨u7, q7⟩, f7, h4⟩)
            all_goals
              go_wp2_with fail
              go_meet
              exact ⟨rfl, h4.out⟩
          case rest =>
            obtain ⟨rfl, h4⟩ := hcut
            have H4 := Lib.hid h4
            clear h4 b5 b6 c1 H3 HRs2
            rename World => V4
            cases hf2 : followP X.c W X.U (X.c.count.toNat + 1) m3 n2 with
            | none =>
              have HF := Lib.hid (HNO.out (by unfold readG; rw [HR1.out]; simp only; rw [HF1.out]; simp only; rw [HR2.out]; simp only; rw [hf2]))
              have HFn : Hid (Calls Tryz.prog 168 #[.pointer (some ⟨X.r, 0, none⟩)] V4 fun e w' => e = .returned (.bool false) ∧ ∃ A, Sat E w' (A * F0)) := Lib.hid ((HFA.out V4 m3 n2 r1 x3 HM3.out (by rw [HN2.out]; exact HLE3.out) H4.out).mono fun e w' hm => by
                unfold FP at hm
                rw [hf2] at hm
                obtain ⟨he, met', ns', h3⟩ := hm
                exact ⟨he, _, h3⟩)
              clear hf2 HNO HYES HFA
              go_wp2_with (go_at_call 168; refine HFn.out.mono ?_; rintro e w5 ⟨rfl, A, h5⟩)
              exact HF.out _ _ _ rfl h5
            | some p =>
              obtain ⟨m4, n4⟩ := p
              obtain ⟨hm4, hle4, hnl4, hno4⟩ := followP_ok hf2 HM3.out (fun x hx v hv => valMay_mono HLE3.out (HO2.out x hx v hv))
              have HF := Lib.hid (HYES.out ⟨n4, r1, x3⟩ m4 (by unfold readG; rw [HR1.out]; simp only; rw [HF1.out]; simp only; rw [HR2.out]; simp only; rw [hf2]))
              have hg : grMay ⟨n4, r1, x3⟩ := by
                refine ⟨?_, ?_, ?_⟩
                · show ∀ x ∈ n4, ∀ v ∈ x.2, valMay n4.length v
                  rw [hnl4]; exact hno4
                · show ∀ r ∈ r1, placeMay n4.length r
                  rw [hnl4]; exact fun r hr => placeMay_mono (Nat.le_trans HLE2.out (Nat.le_trans HLE3.out hle4)) (HP1.out r hr)
                · show ∀ r ∈ x3, placeMay n4.length r
                  rw [hnl4]; exact fun r hr => placeMay_mono hle4 (HP3.out r hr)
              have HG := Lib.hid hg
              have HM4 := Lib.hid hm4
              have HN4 : Hid (n4.length ≤ 4096) := Lib.hid (by rw [hnl4]; have := hm4.len; have := HUL.out; omega)
              have HFs : Hid (Calls Tryz.prog 168 #[.pointer (some ⟨X.r, 0, none⟩)] V4 fun e w' => e = .returned (.bool true) ∧ Sat E w' (rdr X m4 n4 r1 x3 * F0)) := Lib.hid ((HFA.out V4 m3 n2 r1 x3 HM3.out (by rw [HN2.out]; exact HLE3.out) H4.out).mono fun e w' hm => by
                unfold FP at hm
                rw [hf2] at hm
                exact ⟨hm.1, hm.2.2⟩)
              clear hf2 HNO HYES HFA hm4 hle4 hnl4 hno4 hg
              go_wp2_with (first | (go_at_call 168; refine HFs.out.mono ?_; rintro e w5 ⟨rfl, h5⟩; obtain ⟨na, nn, nc, ra, rn, rc, xa, xn, xc, z6, z7, z8, HMY⟩ := rdr_may HG.out HN4.out HL1.out HL3.out h5; clear h5) | (go_at_call 169; refine HMY.out.mono ?_; rintro e w6 ⟨rfl, h6⟩))
              exact HF.out _ _ rfl HM4.out h6
end
end Scul
/- Rows of words, written all or none, at a log anywhere: plain. -/
namespace Scul
open Go Go.Sl Go.RowKit
namespace Redo
open Dev
variable {f T n : Nat} {l : List Ent}
/-- A row of entries that may be: log in [f, T), entries beside it. -/
structure FitF (f T n : Nat) (l : List Ent) : Prop where
  f8 : f % 8 = 0
  log : f + 8 + 2 * l.length ≤ T
  top : T ≤ n
  at_ : ∀ x ∈ l, 0 ≤ x.at_ ∧ x.at_ < n ∧ (x.at_ < f ∨ (T : Int) ≤ x.at_)
def pf1 (f : Nat) (s : List Int) (l : List Ent) : List Int := sets s (entSets ((f + 8 : Nat) : Int) l)
def pf2 (f : Nat) (s : List Int) (l : List Ent) : List Int := sets (pf1 f s l) [((f : Int), (l.length : Int))]
def pf3 (s : List Int) (l : List Ent) : List Int := sets s (ents l)
def pf4 (f : Nat) (s : List Int) (l : List Ent) : List Int := sets (pf3 s l) [((f : Int), 0)]
theorem putOpsF (f : Nat) (l : List Ent) : putOps f l = segOps (entSets ((f + 8 : Nat) : Int) l) (flA (f + 8) (f + 8 + 2 * l.length)) := by
  unfold putOps segOps
  rw [entOps_eq, flOps_eq]
  rfl
theorem markOpsF (f : Nat) (n : Int) : markOps f n = segOps [((f : Int), n)] [(f : Int)] := rfl
theorem doOpsF (f : Nat) (l : List Ent) : doOps f l = segOps (ents l) (onceA [] l) ++ markOps f 0 := by
  unfold doOps segOps stOps ents
  rw [onceOps_eq, List.map_map]
  simp [Function.comp_def]
theorem do_runF (h : FitF f T n l) (d : Dev) (hc : Clean d) (hn : d.read.length = n) (r : Dev × Int) (hr : r = d.run (doOps f l)) :
    (r.2 = 0 ∧ Clean r.1 ∧ r.1.read = pf4 f d.read l) ∨ (r.2 = 7 ∧ (Half d.read (ents l) r.1 ∨ Half (pf3 d.read l) [((f : Int), 0)] r.1)) := by
  subst hr
  have h1 := h.log; have h2 := h.top
  rw [doOpsF, markOpsF, Dev.run_append]
  rcases run_seg d hc.up hc.sure hc.fl (ents l) (onceA [] l) (by
      intro p hp
      obtain ⟨x, hx, rfl⟩ := List.mem_map.1 hp
      have := h.at_ x hx
      simp only
      omega) (by
      intro a ha
      obtain ⟨x, hx, rfl⟩ := onceA_mem ha
      have := h.at_ x hx
      omega) (by
      intro p hp
      obtain ⟨x, hx, rfl⟩ := List.mem_map.1 hp
      exact (onceA_cov hx).resolve_left (by simp)) _ rfl with ⟨g1, g2, g3, g4, g5⟩ | ⟨g1, g2⟩
  · rw [g1, if_pos rfl]
    generalize (d.run (segOps (ents l) (onceA [] l))).1 = d1 at g2 g3 g4 g5
    have hl1 : d1.read.length = n := by rw [g3, sets_len, hn]
    rcases run_seg d1 g2 (g4.trans g3.symm) g5 [((f : Int), 0)] [(f : Int)] (by simp; omega) (by simp; omega) (by simp) _ rfl with ⟨k1, k2, k3, k4, k5⟩ | ⟨k1, k2⟩
    · exact .inl ⟨k1, ⟨k2, k4.trans k3.symm, k5⟩, by rw [k3, g3]; rfl⟩
    · exact .inr ⟨k1, .inr (by rw [g3] at k2; exact k2)⟩
  · rw [g1, if_neg (by decide)]
    exact .inr ⟨g1, .inl g2⟩
theorem write_runF (h : FitF f T n l) (d : Dev) (hc : Clean d) (hn : d.read.length = n) (r : Dev × Int) (hr : r = d.run (writeOps f l)) :
    (r.2 = 0 ∧ Clean r.1 ∧ r.1.read = pf4 f (pf2 f d.read l) l) ∨
    (r.2 = 7 ∧ (Half d.read (entSets ((f + 8 : Nat) : Int) l) r.1 ∨ Half (pf1 f d.read l) [((f : Int), (l.length : Int))] r.1 ∨ Half (pf2 f d.read l) (ents l) r.1 ∨ Half (pf3 (pf2 f d.read l) l) [((f : Int), 0)] r.1)) := by
  subst hr
  have h1 := h.log; have h2 := h.top
  have e : writeOps f l = segOps (entSets ((f + 8 : Nat) : Int) l) (flA (f + 8) (f + 8 + 2 * l.length)) ++ (segOps [((f : Int), (l.length : Int))] [(f : Int)] ++ doOps f l) := by
    unfold writeOps
    rw [putOpsF]
    rfl
  rw [e, Dev.run_append]
  rcases run_seg d hc.up hc.sure hc.fl (entSets ((f + 8 : Nat) : Int) l) (flA (f + 8) (f + 8 + 2 * l.length)) (by
      intro p hp
      have := entSets_mem _ _ _ hp
      omega) (by
      intro a ha
      have := flA_mem ha
      omega) (by
      intro p hp
      have := entSets_mem _ _ _ hp
      exact flA_cov (by omega) (by omega)) _ rfl with ⟨g1, g2, g3, g4, g5⟩ | ⟨g1, g2⟩
  · rw [g1, if_pos rfl, Dev.run_append]
    generalize (d.run (segOps (entSets ((f + 8 : Nat) : Int) l) (flA (f + 8) (f + 8 + 2 * l.length)))).1 = d1 at g2 g3 g4 g5
    have hl1 : d1.read.length = n := by rw [g3, sets_len, hn]
    rcases run_seg d1 g2 (g4.trans g3.symm) g5 [((f : Int), (l.length : Int))] [(f : Int)] (by simp; omega) (by simp; omega) (by simp) _ rfl with ⟨k1, k2, k3, k4, k5⟩ | ⟨k1, k2⟩
    · rw [k1, if_pos rfl]
      generalize (d1.run (segOps [((f : Int), (l.length : Int))] [(f : Int)])).1 = d2 at k2 k3 k4 k5
      have hl2 : d2.read.length = n := by rw [k3, sets_len, hl1]
      have e3 : d2.read = pf2 f d.read l := by rw [k3, g3]; rfl
      rcases do_runF h d2 ⟨k2, k4.trans k3.symm, k5⟩ hl2 _ rfl with ⟨m1, m2, m3⟩ | ⟨m1, m2 | m2⟩
      · exact .inl ⟨m1, m2, by rw [m3, e3]⟩
      · rw [e3] at m2; exact .inr ⟨m1, .inr (.inr (.inl m2))⟩
      · rw [e3] at m2; exact .inr ⟨m1, .inr (.inr (.inr m2))⟩
    · rw [k1, if_neg (by decide)]
      rw [g3] at k2
      exact .inr ⟨k1, .inr (.inl k2)⟩
  · rw [g1, if_neg (by decide)]
    exact .inr ⟨g1, .inl g2⟩
theorem pf_len (f : Nat) (s : List Int) (l : List Ent) : (pf4 f (pf2 f s l) l).length = s.length := by simp [pf1, pf2, pf3, pf4, sets_len]
/-- The words beside the log behind a whole row. -/
theorem pf_data (h : FitF f T n l) (s : List Int) (i : Nat) (hi : i < f ∨ T ≤ i) : (pf4 f (pf2 f s l) l)[i]? = (sets s (ents l))[i]? := by
  have hlog := h.log
  unfold pf4 pf3
  rw [sets_ne _ [((f : Int), 0)] _ (by simp; omega)]
  refine sets_congr _ _ _ _ ?_
  unfold pf2 pf1
  rw [sets_ne _ [((f : Int), _)] _ (by simp; omega), sets_ne]
  intro p hp
  have := entSets_mem _ _ _ hp
  omega
theorem pf_mark (s : List Int) (l : List Ent) (hs : f < s.length) : (pf4 f s l)[f]? = some 0 := by
  unfold pf4 pf3
  rw [sets_cons, sets_nil, Int.toNat_natCast]
  exact List.getElem?_set_self (by rw [sets_len]; exact hs)
theorem mayF (h : FitF f T n l) (d : Dev) (hn : d.read.length = n) : may d f T = true := by
  have h1 := h.log; have h2 := h.top; have h3 := h.f8
  unfold may
  rw [decide_eq_true_iff]
  omega
/-- Write at a log in [f, T), of entries that may be. -/
theorem writeF (h : FitF f T n l) (d : Dev) (hd : d.down = false) (hn : d.read.length = n) (hT : T ≤ 10000) (hm : d.read.getD f 0 = 0) (hl0 : l ≠ []) (hll : l.length ≤ 1024) : write d f T l = d.run (writeOps f l) := by
  have h1 := h.log; have h2 := h.top
  have hall : (l.all fun x => mayAt d f T x.at_) = true := by
    rw [List.all_eq_true]
    intro x hx
    have := h.at_ x hx
    unfold mayAt
    rw [decide_eq_true_iff, hn]
    omega
  have hl := load0 d hd f (by omega)
  have hf : fits f T l.length = true := by
    unfold fits need
    rw [decide_eq_true_iff]
    have hw : wrap64 ((T : Int) - f) = T - f := by unfold wrap64; omega
    rw [hw, if_neg (by omega)]
    omega
  unfold write
  rw [mayF h d hn, hf, hall, hl.1, hl.2, hm, if_neg (by decide), if_neg (by decide), if_neg (by decide), if_neg (by decide), if_neg (by decide), if_neg hl0, Int.toNat_natCast]
/-- A row that is written while the power is there. -/
theorem writeF_up (h : FitF f T n l) (d : Dev) (hu : d.Up) (hc : Clean d) (hn : d.read.length = n) (hT : T ≤ 10000) (hm : d.read.getD f 0 = 0) (hl0 : l ≠ []) (hll : l.length ≤ 1024) (h7 : (write d f T l).2 ≠ 7) :
    (write d f T l).2 = 0 ∧ Clean (write d f T l).1 ∧ (write d f T l).1.read = pf4 f (pf2 f d.read l) l := by
  rw [writeF h d hu.1 hn hT hm hl0 hll] at h7 ⊢
  rcases write_runF h d hc hn _ rfl with h | h
  · exact h
  · exact absurd h.1 h7
/-- Behind a fence all will be sure. -/
def Settled (d : Dev) : Prop := d.sure.length = d.read.length ∧ ∀ i, i < d.read.length → d.fl.lookup ((i / 8 : Nat) : Int) = some (seg d.read (i / 8)) ∨ (d.fl.lookup ((i / 8 : Nat) : Int) = none ∧ d.sure[i]? = d.read[i]?)
theorem Clean.settled {d : Dev} (h : Clean d) : Settled d := ⟨by rw [h.sure], fun i _ => .inr ⟨by rw [h.fl]; rfl, by rw [h.sure]⟩⟩
/-- Stores, and flushes of their lines. -/
theorem lay_run (d : Dev) (hd : d.down = false) (hs : Settled d) (S : List (Int × Int)) (A : List Int) (hS : ∀ p ∈ S, 0 ≤ p.1 ∧ p.1 < (d.read.length : Int)) (hA : ∀ a ∈ A, 0 ≤ a ∧ a < (d.read.length : Int)) (hcov : ∀ p ∈ S, p.1 / 8 ∈ A.map (· / 8))
    (r : Dev × Int) (hr : r = d.run ((S.map fun p => .st p.1 p.2) ++ (A.map fun a => .fl a))) :
    (r.2 = 0 ∧ r.1.down = false ∧ r.1.read = sets d.read S ∧ Settled r.1) ∨ r.2 = 7 := by
  subst hr
  rw [Dev.run_append]
  rcases run_sts d hd S hS _ rfl with ⟨h1, h2, h3, h4, h5⟩ | ⟨h1, _⟩
  · rw [h1, if_pos rfl]
    generalize (d.run (S.map fun p => .st p.1 p.2)).1 = d1 at h2 h3 h4 h5
    have hl1 : d1.read.length = d.read.length := by rw [h3, sets_len]
    rcases run_fls d1 h2 A (by rw [hl1]; exact hA) _ rfl with ⟨g1, g2, g3, g4, g5⟩ | ⟨g1, _⟩
    · refine .inl ⟨g1, g2, by rw [g3, h3], by rw [g4, h4, hs.1, g3, hl1], fun i hi => ?_⟩
      rw [g3, hl1] at hi
      rw [g5 (i / 8), g3, g4, h3, h4, h5]
      by_cases hk : ((i / 8 : Nat) : Int) ∈ A.map (· / 8)
      · rw [if_pos hk]; exact .inl rfl
      · rw [if_neg hk]
        have hno : ∀ j : Nat, j / 8 = i / 8 → ∀ p ∈ S, p.1.toNat ≠ j := fun j hj p hp hpj => hk (by
          have := hS p hp
          rw [show ((i / 8 : Nat) : Int) = p.1 / 8 by omega]
          exact hcov p hp)
        have hseg : seg (sets d.read S) (i / 8) = seg d.read (i / 8) := seg_of fun j hj => sets_ne _ _ _ (hno j hj)
        rw [hseg, sets_ne _ _ _ (hno i rfl)]
        exact hs.2 i hi
    · exact .inr g1
  · rw [h1, if_neg (by decide)]
    exact .inr h1
theorem fence_run (d : Dev) (hs : Settled d) : (d.fenceE = 0 ∧ Clean d.fence ∧ d.fence.read = d.read) ∨ d.fenceE = 7 := by
  cases hdn : d.step.down with
  | true => right; unfold fenceE; rw [hdn]; rfl
  | false =>
    left
    have he : d.fenceE = 0 := by unfold fenceE; rw [hdn]; rfl
    have hfe : d.fence = { d.step with sure := fenced d.sure d.fl, fl := [] } := by unfold fence; rw [if_neg (by simp [hdn])]
    rw [hfe]
    refine ⟨he, ⟨hdn, ?_, rfl⟩, step_read' d⟩
    show fenced d.sure d.fl = d.step.read
    rw [step_read']
    refine List.ext_getElem? fun i => ?_
    by_cases hi : i < d.read.length
    · rw [fenced_get _ _ _ (by rw [hs.1]; exact hi)]
      rcases hs.2 i hi with h | ⟨h1, h2⟩
      · rw [h]
        show some ((seg d.read (i / 8)).getD (i % 8) 0) = _
        rw [seg_getD, List.getD_eq_getElem?_getD, List.getElem?_eq_getElem hi]
        rfl
      · rw [h1]
        show some (d.sure.getD i 0) = _
        rw [List.getD_eq_getElem?_getD, h2, List.getElem?_eq_getElem hi]
        rfl
    · rw [List.getElem?_eq_none (by rw [fenced_len, hs.1]; omega), List.getElem?_eq_none (by omega)]
/-- A crash that picks nothing, of what is clean. -/
theorem Clean.crash_nil {d : Dev} (h : Clean d) (hok : d.Ok) : (d.crash []).read = d.read ∧ Clean (d.crash []) := by
  have e : d.crashSure [] = d.read := by
    refine List.ext_getElem? fun i => ?_
    rcases crash_poss d hok [] i with h1 | h1 | ⟨ws, h1, _⟩
    · rw [h1, h.sure]
    · exact h1
    · rw [h.fl] at h1; cases h1
  unfold crash
  rw [e]
  exact ⟨rfl, ⟨rfl, rfl, rfl⟩⟩
end Redo
end Scul
/- Heaps: what calls answer and leave: plain. -/
namespace Scul
open Go Go.Sl Go.RowKit
structure Wr where
  kind : Int
  obj : Int
  field : Int
  val : Val
/-- Words from a place on, as entries. -/
def entsAt (a : Int) : List Int → List Ent
  | [] => []
  | x :: r => ⟨a, x⟩ :: entsAt (a + 1) r
theorem entsAt_length (a : Int) (l : List Int) : (entsAt a l).length = l.length := by
  induction l generalizing a with
  | nil => rfl
  | cons x r ih => simp [entsAt, ih]
theorem entsAt_append (a : Int) (l m : List Int) : entsAt a (l ++ m) = entsAt a l ++ entsAt (a + l.length) m := by
  induction l generalizing a with
  | nil => simp [entsAt]
  | cons x r ih =>
    simp only [List.cons_append, entsAt, ih, List.length_cons]
    congr 3
    omega
namespace Hp
/-- What read tells of a block: its type, its values, an error. -/
def obj (c : Cfg) (U : List Bool) (d : Dev) (b : Int) : Int × List Val × Int :=
  if getB U b = false then (0, [], 2)
  else if d.down = true then (0, [], 7)
  else ((objDA (objD c.kinds (blockW c d.read b))).1, (objDA (objD c.kinds (blockW c d.read b))).2.1, (objDA (objD c.kinds (blockW c d.read b))).2.2.2)
def load (o : Int × List Val × Int) (i : Int) : Val × Int :=
  if o.2.2 ≠ 0 then (Val.nil, o.2.2) else if i < 0 ∨ (o.2.1.length : Int) ≤ i then (Val.nil, 4) else (o.2.1.getD i.toNat Val.nil, 0)
def refs (o : Int × List Val × Int) : List Int := (o.2.1.filter fun v => decide (v.kind = 3)).map (·.ref)
/-- What a root's word names. -/
def rootV (d : Dev) (a : Int) : Int × Int :=
  if a < 0 then (0, 4) else if d.loadE a ≠ 0 then (0, d.loadE a) else (wrap64 (wrap64 (d.load a) - 1), 0)
def rootAt (c : Cfg) (w : Wr) : Int := if w.kind = 2 then c.rootOf w.field else c.weakOf w.field
/-- Where a write's words go, what they are, an error. -/
def fieldW (c : Cfg) (U : List Bool) (d : Dev) (w : Wr) : Int × List Int × Int :=
  if w.kind ≠ 1 then (rootAt c w, if w.val.kind = 3 then [(w.val.ref % 18446744073709551616 + 1) % 18446744073709551616] else [0], 0)
  else if (obj c U d w.obj).2.2 ≠ 0 then (0, [], (obj c U d w.obj).2.2)
  else (c.at_ w.obj + (objF c.kinds (obj c U d w.obj).1 w.field w.val).1, (objF c.kinds (obj c U d w.obj).1 w.field w.val).2.1, (objF c.kinds (obj c U d w.obj).1 w.field w.val).2.2)
def placeE (U : List Bool) (w : Wr) : Int := if w.kind = 1 then (if getB U w.obj = true then 0 else 1) else if w.kind = 2 ∨ w.kind = 3 then 0 else 1
def indexE (c : Cfg) (w : Wr) : Int := if w.kind ≠ 1 ∧ rootAt c w < 0 then 4 else 0
def refersE (U : List Bool) (bl : List Int) (w : Wr) : Int := if w.val.kind = 3 ∧ ¬ (getB U w.val.ref = true ∨ w.val.ref ∈ bl) then 1 else 0
def typedE (w : Wr) : Int := if w.kind ≠ 1 ∧ w.val.kind ≠ 0 ∧ w.val.kind ≠ 3 then 3 else 0
def field5E (c : Cfg) (U : List Bool) (d : Dev) (w : Wr) : Int := if (fieldW c U d w).2.2 ≠ 3 then (fieldW c U d w).2.2 else 0
def field6E (c : Cfg) (U : List Bool) (d : Dev) (w : Wr) : Int := (fieldW c U d w).2.2
/-- The first refusal. -/
def firstE (f : Wr → Int) : List Wr → Int
  | [] => 0
  | w :: r => if f w ≠ 0 then f w else firstE f r
def fieldN (c : Cfg) (U : List Bool) (d : Dev) : List Wr → Int
  | [] => 0
  | w :: r => (fieldW c U d w).2.1.length + fieldN c U d r
/-- How many entries a commit writes. -/
def countN (c : Cfg) (U : List Bool) (d : Dev) (bl : List Int) (ws : List Wr) : Int := fieldN c U d ws + (compB (sortB (bl.map c.bitsOf))).length
/-- What a commit would refuse. -/
def fits (c : Cfg) (U R : List Bool) (d : Dev) (bl : List Int) (ws : List Wr) : Int :=
  if mayB R [] bl = false then 1
  else if firstE (placeE U) ws ≠ 0 then firstE (placeE U) ws
  else if firstE (indexE c) ws ≠ 0 then firstE (indexE c) ws
  else if firstE (refersE U bl) ws ≠ 0 then firstE (refersE U bl) ws
  else if firstE typedE ws ≠ 0 then firstE typedE ws
  else if firstE (field5E c U d) ws ≠ 0 then firstE (field5E c U d) ws
  else if firstE (field6E c U d) ws ≠ 0 then firstE (field6E c U d) ws
  else if 1024 < countN c U d bl ws ∨ c.log < Redo.need (countN c U d bl ws) then 9 else 0
def write (c : Cfg) (d : Dev) (l : List Ent) : Dev × Int := if l = [] then (d, 0) else Redo.write d c.logAt (c.logAt + c.log) l
def wents (c : Cfg) (U : List Bool) (d : Dev) (ws : List Wr) : List Ent := ws.flatMap fun w => entsAt (fieldW c U d w).1 (fieldW c U d w).2.1
structure St where
  d : Dev
  U : List Bool
  R : List Bool
def commit (c : Cfg) (s : St) (bl : List Int) (ws : List Wr) : St × Int :=
  if fits c s.U s.R s.d bl ws ≠ 0 ∨ (bl = [] ∧ ws = []) then (s, fits c s.U s.R s.d bl ws)
  else if s.d.fenceE ≠ 0 then ({ s with d := s.d.fence }, s.d.fenceE)
  else (⟨(write c s.d.fence (turnE c (setAll s.U bl true) (wordsOf bl) ++ wents c (setAll s.U bl true) s.d.fence ws)).1, setAll s.U bl true, setAll s.R bl false⟩,
    (write c s.d.fence (turnE c (setAll s.U bl true) (wordsOf bl) ++ wents c (setAll s.U bl true) s.d.fence ws)).2)
def release (c : Cfg) (s : St) (bl : List Int) : St × Int :=
  if mayB s.U [] bl = false then (s, 1)
  else (⟨(write c s.d (turnE c (setAll s.U bl false) (wordsOf bl))).1, setAll s.U bl false, setAll s.R bl false⟩, (write c s.d (turnE c (setAll s.U bl false) (wordsOf bl))).2)
def weakenB (c : Cfg) (l : List Int) : Bool := l.any fun i => decide (c.weakOf i < 0)
def weaken (c : Cfg) (d : Dev) (l : List Int) : Dev × Int :=
  if weakenB c l = true then (d, 4) else write c d (l.map fun i => ⟨c.weakOf i, 0⟩)
/-- Stores of words, flushes of their lines. -/
def stOpsAt (a : Int) : List Int → List DOp
  | [] => []
  | x :: r => .st a x :: stOpsAt (a + 1) r
def lineOps (a z : Nat) : List DOp := (List.range (z + 1 - a)).map fun i => DOp.fl (8 * (a + i : Nat) : Nat)
def layOps (a : Nat) (w : List Int) : List DOp := stOpsAt a w ++ lineOps (a / 8) ((a + w.length - 1) / 8)
def lay (c : Cfg) (R : List Bool) (d : Dev) (b k : Int) (vs : List Val) (e : Nat) : Dev × Int :=
  if getB R b = false then (d, 1)
  else if (objE c.kinds k vs e).1 ≠ 0 then (d, (objE c.kinds k vs e).1)
  else if c.size b < (objE c.kinds k vs e).2.length then (d, 1)
  else d.run (layOps (c.at_ b).toNat (objE c.kinds k vs e).2)
def reserveA (c : Cfg) (U R : List Bool) (k : Int) : Int := if k < 0 ∨ (c.kinds.length : Int) ≤ k then 0 else c.reserveA U R (kindW (c.kinds.getD k.toNat []))
def reserveE (c : Cfg) (U R : List Bool) (k : Int) : Int := if k < 0 ∨ (c.kinds.length : Int) ≤ k then 3 else c.reserveE U R (kindW (c.kinds.getD k.toNat []))
def reserveR (c : Cfg) (U R : List Bool) (k : Int) : List Bool := if k < 0 ∨ (c.kinds.length : Int) ≤ k then R else c.reserveR U R (kindW (c.kinds.getD k.toNat []))
/-- What Open does to a device, and tells; the heap that it makes. -/
def openE (d : Dev) : Dev × Int × Option (Cfg × List Bool) :=
  match cfgP d.read with
  | none => (d, 8, none)
  | some c => if (d.read.length : Int) < c.words then (d, 8, none)
    else if (Redo.recover d c.logAt (c.logAt + c.log)).2.2 ≠ 0 then ((Redo.recover d c.logAt (c.logAt + c.log)).1, (Redo.recover d c.logAt (c.logAt + c.log)).2.2, none)
    else if (readP (Redo.recover d c.logAt (c.logAt + c.log)).1.read).isSome = true then ((Redo.recover d c.logAt (c.logAt + c.log)).1, 0, some (c, usedW c (Redo.recover d c.logAt (c.logAt + c.log)).1.read))
    else ((Redo.recover d c.logAt (c.logAt + c.log)).1, 8, none)
end Hp
end Scul
