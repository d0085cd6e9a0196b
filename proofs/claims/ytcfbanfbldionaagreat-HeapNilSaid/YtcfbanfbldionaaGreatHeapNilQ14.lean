/- Lemmas and contracts for scullion's HeapNil: HwO, HwP, HwQ. -/
import Derived.StillTailTactics
import Derived.Test.YtcfbanfbldionaaGreatHeapNilQ13
import Derived.Test.YtcfbanfbldionaaGreatHeapNilQ3
/- layout: Parse. -/
namespace Scul
open Go Go.Sl Go.RowKit Go.Proofs
theorem Sat.set8 {E : Env} {w : World} {g : Nat} {a0 a1 a2 a3 a4 a5 a6 a7 b0 b1 b2 b3 b4 b5 b6 b7 : Value} {t : TypeId} {f : Nat × Nat} {R : HP} (h : Sat E w (pt g (.cells #[a0, a1, a2, a3, a4, a5, a6, a7] t f) * R)) :
    Sat E ((((((((w.setCell ⟨g, 0, none⟩ b0).setCell ⟨g, 1, none⟩ b1).setCell ⟨g, 2, none⟩ b2).setCell ⟨g, 3, none⟩ b3).setCell ⟨g, 4, none⟩ b4).setCell ⟨g, 5, none⟩ b5).setCell ⟨g, 6, none⟩ b6).setCell ⟨g, 7, none⟩ b7) (pt g (.cells #[b0, b1, b2, b3, b4, b5, b6, b7] t f) * R) := by
  have h2 := (((((((h.setCell (i := 0) (v := b0)).setCell (i := 1) (v := b1)).setCell (i := 2) (v := b2)).setCell (i := 3) (v := b3)).setCell (i := 4) (v := b4)).setCell (i := 5) (v := b5)).setCell (i := 6) (v := b6)).setCell (i := 7) (v := b7)
  simpa only [List.setIfInBounds_toArray, List.set_cons_zero, List.set_cons_succ] using h2
/-- The cells of a block of eight. -/
structure C8 (W : World) (g : Nat) (a0 a1 a2 a3 a4 a5 a6 a7 : Value) : Prop where
  d0 : W.cell? ⟨g, 0, none⟩ = some a0
  d1 : W.cell? ⟨g, 1, none⟩ = some a1
  d2 : W.cell? ⟨g, 2, none⟩ = some a2
  d3 : W.cell? ⟨g, 3, none⟩ = some a3
  d4 : W.cell? ⟨g, 4, none⟩ = some a4
  d5 : W.cell? ⟨g, 5, none⟩ = some a5
  d6 : W.cell? ⟨g, 6, none⟩ = some a6
  d7 : W.cell? ⟨g, 7, none⟩ = some a7
  f0 : W.frozen? ⟨g, 0, none⟩ = false
  f1 : W.frozen? ⟨g, 1, none⟩ = false
  f2 : W.frozen? ⟨g, 2, none⟩ = false
  f3 : W.frozen? ⟨g, 3, none⟩ = false
  f4 : W.frozen? ⟨g, 4, none⟩ = false
  f5 : W.frozen? ⟨g, 5, none⟩ = false
  f6 : W.frozen? ⟨g, 6, none⟩ = false
  f7 : W.frozen? ⟨g, 7, none⟩ = false
theorem c8_of {E : Env} {w : World} {g : Nat} {a0 a1 a2 a3 a4 a5 a6 a7 : Value} {t : TypeId} {R : HP} (h : Sat E w (pt g (.cells #[a0, a1, a2, a3, a4, a5, a6, a7] t) * R)) : C8 w g a0 a1 a2 a3 a4 a5 a6 a7 :=
  ⟨h.cell 0 rfl, h.cell 1 rfl, h.cell 2 rfl, h.cell 3 rfl, h.cell 4 rfl, h.cell 5 rfl, h.cell 6 rfl, h.cell 7 rfl, h.free 0, h.free 1, h.free 2, h.free 3, h.free 4, h.free 5, h.free 6, h.free 7⟩
/-- Kinds, one by one. -/
theorem kindsP_drop {l : List Int} {i : Nat} (h : i < l.length) : kindsP (l.drop i) = match kwP (l.getD i 0).toNat with
    | none => none
    | some fs => (kindsP (l.drop (i + 1))).map (fs :: ·) := by
  have e1 : l.getD i 0 = l[i] := by rw [List.getD_eq_getElem?_getD, List.getElem?_eq_getElem h]; rfl
  rw [List.drop_eq_getElem_cons h, e1]
  rfl
section
variable {E : Env} {w : World} {F R : HP}
theorem wpl_pushK {ops : Array Oper} {rest : List Oper} {o : Oper} {a : Act} {Q : Exit → Act → World → Prop} (hgd : o.guard = none) (s x : Operand)
    (ho : o.op = .call { callee := .builtin .append, args := #[s, x], argTypes := #[27, 27] })
    {v fv : Value} {ks : List (Value × List Int)} {xb : Nat} {fs : List Int} {t : TypeId} {f : Nat × Nat} (hs : Sat E w (pt xb (.cells #[fv] t f) * (ints fv fs * (kindsR v ks * R)))) (hv : a.eval s = v) (hx : a.eval x = .slice (some ⟨xb, 0, none⟩) 1 1) (hn : ks.length + 1 ≤ 1000000) (h1 : fv.oneCell' = true)
    (h : ∀ r, Hid (r = ks ++ [(fv, fs)]) → ∀ ao c w', Sat E w' (kindsR (.slice ao r.length c) r * R) → wpList Tryz.prog ops Q rest (a.put o.dst (.slice ao r.length c)) w') : wpList Tryz.prog ops Q (o :: rest) a w := by
  have hs2 : Sat E w (row 62 1 v ks.length (ks.map (·.1)) * (pt xb (.cells #[fv] t f) * (ints fv fs * (bagI ks * R)))) := hs.ac (by unfold kindsR; ac_rfl)
  refine wpl_append hgd s x stK ho v ks.length _ hs2 hv _ 1 _ (rd_one hs) hx (by intro u hu; simp at hu; subst hu; exact h1) (by simp only [maxLen]; omega) (by omega) fun v' w' h' => ?_
  have h2 : Sat E w' (kindsR v' (ks ++ [(fv, fs)]) * R) := by
    have h3 := Sat.right (h'.ac (B := pt xb (.cells #[fv] t f) * (row 62 1 v' (ks.length + 1) (ks.map (·.1) ++ [fv]) * (ints fv fs * (bagI ks * R)))) (by ac_rfl))
    unfold kindsR
    rw [List.length_append, List.map_append, bagI_append]
    refine h3.ac ?_
    show _ * (_ * (ints fv fs * emp)) * R = _
    rw [sep_emp]
    show (row 62 1 v' (ks.length + 1) (ks.map (·.1) ++ [fv]) * (bagI ks * ints fv fs)) * R = _
    ac_rfl
  obtain ⟨ao, c, rfl, _⟩ := Sat.row_val (show Sat E w' (row 62 1 v' (ks ++ [(fv, fs)]).length ((ks ++ [(fv, fs)]).map (·.1)) * (bagI (ks ++ [(fv, fs)]) * R)) from h2.ac (by unfold kindsR; ac_rfl))
  exact h _ (Lib.hid rfl) ao c w' h2
def cfg0 : Value := .agg #[.slice none 0 0, .int .i64 0, .int .i64 0, .int .i64 0, .int .i64 0, .int .i64 0, .int .i64 0, .int .i64 0]
def LP (E : Env) (F : HP) (l : List Int) (e : Ending) (w' : World) : Prop := (cfgP l = none ∧ e = .returned (.tuple #[cfg0, .int .i64 8]) ∧ Sat E w' F) ∨
  (∃ c ks a cc, cfgP l = some c ∧ ks.map (·.2) = c.kinds ∧ e = .returned (.tuple #[.agg (cfgCells (.slice a ks.length cc) c), .int .i64 0]) ∧ Sat E w' (kindsR (.slice a ks.length cc) ks * F))
set_option maxRecDepth 100000 in
set_option maxHeartbeats 8000000 in
theorem layParse_calls (w : World) (l : List Int) (sv : Value) (hl : ∀ x ∈ l, U64 x) (hv : ∀ W, Sat E W F → Rd W 1 sv l.length (u64s l)) (hs : Sat E w F) :
    Calls Tryz.prog 51 #[sv] w fun e w' => LP E F l e w' := by
  have HS := Lib.hid (hs.alloc (.cells #[.slice none 0 0, .int .i64 0, .int .i64 0, .int .i64 0, .int .i64 0, .int .i64 0, .int .i64 0, .int .i64 0] 29))
  obtain ⟨ao, c, rfl, hc⟩ := (hv w hs).val
  have hm := (hv w hs).most
  have HV := Lib.hid hv
  have HU : Hid (∀ i, U64 (l.getD i 0)) := Lib.hid fun i => by
    rw [List.getD_eq_getElem?_getD]
    cases e : l[i]? with
    | none => exact ⟨by decide, by decide⟩
    | some x => exact hl x (List.mem_of_getElem? e)
  obtain ⟨n, hn⟩ : ∃ n, n = l.length := ⟨_, rfl⟩
  have HN := Lib.hid hn
  rw [← hn] at hc hm HV ⊢
  clear hn hs hv hl
  by_cases h9 : n < 9
  · have HNO : Hid (cfgP l = none) := Lib.hid (by unfold cfgP; rw [if_pos (.inl (by rw [← HN.out]; exact h9))])
    have h9' : (n : Int) < 9 := by omega
    go_enter Tryz.func51, Tryz.ntmps51
    go_upto_region 1 with fail
    refine atSat _ HS.out fun W hW => ?_
    obtain ⟨d0, d1, d2, d3, d4, d5, d6, d7, f0, f1, f2, f3, f4, f5, f6, f7⟩ := c8_of hW
    have HW := Lib.hid hW
    clear hW
    go_wp2_with fail
    refine bodyPost_ret (results_cell_row_tmp rfl _ _ _ _ _ _ _ rfl (Sat.set8 HW.out).at Tryz.underlying29 (by rfl) (by kernel_rfl)) rfl ?_
    exact .inl ⟨HNO.out, rfl, (Sat.set8 HW.out).right⟩
  have h9' : (9 : Int) ≤ n := by omega
  have hcell : ∀ W, Sat E W F → ∃ b o, ao = some ⟨b, o, none⟩ ∧ ∀ i, i < n → W.cell? ⟨b, o + i, none⟩ = some (.int .u64 (l.getD i 0)) := fun W hW => by
    obtain ⟨b, o, rfl, _⟩ := (HV.out W hW).at (by omega)
    exact ⟨b, o, rfl, fun i hi => Rd.nth (HV.out W hW) i hi⟩
  obtain ⟨b, o, rfl, hjj⟩ := hcell _ HS.out.right
  clear hjj
  have HC : Hid (∀ W, Sat E W F → ∀ i, i < n → W.cell? ⟨b, o + i, none⟩ = some (.int .u64 (l.getD i 0))) := Lib.hid fun W hW i hi => Rd.nth (HV.out W hW) i hi
  clear hcell
  have hu0 := HU.out 0
  by_cases hsg : l.getD 0 0 = 8317131967827831151
  · have HPL : Hid (cfgP l = if smallW (l.getD 8 0) > (n : Int) - 9 then none else match kindsP ((l.drop 9).take (smallW (l.getD 8 0)).toNat) with
        | none => none
        | some ks => if (Cfg.mk ks (smallW (l.getD 4 0)) (smallW (l.getD 5 0)) (smallW (l.getD 6 0)) (smallW (l.getD 7 0)) (smallW (l.getD 1 0)) (smallW (l.getD 2 0)) (smallW (l.getD 3 0))).may = 0
          then some ⟨ks, smallW (l.getD 4 0), smallW (l.getD 5 0), smallW (l.getD 6 0), smallW (l.getD 7 0), smallW (l.getD 1 0), smallW (l.getD 2 0), smallW (l.getD 3 0)⟩ else none) := Lib.hid (by
      unfold cfgP
      rw [← HN.out, if_neg (by omega)]
      rfl)
    have hs8 : 0 ≤ smallW (l.getD 8 0) ∧ smallW (l.getD 8 0) ≤ 4097 := by have := HU.out 8; unfold U64 at this; unfold smallW; omega
    have HC0 : Hid (∀ W, Sat E W F → W.cell? ⟨b, o, none⟩ = some (.int .u64 8317131967827831151) ∧ W.cell? ⟨b, o + 1, none⟩ = some (.int .u64 (l.getD 1 0)) ∧ W.cell? ⟨b, o + 2, none⟩ = some (.int .u64 (l.getD 2 0)) ∧ W.cell? ⟨b, o + 3, none⟩ = some (.int .u64 (l.getD 3 0)) ∧ W.cell? ⟨b, o + 4, none⟩ = some (.int .u64 (l.getD 4 0)) ∧ W.cell? ⟨b, o + 5, none⟩ = some (.int .u64 (l.getD 5 0)) ∧ W.cell? ⟨b, o + 6, none⟩ = some (.int .u64 (l.getD 6 0)) ∧ W.cell? ⟨b, o + 7, none⟩ = some (.int .u64 (l.getD 7 0)) ∧ W.cell? ⟨b, o + 8, none⟩ = some (.int .u64 (l.getD 8 0))) := Lib.hid fun W hW =>
      ⟨by rw [← hsg]; exact HC.out W hW 0 (by omega), HC.out W hW 1 (by omega), HC.out W hW 2 (by omega), HC.out W hW 3 (by omega), HC.out W hW 4 (by omega), HC.out W hW 5 (by omega), HC.out W hW 6 (by omega), HC.out W hW 7 (by omega), HC.out W hW 8 (by omega)⟩
    have HNU : Hid (∀ W x y, ((x = l.getD 1 0 ∧ y = smallW (l.getD 1 0)) ∨ (x = l.getD 2 0 ∧ y = smallW (l.getD 2 0)) ∨ (x = l.getD 3 0 ∧ y = smallW (l.getD 3 0)) ∨ (x = l.getD 4 0 ∧ y = smallW (l.getD 4 0)) ∨ (x = l.getD 5 0 ∧ y = smallW (l.getD 5 0)) ∨ (x = l.getD 6 0 ∧ y = smallW (l.getD 6 0)) ∨ (x = l.getD 7 0 ∧ y = smallW (l.getD 7 0)) ∨ (x = l.getD 8 0 ∧ y = smallW (l.getD 8 0))) → Calls Tryz.prog 118 #[.int .u64 x] W fun e w' => e = .returned (.int .i64 y) ∧ w' = W) := Lib.hid fun W x y h => by
      rcases h with ⟨rfl, rfl⟩ | ⟨rfl, rfl⟩ | ⟨rfl, rfl⟩ | ⟨rfl, rfl⟩ | ⟨rfl, rfl⟩ | ⟨rfl, rfl⟩ | ⟨rfl, rfl⟩ | ⟨rfl, rfl⟩
      · exact number_calls W _ (HU.out 1)
      · exact number_calls W _ (HU.out 2)
      · exact number_calls W _ (HU.out 3)
      · exact number_calls W _ (HU.out 4)
      · exact number_calls W _ (HU.out 5)
      · exact number_calls W _ (HU.out 6)
      · exact number_calls W _ (HU.out 7)
      · exact number_calls W _ (HU.out 8)
    clear hsg hu0
    obtain ⟨s1, hs1'⟩ : ∃ s, s = smallW (l.getD 1 0) := ⟨_, rfl⟩
    rw [← hs1'] at HPL HNU
    clear hs1'
    obtain ⟨s2, hs2'⟩ : ∃ s, s = smallW (l.getD 2 0) := ⟨_, rfl⟩
    rw [← hs2'] at HPL HNU
    clear hs2'
    obtain ⟨s3, hs3'⟩ : ∃ s, s = smallW (l.getD 3 0) := ⟨_, rfl⟩
    rw [← hs3'] at HPL HNU
    clear hs3'
    obtain ⟨s4, hs4'⟩ : ∃ s, s = smallW (l.getD 4 0) := ⟨_, rfl⟩
    rw [← hs4'] at HPL HNU
    clear hs4'
    obtain ⟨s5, hs5'⟩ : ∃ s, s = smallW (l.getD 5 0) := ⟨_, rfl⟩
    rw [← hs5'] at HPL HNU
    clear hs5'
    obtain ⟨s6, hs6'⟩ : ∃ s, s = smallW (l.getD 6 0) := ⟨_, rfl⟩
    rw [← hs6'] at HPL HNU
    clear hs6'
    obtain ⟨s7, hs7'⟩ : ∃ s, s = smallW (l.getD 7 0) := ⟨_, rfl⟩
    rw [← hs7'] at HPL HNU
    clear hs7'
    obtain ⟨s8, hs8'⟩ : ∃ s, s = smallW (l.getD 8 0) := ⟨_, rfl⟩
    rw [← hs8'] at HPL HNU hs8
    clear hs8'
    obtain ⟨x1, hx1⟩ : ∃ s, s = l.getD 1 0 := ⟨_, rfl⟩
    rw [← hx1] at HC0 HNU
    clear hx1
    obtain ⟨x2, hx2⟩ : ∃ s, s = l.getD 2 0 := ⟨_, rfl⟩
    rw [← hx2] at HC0 HNU
    clear hx2
    obtain ⟨x3, hx3⟩ : ∃ s, s = l.getD 3 0 := ⟨_, rfl⟩
    rw [← hx3] at HC0 HNU
    clear hx3
    obtain ⟨x4, hx4⟩ : ∃ s, s = l.getD 4 0 := ⟨_, rfl⟩
    rw [← hx4] at HC0 HNU
    clear hx4
    obtain ⟨x5, hx5⟩ : ∃ s, s = l.getD 5 0 := ⟨_, rfl⟩
    rw [← hx5] at HC0 HNU
    clear hx5
    obtain ⟨x6, hx6⟩ : ∃ s, s = l.getD 6 0 := ⟨_, rfl⟩
    rw [← hx6] at HC0 HNU
    clear hx6
    obtain ⟨x7, hx7⟩ : ∃ s, s = l.getD 7 0 := ⟨_, rfl⟩
    rw [← hx7] at HC0 HNU
    clear hx7
    obtain ⟨x8, hx8⟩ : ∃ s, s = l.getD 8 0 := ⟨_, rfl⟩
    rw [← hx8] at HC0 HNU
    clear hx8
    go_enter Tryz.func51, Tryz.ntmps51
    go_upto_region 1 with fail
    refine atSat _ HS.out fun W hW => ?_
    obtain ⟨k0, k1, k2, k3, k4, k5, k6, k7, k8⟩ := HC0.out W hW.right
    have HW := Lib.hid hW
    clear hW HS
    go_upto_region 3 with fail
    go_cut [4] (fun s4 wx => ∃ g1, s4 = .pointer (some ⟨g1, 0, none⟩) ∧ Sat E wx (pt g1 (.cells #[.slice none 0 0, .int .i64 0, .int .i64 0, .int .i64 0, .int .i64 0, .int .i64 s1, .int .i64 s2, .int .i64 s3] 29) * (pt w.heap.size (.cells #[.slice none 0 0, .int .i64 0, .int .i64 0, .int .i64 0, .int .i64 0, .int .i64 0, .int .i64 0, .int .i64 0] 29) * F)))
    case first =>
      have l1 : (1 : Int) < n := by omega
      have l2 : (2 : Int) < n := by omega
      have l3 : (3 : Int) < n := by omega
      have HNU3 : Hid (∀ W x y, ((x = x1 ∧ y = s1) ∨ (x = x2 ∧ y = s2) ∨ (x = x3 ∧ y = s3)) → Calls Tryz.prog 118 #[.int .u64 x] W fun e w' => e = .returned (.int .i64 y) ∧ w' = W) := Lib.hid fun W x y h => HNU.out W x y (by rcases h with h | h | h; exact .inl h; exact .inr (.inl h); exact .inr (.inr (.inl h)))
      clear HPL HU HN HC0 HC HV hm hc hs8 HNU k0 k4 k5 k6 k7 k8 h9 h9'
      have q : ∀ o2, (W.alloc o2).cell? ⟨b, o + 1, none⟩ = some (.int .u64 x1) ∧ (W.alloc o2).cell? ⟨b, o + 2, none⟩ = some (.int .u64 x2) ∧ (W.alloc o2).cell? ⟨b, o + 3, none⟩ = some (.int .u64 x3) := fun o2 => ⟨cell_alloc k1, cell_alloc k2, cell_alloc k3⟩
      go_region_held3 (fun V => V.cell? ⟨b, o + 1, none⟩ = some (.int .u64 x1) ∧ V.cell? ⟨b, o + 2, none⟩ = some (.int .u64 x2) ∧ V.cell? ⟨b, o + 3, none⟩ = some (.int .u64 x3)) (first | exact ⟨k1, k2, k3⟩ | exact q _) ((go_at_call 118; refine (HNU3.out _ _ _ (by first | exact .inl ⟨rfl, rfl⟩ | exact .inr (.inl ⟨rfl, rfl⟩) | exact .inr (.inr ⟨rfl, rfl⟩))).mono ?_; rintro e w' ⟨rfl, rfl⟩))
      all_goals
        go_wp2_with fail
        go_meet
        exact ⟨_, rfl, Sat.drew (HW.out.alloc _)⟩
    case rest =>
      obtain ⟨g1, rfl, h2⟩ := hcut
      clear k0 k1 k2 k3 k4 k5 k6 k7 k8 HW
      rename World => W2
      obtain ⟨R4, hR4⟩ : ∃ R4 : Int → Int → Int → Int → HP, R4 = fun a b c d => pt g1 (.cells #[.slice none 0 0, .int .i64 a, .int .i64 b, .int .i64 c, .int .i64 d, .int .i64 s1, .int .i64 s2, .int .i64 s3] 29) * (pt w.heap.size (.cells #[.slice none 0 0, .int .i64 0, .int .i64 0, .int .i64 0, .int .i64 0, .int .i64 0, .int .i64 0, .int .i64 0] 29) * F) := ⟨_, rfl⟩
      have H2 : Hid (Sat E W2 (R4 0 0 0 0)) := Lib.hid (by rw [hR4]; exact h2)
      have HR4 : Hid (∀ W a b c d, Sat E W (R4 a b c d) → Sat E W (pt g1 (.cells #[.slice none 0 0, .int .i64 a, .int .i64 b, .int .i64 c, .int .i64 d, .int .i64 s1, .int .i64 s2, .int .i64 s3] 29) * (pt w.heap.size (.cells #[.slice none 0 0, .int .i64 0, .int .i64 0, .int .i64 0, .int .i64 0, .int .i64 0, .int .i64 0, .int .i64 0] 29) * F))) := Lib.hid fun W a b c d h => by rw [hR4] at h; exact h
      have HM4 : Hid (∀ W a b c d, Sat E W (pt g1 (.cells #[.slice none 0 0, .int .i64 a, .int .i64 b, .int .i64 c, .int .i64 d, .int .i64 s1, .int .i64 s2, .int .i64 s3] 29) * (pt w.heap.size (.cells #[.slice none 0 0, .int .i64 0, .int .i64 0, .int .i64 0, .int .i64 0, .int .i64 0, .int .i64 0, .int .i64 0] 29) * F)) → Sat E W (R4 a b c d)) := Lib.hid fun W a b c d h => by rw [hR4]; exact h
      clear h2 hR4
      go_wp2_with fail
      go_loopw [34] (fun iv wr => (iv = .int .i64 0 ∧ Sat E wr (R4 0 0 0 0)) ∨ (iv = .int .i64 1 ∧ Sat E wr (R4 s4 0 0 0)) ∨ (iv = .int .i64 2 ∧ Sat E wr (R4 s4 s5 0 0)) ∨ (iv = .int .i64 3 ∧ Sat E wr (R4 s4 s5 s6 0)) ∨ (iv = .int .i64 4 ∧ Sat E wr (R4 s4 s5 s6 s7))) (fun iv _ => 4 - (RowKit.intOf iv).toNat)
      case atStart => exact .inl ⟨rfl, H2.out⟩
      case round =>
        clear H2
        rcases hrel with ⟨rfl, h3⟩ | ⟨rfl, h3⟩ | ⟨rfl, h3⟩ | ⟨rfl, h3⟩ | ⟨rfl, h3⟩
        · have h4 := HR4.out _ _ _ _ _ h3
          have kx := (HC0.out wr h4.right.right).2.2.2.2.1
          have gx : wr.cell? ⟨g1, 1 + 0, none⟩ = some (.int .i64 0) := h4.cell 1 rfl
          have gx' : wr.cell? ⟨g1, 1, none⟩ = some (.int .i64 0) := h4.cell 1 rfl
          have fx := h4.free 1
          have h5 := h4.setCell (i := 1) (v := .int .i64 s4)
          simp only [List.setIfInBounds_toArray, List.set_cons_zero, List.set_cons_succ] at h5
          have H5 := HM4.out _ _ _ _ _ h5
          clear h3 h4 h5
          go_wp2_with (go_at_call 118; refine (HNU.out _ _ s4 (.inr (.inr (.inr (.inl ⟨rfl, rfl⟩))))).mono ?_; rintro e w' ⟨rfl, rfl⟩)
          exact ⟨.inr (.inl ⟨rfl, H5⟩), by simp [RowKit.intOf]⟩
        · have h4 := HR4.out _ _ _ _ _ h3
          have kx := (HC0.out wr h4.right.right).2.2.2.2.2.1
          have gx : wr.cell? ⟨g1, 1 + 1, none⟩ = some (.int .i64 0) := h4.cell 2 rfl
          have gx' : wr.cell? ⟨g1, 2, none⟩ = some (.int .i64 0) := h4.cell 2 rfl
          have fx := h4.free 2
          have h5 := h4.setCell (i := 2) (v := .int .i64 s5)
          simp only [List.setIfInBounds_toArray, List.set_cons_zero, List.set_cons_succ] at h5
          have H5 := HM4.out _ _ _ _ _ h5
          clear h3 h4 h5
          go_wp2_with (go_at_call 118; refine (HNU.out _ _ s5 (.inr (.inr (.inr (.inr (.inl ⟨rfl, rfl⟩)))))).mono ?_; rintro e w' ⟨rfl, rfl⟩)
          exact ⟨.inr (.inr (.inl ⟨rfl, H5⟩)), by simp [RowKit.intOf]⟩
        · have h4 := HR4.out _ _ _ _ _ h3
          have kx := (HC0.out wr h4.right.right).2.2.2.2.2.2.1
          have gx : wr.cell? ⟨g1, 1 + 2, none⟩ = some (.int .i64 0) := h4.cell 3 rfl
          have gx' : wr.cell? ⟨g1, 3, none⟩ = some (.int .i64 0) := h4.cell 3 rfl
          have fx := h4.free 3
          have h5 := h4.setCell (i := 3) (v := .int .i64 s6)
          simp only [List.setIfInBounds_toArray, List.set_cons_zero, List.set_cons_succ] at h5
          have H5 := HM4.out _ _ _ _ _ h5
          clear h3 h4 h5
          go_wp2_with (go_at_call 118; refine (HNU.out _ _ s6 (.inr (.inr (.inr (.inr (.inr (.inl ⟨rfl, rfl⟩))))))).mono ?_; rintro e w' ⟨rfl, rfl⟩)
          exact ⟨.inr (.inr (.inr (.inl ⟨rfl, H5⟩))), by simp [RowKit.intOf]⟩
        · have h4 := HR4.out _ _ _ _ _ h3
          have kx := (HC0.out wr h4.right.right).2.2.2.2.2.2.2.1
          have gx : wr.cell? ⟨g1, 1 + 3, none⟩ = some (.int .i64 0) := h4.cell 4 rfl
          have gx' : wr.cell? ⟨g1, 4, none⟩ = some (.int .i64 0) := h4.cell 4 rfl
          have fx := h4.free 4
          have h5 := h4.setCell (i := 4) (v := .int .i64 s7)
          simp only [List.setIfInBounds_toArray, List.set_cons_zero, List.set_cons_succ] at h5
          have H5 := HM4.out _ _ _ _ _ h5
          clear h3 h4 h5
          go_wp2_with (go_at_call 118; refine (HNU.out _ _ s7 (.inr (.inr (.inr (.inr (.inr (.inr (.inl ⟨rfl, rfl⟩)))))))).mono ?_; rintro e w' ⟨rfl, rfl⟩)
          exact ⟨.inr (.inr (.inr (.inr ⟨rfl, H5⟩))), by simp [RowKit.intOf]⟩
        · have h4 := HR4.out _ _ _ _ _ h3
          have k8 := (HC0.out wr h4.right.right).2.2.2.2.2.2.2.2
          have H4 := Lib.hid h4
          have l8 : (8 : Int) < n := by omega
          have e9 : IntKind.i64.wrap ((n : Int) - 9) = (n : Int) - 9 := wrap_id (by omega) (by omega)
          clear h3 HR4 HM4
          by_cases hbig : s8 > (n : Int) - 9
          · have HNO : Hid (cfgP l = none) := Lib.hid (by rw [HPL.out, if_pos hbig])
            have HX := Lib.hid (h4.ac (B := pt w.heap.size (.cells #[.slice none 0 0, .int .i64 0, .int .i64 0, .int .i64 0, .int .i64 0, .int .i64 0, .int .i64 0, .int .i64 0] 29) * (pt g1 (.cells #[.slice none 0 0, .int .i64 s4, .int .i64 s5, .int .i64 s6, .int .i64 s7, .int .i64 s1, .int .i64 s2, .int .i64 s3] 29) * F)) (by ac_rfl))
            have h0 := HX.out
            obtain ⟨d0, d1, d2, d3, d4, d5, d6, d7, f0, f1, f2, f3, f4, f5, f6, f7⟩ := c8_of h0
            have hb2 : (n : Int) - 9 < s8 := hbig
            clear h4 h0 hbig
            go_wp2_with (go_at_call 118; refine (HNU.out _ _ s8 (.inr (.inr (.inr (.inr (.inr (.inr (.inr ⟨rfl, rfl⟩)))))))).mono ?_; rintro e w' ⟨rfl, rfl⟩)
            refine bodyPost_ret (results_cell_row_tmp rfl _ _ _ _ _ _ _ rfl (Sat.set8 HX.out).at Tryz.underlying29 (by rfl) (by kernel_rfl)) rfl ?_
            exact .inl ⟨HNO.out, rfl, Sat.right (Sat.set8 HX.out).right⟩
          · obtain ⟨K, hK⟩ := Int.eq_ofNat_of_zero_le hs8.1
            subst hK
            have hKn : (K : Int) ≤ (n : Int) - 9 := by omega
            have hKc : 9 + K ≤ c := by omega
            have hK4 : (K : Int) ≤ 4097 := hs8.2
            have e10 : IntKind.i64.wrap (9 + (K : Int)) = 9 + (K : Int) := wrap_id (by omega) (by omega)
            obtain ⟨xs, hxs⟩ : ∃ xs, xs = (l.drop 9).take K := ⟨_, rfl⟩
            have hxl : xs.length = K := by
              rw [hxs, List.length_take, List.length_drop, ← HN.out]
              omega
            have HXG : Hid (∀ i, i < K → xs.getD i 0 = l.getD (9 + i) 0) := Lib.hid fun i hi => by
              rw [hxs, List.getD_eq_getElem?_getD, List.getElem?_take, if_pos hi, List.getElem?_drop, ← List.getD_eq_getElem?_getD]
            have HPL2 : Hid (cfgP l = match kindsP xs with
                | none => none
                | some ks => if (Cfg.mk ks s4 s5 s6 s7 s1 s2 s3).may = 0 then some ⟨ks, s4, s5, s6, s7, s1, s2, s3⟩ else none) := Lib.hid (by rw [HPL.out, if_neg hbig, hxs]; rfl)
            have HXL := Lib.hid hxl
            clear hbig hxs hxl h4 hs8 HPL
            go_upto_region 12 with (go_at_call 118; refine (HNU.out _ _ (K : Int) (.inr (.inr (.inr (.inr (.inr (.inr (.inr ⟨rfl, rfl⟩)))))))).mono ?_; rintro e w' ⟨rfl, rfl⟩)
            go_cut [60, 61, 62] (fun s60 s61 s62 wx => ∃ ao2 c2, s60 = .slice ao2 K c2 ∧ (0 < K → ao2 = some ⟨b, o + 9, none⟩) ∧ s61 = .int .i64 (K : Int) ∧ s62 = .int .i64 0 ∧ Sat E wx (pt g1 (.cells #[.slice none 0 0, .int .i64 s4, .int .i64 s5, .int .i64 s6, .int .i64 s7, .int .i64 s1, .int .i64 s2, .int .i64 s3] 29) * (pt w.heap.size (.cells #[.slice none 0 0, .int .i64 0, .int .i64 0, .int .i64 0, .int .i64 0, .int .i64 0, .int .i64 0, .int .i64 0] 29) * F)))
            case first =>
              by_cases hc9 : c = 9
              · have hK0 : K = 0 := by omega
                subst hK0
                subst hc9
                go_wp2_with fail
                go_meet
                exact ⟨_, _, rfl, fun h => absurd h (by omega), rfl, rfl, H4.out⟩
              · go_wp2_with fail
                go_meet
                exact ⟨_, _, by rw [Nat.add_sub_cancel_left], fun _ => rfl, by first | rfl | rw [Nat.add_sub_cancel_left], rfl, H4.out⟩
            case rest =>
              obtain ⟨ao2, c2, rfl, hao, rfl, rfl, h5⟩ := hcut
              have H5 := Lib.hid h5
              clear h5 H4 k8 HC0 HNU hKc l8 e9 e10
              rename World => W5
              go_wp2_with fail
              go_loopw [62] (fun iv wr => ∃ (i : Nat) (ks : List (Value × List Int)) (a3 : Option Addr) (c3 : Nat), i ≤ K ∧ iv = .int .i64 (i : Int) ∧ ks.length = i ∧ kindsP xs = (kindsP (xs.drop i)).map (ks.map (·.2) ++ ·) ∧ Sat E wr (pt g1 (.cells #[.slice a3 i c3, .int .i64 s4, .int .i64 s5, .int .i64 s6, .int .i64 s7, .int .i64 s1, .int .i64 s2, .int .i64 s3] 29) * (kindsR (.slice a3 i c3) ks * (pt w.heap.size (.cells #[.slice none 0 0, .int .i64 0, .int .i64 0, .int .i64 0, .int .i64 0, .int .i64 0, .int .i64 0, .int .i64 0] 29) * F)))) (fun iv _ => K - (RowKit.intOf iv).toNat)
              case atStart => exact ⟨0, [], none, 0, Nat.zero_le _, rfl, rfl, by rw [List.drop_zero]; simp, by
                  have h6 : Sat E W5 (kindsR (.slice none 0 0) [] * (pt g1 (.cells #[.slice none 0 0, .int .i64 s4, .int .i64 s5, .int .i64 s6, .int .i64 s7, .int .i64 s1, .int .i64 s2, .int .i64 s3] 29) * (pt w.heap.size (.cells #[.slice none 0 0, .int .i64 0, .int .i64 0, .int .i64 0, .int .i64 0, .int .i64 0, .int .i64 0, .int .i64 0] 29) * F))) := by
                    have h7 := H5.out.row_nil 62 1
                    refine h7.ac ?_
                    show (row 62 1 (.slice none 0 0) 0 [] * emp) * _ = _
                    rw [sep_emp]
                  exact Sat.swap h6⟩
              case round =>
                obtain ⟨i, ks, a3, c3, hi, rfl, hks, hkp, h6⟩ := hrel
                have HKP := Lib.hid hkp
                have HKS := Lib.hid hks
                have H6 := Lib.hid h6
                clear hkp H5
                by_cases hin : i = K
                · subst hin
                  have hall : kindsP xs = some (ks.map (·.2)) := by
                    rw [HKP.out, List.drop_of_length_le (Nat.le_of_eq HXL.out)]
                    simp [kindsP]
                  obtain ⟨C, hC⟩ : ∃ C, C = Cfg.mk (ks.map (·.2)) s4 s5 s6 s7 s1 s2 s3 := ⟨_, rfl⟩
                  have HPF : Hid (cfgP l = if C.may = 0 then some C else none) := Lib.hid (by rw [HPL2.out, hall]; simp only; rw [← hC])
                  have HMAY : Hid (∀ W, Sat E W (pt g1 (.cells #[.slice a3 i c3, .int .i64 s4, .int .i64 s5, .int .i64 s6, .int .i64 s7, .int .i64 s1, .int .i64 s2, .int .i64 s3] 29) * (kindsR (.slice a3 i c3) ks * (pt w.heap.size (.cells #[.slice none 0 0, .int .i64 0, .int .i64 0, .int .i64 0, .int .i64 0, .int .i64 0, .int .i64 0, .int .i64 0] 29) * F))) → Calls Tryz.prog 120 #[.agg #[.slice a3 i c3, .int .i64 s4, .int .i64 s5, .int .i64 s6, .int .i64 s7, .int .i64 s1, .int .i64 s2, .int .i64 s3]] W fun e w' => e = .returned (.int .i64 C.may) ∧ Sat E w' (pt g1 (.cells #[.slice a3 i c3, .int .i64 s4, .int .i64 s5, .int .i64 s6, .int .i64 s7, .int .i64 s1, .int .i64 s2, .int .i64 s3] 29) * (kindsR (.slice a3 i c3) ks * (pt w.heap.size (.cells #[.slice none 0 0, .int .i64 0, .int .i64 0, .int .i64 0, .int .i64 0, .int .i64 0, .int .i64 0, .int .i64 0] 29) * F)))) := Lib.hid fun W hW => by
                    have h7 := layMay_calls W C ks (.slice a3 i c3) (fun W2 h2 => kindsR_rd (Sat.swap h2)) (by rw [hC]) hW
                    rw [hC] at h7 ⊢
                    exact h7
                  have HCE := Lib.hid hC
                  have HZ : Hid (∀ W, Sat E W (pt g1 (.cells #[.slice a3 i c3, .int .i64 s4, .int .i64 s5, .int .i64 s6, .int .i64 s7, .int .i64 s1, .int .i64 s2, .int .i64 s3] 29) * (kindsR (.slice a3 i c3) ks * (pt w.heap.size (.cells #[.slice none 0 0, .int .i64 0, .int .i64 0, .int .i64 0, .int .i64 0, .int .i64 0, .int .i64 0, .int .i64 0] 29) * F))) → Sat E W (pt w.heap.size (.cells #[.slice none 0 0, .int .i64 0, .int .i64 0, .int .i64 0, .int .i64 0, .int .i64 0, .int .i64 0, .int .i64 0] 29) * (kindsR (.slice a3 i c3) ks * (pt g1 (.cells #[.slice a3 i c3, .int .i64 s4, .int .i64 s5, .int .i64 s6, .int .i64 s7, .int .i64 s1, .int .i64 s2, .int .i64 s3] 29) * F)))) := Lib.hid fun W h => h.ac (by ac_rfl)
                  have HG1 : Hid (∀ W, Sat E W (pt g1 (.cells #[.slice a3 i c3, .int .i64 s4, .int .i64 s5, .int .i64 s6, .int .i64 s7, .int .i64 s1, .int .i64 s2, .int .i64 s3] 29) * (kindsR (.slice a3 i c3) ks * (pt w.heap.size (.cells #[.slice none 0 0, .int .i64 0, .int .i64 0, .int .i64 0, .int .i64 0, .int .i64 0, .int .i64 0, .int .i64 0] 29) * F))) → W.cell? ⟨g1, 0, none⟩ = some (.slice a3 i c3) ∧ W.cell? ⟨g1, 1, none⟩ = some (.int .i64 s4) ∧ W.cell? ⟨g1, 2, none⟩ = some (.int .i64 s5) ∧ W.cell? ⟨g1, 3, none⟩ = some (.int .i64 s6) ∧ W.cell? ⟨g1, 4, none⟩ = some (.int .i64 s7) ∧ W.cell? ⟨g1, 5, none⟩ = some (.int .i64 s1) ∧ W.cell? ⟨g1, 6, none⟩ = some (.int .i64 s2) ∧ W.cell? ⟨g1, 7, none⟩ = some (.int .i64 s3)) := Lib.hid fun W h => ⟨h.cell 0 rfl, h.cell 1 rfl, h.cell 2 rfl, h.cell 3 rfl, h.cell 4 rfl, h.cell 5 rfl, h.cell 6 rfl, h.cell 7 rfl⟩
                  obtain ⟨m0, m1, m2, m3, m4, m5, m6, m7⟩ := HG1.out _ h6
                  clear h6 hC hall hks hao
                  by_cases hmay : C.may = 0
                  · have HOK : Hid (cfgP l = some C) := Lib.hid (by rw [HPF.out, if_pos hmay])
                    rw [hmay] at HMAY
                    clear hmay HPF
                    go_wp2_with (go_at_call 120; refine (HMAY.out _ H6.out).mono ?_; rintro e w7 ⟨rfl, h7⟩; obtain ⟨j0, j1, j2, j3, j4, j5, j6, j7⟩ := HG1.out _ h7; have h8 := HZ.out _ h7; obtain ⟨d0, d1, d2, d3, d4, d5, d6, d7, f0, f1, f2, f3, f4, f5, f6, f7⟩ := c8_of h8; have H8 := Lib.hid h8; clear h7 h8)
                    refine bodyPost_ret (results_cell_row_tmp rfl _ _ _ _ _ _ _ rfl (Sat.set8 H8.out).at Tryz.underlying29 (by rfl) (by kernel_rfl)) rfl ?_
                    refine .inr ⟨C, ks, a3, c3, HOK.out, by rw [HCE.out], ?_, ?_⟩
                    · rw [HCE.out]
                      unfold cfgCells
                      rw [HKS.out]
                      rfl
                    · rw [HKS.out]
                      exact Sat.right ((Sat.set8 H8.out).right.ac (B := pt g1 (.cells #[.slice a3 i c3, .int .i64 s4, .int .i64 s5, .int .i64 s6, .int .i64 s7, .int .i64 s1, .int .i64 s2, .int .i64 s3] 29) * (kindsR (.slice a3 i c3) ks * F)) (by ac_rfl))
                  · have HNO : Hid (cfgP l = none) := Lib.hid (by rw [HPF.out, if_neg hmay])
                    have hm2 : (C.may != 0) = true := by simpa using hmay
                    generalize C.may = mm at *
                    clear hmay HPF
                    go_wp2_with (go_at_call 120; refine (HMAY.out _ H6.out).mono ?_; rintro e w7 ⟨rfl, h7⟩; have h8 := HZ.out _ h7; obtain ⟨d0, d1, d2, d3, d4, d5, d6, d7, f0, f1, f2, f3, f4, f5, f6, f7⟩ := c8_of h8; have H8 := Lib.hid h8; clear h7 h8)
                    refine bodyPost_ret (results_cell_row_tmp rfl _ _ _ _ _ _ _ rfl (Sat.set8 H8.out).at Tryz.underlying29 (by rfl) (by kernel_rfl)) rfl ?_
                    exact .inl ⟨HNO.out, rfl, Sat.right (Sat.right (Sat.set8 H8.out).right)⟩
                · have hi1 : (i : Int) < K := by omega
                  have hiK : i < K := by omega
                  have hie : ¬ K ≤ i := by omega
                  obtain rfl := hao (by omega)
                  have hst := kindsP_drop (l := xs) (i := i) (by rw [HXL.out]; exact hiK)
                  rw [HXG.out i hiK] at hst
                  have hxu := HU.out (9 + i)
                  obtain ⟨X, hX, hX2⟩ := u64_nat hxu
                  have cx : wr.cell? ⟨b, o + 9 + i, none⟩ = some (.int .u64 (X : Int)) := by
                    have := HC.out wr (h6.right.right.right) (9 + i) (by omega)
                    rw [hX] at this
                    rwa [← Nat.add_assoc] at this
                  rw [hX, Int.toNat_natCast] at hst
                  have HST := Lib.hid hst
                  obtain ⟨G, hG⟩ : ∃ G : HP, G = pt g1 (.cells #[.slice a3 i c3, .int .i64 s4, .int .i64 s5, .int .i64 s6, .int .i64 s7, .int .i64 s1, .int .i64 s2, .int .i64 s3] 29) * (kindsR (.slice a3 i c3) ks * (pt w.heap.size (.cells #[.slice none 0 0, .int .i64 0, .int .i64 0, .int .i64 0, .int .i64 0, .int .i64 0, .int .i64 0, .int .i64 0] 29) * F)) := ⟨_, rfl⟩
                  have HKC := Lib.hid (fun W (hW : Sat E W G) => kParse_calls W X hX2 hW)
                  have H6G : Hid (Sat E wr G) := Lib.hid (by rw [hG]; exact h6)
                  clear hst hX hX2 hxu h6 hks
                  have hi4 : (i : Int) ≤ 4097 := by omega
                  cases hkw : kwP X with
                  | none =>
                    have HNO : Hid (cfgP l = none) := Lib.hid (by rw [HPL2.out, HKP.out, HST.out, hkw]; rfl)
                    have HKN : Hid (∀ W, Sat E W G → Calls Tryz.prog 119 #[.int .u64 (X : Int)] W fun e w' => e = .returned (.tuple #[.agg #[.slice none 0 0], .bool false]) ∧ Sat E w' (pt w.heap.size (.cells #[.slice none 0 0, .int .i64 0, .int .i64 0, .int .i64 0, .int .i64 0, .int .i64 0, .int .i64 0, .int .i64 0] 29) * (kindsR (.slice a3 i c3) ks * (pt g1 (.cells #[.slice a3 i c3, .int .i64 s4, .int .i64 s5, .int .i64 s6, .int .i64 s7, .int .i64 s1, .int .i64 s2, .int .i64 s3] 29) * F)))) := Lib.hid fun W hW => (HKC.out W hW).mono fun e w' hk => by
                      rcases hk with ⟨_, h1, h2⟩ | ⟨_, _, _, h1, _⟩
                      · rw [hG] at h2
                        exact ⟨h1, h2.ac (by ac_rfl)⟩
                      · rw [hkw] at h1; cases h1
                    clear hG hkw
                    go_wp2_with (go_at_call 119; refine (HKN.out _ H6G.out).mono ?_; rintro e w7 ⟨rfl, h7⟩; have h8 := h7.alloc (.cells #[.slice none 0 0] 62); have h9 := Sat.swap h8; obtain ⟨d0, d1, d2, d3, d4, d5, d6, d7, f0, f1, f2, f3, f4, f5, f6, f7⟩ := c8_of h9; have H9 := Lib.hid h9; clear h7 h8 h9)
                    refine bodyPost_ret (results_cell_row_tmp rfl _ _ _ _ _ _ _ rfl (Sat.set8 H9.out).at Tryz.underlying29 (by rfl) (by kernel_rfl)) rfl ?_
                    exact .inl ⟨HNO.out, rfl, Sat.right (Sat.right (Sat.right (Sat.set8 H9.out).right))⟩
                  | some fs =>
                    have hn2 : kindsP xs = (kindsP (xs.drop (i + 1))).map ((ks.map (·.2) ++ [fs]) ++ ·) := by
                      rw [HKP.out, HST.out, hkw]
                      simp only
                      cases kindsP (xs.drop (i + 1)) with
                      | none => rfl
                      | some t => simp
                    have HN2 := Lib.hid hn2
                    have HKN : Hid (∀ W, Sat E W G → Calls Tryz.prog 119 #[.int .u64 (X : Int)] W fun e w' => ∃ a5 c5, e = .returned (.tuple #[.agg #[.slice a5 fs.length c5], .bool true]) ∧ Sat E w' (ints (.slice a5 fs.length c5) fs * G)) := Lib.hid fun W hW => (HKC.out W hW).mono fun e w' hk => by
                      rcases hk with ⟨h1, _, _⟩ | ⟨fs', a5, c5, h1, h2, h3⟩
                      · rw [hkw] at h1; cases h1
                      · rw [hkw] at h1; cases h1; exact ⟨a5, c5, h2, h3⟩
                    have HAL : Hid (∀ W a5 c5, Sat E W (ints (.slice a5 fs.length c5) fs * G) → ∀ A B, Sat E ((W.alloc A).alloc B) (pt (W.heap.size + 1) B * (ints (.slice a5 fs.length c5) fs * (kindsR (.slice a3 i c3) ks * (pt W.heap.size A * (pt g1 (.cells #[.slice a3 i c3, .int .i64 s4, .int .i64 s5, .int .i64 s6, .int .i64 s7, .int .i64 s1, .int .i64 s2, .int .i64 s3] 29) * (pt w.heap.size (.cells #[.slice none 0 0, .int .i64 0, .int .i64 0, .int .i64 0, .int .i64 0, .int .i64 0, .int .i64 0, .int .i64 0] 29) * F))))))) := Lib.hid fun W a5 c5 hW A B => by
                      have h8 := Sat.alloc2 hW A B
                      rw [hG] at h8
                      exact h8.ac (by ac_rfl)
                    have HQ : Hid (∀ W a5 c5, Sat E W (ints (.slice a5 fs.length c5) fs * G) → W.cell? ⟨g1, 0, none⟩ = some (.slice a3 i c3)) := Lib.hid fun W a5 c5 hW => by
                      rw [hG] at hW
                      exact hW.right.cell 0 rfl
                    have HB : Hid (ks.length + 1 ≤ 1000000) := Lib.hid (by rw [HKS.out]; omega)
                    have HEND : Hid (∀ W r ra rc xb (A : Obj) fv, r = ks ++ [(fv, fs)] → Sat E W (kindsR (.slice ra r.length rc) r * (pt xb A * (pt g1 (.cells #[.slice a3 i c3, .int .i64 s4, .int .i64 s5, .int .i64 s6, .int .i64 s7, .int .i64 s1, .int .i64 s2, .int .i64 s3] 29) * (pt w.heap.size (.cells #[.slice none 0 0, .int .i64 0, .int .i64 0, .int .i64 0, .int .i64 0, .int .i64 0, .int .i64 0, .int .i64 0] 29) * F)))) → W.cell? ⟨g1, 0, none⟩ = some (.slice a3 i c3) ∧ W.frozen? ⟨g1, 0, none⟩ = false ∧ Hid (r.length = i + 1 ∧ kindsP xs = (kindsP (xs.drop (i + 1))).map (r.map (·.2) ++ ·) ∧ Sat E (W.setCell ⟨g1, 0, none⟩ (.slice ra r.length rc)) (pt g1 (.cells #[.slice ra (i + 1) rc, .int .i64 s4, .int .i64 s5, .int .i64 s6, .int .i64 s7, .int .i64 s1, .int .i64 s2, .int .i64 s3] 29) * (kindsR (.slice ra (i + 1) rc) r * (pt w.heap.size (.cells #[.slice none 0 0, .int .i64 0, .int .i64 0, .int .i64 0, .int .i64 0, .int .i64 0, .int .i64 0, .int .i64 0] 29) * F))))) := Lib.hid fun W r ra rc xb A fv hr h8 => by
                      have h9 := h8.ac (B := pt g1 (.cells #[.slice a3 i c3, .int .i64 s4, .int .i64 s5, .int .i64 s6, .int .i64 s7, .int .i64 s1, .int .i64 s2, .int .i64 s3] 29) * (kindsR (.slice ra r.length rc) r * (pt xb A * (pt w.heap.size (.cells #[.slice none 0 0, .int .i64 0, .int .i64 0, .int .i64 0, .int .i64 0, .int .i64 0, .int .i64 0, .int .i64 0] 29) * F)))) (by ac_rfl)
                      have hrl : r.length = i + 1 := by rw [hr, List.length_append, HKS.out]; rfl
                      have h10 := h9.setCell (i := 0) (v := .slice ra r.length rc)
                      simp only [List.setIfInBounds_toArray, List.set_cons_zero] at h10
                      refine ⟨h9.cell 0 rfl, h9.free 0, Lib.hid ⟨hrl, ?_, ?_⟩⟩
                      · rw [HN2.out, hr, List.map_append]; rfl
                      · rw [hrl] at h10 ⊢
                        exact Sat.right (h10.ac (B := pt xb A * (pt g1 (.cells #[.slice ra (i + 1) rc, .int .i64 s4, .int .i64 s5, .int .i64 s6, .int .i64 s7, .int .i64 s1, .int .i64 s2, .int .i64 s3] 29) * (kindsR (.slice ra (i + 1) rc) r * (pt w.heap.size (.cells #[.slice none 0 0, .int .i64 0, .int .i64 0, .int .i64 0, .int .i64 0, .int .i64 0, .int .i64 0, .int .i64 0] 29) * F)))) (by ac_rfl))
                    clear hG hkw hn2
                    generalize fs.length = N5 at *
                    go_wp2_with (first | (go_at_call 119; refine (HKN.out _ H6G.out).mono ?_; rintro e w7 ⟨a5, c5, rfl, h7⟩; have H7 := Lib.hid h7; clear h7; have q1 : ∀ o, (w7.alloc o).cell? ⟨g1, 0, none⟩ = some (.slice a3 i c3) := fun o => cell_alloc (HQ.out _ _ _ H7.out)) | (at_builtin; refine wpl_pushK rfl _ _ rfl (HAL.out _ _ _ H7.out _ _) rfl rfl HB.out rfl ?_; intro r er ra rc w8 h8; obtain ⟨g0c, g0f, h9⟩ := HEND.out _ _ _ _ _ _ _ er.out h8; clear h8))
                    exact ⟨⟨i + 1, r, ra, rc, by omega, rfl, h9.out.1, h9.out.2.1, h9.out.2.2⟩, by simp [RowKit.intOf]; omega⟩
  · have HNO : Hid (cfgP l = none) := Lib.hid (by unfold cfgP; rw [if_pos (.inr hsg)])
    have hsg' : (l.getD 0 0 != 8317131967827831151) = true := by simpa using hsg
    clear hsg hu0
    go_enter Tryz.func51, Tryz.ntmps51
    go_upto_region 1 with fail
    refine atSat _ HS.out fun W hW => ?_
    obtain ⟨d0, d1, d2, d3, d4, d5, d6, d7, f0, f1, f2, f3, f4, f5, f6, f7⟩ := c8_of hW
    have cx : W.cell? ⟨b, o, none⟩ = some (.int .u64 (l.getD 0 0)) := HC.out W hW.right 0 (by omega)
    have HW := Lib.hid hW
    generalize l.getD 0 0 = x0 at *
    clear hW
    go_wp2_with fail
    refine bodyPost_ret (results_cell_row_tmp rfl _ _ _ _ _ _ _ rfl (Sat.set8 HW.out).at Tryz.underlying29 (by rfl) (by kernel_rfl)) rfl ?_
    exact .inl ⟨HNO.out, rfl, (Sat.set8 HW.out).right⟩
end
end Scul
/- layout: Super; image: Empty. -/
namespace Scul
open Go Go.Sl Go.RowKit Go.Proofs
section
variable {E : Env} {w : World} {F R : HP} {b : Nat} {c : Cfg}
set_option maxRecDepth 100000 in
set_option maxHeartbeats 8000000 in
theorem super_calls (w : World) (h : Sat E w (lay b c * F)) :
    Calls Tryz.prog 116 #[.pointer (some ⟨b, 0, none⟩)] w fun e w' => ∃ s, e = .returned s ∧ Sat E w' (words s c.super * (lay b c * F)) := by
  have hok := lay_ok h
  obtain ⟨kv0, ks, ⟨_, hk0, a0, c0, rfl⟩, hs⟩ := lay_open h
  obtain ⟨K, hK⟩ : ∃ K, K = ks.length := ⟨_, rfl⟩
  have HK := Lib.hid hK
  have hK16 : K ≤ 16 := by
    have := hok.toNear.k
    rw [← hk0, List.length_map] at this
    omega
  rw [← hK] at hs
  have HKK := Lib.hid hk0
  obtain ⟨G, hG⟩ : ∃ G : HP, G = pt b (.cells (layCells (.slice a0 K c0) c) 165) * (kindsR (.slice a0 K c0) ks * F) := ⟨_, rfl⟩
  rw [← hG] at hs
  have HS := Lib.hid hs
  have HM : Hid (∀ W A, Sat E W (A * G) → Sat E W (A * (lay b c * F))) := Lib.hid fun W A hW => by
    rw [hG] at hW
    have h1 : Sat E W (pt b (.cells (layCells (.slice a0 K c0) c) 165) * (kindsR (.slice a0 K c0) ks * (A * F))) := hW.ac (by ac_rfl)
    exact (lay_mk ⟨hok, hk0, _, _, by rw [hK]⟩ h1).ac (by ac_rfl)
  have HC : Hid (∀ W, Sat E W G → W.cell? ⟨b, 0, none⟩ = some (.slice a0 K c0) ∧ W.cell? ⟨b, 1, none⟩ = some (.int .i64 c.n0) ∧ W.cell? ⟨b, 2, none⟩ = some (.int .i64 c.n1) ∧ W.cell? ⟨b, 3, none⟩ = some (.int .i64 c.n2) ∧ W.cell? ⟨b, 4, none⟩ = some (.int .i64 c.n3) ∧ W.cell? ⟨b, 5, none⟩ = some (.int .i64 c.roots) ∧ W.cell? ⟨b, 6, none⟩ = some (.int .i64 c.weaks) ∧ W.cell? ⟨b, 7, none⟩ = some (.int .i64 c.log)) := Lib.hid fun W hW => by
    rw [hG] at hW
    exact ⟨hW.cell 0 rfl, hW.cell 1 rfl, hW.cell 2 rfl, hW.cell 3 rfl, hW.cell 4 rfl, hW.cell 5 rfl, hW.cell 6 rfl, hW.cell 7 rfl⟩
  have HRK : Hid (∀ W, Sat E W G → RdK W (.slice a0 K c0) ks) := Lib.hid fun W hW => by
    rw [hG] at hW
    exact kindsR_rd (Sat.swap hW)
  have hsup : c.super = [8317131967827831151, c.roots, c.weaks, c.log] ++ [c.n0, c.n1, c.n2, c.n3] ++ [(K : Int)] ++ ks.map fun p => (kwW p.2 : Int) := by
    unfold Cfg.super
    rw [← hk0, List.map_map, List.length_map, ← hK]
    rfl
  have HSU := Lib.hid hsup
  have b0 := hok.toNear.n0; have b1 := hok.toNear.n1; have b2 := hok.toNear.n2; have b3 := hok.toNear.n3; have b4 := hok.toNear.roots; have b5 := hok.toNear.weaks; have b6 := hok.toNear.log
  have e0 : IntKind.u64.wrap c.n0 = c.n0 := by rw [IntKind.wrap_u64]; omega
  have e1 : IntKind.u64.wrap c.n1 = c.n1 := by rw [IntKind.wrap_u64]; omega
  have e2 : IntKind.u64.wrap c.n2 = c.n2 := by rw [IntKind.wrap_u64]; omega
  have e3 : IntKind.u64.wrap c.n3 = c.n3 := by rw [IntKind.wrap_u64]; omega
  have e4 : IntKind.u64.wrap c.roots = c.roots := by rw [IntKind.wrap_u64]; omega
  have e5 : IntKind.u64.wrap c.weaks = c.weaks := by rw [IntKind.wrap_u64]; omega
  have e6 : IntKind.u64.wrap c.log = c.log := by rw [IntKind.wrap_u64]; omega
  clear h hok hk0 hs hG hsup hK
  generalize c.super = SU at *
  generalize c.n0 = n0 at *
  generalize c.n1 = n1 at *
  generalize c.n2 = n2 at *
  generalize c.n3 = n3 at *
  generalize c.roots = rt at *
  generalize c.weaks = wk at *
  generalize c.log = lg at *
  obtain ⟨k0, k1, k2, k3, k4, k5, k6, k7⟩ := HC.out _ HS.out
  go_enter Tryz.func116, Tryz.ntmps116
  go_upto_region 3 with fail
  go_cut [3] (fun s3 wx => ∃ a3 c3, s3 = .slice a3 4 c3 ∧ Sat E wx (words (.slice a3 4 c3) [8317131967827831151, rt, wk, lg] * G))
  case first =>
    go_region
    all_goals
      go_wp2_with fail
      go_meet
      exact ⟨_, _, rfl, Sat.row_mk (n := 4) (cap := 4) (size := 1) (cs := [Value.int .u64 8317131967827831151, Value.int .u64 rt, Value.int .u64 wk, Value.int .u64 lg]) (by first | exact Sat.drew (HS.out.alloc _) | exact Sat.alloc (Sat.drew HS.out) _ | exact Sat.alloc HS.out _) (Nat.le_refl _) (by simp [maxLen]) rfl rfl⟩
  case rest =>
    obtain ⟨a3, c3, rfl, h2⟩ := hcut
    clear k0 k1 k2 k3 k4 k5 k6 k7 HS
    rename World => W2
    obtain ⟨k0, k1, k2, k3, k4, k5, k6, k7⟩ := HC.out _ h2.right
    have H2 := Lib.hid h2
    clear h2
    have i0 := idx4_0; have i1 := idx4_1; have i2 := idx4_2; have i3 := idx4_3
    go_wp2_with fail
    go_loopw [34, 3] (fun iv tv wr => ∃ (k : Nat) (a : Option Addr) (cc : Nat), k ≤ 4 ∧ iv = .int .i64 (k : Int) ∧ tv = .slice a (4 + k) cc ∧ Sat E wr (words (.slice a (4 + k) cc) ([8317131967827831151, rt, wk, lg] ++ [n0, n1, n2, n3].take k) * G)) (fun iv _ _ => 4 - (RowKit.intOf iv).toNat)
    case atStart => exact ⟨0, a3, c3, by omega, rfl, rfl, H2.out⟩
    case round =>
      obtain ⟨k, a, cc, hk, rfl, rfl, hr⟩ := hrel
      clear k0 k1 k2 k3 k4 k5 k6 k7 H2
      have H4 := Lib.hid hr
      have : k = 0 ∨ k = 1 ∨ k = 2 ∨ k = 3 ∨ k = 4 := by omega
      rcases this with rfl | rfl | rfl | rfl | rfl
      · go_wp2_with (at_builtin; refine wpl_push64 rfl _ _ rfl (H4.out.alloc _) rfl rfl (by simp) ?_; intro r er ra rc w6 h6)
        exact ⟨⟨1, ra, rc, by omega, rfl, by rw [er.out]; rfl, by rw [er.out] at h6; exact h6⟩, by simp [RowKit.intOf]⟩
      · go_wp2_with (at_builtin; refine wpl_push64 rfl _ _ rfl (H4.out.alloc _) rfl rfl (by simp) ?_; intro r er ra rc w6 h6)
        exact ⟨⟨2, ra, rc, by omega, rfl, by rw [er.out]; rfl, by rw [er.out] at h6; exact h6⟩, by simp [RowKit.intOf]⟩
      · go_wp2_with (at_builtin; refine wpl_push64 rfl _ _ rfl (H4.out.alloc _) rfl rfl (by simp) ?_; intro r er ra rc w6 h6)
        exact ⟨⟨3, ra, rc, by omega, rfl, by rw [er.out]; rfl, by rw [er.out] at h6; exact h6⟩, by simp [RowKit.intOf]⟩
      · go_wp2_with (at_builtin; refine wpl_push64 rfl _ _ rfl (H4.out.alloc _) rfl rfl (by simp) ?_; intro r er ra rc w6 h6)
        exact ⟨⟨4, ra, rc, by omega, rfl, by rw [er.out]; rfl, by rw [er.out] at h6; exact h6⟩, by simp [RowKit.intOf]⟩
      · obtain ⟨k0, k1, k2, k3, k4, k5, k6, k7⟩ := HC.out _ hr.right
        have hK64 : (K : Int) ≤ 16 := by omega
        have q0 : ∀ o, (wr.alloc o).cell? ⟨b, 0, none⟩ = some (.slice a0 K c0) := fun o => cell_alloc k0
        have HN0 : Hid (∀ W, Sat E W G → W.cell? ⟨b, 0, none⟩ = some (.slice a0 K c0)) := Lib.hid fun W hW => (HC.out W hW).1
        clear hr k1 k2 k3 k4 k5 k6 k7 e0 e1 e2 e3 e4 e5 e6 b0 b1 b2 b3 b4 b5 b6
        go_wp2_with (at_builtin; refine wpl_push64 rfl _ _ rfl (H4.out.alloc _) rfl rfl (by simp) ?_; intro r er ra rc w6 h6; have z0 := HN0.out _ h6.right; have h6' := h6; rw [er.out] at h6'; have H6 := Lib.hid h6'; clear h6 h6')
        go_loopw [59, 3] (fun iv tv wr => ∃ (k : Nat) (a : Option Addr) (cc : Nat), k ≤ K ∧ iv = .int .i64 (k : Int) ∧ tv = .slice a (9 + k) cc ∧ Sat E wr (words (.slice a (9 + k) cc) ([8317131967827831151, rt, wk, lg] ++ [n0, n1, n2, n3] ++ [(K : Int)] ++ (ks.map fun p => (kwW p.2 : Int)).take k) * G)) (fun iv _ _ => K - (RowKit.intOf iv).toNat)
        case atStart => exact ⟨0, ra, rc, Nat.zero_le _, rfl, by rw [er.out]; rfl, H6.out⟩
        case round =>
          obtain ⟨k, a', cc', hk', rfl, rfl, hr⟩ := hrel
          clear z0 H6 H4 k0 q0
          have HR := Lib.hid hr
          by_cases hkK : k = K
          · subst hkK
            have hfin : (ks.map fun p => (kwW p.2 : Int)).take k = ks.map fun p => (kwW p.2 : Int) := List.take_of_length_le (by rw [List.length_map, ← HK.out]; exact Nat.le_refl _)
            rw [hfin, ← HSU.out] at hr
            have HF := Lib.hid (HM.out _ _ hr)
            clear hr hfin HR
            go_wp2_with fail
            go_ret
            exact ⟨_, rfl, HF.out⟩
          · have hk1 : (k : Int) < K := by omega
            have hkl : k < ks.length := by have := HK.out; omega
            obtain ⟨p, hp⟩ : ∃ p, p = ks[k] := ⟨_, rfl⟩
            have hmem : p ∈ ks := hp ▸ List.getElem_mem hkl
            have htk : (ks.map fun p => (kwW p.2 : Int)).take (k + 1) = (ks.map fun p => (kwW p.2 : Int)).take k ++ [(kwW p.2 : Int)] := by
              rw [List.take_succ_eq_append_getElem (by rw [List.length_map]; exact hkl), List.getElem_map, ← hp]
            have hlen : (([8317131967827831151, rt, wk, lg] ++ [n0, n1, n2, n3] ++ [(K : Int)] ++ (ks.map fun p => (kwW p.2 : Int)).take k)).length = 9 + k := by
              simp [List.length_take]
              omega
            obtain ⟨b1, o1, rfl, cx⟩ : ∃ b1 o1, a0 = some ⟨b1, o1, none⟩ ∧ wr.cell? ⟨b1, o1 + k, none⟩ = some p.1 := by
              have h9 := (HRK.out wr hr.right).1
              have hkl2 : K = ks.length := HK.out
              rw [← hkl2] at h9
              obtain ⟨b1, o1, e, hc⟩ := h9.at (by omega)
              refine ⟨b1, o1, e, hc k _ ?_⟩
              rw [List.getElem?_map, List.getElem?_eq_getElem hkl, ← hp]
              rfl
            obtain ⟨⟨pa, pc, hpv⟩, _⟩ := (HRK.out wr hr.right).2 p hmem
            have HKW : Hid (∀ W (A : HP), Sat E W (A * G) → Calls Tryz.prog 157 #[.agg #[p.1]] W fun e w' => e = .returned (.int .u64 ((kwW p.2 : Nat) : Int)) ∧ Sat E w' (A * G)) := Lib.hid fun W A hW => kWord_calls W p.2 p.1 (fun W2 hW2 => ((HRK.out W2 hW2.right).2 p hmem).2) hW
            have HTK := Lib.hid htk
            have HLN := Lib.hid hlen
            have hwl := kwW_lt p.2
            obtain ⟨pv, pf⟩ := p
            simp only at hpv HKW HTK cx hwl
            subst hpv
            have HA7 : Hid (Sat E _ ((pt wr.heap.size (.cells #[.slice pa pf.length pc] 62) * words (.slice a' (9 + k) cc') ([8317131967827831151, rt, wk, lg] ++ [n0, n1, n2, n3] ++ [(K : Int)] ++ (ks.map fun p => (kwW p.2 : Int)).take k)) * G)) := Lib.hid ((hr.alloc _).ac (by ac_rfl))
            clear hr htk hlen hp hmem HR HC HRK
            generalize pf.length = pl at *
            generalize kwW pf = kx at *
            go_wp2_with (first | (go_at_call 157; refine (HKW.out _ _ HA7.out).mono ?_; rintro e w7 ⟨rfl, h7⟩; have H7 := Lib.hid h7; clear h7) | (at_builtin; refine wpl_push64 rfl _ _ rfl (l := [8317131967827831151, rt, wk, lg] ++ [n0, n1, n2, n3] ++ [(K : Int)] ++ (ks.map fun p => (kwW p.2 : Int)).take k) (R := pt wr.heap.size (.cells #[.slice pa pl pc] 62) * G) ((H7.out.alloc _).ac (by ac_rfl)) rfl rfl (by rw [HLN.out]; omega) ?_; intro r er ra rc w8 h8))
            have hrl : r.length = 9 + (k + 1) := by rw [er.out, List.length_append, HLN.out]; rfl
            refine ⟨⟨k + 1, ra, rc, by omega, rfl, by rw [hrl], ?_⟩, by simp [RowKit.intOf]; omega⟩
            rw [HTK.out, ← List.append_assoc, ← er.out, ← hrl]
            exact Sat.right (Sat.swap h8)
/-- The words of a device with nothing on it. -/
def Cfg.empty (c : Cfg) : List Int := splice (List.replicate c.words.toNat 0) 0 (c.super.take c.words.toNat)
theorem emptyBad_calls (w : World) (c : Cfg) (ks : List (Value × List Int)) (kv : Value) (hv : ∀ W, Sat E W F → RdK W kv ks) (hk : ks.map (·.2) = c.kinds) (hs : Sat E w F) (hm : c.may ≠ 0) :
    Calls Tryz.prog 49 #[.agg (cfgCells kv c)] w fun e w' => e = .returned (.tuple #[.slice none 0 0, .int .i64 c.may]) ∧ Sat E w' F := by
  obtain ⟨a0, c0, rfl, hc⟩ := (hv w hs).val
  have HA := Lib.hid (hs.alloc (.cells (cfgCells (.slice a0 ks.length c0) c) 29))
  have HN := Lib.hid (fun W (hW : Sat E W (pt w.heap.size (.cells (cfgCells (.slice a0 ks.length c0) c) 29) * F)) => layNewBad_calls W c ks (.slice a0 ks.length c0) (fun W2 h2 => hv W2 h2.right) hk hW hm)
  have hm2 : (c.may != 0) = true := by simpa using hm
  generalize c.may = m at *
  clear hv hk hs hm
  unfold cfgCells at *
  go_enter Tryz.func49, Tryz.ntmps49
  go_wp2_with (go_at_call 52; refine (HN.out _ HA.out).mono ?_; rintro e w1 ⟨rfl, h1⟩)
  go_ret2
  exact ⟨rfl, h1.right⟩
set_option maxHeartbeats 1000000 in
theorem empty_calls (w : World) (c : Cfg) (ks : List (Value × List Int)) (kv : Value) (hv : ∀ W, Sat E W F → RdK W kv ks) (hk : ks.map (·.2) = c.kinds) (hs : Sat E w F) (hm : c.may = 0) :
    Calls Tryz.prog 49 #[.agg (cfgCells kv c)] w fun e w' => ∃ s, e = .returned (.tuple #[s, .int .i64 0]) ∧ Sat E w' (words s c.empty * F) := by
  obtain ⟨a0, c0, rfl, hc⟩ := (hv w hs).val
  have hok := Cfg.ok_of_may hm
  have HA := Lib.hid (hs.alloc (.cells (cfgCells (.slice a0 ks.length c0) c) 29))
  obtain ⟨G, hG⟩ : ∃ G : HP, G = pt w.heap.size (.cells (cfgCells (.slice a0 ks.length c0) c) 29) * F := ⟨_, rfl⟩
  rw [← hG] at HA
  have HFA : Hid (∀ W A, Sat E W (A * G) → Sat E W (A * F)) := Lib.hid fun W A h => by
    rw [hG] at h
    exact Sat.right (h.ac (B := pt w.heap.size (.cells (cfgCells (.slice a0 ks.length c0) c) 29) * (A * F)) (by ac_rfl))
  have HN := Lib.hid (fun W (hW : Sat E W G) => layNew_calls W c ks (.slice a0 ks.length c0) (fun W2 h2 => hv W2 (by rw [hG] at h2; exact h2.right)) hk hW hm)
  have HF : Hid (∀ W, Sat E W G → Sat E W F) := Lib.hid fun W h => by rw [hG] at h; exact h.right
  obtain ⟨n, hn⟩ := Int.eq_ofNat_of_zero_le (a := c.words) (by have := Cfg.near_places hok.toNear; exact this.2.2.2.2.2.2.2.2.1)
  have hn2 : n ≤ 65536 := by have := hok.words; omega
  have HW := Lib.hid (fun W b (hW : Sat E W (lay b c * G)) => layWords_calls W hW)
  rw [hn] at HW
  have hem : c.empty = splice (List.replicate n 0) 0 (c.super.take n) := by unfold Cfg.empty; rw [hn]; rfl
  rw [hem]
  have hmk := run_make64 n n rfl hn2
  have HSP := Lib.hid (fun W b (A : HP) (hW : Sat E W (lay b c * A)) => super_calls W hW)
  generalize c.super = su at *
  have HZ : Hid (∀ W b, Sat E W (lay b c * G) → Sat E (W.alloc (.cells (zeros n) 24)) (lay b c * (words (.slice (some ⟨W.heap.size, 0, none⟩) n n) (List.replicate n 0) * G))) := Lib.hid fun W b hW => Sat.swap (words_zeros hn2 (hW.alloc _))
  have HCP : Hid (∀ W b g s ty, Sat E W (words s su * (lay b c * (words (.slice (some ⟨g, 0, none⟩) n n) (List.replicate n 0) * G))) → ∃ W2, (Builtin.copy_ #[55, 55] ty #[.slice (some ⟨g, 0, none⟩) n n, s]).run Tryz.prog W = .ok (goInt ((su.take n).length : Nat)) W2 ∧ Sat E W2 (words (.slice (some ⟨g, 0, none⟩) n n) (splice (List.replicate n 0) 0 (su.take n)) * (words s su * (lay b c * G)))) := Lib.hid fun W b g s ty hW => by
    have hr : Rd W 1 s su.length (u64s su) := Sat.rd (show Sat E W (row 24 1 s su.length (u64s su) * _) from hW)
    have h2 : Sat E W (row 24 1 (.slice (some ⟨g, 0, none⟩) n n) n (u64s (List.replicate n 0)) * (words s su * (lay b c * G))) := by
      refine hW.ac ?_
      rw [show row 24 1 (.slice (some ⟨g, 0, none⟩) n n) n (u64s (List.replicate n 0)) = words (.slice (some ⟨g, 0, none⟩) n n) (List.replicate n 0) by rw [words_def, List.length_replicate]]
      ac_rfl
    obtain ⟨W2, hrun, h3⟩ := run_copy_sl (P := Tryz.prog) st64 ty h2 0 n n (some ⟨g, 0, none⟩) (fun _ => ⟨g, n, rfl, rfl⟩) (by omega) s _ _ hr (u64s_one su)
    refine ⟨W2, by rw [hrun, ← u64s_take, u64s_length], ?_⟩
    rw [words_def]
    have hl : (splice (List.replicate n (0 : Int)) 0 (su.take n)).length = n := by simp [splice]; omega
    have e : u64s (splice (List.replicate n (0 : Int)) 0 (su.take n)) = splice (u64s (List.replicate n 0)) 0 ((u64s su).take n) := by simp [splice, u64s]
    rw [hl, e]
    exact h3
  clear hv hk hs hm hok hG hem
  unfold cfgCells at *
  go_enter Tryz.func49, Tryz.ntmps49
  go_upto_region 5 with (first | (go_at_call 52; refine (HN.out _ HA.out).mono ?_; rintro e w1 ⟨b, rfl, h1⟩; have H1 := Lib.hid h1; clear h1) | (go_at_call 54; refine (HW.out _ _ H1.out).mono ?_; rintro e w2 ⟨rfl, rfl⟩))
  have H2 := Lib.hid (HZ.out _ _ H1.out)
  clear HA HN HW hmk
  go_wp2_with (first | (go_at_call 116; refine (HSP.out _ _ _ H2.out).mono ?_; rintro e w3 ⟨s, rfl, h3⟩; obtain ⟨W4, hrun, h4⟩ := HCP.out _ _ _ _ 3 h3; have H4 := Lib.hid h4; clear h3 h4) | ((with_reducible show Oper.upon _ _ _ _ _ (Result.andThen (Sem.run _ (Builtin.copy_ _ _ _) _) _)); rw [hrun]; simp only [Result.andThen_ok, Oper.upon_value]))
  go_ret2
  exact ⟨_, rfl, HFA.out _ _ (Sat.right (Sat.right (H4.out.ac (B := words s su * (lay b c * (words _ (splice (List.replicate n 0) 0 (su.take n)) * G))) (by ac_rfl))))⟩
end
end Scul
/- heap: Format, words. -/
namespace Scul
open Go Go.Sl Go.RowKit Go.Proofs
theorem super_u64 {c : Cfg} (h : c.Ok) : ∀ x ∈ c.super, U64 x := by
  intro x hx
  unfold Cfg.super at hx
  have b0 := h.toNear.n0; have b1 := h.toNear.n1; have b2 := h.toNear.n2; have b3 := h.toNear.n3; have b4 := h.toNear.roots; have b5 := h.toNear.weaks; have b6 := h.toNear.log; have b7 := h.toNear.k
  rcases List.mem_append.1 hx with hx | hx
  · simp at hx
    unfold U64
    rcases hx with rfl | rfl | rfl | rfl | rfl | rfl | rfl | rfl | rfl <;> omega
  · simp at hx
    obtain ⟨fs, _, rfl⟩ := hx
    have := kwW_lt fs
    unfold U64
    omega
theorem empty_length {c : Cfg} (h : c.Ok) : c.empty.length = c.words.toNat := by
  unfold Cfg.empty splice
  simp
  omega
theorem empty_u64 {c : Cfg} (h : c.Ok) : ∀ x ∈ c.empty, U64 x := by
  intro x hx
  unfold Cfg.empty splice at hx
  simp only [List.take_zero, List.nil_append, List.mem_append] at hx
  rcases hx with hx | hx
  · exact super_u64 h x (List.mem_of_mem_take hx)
  · have := List.mem_of_mem_drop hx
    rw [List.mem_replicate] at this
    rw [this.2]
    exact ⟨by decide, by decide⟩
section
variable {E : Env} {w : World} {F R : HP} {b : Nat} {c : Cfg} {d : Dev}
theorem formatBad_calls (w : World) (c : Cfg) (ks : List (Value × List Int)) (kv : Value) (hv : ∀ W, Sat E W F → RdK W kv ks) (hk : ks.map (·.2) = c.kinds) (hs : Sat E w F) (hm : c.may ≠ 0) :
    Calls Tryz.prog 11 #[.agg (cfgCells kv c)] w fun e w' => e = .returned (.tuple #[.pointer none, .int .i64 c.may]) ∧ Sat E w' F := by
  obtain ⟨a0, c0, rfl, hc⟩ := (hv w hs).val
  have HA := Lib.hid (hs.alloc (.cells (cfgCells (.slice a0 ks.length c0) c) 29))
  have HN := Lib.hid (fun W (hW : Sat E W (pt w.heap.size (.cells (cfgCells (.slice a0 ks.length c0) c) 29) * F)) => emptyBad_calls W c ks (.slice a0 ks.length c0) (fun W2 h2 => hv W2 h2.right) hk hW hm)
  have hm2 : (c.may != 0) = true := by simpa using hm
  generalize c.may = m at *
  clear hv hk hs hm
  unfold cfgCells at *
  go_enter Tryz.func11, Tryz.ntmps11
  go_wp2_with (go_at_call 49; refine (HN.out _ HA.out).mono ?_; rintro e w1 ⟨rfl, h1⟩)
  go_ret2
  exact ⟨rfl, h1.right⟩
theorem format_calls (w : World) (c : Cfg) (ks : List (Value × List Int)) (kv : Value) (hv : ∀ W, Sat E W F → RdK W kv ks) (hk : ks.map (·.2) = c.kinds) (hs : Sat E w F) (hm : c.may = 0) :
    Calls Tryz.prog 11 #[.agg (cfgCells kv c)] w fun e w' => ∃ b, e = .returned (.tuple #[.pointer (some ⟨b, 0, none⟩), .int .i64 0]) ∧ Sat E w' (dev b (Dev.of c.empty) * F) := by
  obtain ⟨a0, c0, rfl, hc⟩ := (hv w hs).val
  have hok := Cfg.ok_of_may hm
  have HA := Lib.hid (hs.alloc (.cells (cfgCells (.slice a0 ks.length c0) c) 29))
  obtain ⟨G, hG⟩ : ∃ G : HP, G = pt w.heap.size (.cells (cfgCells (.slice a0 ks.length c0) c) 29) * F := ⟨_, rfl⟩
  rw [← hG] at HA
  have HN := Lib.hid (fun W (hW : Sat E W G) => empty_calls W c ks (.slice a0 ks.length c0) (fun W2 h2 => hv W2 (by rw [hG] at h2; exact h2.right)) hk hW hm)
  have hU := empty_u64 hok
  have hl : c.empty.length ≤ 65536 := by rw [empty_length hok]; have := hok.words; omega
  have ht : c.empty.take 65536 = c.empty := List.take_of_length_le hl
  generalize c.empty = L at *
  have HO : Hid (∀ W s, Sat E W (words s L * G) → ∃ a cc, s = .slice a L.length cc ∧ Calls Tryz.prog 31 #[.slice a L.length cc] W fun e w' => ∃ b, e = .returned (.pointer (some ⟨b, 0, none⟩)) ∧ Sat E w' (dev b (Dev.of L) * F)) := Lib.hid fun W s hW => by
    obtain ⟨a, cc, rfl, _⟩ := words_val hW
    refine ⟨a, cc, rfl, ?_⟩
    have h1 := of_calls W L a cc hU (fun W2 h2 => Sat.rd (show Sat E W2 (row 24 1 (.slice a L.length cc) L.length (u64s L) * G) from h2)) hW
    rw [ht] at h1
    refine h1.mono ?_
    rintro e w' ⟨b, he, h2⟩
    rw [hG] at h2
    exact ⟨b, he, Sat.right (Sat.right (h2.ac (B := words (.slice a L.length cc) L * (pt w.heap.size (.cells (cfgCells (.slice a0 ks.length c0) c) 29) * (dev b (Dev.of L) * F))) (by ac_rfl)))⟩
  clear hv hk hs hm hok hG hU hl ht
  unfold cfgCells at *
  go_enter Tryz.func11, Tryz.ntmps11
  go_wp2_with (first | (go_at_call 49; refine (HN.out _ HA.out).mono ?_; rintro e w1 ⟨s, rfl, h1⟩; obtain ⟨a, cc, rfl, HO2⟩ := HO.out _ _ h1; have HO3 := Lib.hid HO2; clear h1 HO2) | (go_at_call 31; refine HO3.out.mono ?_; rintro e w2 ⟨b, rfl, h2⟩))
  go_ret2
  exact ⟨b, rfl, h2⟩
theorem hwords_calls (w : World) (hd : d.down = false) (h : Sat E w (dev b d * F)) :
    Calls Tryz.prog 50 #[.pointer (some ⟨b, 0, none⟩)] w fun e w' => ∃ s, e = .returned (.tuple #[s, .int .i64 0]) ∧ Sat E w' (words s d.read * (dev b d * F)) := by
  have hok := dev_ok h
  have HS := Lib.hid h
  have HL := Lib.hid (fun W (hW : Sat E W (dev b d * F)) => len_calls W hW)
  have HLD := Lib.hid (fun W (A : HP) (i : Nat) (hi : i < d.read.length) (hW : Sat E W (A * (dev b d * F))) => load_calls W (i : Int) (Sat.swap hW))
  have hld : ∀ i : Nat, i < d.read.length → d.load (i : Int) = d.read.getD i 0 ∧ d.loadE (i : Int) = 0 := fun i hi => by
    unfold Dev.load Dev.loadE
    rw [hd]
    have hb : d.isB (i : Int) = true := by unfold Dev.isB; rw [decide_eq_true_iff]; omega
    rw [hb]
    simp
  have HLV : Hid (∀ W (A : HP) (i : Nat) (hi : i < d.read.length), Sat E W (A * (dev b d * F)) → Calls Tryz.prog 117 #[.pointer (some ⟨b, 0, none⟩), .int .i64 (i : Int)] W fun e w' => e = .returned (.tuple #[.int .u64 (d.read.getD i 0), .int .i64 0]) ∧ Sat E w' (A * (dev b d * F))) := Lib.hid fun W A i hi hW => by
    have h1 := load_calls W (i : Int) (Sat.swap hW)
    rw [(hld i hi).1, (hld i hi).2] at h1
    refine h1.mono ?_
    rintro e w' ⟨he, m, rfl⟩
    exact ⟨he, hW.drewN m⟩
  have hm := hok.most
  have HTK : Hid (∀ i, i < d.read.length → d.read.take (i + 1) = d.read.take i ++ [d.read.getD i 0]) := Lib.hid fun i hi => by
    rw [List.take_succ_eq_append_getElem hi]
    simp [hi]
  have HFL : Hid (d.read.take d.read.length = d.read) := Lib.hid (List.take_length)
  obtain ⟨n, hn⟩ : ∃ n, n = d.read.length := ⟨_, rfl⟩
  have HN := Lib.hid hn
  rw [← hn] at hm HL HLV HTK HFL
  clear hld HLD hok hd h hn
  have hn4 : (n : Int) ≤ 65536 := by omega
  go_enter Tryz.func50, Tryz.ntmps50
  go_wp2_with (go_at_call 53; refine (HL.out _ HS.out).mono ?_; rintro e w1 ⟨rfl, rfl⟩)
  go_loopw [10, 4] (fun iv tv wr => ∃ (k : Nat) (a : Option Addr) (cc : Nat), k ≤ n ∧ iv = .int .i64 (k : Int) ∧ tv = .slice a k cc ∧ Sat E wr (words (.slice a k cc) (d.read.take k) * (dev b d * F))) (fun iv _ _ => n - (RowKit.intOf iv).toNat)
  case atStart => exact ⟨0, none, 0, Nat.zero_le _, rfl, rfl, wrow_nil HS.out⟩
  case round =>
    obtain ⟨k, a, cc, hk, rfl, rfl, hr⟩ := hrel
    have HR := Lib.hid hr
    by_cases hkn : k = n
    · subst hkn
      rw [HFL.out] at hr
      have HF := Lib.hid hr
      clear hr HR
      go_wp2_with fail
      go_ret2
      exact ⟨_, rfl, HF.out⟩
    · have hk1 : (k : Int) < n := by omega
      have hkn' : k < n := by omega
      have HLK := Lib.hid (HLV.out wr _ k hkn' hr)
      have HTT := Lib.hid (HTK.out k hkn')
      have HLT : Hid ((d.read.take k).length = k) := Lib.hid (by rw [List.length_take, ← HN.out]; omega)
      clear hr HR
      generalize d.read.getD k 0 = x at *
      have hk65 : (k : Int) ≤ 65536 := by omega
      go_wp2_with (first | (go_at_call 117; refine HLK.out.mono ?_; rintro e w2 ⟨rfl, h2⟩; have H2 := Lib.hid h2; clear h2) | (at_builtin; refine wpl_push64 rfl _ _ rfl (H2.out.alloc _) rfl rfl (by rw [HLT.out]; omega) ?_; intro r er ra rc w6 h6))
      have hrl : r.length = k + 1 := by rw [er.out, List.length_append, HLT.out]; rfl
      refine ⟨⟨k + 1, ra, rc, by omega, by go_num, by rw [hrl], ?_⟩, by simp [RowKit.intOf]; omega⟩
      rw [HTT.out, ← er.out, ← hrl]
      exact h6
end
end Scul
