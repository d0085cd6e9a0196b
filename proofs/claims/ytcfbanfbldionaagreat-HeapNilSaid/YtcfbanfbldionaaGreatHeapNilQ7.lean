/- Lemmas and contracts for scullion's HeapNil: LayB, LayC, LayD, LayE, LayF, WrdM. -/
import Derived.Test.YtcfbanfbldionaaGreatHeapNilQ5
import Derived.Test.YtcfbanfbldionaaGreatHeapNilQ3
import Derived.Test.YtcfbanfbldionaaGreatHeapNilQ6
import Derived.Deep.RegionWith
/- layout: May. -/
namespace Scul
open Go Go.Sl Go.RowKit Go.Proofs
/-- A slice of kinds that reads as these: each kind's slice of fields, and what it reads as. -/
def RdK (w : World) (v : Value) (ks : List (Value × List Int)) : Prop := Rd w 1 v ks.length (ks.map (·.1)) ∧ ∀ p ∈ ks, (∃ a c, p.1 = .slice a p.2.length c) ∧ Rd w 1 p.1 p.2.length (i64s p.2)
theorem RdK.nth {w : World} {ao : Option Addr} {c : Nat} {ks : List (Value × List Int)} (h : RdK w (.slice ao ks.length c) ks) (k : Nat) (hk : k < ks.length) :
    ∃ bb o, ao = some ⟨bb, o, none⟩ ∧ w.cell? ⟨bb, o + k, none⟩ = some ks[k].1 := by
  obtain ⟨bb, o, rfl, hc⟩ := Rd.at h.1 (by omega)
  exact ⟨bb, o, rfl, hc k _ (by simp [hk])⟩
theorem RdK.val {w : World} {v : Value} {ks : List (Value × List Int)} (h : RdK w v ks) : ∃ ao c, v = .slice ao ks.length c ∧ ks.length ≤ c := h.1.val
section
variable {E : Env} {w : World} {F : HP}
set_option maxHeartbeats 1000000 in
theorem indexK_calls (w : World) (ks : List (Value × List Int)) (kv : Value) (hv : ∀ W, Sat E W F → RdK W kv ks) (hs : Sat E w F) :
    Calls Tryz.prog 193 #[kv, .func (.func 160) #[] #[]] w fun e w' => ∃ r : Int, e = .returned (.int .i64 r) ∧ (0 ≤ r ↔ ¬ ∀ p ∈ ks, kindMay p.2 = true) ∧ Sat E w' F := by
  obtain ⟨ao, c, rfl, hc⟩ := (hv w hs).val
  have hm := (hv w hs).1.most
  obtain ⟨n, hn⟩ : ∃ n, n = ks.length := ⟨_, rfl⟩
  rw [← hn] at hv hm hc ⊢
  have HN := Lib.hid hn
  have HV := Lib.hid hv
  have HS := Lib.hid hs
  clear hn hv hs
  go_enter Tryz.func193, Tryz.ntmps193
  go_wp2_with fail
  go_loopw [8] (fun iv wr => ∃ k : Nat, k ≤ n ∧ iv = .int .i64 k ∧ (∀ p ∈ ks.take k, kindMay p.2 = true) ∧ Sat E wr F) (fun iv _ => n - (RowKit.intOf iv).toNat)
  case atStart => exact ⟨0, Nat.zero_le _, rfl, by simp, HS.out⟩
  case round =>
    obtain ⟨k, hk, rfl, hall, hw⟩ := hrel
    have HALL := Lib.hid hall; have HW := Lib.hid hw
    clear hall hw
    by_cases hlt : k < n
    · have hk2 : k < ks.length := by rw [← HN.out]; exact hlt
      have hrd := HV.out wr HW.out
      rw [HN.out] at hrd
      obtain ⟨b, o, rfl, cx⟩ := RdK.nth hrd k hk2
      have hmem : ks[k] ∈ ks := List.getElem_mem hk2
      have HT : Hid (ks.take (k + 1) = ks.take k ++ [ks[k]]) := Lib.hid (List.take_succ_eq_append_getElem hk2)
      have HM := Lib.hid hmem
      obtain ⟨⟨pa, pc, hp1⟩, _⟩ := hrd.2 _ hmem
      have HC : Hid (∀ W, Sat E W F → Calls Tryz.prog 160 #[.agg #[ks[k].1]] W fun e w' => e = .returned (.bool (!kindMay ks[k].2)) ∧ Sat E w' F) := Lib.hid fun W hW =>
        may1_calls W ks[k].2 _ (fun W' hW' => ((HV.out W' hW').2 _ hmem).2) hW
      clear hrd hmem
      generalize ks[k] = p at *
      obtain ⟨pv, pf⟩ := p
      simp only at hp1 cx HT HM HC
      subst hp1
      cases hb : kindMay pf with
      | true =>
        rw [hb] at HC
        have HB := Lib.hid hb
        clear hb hk2
        go_wp2_with (go_at_call 160; refine (HC.out _ HW.out).mono ?_; rintro e w1 ⟨rfl, h1⟩)
        refine ⟨⟨k + 1, by omega, by go_num, ?_, h1⟩, by simp [RowKit.intOf]; omega⟩
        rw [HT.out]
        intro y hy
        rcases List.mem_append.1 hy with hy | hy
        · exact HALL.out y hy
        · rw [List.mem_singleton] at hy
          rw [hy]; exact HB.out
      | false =>
        rw [hb] at HC
        have HB := Lib.hid hb
        clear hb hk2
        go_wp2_with (go_at_call 160; refine (HC.out _ HW.out).mono ?_; rintro e w1 ⟨rfl, h1⟩)
        go_ret
        refine ⟨_, rfl, ⟨fun _ h => ?_, fun _ => by omega⟩, h1⟩
        have := h _ HM.out
        rw [HB.out] at this
        cases this
    · obtain rfl : k = n := by omega
      go_wp2_with fail
      go_ret
      refine ⟨_, rfl, ⟨fun h => by omega, fun h => ?_⟩, HW.out⟩
      have := HALL.out
      rw [HN.out, List.take_length] at this
      exact (h this).elim
theorem containsK_calls (w : World) (ks : List (Value × List Int)) (kv : Value) (hv : ∀ W, Sat E W F → RdK W kv ks) (hs : Sat E w F) :
    Calls Tryz.prog 159 #[kv, .func (.func 160) #[] #[]] w fun e w' => e = .returned (.bool (decide (¬ ∀ p ∈ ks, kindMay p.2 = true))) ∧ Sat E w' F := by
  have HC := Lib.hid (indexK_calls w ks kv hv hs)
  obtain ⟨ao, c, rfl, hc⟩ := (hv w hs).val
  clear hv hs
  go_enter Tryz.func159, Tryz.ntmps159
  go_wp2_with fail
  refine HC.out.mono ?_
  rintro e w1 ⟨r, rfl, hr, h1⟩
  have HR := Lib.hid hr
  clear hr
  go_wp2_with fail
  go_ret
  refine ⟨?_, h1⟩
  refine ret_bool ?_
  rw [decide_eq_decide]
  exact HR.out
end
end Scul
/- layout: place. -/
namespace Scul
open Go Go.Sl Go.RowKit Go.Proofs
/-- A config, as cells. -/
def cfgCells (kv : Value) (c : Cfg) : Array Value := #[kv, .int .i64 c.n0, .int .i64 c.n1, .int .i64 c.n2, .int .i64 c.n3, .int .i64 c.roots, .int .i64 c.weaks, .int .i64 c.log]
/-- A layout, as cells. -/
def layCells (kv : Value) (c : Cfg) : Array Value := #[kv, .int .i64 c.n0, .int .i64 c.n1, .int .i64 c.n2, .int .i64 c.n3, .int .i64 c.roots, .int .i64 c.weaks, .int .i64 c.log, .int .i64 c.rootsAt, .int .i64 c.bitsAt, .int .i64 c.logAt, .int .i64 c.blocksAt, .int .i64 c.words]
section
variable {E : Env} {w : World} {F : HP}
theorem wrap_id {x : Int} (h1 : -9223372036854775808 ≤ x) (h2 : x ≤ 9223372036854775807) : IntKind.i64.wrap x = x := by
  rw [IntKind.wrap_i64]
  omega
theorem idx4_0 (a b c d : Value) (w : World) : (Instr.index 22 (.agg #[a, b, c, d]) (.int .i64 0)).run Tryz.prog w = .ok a w := by kernel_rfl
theorem idx4_1 (a b c d : Value) (w : World) : (Instr.index 22 (.agg #[a, b, c, d]) (.int .i64 1)).run Tryz.prog w = .ok b w := by kernel_rfl
theorem idx4_2 (a b c d : Value) (w : World) : (Instr.index 22 (.agg #[a, b, c, d]) (.int .i64 2)).run Tryz.prog w = .ok c w := by kernel_rfl
theorem idx4_3 (a b c d : Value) (w : World) : (Instr.index 22 (.agg #[a, b, c, d]) (.int .i64 3)).run Tryz.prog w = .ok d w := by kernel_rfl
set_option maxRecDepth 100000 in
set_option maxHeartbeats 2000000 in
theorem place_calls (w : World) (c : Cfg) (ao : Option Addr) (cc : Nat) (hn : c.Near) (hs : Sat E w F) :
    Calls Tryz.prog 121 #[.agg (cfgCells (.slice ao c.kinds.length cc) c)] w fun e w' => ∃ b, e = .returned (.pointer (some ⟨b, 0, none⟩)) ∧ Sat E w' (pt b (.cells (layCells (.slice ao c.kinds.length cc) c) 165) * F) := by
  obtain ⟨kinds, n0, n1, n2, n3, roots, weaks, log⟩ := c
  have p := Cfg.near_places hn
  have hk := hn.k; have h0 := hn.n0; have h1 := hn.n1; have h2 := hn.n2; have h3 := hn.n3; have hr := hn.roots; have hw := hn.weaks; have hl := hn.log
  simp only [Cfg.rootsAt, Cfg.bitsAt, Cfg.logAt, Cfg.blocksAt, Cfg.words, Cfg.count, Cfg.all, layCells, cfgCells] at *
  generalize kinds.length = K at *
  obtain ⟨A1, hA1⟩ : ∃ x, x = Cfg.lineOf (9 + K) := ⟨_, rfl⟩
  rw [← hA1] at p ⊢
  obtain ⟨A2, hA2⟩ : ∃ x, x = Cfg.lineOf (A1 + roots + weaks) := ⟨_, rfl⟩
  rw [← hA2] at p ⊢
  obtain ⟨A3, hA3⟩ : ∃ x, x = Cfg.lineOf (A2 + (n0 + n1 + n2 + n3 + 63) / 64) := ⟨_, rfl⟩
  rw [← hA3] at p ⊢
  obtain ⟨A5, hA5⟩ : ∃ x, x = Cfg.lineOf (A3 + log + (2 * n0 + 4 * n1 + 8 * n2 + 16 * n3)) := ⟨_, rfl⟩
  rw [← hA5] at p ⊢
  have HS := Lib.hid hs
  have HS2 := Lib.hid (Sat.alloc2 hs (.cells #[.slice ao K cc, .int .i64 n0, .int .i64 n1, .int .i64 n2, .int .i64 n3, .int .i64 roots, .int .i64 weaks, .int .i64 log] 29) (.cells #[.slice ao K cc, .int .i64 n0, .int .i64 n1, .int .i64 n2, .int .i64 n3, .int .i64 roots, .int .i64 weaks, .int .i64 log, .int .i64 0, .int .i64 0, .int .i64 0, .int .i64 0, .int .i64 0] 165))
  obtain ⟨R, hR⟩ : ∃ R : Nat → HP, R = fun g => pt (g + 1) (.cells #[.slice ao K cc, .int .i64 n0, .int .i64 n1, .int .i64 n2, .int .i64 n3, .int .i64 roots, .int .i64 weaks, .int .i64 log, .int .i64 0, .int .i64 0, .int .i64 0, .int .i64 0, .int .i64 0] 165) * (pt g (.cells #[.slice ao K cc, .int .i64 n0, .int .i64 n1, .int .i64 n2, .int .i64 n3, .int .i64 roots, .int .i64 weaks, .int .i64 log] 29) * F) := ⟨_, rfl⟩
  have HR := Lib.hid hR
  have HS3 : Hid (Sat E _ (R w.heap.size)) := Lib.hid (by rw [hR]; exact HS2.out)
  have HSZ : ∀ (W : World) (i : Int), 0 ≤ i → i < 4 → Calls Tryz.prog 138 #[.int .i64 i] W fun e w' => e = .returned (.int .i64 (2 * 2 ^ i.toNat)) ∧ w' = W := fun W i => lsize_calls W i
  have HSZ2 := Lib.hid HSZ
  have HLN : Hid (∀ (W : World) (x y : Int), 0 ≤ x → x ≤ 1000000 → y = Cfg.lineOf x → Calls Tryz.prog 162 #[.int .i64 x] W fun e w' => e = .returned (.int .i64 y) ∧ w' = W) := Lib.hid fun W x y h1 h2 h3 => by rw [h3]; exact line_calls W x h1 h2
  have HA1 := Lib.hid hA1; have HA2 := Lib.hid hA2; have HA3 := Lib.hid hA3; have HA5 := Lib.hid hA5
  clear hn hs hR HS2 HSZ HS hA1 hA2 hA3 hA5
  go_enter Tryz.func121, Tryz.ntmps121
  go_wp2_with fail
  go_loopw [13, 4, 5] (fun iv cv av wr => ∃ (k x y : Int), iv = .int .i64 k ∧ cv = .int .i64 x ∧ av = .int .i64 y ∧ ((k = 0 ∧ x = 0 ∧ y = 0) ∨ (k = 1 ∧ x = n0 ∧ y = 2 * n0) ∨ (k = 2 ∧ x = n0 + n1 ∧ y = 2 * n0 + 4 * n1) ∨ (k = 3 ∧ x = n0 + n1 + n2 ∧ y = 2 * n0 + 4 * n1 + 8 * n2) ∨ (k = 4 ∧ x = n0 + n1 + n2 + n3 ∧ y = 2 * n0 + 4 * n1 + 8 * n2 + 16 * n3)) ∧ Sat E wr (R w.heap.size)) (fun iv _ _ _ => 4 - (RowKit.intOf iv).toNat)
  case atStart => exact ⟨0, 0, 0, rfl, rfl, rfl, .inl ⟨rfl, rfl, rfl⟩, HS3.out⟩
  case round =>
    obtain ⟨k, x, y, rfl, rfl, rfl, hc, hw⟩ := hrel
    have HW := Lib.hid hw
    clear hw HS3
    have i0 := idx4_0; have i1 := idx4_1; have i2 := idx4_2; have i3 := idx4_3
    rcases hc with ⟨rfl, hx, hy⟩ | ⟨rfl, hx, hy⟩ | ⟨rfl, hx, hy⟩ | ⟨rfl, hx, hy⟩ | ⟨rfl, hx, hy⟩
    · go_wp2_with (go_at_call 138; refine (HSZ2.out _ _ (by omega) (by omega)).mono ?_; rintro e w' ⟨rfl, rfl⟩)
      exact ⟨⟨1, _, _, rfl, rfl, rfl, by simp; omega, HW.out⟩, by simp [RowKit.intOf]⟩
    · go_wp2_with (go_at_call 138; refine (HSZ2.out _ _ (by omega) (by omega)).mono ?_; rintro e w' ⟨rfl, rfl⟩)
      exact ⟨⟨2, _, _, rfl, rfl, rfl, by simp; omega, HW.out⟩, by simp [RowKit.intOf]⟩
    · go_wp2_with (go_at_call 138; refine (HSZ2.out _ _ (by omega) (by omega)).mono ?_; rintro e w' ⟨rfl, rfl⟩)
      exact ⟨⟨3, _, _, rfl, rfl, rfl, by simp; omega, HW.out⟩, by simp [RowKit.intOf]⟩
    · go_wp2_with (go_at_call 138; refine (HSZ2.out _ _ (by omega) (by omega)).mono ?_; rintro e w' ⟨rfl, rfl⟩)
      exact ⟨⟨4, _, _, rfl, rfl, rfl, by simp; omega, HW.out⟩, by simp [RowKit.intOf]⟩
    · obtain ⟨CC, hCC⟩ : ∃ CC, CC = (.cells #[.slice ao K cc, .int .i64 n0, .int .i64 n1, .int .i64 n2, .int .i64 n3, .int .i64 roots, .int .i64 weaks, .int .i64 log] 29 : Obj) := ⟨_, rfl⟩
      have h9 := HW.out
      rw [HR.out] at h9
      simp only at h9
      rw [← hCC] at h9
      have CF : ∀ W : World, Sat E W (pt w.heap.size CC * F) → W.cell? ⟨w.heap.size, 0, none⟩ = some (.slice ao K cc) ∧ W.cell? ⟨w.heap.size, 5, none⟩ = some (.int .i64 roots) ∧ W.cell? ⟨w.heap.size, 6, none⟩ = some (.int .i64 weaks) ∧ W.cell? ⟨w.heap.size, 7, none⟩ = some (.int .i64 log) := fun W hW => by
        rw [hCC] at hW
        exact ⟨hW.cell 0 rfl, hW.cell 5 rfl, hW.cell 6 rfl, hW.cell 7 rfl⟩
      have HCF := Lib.hid CF
      obtain ⟨k0, _, _, _⟩ := HCF.out _ h9.right
      have l8 : wr.cell? ⟨w.heap.size + 1, 8, none⟩ = some (.int .i64 0) := h9.cell 8 rfl
      have f8 := h9.free 8
      have H9 := Lib.hid h9
      clear h9 hCC CF HR i0 i1 i2 i3
      go_upto_region 10 with (go_at_call 162; refine (HLN.out _ _ A1 (by omega) (by omega) HA1.out).mono ?_; rintro e w' ⟨rfl, rfl⟩)
      clear l8 f8 k0
      refine atSat _ (H9.out.setCell (i := 8) (v := .int .i64 A1)) fun W h10 => ?_
      simp only [List.setIfInBounds_toArray, List.set_cons_succ, List.set_cons_zero] at h10
      obtain ⟨_, k5, k6, k7⟩ := HCF.out _ h10.right
      have l8 : W.cell? ⟨w.heap.size + 1, 8, none⟩ = some (.int .i64 A1) := h10.cell 8 rfl
      have l9 : W.cell? ⟨w.heap.size + 1, 9, none⟩ = some (.int .i64 0) := h10.cell 9 rfl
      have f9 := h10.free 9
      have H10 := Lib.hid h10
      have e1 : IntKind.i64.wrap (A1 + roots) = A1 + roots := wrap_id (by omega) (by omega)
      have e2 : IntKind.i64.wrap (A1 + roots + weaks) = A1 + roots + weaks := wrap_id (by omega) (by omega)
      clear h10 H9
      obtain ⟨L, hL⟩ : ∃ L : Int → Int → Int → Int → HP, L = fun a2 a3 a4 a5 => pt (w.heap.size + 1) (.cells #[.slice ao K cc, .int .i64 n0, .int .i64 n1, .int .i64 n2, .int .i64 n3, .int .i64 roots, .int .i64 weaks, .int .i64 log, .int .i64 A1, .int .i64 a2, .int .i64 a3, .int .i64 a4, .int .i64 a5] 165) * (pt w.heap.size CC * F) := ⟨_, rfl⟩
      have HL := Lib.hid hL
      have SET9 : ∀ W : World, Sat E W (L 0 0 0 0) → Sat E (W.setCell ⟨w.heap.size + 1, 9, none⟩ (.int .i64 A2)) (L A2 0 0 0) := fun W h => by rw [hL] at h ⊢; exact h.setCell
      have HSET9 := Lib.hid SET9
      have SET11 : ∀ W : World, Sat E W (L A2 A3 0 0) → Sat E (W.setCell ⟨w.heap.size + 1, 11, none⟩ (.int .i64 (A3 + log))) (L A2 A3 (A3 + log) 0) := fun W h => by rw [hL] at h ⊢; exact h.setCell
      have HSET11 := Lib.hid SET11
      have H11 : Hid (Sat E W (L 0 0 0 0)) := Lib.hid (by rw [hL]; exact H10.out)
      clear hL SET9 SET11 H10
      go_cut [] (fun wx => Sat E wx (L A2 0 0 0))
      case first =>
        go_region_with (go_at_call 162; refine (HLN.out _ _ A2 (by omega) (by omega) HA2.out).mono ?_; rintro e w' ⟨rfl, rfl⟩)
        all_goals
          go_wp2_with fail
          go_meet
          exact HSET9.out _ H11.out
      case rest =>
        clear H11 k5 k6 k7 l8 l9 f9 e1 e2
        have H12 := Lib.hid hcut
        rename World => W
        have h12 := hcut
        rw [HL.out] at h12
        have l9 : W.cell? ⟨w.heap.size + 1, 9, none⟩ = some (.int .i64 A2) := h12.cell 9 rfl
        have l10 : W.cell? ⟨w.heap.size + 1, 10, none⟩ = some (.int .i64 0) := h12.cell 10 rfl
        have f10 := h12.free 10
        have HS10 : Hid (Sat E (W.setCell ⟨w.heap.size + 1, 10, none⟩ (.int .i64 A3)) (L A2 A3 0 0)) := Lib.hid (by rw [HL.out]; exact h12.setCell)
        clear h12 hcut
        go_upto_region 12 with (go_at_call 162; refine (HLN.out _ _ A3 (by omega) (by omega) (HA3.out.trans (congrArg Cfg.lineOf (by omega)))).mono ?_; rintro e w' ⟨rfl, rfl⟩)
        refine atSat _ HS10.out fun W h13 => ?_
        have h14 := h13
        rw [HL.out] at h14
        obtain ⟨_, k5, k6, k7⟩ := HCF.out _ h14.right
        clear l9 l10 f10 HS10
        have l10 : W.cell? ⟨w.heap.size + 1, 10, none⟩ = some (.int .i64 A3) := h14.cell 10 rfl
        have l11 : W.cell? ⟨w.heap.size + 1, 11, none⟩ = some (.int .i64 0) := h14.cell 11 rfl
        have f11 := h14.free 11
        have H13 := Lib.hid h13
        have e1 : IntKind.i64.wrap (A3 + log) = A3 + log := wrap_id (by omega) (by omega)
        clear h13 h14
        go_cut [] (fun wx => Sat E wx (L A2 A3 (A3 + log) 0))
        case first =>
          go_region
          all_goals
            go_wp2_with fail
            go_meet
            exact HSET11.out _ H13.out
        case rest =>
          clear H13 k5 k6 k7 l10 l11 f11 e1
          rename World => W
          have h12 := hcut
          rw [HL.out] at h12
          have l11 : W.cell? ⟨w.heap.size + 1, 11, none⟩ = some (.int .i64 (A3 + log)) := h12.cell 11 rfl
          have l12 : W.cell? ⟨w.heap.size + 1, 12, none⟩ = some (.int .i64 0) := h12.cell 12 rfl
          have f12 := h12.free 12
          have HS12 : Hid (Sat E (W.setCell ⟨w.heap.size + 1, 12, none⟩ (.int .i64 A5)) (pt (w.heap.size + 1) (.cells #[.slice ao K cc, .int .i64 n0, .int .i64 n1, .int .i64 n2, .int .i64 n3, .int .i64 roots, .int .i64 weaks, .int .i64 log, .int .i64 A1, .int .i64 A2, .int .i64 A3, .int .i64 (A3 + log), .int .i64 A5] 165) * (pt w.heap.size CC * F))) := Lib.hid h12.setCell
          clear h12 hcut
          go_wp2_with (go_at_call 162; refine (HLN.out _ _ A5 (by omega) (by omega) HA5.out).mono ?_; rintro e w' ⟨rfl, rfl⟩)
          go_ret
          exact ⟨_, rfl, Sat.right (HS12.out.ac (by ac_rfl))⟩
end
end Scul
/- layout: own, New. -/
namespace Scul
open Go Go.Sl Go.RowKit Go.Proofs
/-- A row of ints that is owned. -/
def ints (v : Value) (l : List Int) : HP := row 3 1 v l.length (i64s l)
theorem stI : SliceT Tryz.prog 38 3 1 8 (.int .i64 0) := .mk' Tryz.underlying38 (by kernel_rfl) rfl
theorem stK : SliceT Tryz.prog 27 62 1 24 (.agg #[.slice none 0 0]) := .mk' Tryz.underlying27 (by kernel_rfl) rfl
theorem i64s_one (l : List Int) : ∀ u ∈ i64s l, u.oneCell' = true := ints_oneCell _ _
/-- Rows of ints, each with its slice. -/
def bagI : List (Value × List Int) → HP
  | [] => emp
  | p :: r => ints p.1 p.2 * bagI r
theorem bagI_append (l m : List (Value × List Int)) : bagI (l ++ m) = bagI l * bagI m := by
  induction l with
  | nil => show _ = emp * _; rw [emp_sep]; rfl
  | cons p r ih => show ints p.1 p.2 * bagI (r ++ m) = ints p.1 p.2 * bagI r * bagI m; rw [ih]; ac_rfl
/-- Kinds that are owned. -/
def kindsR (v : Value) (ks : List (Value × List Int)) : HP := row 62 1 v ks.length (ks.map (·.1)) * bagI ks
section
variable {E : Env} {w : World} {F : HP}
theorem bagI_rd {w : World} {o : List (Value × List Int)} {F : HP} (h : Sat E w (bagI o * F)) {p : Value × List Int} (hp : p ∈ o) : Rd w 1 p.1 p.2.length (i64s p.2) := by
  induction o generalizing F with
  | nil => cases hp
  | cons q r ih =>
    have h2 : Sat E w (ints q.1 q.2 * (bagI r * F)) := h.ac (by show _ = ints q.1 q.2 * bagI r * F; ac_rfl)
    rcases List.mem_cons.1 hp with rfl | hp
    · exact h2.rd
    · exact ih h2.right hp
theorem rd_slice {w : World} {v : Value} {n size : Nat} {cs : List Value} (h : Rd w size v n cs) : ∃ a c, v = .slice a n c := by
  obtain ⟨a, c, h, _⟩ := h.val
  exact ⟨a, c, h⟩
theorem kindsR_rd {v : Value} {ks : List (Value × List Int)} (h : Sat E w (kindsR v ks * F)) : RdK w v ks := by
  unfold kindsR at h
  rw [sep_assoc] at h
  exact ⟨h.rd, fun p hp => ⟨rd_slice (bagI_rd h.right hp), bagI_rd h.right hp⟩⟩
theorem cloneI_calls (w : World) (x : List Int) (v : Value) (hb : x.length * 8 ≤ 140737488355328) (hv : Rd w 1 v x.length (i64s x)) (hs : Sat E w F) :
    Calls Tryz.prog 163 #[v] w fun e w' => ∃ v', e = .returned v' ∧ Sat E w' (ints v' x * F) := by
  have hm := hv.most
  have hnil := fun (w : World) (a : Option Addr) (n c : Nat) => Lib.run_eql_slice_nil (P := Tryz.prog) w 38 3 a n c 0 0 Tryz.underlying38
  obtain ⟨ao, c, rfl, _⟩ := hv.val
  rcases ao with _ | ⟨g, o, sp⟩
  · obtain ⟨h0, rfl⟩ := hv.nil0
    have hx : x = [] := List.eq_nil_of_length_eq_zero h0
    subst hx
    clear hb hm hv h0
    go_enter Tryz.func163, Tryz.ntmps163
    go_wp2
    go_ret
    exact ⟨_, rfl, hs.row_nil _ _⟩
  · have h1 : Sat E (w.alloc (.cells #[] 3)) (row 3 1 (.slice (some ⟨w.heap.size, 0, none⟩) 0 0) 0 [] * F) := Sat.row_mk (hs.alloc _) (Nat.le_refl _) (Nat.zero_le _) rfl rfl
    have h2 := hv.alloc (.cells #[] 3)
    have H1 := Lib.hid h1; have H2 := Lib.hid h2; have H3 : Hid (∀ u ∈ i64s x, u.oneCell' = true) := i64s_one x
    clear h1 h2 hv hm
    have b1 : 0 + x.length ≤ maxLen := by simp only [maxLen]; omega
    have b2 : (0 + x.length) * 8 ≤ 140737488355328 := by omega
    have B1 := Lib.hid b1; have B2 := Lib.hid b2
    clear b1 b2 hb
    generalize hn : x.length = n at *
    have HN := Lib.hid hn
    clear hn
    go_enter Tryz.func163, Tryz.ntmps163
    go_wp2_with (at_builtin; refine wpl_append rfl _ _ stI rfl _ _ _ H1.out rfl _ _ _ H2.out rfl H3.out B1.out B2.out ?_; intro v' w' hs')
    go_ret
    refine ⟨_, rfl, ?_⟩
    unfold ints
    rw [HN.out]
    simpa using hs'
set_option maxRecDepth 100000 in
set_option maxHeartbeats 2000000 in
theorem own_calls (w : World) (c : Cfg) (ks : List (Value × List Int)) (kv : Value) (hv : ∀ W, Sat E W F → RdK W kv ks) (hk : ks.map (·.2) = c.kinds) (h16 : ks.length ≤ 16) (h15 : ∀ p ∈ ks, p.2.length ≤ 15) (hs : Sat E w F) :
    Calls Tryz.prog 122 #[.agg (cfgCells kv c)] w fun e w' => ∃ ao cc ks', e = .returned (.agg (cfgCells (.slice ao ks'.length cc) c)) ∧ ks'.map (·.2) = c.kinds ∧ Sat E w' (kindsR (.slice ao ks'.length cc) ks' * F) := by
  obtain ⟨a0, c0, rfl, hc⟩ := (hv w hs).val
  obtain ⟨n, hn⟩ : ∃ n, n = ks.length := ⟨_, rfl⟩
  rw [← hn] at hv h16 hc ⊢
  obtain ⟨kinds, n0, n1, n2, n3, roots, weaks, log⟩ := c
  simp only [cfgCells] at *
  have HN := Lib.hid hn
  have HV := Lib.hid hv
  have HK := Lib.hid hk
  have H15 := Lib.hid h15
  have HS := Lib.hid hs
  clear hn hv hs hk h15
  go_enter Tryz.func122, Tryz.ntmps122
  go_wp2_with fail
  obtain ⟨g, hg⟩ : ∃ g, g = w.heap.size := ⟨_, rfl⟩
  obtain ⟨R, hR⟩ : ∃ R : HP, R = pt (g + 1) (.cells #[.slice none 0 0, .int .i64 0, .int .i64 0, .int .i64 0, .int .i64 0, .int .i64 0, .int .i64 0, .int .i64 0] 29) * (pt g (.cells #[.slice a0 n c0, .int .i64 n0, .int .i64 n1, .int .i64 n2, .int .i64 n3, .int .i64 roots, .int .i64 weaks, .int .i64 log] 29) * F) := ⟨_, rfl⟩
  have HR := Lib.hid hR
  have HRF : Hid (∀ W, Sat E W R → Sat E W F) := Lib.hid fun W hW => by rw [hR] at hW; exact hW.right.right
  go_loopw [9, 3] (fun iv lv wr => ∃ (k : Nat) (ks' : List (Value × List Int)), k ≤ n ∧ iv = .int .i64 k ∧ (∃ ao cc, lv = .slice ao ks'.length cc) ∧ ks'.map (·.2) = (ks.take k).map (·.2) ∧ Sat E wr (kindsR lv ks' * R)) (fun iv _ _ => n - (RowKit.intOf iv).toNat)
  case atStart =>
    refine ⟨0, [], Nat.zero_le _, rfl, ⟨none, 0, rfl⟩, by simp, ?_⟩
    have h := (Sat.alloc2 HS.out (.cells #[.slice a0 n c0, .int .i64 n0, .int .i64 n1, .int .i64 n2, .int .i64 n3, .int .i64 roots, .int .i64 weaks, .int .i64 log] 29) (.cells #[.slice none 0 0, .int .i64 0, .int .i64 0, .int .i64 0, .int .i64 0, .int .i64 0, .int .i64 0, .int .i64 0] 29)).row_nil 62 1
    rw [HR.out, hg]
    show Sat E _ (row _ _ _ _ _ * emp * _)
    rw [sep_emp]
    exact h
  case round =>
    obtain ⟨k, ks', hk, rfl, ⟨ao, cc, rfl⟩, hks, hw⟩ := hrel
    have HKS := Lib.hid hks; have HW := Lib.hid hw
    clear hks hw hR
    have hl' : ks'.length = k := by
      have := congrArg List.length HKS.out
      rw [List.length_map, List.length_map, List.length_take, ← HN.out] at this
      omega
    by_cases hlt : k < n
    · have hk2 : k < ks.length := by rw [← HN.out]; exact hlt
      have hrd := HV.out wr (HRF.out _ HW.out.right)
      rw [HN.out] at hrd
      obtain ⟨b, o, rfl, cx⟩ := RdK.nth hrd k hk2
      have hmem : ks[k] ∈ ks := List.getElem_mem hk2
      have HT : Hid (ks.take (k + 1) = ks.take k ++ [ks[k]]) := Lib.hid (List.take_succ_eq_append_getElem hk2)
      have HM15 : Hid (ks[k].2.length ≤ 15) := Lib.hid (H15.out _ hmem)
      obtain ⟨⟨pa, pc, hp1⟩, _⟩ := hrd.2 _ hmem
      have HRD : Hid (∀ W, Sat E W F → Rd W 1 ks[k].1 ks[k].2.length (i64s ks[k].2)) := Lib.hid fun W hW => ((HV.out W hW).2 _ hmem).2
      clear hrd hmem
      generalize ks[k] = p at *
      obtain ⟨pv, pf⟩ := p
      simp only at hp1 cx HT HM15 HRD
      subst hp1
      clear hk2
      have h1 := HW.out.alloc (.cells #[.slice pa pf.length pc] 62)
      have HC := Lib.hid (cloneI_calls _ pf (.slice pa pf.length pc) (by have : pf.length ≤ 15 := HM15.out; omega) (HRD.out _ (HRF.out _ h1.right.right)) h1)
      clear h1
      go_wp2_with fail
      refine HC.out.mono ?_
      rintro e w1 ⟨v1, rfl, h2⟩
      obtain ⟨a1, c1, rfl, _⟩ := Sat.row_val h2
      obtain ⟨R2, hR2⟩ : ∃ R2 : HP, R2 = pt wr.heap.size (.cells #[.slice pa pf.length pc] 62) * R := ⟨_, rfl⟩
      have hh : Sat E w1 (row 62 1 (.slice ao k cc) k (ks'.map (·.1)) * (bagI ks' * (ints (.slice a1 pf.length c1) pf * R2))) := by
        rw [hR2]
        unfold kindsR at h2
        rw [hl'] at h2
        exact h2.ac (by ac_rfl)
      have h3 := hh.alloc (.cells #[.slice a1 pf.length c1] 62)
      have HH := Lib.hid (Sat.swap h3)
      have RD1 := Lib.hid (rd_one h3)
      have HR2 := Lib.hid hR2
      clear h2 hh h3 hR2
      have B1 := Lib.hid (show k + 1 ≤ maxLen by simp only [maxLen]; omega)
      have B2 := Lib.hid (show (k + 1) * 24 ≤ 140737488355328 by omega)
      go_wp2_with (at_builtin; refine wpl_append rfl _ _ stK rfl _ _ _ HH.out rfl _ _ _ RD1.out rfl (by intro u hu; simp at hu; subst hu; rfl) B1.out B2.out ?_; intro v' w' hs')
      obtain ⟨a2, c2, rfl, _⟩ := Sat.row_val hs'
      have e3 : (ks' ++ [(Value.slice a1 pf.length c1, pf)]).length = k + 1 := by rw [List.length_append, hl']; rfl
      refine ⟨⟨k + 1, ks' ++ [(.slice a1 pf.length c1, pf)], by omega, by go_num, ⟨a2, c2, by rw [e3]⟩, ?_, ?_⟩, by simp [RowKit.intOf]; omega⟩
      · rw [List.map_append, HKS.out, HT.out, List.map_append]; rfl
      · unfold kindsR
        rw [e3, List.map_append, bagI_append]
        rw [HR2.out] at hs'
        have hs2 : Sat E w' (pt wr.heap.size (.cells #[.slice pa pf.length pc] 62) * (pt w1.heap.size (.cells #[.slice a1 pf.length c1] 62) * (row 62 1 (.slice a2 (k + 1) c2) (k + 1) (ks'.map (·.1) ++ [.slice a1 pf.length c1]) * (bagI ks' * (ints (.slice a1 pf.length c1) pf * R))))) := hs'.ac (by ac_rfl)
        have hs3 := hs2.right.right
        show Sat E w' (_ * (bagI ks' * (ints _ pf * emp)) * R)
        rw [sep_emp]
        exact hs3.ac (by ac_rfl)
    · obtain rfl : k = n := by omega
      have h9 := HW.out
      rw [HR.out] at h9
      have h10 : Sat E wr (pt g (.cells #[.slice a0 k c0, .int .i64 n0, .int .i64 n1, .int .i64 n2, .int .i64 n3, .int .i64 roots, .int .i64 weaks, .int .i64 log] 29) * (pt (g + 1) (.cells #[.slice none 0 0, .int .i64 0, .int .i64 0, .int .i64 0, .int .i64 0, .int .i64 0, .int .i64 0, .int .i64 0] 29) * (kindsR (.slice ao ks'.length cc) ks' * F))) := h9.ac (by ac_rfl)
      have f0 := h10.free 0
      rw [hg] at h10 f0
      have k0 := h10.cell 0 rfl
      have h11 := h10.setCell (i := 0) (v := .slice ao ks'.length cc)
      rw [hl'] at h11
      have H11 := Lib.hid h11
      clear h9 h10 h11
      go_upto_region 8 with fail
      refine atSat _ H11.out fun W h12 => ?_
      simp only [List.setIfInBounds_toArray, List.set_cons_zero] at h12
      clear k0 f0 H11
      have c0' := h12.cell 0 rfl; have c1' := h12.cell 1 rfl; have c2' := h12.cell 2 rfl; have c3' := h12.cell 3 rfl
      have c4' := h12.cell 4 rfl; have c5' := h12.cell 5 rfl; have c6' := h12.cell 6 rfl; have c7' := h12.cell 7 rfl
      have h13 := Sat.swap h12
      have d0 := h13.cell 0 rfl; have d1 := h13.cell 1 rfl; have d2 := h13.cell 2 rfl; have d3 := h13.cell 3 rfl
      have d4 := h13.cell 4 rfl; have d5 := h13.cell 5 rfl; have d6 := h13.cell 6 rfl; have d7 := h13.cell 7 rfl
      have f0 := h13.free 0; have f1 := h13.free 1; have f2 := h13.free 2; have f3 := h13.free 3
      have f4 := h13.free 4; have f5 := h13.free 5; have f6 := h13.free 6; have f7 := h13.free 7
      have H13 := Lib.hid h13
      clear h12 h13
      go_wp2_with fail
      have h14 := (((((((H13.out.setCell (i := 0) (v := .slice ao k cc)).setCell (i := 1) (v := .int .i64 n0)).setCell (i := 2) (v := .int .i64 n1)).setCell (i := 3) (v := .int .i64 n2)).setCell (i := 4) (v := .int .i64 n3)).setCell (i := 5) (v := .int .i64 roots)).setCell (i := 6) (v := .int .i64 weaks)).setCell (i := 7) (v := .int .i64 log)
      simp only [List.setIfInBounds_toArray, List.set_cons_zero, List.set_cons_succ] at h14
      refine bodyPost_ret (results_cell_row rfl _ _ (w.heap.size + 1) _ _ _ _ rfl h14.at Tryz.underlying29 (by rfl) (by kernel_rfl)) rfl ?_
      refine ⟨ao, cc, ks', ?_, ?_, ?_⟩
      · rw [hl']
      · rw [HKS.out, HN.out, List.take_length, HK.out]
      · rw [hl']
        exact h14.right.right
end
end Scul
/- layout: a layout in memory; Range, Blocks, Class, Size, Bits. -/
namespace Scul
open Go Go.Sl Go.RowKit Go.Proofs
/-- Block b is the layout of c. -/
def lay (b : Nat) (c : Cfg) : HP := ex fun q : Value × List (Value × List Int) => lift (c.Ok ∧ q.2.map (·.2) = c.kinds ∧ ∃ a cc, q.1 = .slice a q.2.length cc) * (pt b (.cells (layCells q.1 c) 165) * kindsR q.1 q.2)
theorem first_succ (c : Cfg) (k : Nat) (hk : k < 4) : c.first (k + 1) = c.first k + c.blk k := by
  have : k = 0 ∨ k = 1 ∨ k = 2 ∨ k = 3 := by omega
  rcases this with rfl | rfl | rfl | rfl <;> simp [Cfg.first, Cfg.blk]
theorem from_first (c : Cfg) (k : Nat) (hk : k < 4) : c.from_ k = c.first k := by
  have : k = 0 ∨ k = 1 ∨ k = 2 ∨ k = 3 := by omega
  rcases this with rfl | rfl | rfl | rfl <;> simp [Cfg.first, Cfg.from_]
theorem upto_first (c : Cfg) (k : Nat) (hk : k < 4) : c.upto k = c.first (k + 1) := by
  have : k = 0 ∨ k = 1 ∨ k = 2 ∨ k = 3 := by omega
  rcases this with rfl | rfl | rfl | rfl <;> simp [Cfg.first, Cfg.upto, Cfg.count]
theorem from_upto_out (c : Cfg) (i : Int) (h : ¬ (0 ≤ i ∧ i < 4)) : c.from_ i = 0 ∧ c.upto i = 0 := by
  unfold Cfg.from_ Cfg.upto
  constructor
  · rw [if_neg (by omega), if_neg (by omega), if_neg (by omega)]
  · rw [if_neg (by omega), if_neg (by omega), if_neg (by omega), if_neg (by omega)]
theorem first_range {c : Cfg} (h : c.Near) (k : Nat) : 0 ≤ c.first k ∧ c.first k ≤ 2048 := by
  have h0 := h.n0; have h1 := h.n1; have h2 := h.n2; have h3 := h.n3
  unfold Cfg.first
  split; omega; split; omega; split; omega; split <;> omega
theorem blk_range {c : Cfg} (h : c.Near) (k : Nat) : 0 ≤ c.blk k ∧ c.blk k ≤ 512 := by
  have h0 := h.n0; have h1 := h.n1; have h2 := h.n2; have h3 := h.n3
  unfold Cfg.blk
  split; omega; split; omega; split <;> omega
section
variable {E : Env} {w : World} {F : HP} {b : Nat} {c : Cfg}
theorem lay_open (h : Sat E w (lay b c * F)) : ∃ kv ks, (c.Ok ∧ ks.map (·.2) = c.kinds ∧ ∃ a cc, kv = .slice a ks.length cc) ∧ Sat E w (pt b (.cells (layCells kv c) 165) * (kindsR kv ks * F)) := by
  obtain ⟨⟨kv, ks⟩, h⟩ := h.exl
  rw [sep_assoc] at h
  obtain ⟨hok, h⟩ := h.pure
  exact ⟨kv, ks, hok, by simpa only [sep_assoc] using h⟩
theorem lay_mk {kv : Value} {ks : List (Value × List Int)} (hok : c.Ok ∧ ks.map (·.2) = c.kinds ∧ ∃ a cc, kv = .slice a ks.length cc) (h : Sat E w (pt b (.cells (layCells kv c) 165) * (kindsR kv ks * F))) : Sat E w (lay b c * F) := by
  refine Sat.mkExl (kv, ks) ?_
  rw [sep_assoc]
  refine Sat.mkPure hok ?_
  simpa only [sep_assoc] using h
theorem lay_ok (h : Sat E w (lay b c * F)) : c.Ok := by obtain ⟨_, _, h, _⟩ := lay_open h; exact h.1
/-- A layout's numbers. -/
theorem lay_cells (h : Sat E w (lay b c * F)) : (∀ k : Nat, k < 4 → w.cell? ⟨b, 1 + k, none⟩ = some (.int .i64 (c.blk k))) ∧ w.cell? ⟨b, 9, none⟩ = some (.int .i64 c.bitsAt) := by
  obtain ⟨kv, ks, _, hs⟩ := lay_open h
  refine ⟨fun k hk => ?_, hs.cell 9 rfl⟩
  have : k = 0 ∨ k = 1 ∨ k = 2 ∨ k = 3 := by omega
  rcases this with rfl | rfl | rfl | rfl
  · exact hs.cell 1 rfl
  · exact hs.cell 2 rfl
  · exact hs.cell 3 rfl
  · exact hs.cell 4 rfl
set_option maxRecDepth 100000 in
set_option maxHeartbeats 1000000 in
theorem range_calls (w : World) (i : Int) (h : Sat E w (lay b c * F)) :
    Calls Tryz.prog 129 #[.pointer (some ⟨b, 0, none⟩), .int .i64 i] w fun e w' => e = .returned (.tuple #[.int .i64 (c.from_ i), .int .i64 (c.upto i)]) ∧ ∃ m, w' = w.drewN m := by
  have hn := (lay_ok h).toNear
  have HC := Lib.hid (lay_cells h).1
  clear h
  by_cases h0 : i < 0
  · obtain ⟨e1, e2⟩ := from_upto_out c i (by omega)
    rw [e1, e2]
    clear e1 e2 hn
    go_enter Tryz.func129, Tryz.ntmps129
    go_wp2_with fail
    go_ret2
    exact ⟨rfl, 0, rfl⟩
  by_cases h4 : 4 ≤ i
  · obtain ⟨e1, e2⟩ := from_upto_out c i (by omega)
    rw [e1, e2]
    clear e1 e2 hn
    go_enter Tryz.func129, Tryz.ntmps129
    go_wp2_with fail
    go_ret2
    exact ⟨rfl, 0, rfl⟩
  obtain ⟨I, rfl⟩ := Int.eq_ofNat_of_zero_le (a := i) (by omega)
  have hI : I < 4 := by omega
  rw [from_first c I hI, upto_first c I hI]
  obtain ⟨f0, hf0⟩ : ∃ f, f = c.first I := ⟨_, rfl⟩
  obtain ⟨f1, hf1⟩ : ∃ f, f = c.first (I + 1) := ⟨_, rfl⟩
  rw [← hf0, ← hf1]
  have HF0 := Lib.hid hf0; have HF1 := Lib.hid hf1; have HN := Lib.hid hn
  clear hf0 hf1 hn
  have hI2 : (I : Int) ≤ 4 := by omega
  go_enter Tryz.func129, Tryz.ntmps129
  go_wp2_with fail
  go_loopw [26, 6] (fun iv xv wr => ∃ (k : Nat) (x : Int), k ≤ I ∧ iv = .int .i64 k ∧ xv = .int .i64 x ∧ x = c.first k ∧ wr = w) (fun iv _ _ => I - (RowKit.intOf iv).toNat)
  case atStart => exact ⟨0, 0, Nat.zero_le _, rfl, rfl, by simp [Cfg.first], rfl⟩
  case round =>
    obtain ⟨k, x, hk, rfl, rfl, hx, rfl⟩ := hrel
    have hxr := first_range HN.out k
    rw [← hx] at hxr
    have HX := Lib.hid hx
    clear hx
    by_cases hlt : k < I
    · have cx := HC.out k (by omega)
      have hbr := blk_range HN.out k
      have HS := Lib.hid (first_succ c k (by omega))
      generalize c.blk k = y at *
      go_wp2_with fail
      exact ⟨⟨k + 1, x + y, by omega, by go_num, by go_num, by rw [HS.out, HX.out], by first | rfl | trivial⟩, by simp [RowKit.intOf]; omega⟩
    · obtain rfl : k = I := by omega
      have cx := HC.out k hI
      have hbr := blk_range HN.out k
      have HS := Lib.hid (first_succ c k (by omega))
      generalize c.blk k = y at *
      have e1 : IntKind.i64.wrap (x + y) = x + y := wrap_id (by omega) (by omega)
      go_wp2_with fail
      go_quiet (fail)
      go_wp2_with fail
      go_ret2
      exact ⟨ret2_int (by rw [HX.out, HF0.out]) (by rw [HF1.out, HS.out, HX.out]), _, rfl⟩
/-- Range of a layout that there isn't. -/
theorem blocks_calls (w : World) (h : Sat E w (lay b c * F)) :
    Calls Tryz.prog 59 #[.pointer (some ⟨b, 0, none⟩)] w fun e w' => e = .returned (.int .i64 c.count) ∧ ∃ m, w' = w.drewN m := by
  have HR := Lib.hid (range_calls w 3 h)
  have e : c.upto 3 = c.count := by simp [Cfg.upto]
  rw [e] at HR
  clear e h
  go_enter Tryz.func59, Tryz.ntmps59
  go_wp2_with fail
  refine HR.out.mono ?_
  rintro e w1 ⟨rfl, m, rfl⟩
  go_wp2_with fail
  go_ret
  exact ⟨rfl, m, rfl⟩
set_option maxRecDepth 100000 in
set_option maxHeartbeats 1000000 in
theorem class_calls (w : World) (x : Int) (h : Sat E w (lay b c * F)) :
    Calls Tryz.prog 130 #[.pointer (some ⟨b, 0, none⟩), .int .i64 x] w fun e w' => e = .returned (.int .i64 (c.cls x)) ∧ ∃ m, w' = w.drewN m := by
  have hn := (lay_ok h).toNear
  have HR : Hid (∀ (m : Nat) (i : Int), Calls Tryz.prog 129 #[.pointer (some ⟨b, 0, none⟩), .int .i64 i] (w.drewN m) fun e w' => e = .returned (.tuple #[.int .i64 (c.from_ i), .int .i64 (c.upto i)]) ∧ ∃ k, w' = (w.drewN m).drewN k) := Lib.hid fun m i => range_calls _ i (h.drewN m)
  obtain ⟨r, hr⟩ : ∃ r, r = c.cls x := ⟨_, rfl⟩
  rw [← hr]
  have HX := Lib.hid hr
  have HN := Lib.hid hn
  clear hn h hr
  go_enter Tryz.func130, Tryz.ntmps130
  go_wp2_with fail
  go_loopw [8] (fun iv wr => ∃ (k : Nat) (m : Nat), k ≤ 4 ∧ iv = .int .i64 k ∧ (∀ j : Nat, j < k → c.cls x ≠ j) ∧ wr = w.drewN m) (fun iv _ => 4 - (RowKit.intOf iv).toNat)
  case atStart => exact ⟨0, 0, by omega, rfl, by omega, rfl⟩
  case round =>
    obtain ⟨k, m, hk, rfl, hj, rfl⟩ := hrel
    have HJ := Lib.hid hj
    clear hj
    by_cases hlt : k < 4
    · have HI := Lib.hid (Cfg.cls_in HN.out x k (by omega))
      have hki : (k : Int) < 4 := by omega
      have HRK := Lib.hid (HR.out m k)
      generalize c.from_ k = f at HRK HI
      generalize c.upto k = u at HRK HI
      by_cases h1 : f ≤ x
      · by_cases h2 : x < u
        · have e : r = k := by rw [HX.out]; exact HI.out.2 ⟨hki, h1, h2⟩
          subst e
          go_wp2_with (go_at_call 129; refine HRK.out.mono ?_; rintro e w1 ⟨rfl, m2, rfl⟩)
          go_ret
          exact ⟨rfl, m + m2, by first | rfl | rw [World.drewN_drewN]⟩
        · go_wp2_with (go_at_call 129; refine HRK.out.mono ?_; rintro e w1 ⟨rfl, m2, rfl⟩)
          refine ⟨⟨k + 1, m + m2, by omega, by go_num, fun j hj => ?_, by first | rfl | rw [World.drewN_drewN]⟩, by simp [RowKit.intOf]; omega⟩
          by_cases e : j = k
          · subst e
            intro h
            have := HI.out.1 h
            omega
          · exact HJ.out j (by omega)
      · go_wp2_with (go_at_call 129; refine HRK.out.mono ?_; rintro e w1 ⟨rfl, m2, rfl⟩)
        refine ⟨⟨k + 1, m + m2, by omega, by go_num, fun j hj => ?_, by first | rfl | rw [World.drewN_drewN]⟩, by simp [RowKit.intOf]; omega⟩
        by_cases e : j = k
        · subst e
          intro h
          have := HI.out.1 h
          omega
        · exact HJ.out j (by omega)
    · obtain rfl : k = 4 := by omega
      have e : r = -1 := by
        have h1 := Cfg.cls_range c x
        rw [HX.out]
        have h0 := HJ.out 0 (by omega); have h2 := HJ.out 1 (by omega); have h3 := HJ.out 2 (by omega); have h4 := HJ.out 3 (by omega)
        omega
      subst e
      go_wp2_with fail
      go_ret
      exact ⟨rfl, m, rfl⟩
theorem layBits_calls (w : World) (x : Int) (h : Sat E w (lay b c * F)) :
    Calls Tryz.prog 60 #[.pointer (some ⟨b, 0, none⟩), .int .i64 x] w fun e w' => e = .returned (.int .i64 (c.bitsOf x)) ∧ ∃ m, w' = w.drewN m := by
  have HC := Lib.hid (class_calls w x h)
  have c9 := (lay_cells h).2
  have hn := (lay_ok h).toNear
  have hp := Cfg.near_places hn
  have hx : 0 ≤ c.cls x → 0 ≤ x ∧ x < c.count := fun h1 => by
    have := (Cfg.cls_neg hn x)
    have h2 := Cfg.cls_range c x
    omega
  have hc2 : c.count ≤ 2048 := hp.2.2.2.2.2.2.2.2.2.2.1
  have hb1 : c.bitsAt ≤ 80 := hp.2.2.2.1
  have hb0 : 0 ≤ c.bitsAt := by unfold Cfg.bitsAt Cfg.lineOf; have := hn.roots; have := hn.weaks; omega
  obtain ⟨r, hr⟩ : ∃ r, r = c.bitsOf x := ⟨_, rfl⟩
  rw [← hr]
  have HX := Lib.hid hr
  clear h hr hp
  unfold Cfg.bitsOf at HX
  generalize c.cls x = k at *
  generalize c.bitsAt = ba at *
  clear hn
  by_cases h0 : k < 0
  · have e : r = -1 := by rw [HX.out, if_pos h0]
    subst e
    clear hx
    go_enter Tryz.func60, Tryz.ntmps60
    go_wp2_with fail
    refine HC.out.mono ?_
    rintro e w1 ⟨rfl, m, rfl⟩
    go_wp2_with fail
    go_ret
    exact ⟨rfl, m, rfl⟩
  · have e : r = ba + x / 64 := by rw [HX.out, if_neg h0]
    have hx2 := hx (by omega)
    have e1 : IntKind.i64.wrap (ba + x / 64) = ba + x / 64 := wrap_id (by omega) (by omega)
    have e2 : IntKind.i64.wrap (x / 64) = x / 64 := wrap_id (by omega) (by omega)
    subst e
    clear hx
    obtain ⟨hx3, hx4⟩ := hx2
    go_enter Tryz.func60, Tryz.ntmps60
    go_wp2_with fail
    refine HC.out.mono ?_
    rintro e w1 ⟨rfl, m, rfl⟩
    go_wp2_with fail
    go_ret
    exact ⟨rfl, m, rfl⟩
theorem laySize_calls (w : World) (x : Int) (h : Sat E w (lay b c * F)) :
    Calls Tryz.prog 67 #[.pointer (some ⟨b, 0, none⟩), .int .i64 x] w fun e w' => e = .returned (.int .i64 (c.size x)) ∧ ∃ m, w' = w.drewN m := by
  have HC := Lib.hid (class_calls w x h)
  have hr2 := Cfg.cls_range c x
  obtain ⟨r, hr⟩ : ∃ r, r = c.size x := ⟨_, rfl⟩
  rw [← hr]
  have HX := Lib.hid hr
  clear h hr
  unfold Cfg.size at HX
  generalize c.cls x = k at *
  by_cases h0 : k < 0
  · have e : r = 0 := by rw [HX.out, if_pos h0]
    subst e
    clear hr2
    go_enter Tryz.func67, Tryz.ntmps67
    go_wp2_with fail
    refine HC.out.mono ?_
    rintro e w1 ⟨rfl, m, rfl⟩
    go_wp2_with fail
    go_ret
    exact ⟨rfl, m, rfl⟩
  · have HS : Hid (∀ W : World, Calls Tryz.prog 138 #[.int .i64 k] W fun e w' => e = .returned (.int .i64 r) ∧ w' = W) := Lib.hid fun W => by
      have := lsize_calls W k (by omega) (by omega)
      rwa [HX.out, if_neg h0]
    clear hr2
    go_enter Tryz.func67, Tryz.ntmps67
    go_wp2_with fail
    refine HC.out.mono ?_
    rintro e w1 ⟨rfl, m, rfl⟩
    go_wp2_with fail
    refine (HS.out _).mono ?_
    rintro e w2 ⟨rfl, rfl⟩
    go_wp2_with fail
    go_ret
    exact ⟨rfl, m, rfl⟩
end
end Scul
/- layout: May, New. -/
namespace Scul
open Go Go.Sl Go.RowKit Go.Proofs
section
variable {E : Env} {w : World} {F : HP} {b : Nat} {c : Cfg}
/-- A config's cells. -/
structure CfgAt (W : World) (g : Nat) (kv : Value) (c : Cfg) : Prop where
  k0 : W.cell? ⟨g, 0, none⟩ = some kv
  k1 : W.cell? ⟨g, 1, none⟩ = some (.int .i64 c.n0)
  k2 : W.cell? ⟨g, 2, none⟩ = some (.int .i64 c.n1)
  k3 : W.cell? ⟨g, 3, none⟩ = some (.int .i64 c.n2)
  k4 : W.cell? ⟨g, 4, none⟩ = some (.int .i64 c.n3)
  k5 : W.cell? ⟨g, 5, none⟩ = some (.int .i64 c.roots)
  k6 : W.cell? ⟨g, 6, none⟩ = some (.int .i64 c.weaks)
  k7 : W.cell? ⟨g, 7, none⟩ = some (.int .i64 c.log)
theorem cfg_at {W : World} {g : Nat} {kv : Value} {c : Cfg} {t : TypeId} {f : Nat × Nat} {R : HP} (h : Sat E W (pt g (.cells (cfgCells kv c) t f) * R)) : CfgAt W g kv c :=
  ⟨h.cell 0 rfl, h.cell 1 rfl, h.cell 2 rfl, h.cell 3 rfl, h.cell 4 rfl, h.cell 5 rfl, h.cell 6 rfl, h.cell 7 rfl⟩
set_option maxRecDepth 100000 in
set_option maxHeartbeats 4000000 in
theorem layMay_calls (w : World) (c : Cfg) (ks : List (Value × List Int)) (kv : Value) (hv : ∀ W, Sat E W F → RdK W kv ks) (hk : ks.map (·.2) = c.kinds) (hs : Sat E w F) :
    Calls Tryz.prog 120 #[.agg (cfgCells kv c)] w fun e w' => e = .returned (.int .i64 c.may) ∧ Sat E w' F := by
  obtain ⟨a0, c0, rfl, hc⟩ := (hv w hs).val
  have hm := (hv w hs).1.most
  obtain ⟨r, hr⟩ : ∃ r, r = c.may := ⟨_, rfl⟩
  rw [← hr]
  have HX := Lib.hid hr
  have hK : c.kinds.length = ks.length := by rw [← hk, List.length_map]
  have hB : (∀ k ∈ c.kinds, kindMay k = true) ↔ ∀ p ∈ ks, kindMay p.2 = true := by
    rw [← hk]
    constructor
    · intro h p hp; exact h _ (List.mem_map.2 ⟨p, hp, rfl⟩)
    · intro h k hk'
      obtain ⟨p, hp, rfl⟩ := List.mem_map.1 hk'
      exact h p hp
  obtain ⟨BD, hBD⟩ : ∃ B, B = decide (¬ ∀ p ∈ ks, kindMay p.2 = true) := ⟨_, rfl⟩
  have hBD2 : (¬ ∀ k ∈ c.kinds, kindMay k = true) ↔ BD = true := by rw [hB, hBD, decide_eq_true_iff]
  obtain ⟨R, hR⟩ : ∃ R : HP, R = pt w.heap.size (.cells (cfgCells (.slice a0 ks.length c0) c) 29) * F := ⟨_, rfl⟩
  have HRF : Hid (∀ W, Sat E W R → Sat E W F) := Lib.hid fun W hW => by rw [hR] at hW; exact hW.right
  have HCK : Hid (∀ W, Sat E W R → Calls Tryz.prog 159 #[.slice a0 ks.length c0, .func (.func 160) #[] #[]] W fun e w' => e = .returned (.bool BD) ∧ Sat E w' R) := Lib.hid fun W hW => by
    rw [hBD]; exact containsK_calls W ks _ (fun W' hW' => hv W' (HRF.out _ hW')) hW
  obtain ⟨n, hn⟩ : ∃ n, n = ks.length := ⟨_, rfl⟩
  rw [← hn] at hR HCK hc hm hK ⊢
  have HPL : Hid (c.Near → ∀ W, Sat E W R → Calls Tryz.prog 121 #[.agg (cfgCells (.slice a0 n c0) c)] W fun e w' => ∃ b, e = .returned (.pointer (some ⟨b, 0, none⟩)) ∧ Sat E w' (pt b (.cells (layCells (.slice a0 n c0) c) 165) * R)) := Lib.hid fun hn W hW => by
    have := place_calls (F := R) W c a0 c0 hn hW
    rwa [hK] at this
  unfold Cfg.may at HX
  rw [hK] at HX
  have HBD := Lib.hid hBD2
  have HKN := Lib.hid hK
  have HWI : Hid (∀ (W : World) (n m : Int), Calls Tryz.prog 161 #[.int .i64 n, .int .i64 m] W fun e w' => e = .returned (.bool (decide (0 ≤ n ∧ n ≤ m))) ∧ w' = W) := Lib.hid fun W n m => within_calls W n m
  have HND : Hid (∀ W : World, Calls Tryz.prog 114 #[.int .i64 16] W fun e w' => e = .returned (.int .i64 40) ∧ w' = W) := Lib.hid fun W => need_calls W 16
  have HS : Hid (Sat E (w.alloc (.cells (cfgCells (.slice a0 n c0) c) 29)) R) := Lib.hid (by rw [hR]; exact hs.alloc _)
  have HR := Lib.hid hR
  clear hv hk hs hr hK hB hBD hBD2 hn hR
  by_cases h1 : n = 0
  · have e : r = 1 := by rw [HX.out, if_pos (.inl h1)]
    subst e
    subst h1
    unfold cfgCells at *
    go_enter Tryz.func120, Tryz.ntmps120
    go_wp2_with fail
    go_ret
    exact ⟨rfl, HRF.out _ HS.out⟩
  have h1' : ((n : Int) == 0) = false := by simpa using h1
  by_cases h2 : 16 < n
  · have e : r = 1 := by rw [HX.out, if_pos (.inr (.inl h2))]
    subst e
    have h2' : (16 : Int) < n := by omega
    unfold cfgCells at *
    go_enter Tryz.func120, Tryz.ntmps120
    go_wp2_with fail
    go_ret
    exact ⟨rfl, HRF.out _ HS.out⟩
  have h2' : (n : Int) ≤ 16 := by omega
  cases BD with
  | true =>
    have e : r = 1 := by rw [HX.out, if_pos (.inr (.inr (HBD.out.2 rfl)))]
    subst e
    unfold cfgCells at *
    go_enter Tryz.func120, Tryz.ntmps120
    go_wp2_with fail
    refine (HCK.out _ HS.out).mono ?_
    rintro e w1 ⟨rfl, h3⟩
    go_wp2_with fail
    go_ret
    exact ⟨rfl, HRF.out _ h3⟩
  | false =>
    have hg : ¬ (n = 0 ∨ 16 < n ∨ ¬ ∀ k ∈ c.kinds, kindMay k = true) := by
      rintro (h | h | h)
      · exact h1 h
      · exact h2 h
      · have := HBD.out.1 h; cases this
    have hx := HX.out
    rw [if_neg hg] at hx
    have HX2 := Lib.hid hx
    clear hg hx HX HBD
    obtain ⟨kinds, n0, n1, n2, n3, roots, weaks, log⟩ := c
    simp only [cfgCells] at *
    obtain ⟨c', hc'⟩ : ∃ c' : Cfg, c' = ⟨kinds, n0, n1, n2, n3, roots, weaks, log⟩ := ⟨_, rfl⟩
    have HC' := Lib.hid hc'
    have HCELL : Hid (∀ W, Sat E W R → W.cell? ⟨w.heap.size, 0, none⟩ = some (.slice a0 n c0) ∧ W.cell? ⟨w.heap.size, 1, none⟩ = some (.int .i64 n0) ∧ W.cell? ⟨w.heap.size, 2, none⟩ = some (.int .i64 n1) ∧ W.cell? ⟨w.heap.size, 3, none⟩ = some (.int .i64 n2) ∧ W.cell? ⟨w.heap.size, 4, none⟩ = some (.int .i64 n3) ∧ W.cell? ⟨w.heap.size, 5, none⟩ = some (.int .i64 roots) ∧ W.cell? ⟨w.heap.size, 6, none⟩ = some (.int .i64 weaks) ∧ W.cell? ⟨w.heap.size, 7, none⟩ = some (.int .i64 log)) := Lib.hid fun W hW => by
      rw [HR.out] at hW
      exact ⟨hW.cell 0 rfl, hW.cell 1 rfl, hW.cell 2 rfl, hW.cell 3 rfl, hW.cell 4 rfl, hW.cell 5 rfl, hW.cell 6 rfl, hW.cell 7 rfl⟩
    clear hc'
    go_enter Tryz.func120, Tryz.ntmps120
    go_wp2_with fail
    refine (HCK.out _ HS.out).mono ?_
    rintro e w1 ⟨rfl, h3⟩
    obtain ⟨k0, k1, k2, k3, k4, k5, k6, k7⟩ := HCELL.out _ h3
    have H3 := Lib.hid h3
    clear h3
    go_wp2_with fail
    clear k0 k1 k2 k3 k4 k5 k6 k7
    go_loopw [23, 3] (fun iv sv wr => ∃ (k : Nat) (s : Bool), k ≤ 4 ∧ iv = .int .i64 k ∧ sv = .bool s ∧ s = decide (0 < c'.first k) ∧ (∀ j : Nat, j < k → 0 ≤ c'.blk j ∧ c'.blk j ≤ 512) ∧ wr = w1) (fun iv _ _ => 4 - (RowKit.intOf iv).toNat)
    case atStart => exact ⟨0, false, by omega, rfl, rfl, by simp [Cfg.first], by omega, rfl⟩
    case round =>
      obtain ⟨k, s, hk, rfl, rfl, hs', hj, rfl⟩ := hrel
      have HSS := Lib.hid hs'; have HJ := Lib.hid hj
      clear hs' hj
      by_cases hlt : k < 4
      · have hix : ∀ W, (Instr.index 22 (.agg #[.int .i64 n0, .int .i64 n1, .int .i64 n2, .int .i64 n3]) (.int .i64 (k : Int))).run Tryz.prog W = .ok (.int .i64 (c'.blk k)) W := by
          intro W
          rw [HC'.out]
          have : k = 0 ∨ k = 1 ∨ k = 2 ∨ k = 3 := by omega
          rcases this with rfl | rfl | rfl | rfl
          · exact idx4_0 ..
          · exact idx4_1 ..
          · exact idx4_2 ..
          · exact idx4_3 ..
        have HFS := Lib.hid (first_succ c' k hlt)
        by_cases hb : 0 ≤ c'.blk k ∧ c'.blk k ≤ 512
        · have HWB : Hid (∀ W, Calls Tryz.prog 161 #[.int .i64 (c'.blk k), .int .i64 512] W fun e w' => e = .returned (.bool true) ∧ w' = W) := Lib.hid fun W => by
            have := HWI.out W (c'.blk k) 512
            rwa [decide_eq_true hb] at this
          have HB := Lib.hid hb
          have hfr : 0 ≤ c'.first k := by
            have hb0 := fun h => HJ.out 0 h; have hb1 := fun h => HJ.out 1 h; have hb2 := fun h => HJ.out 2 h
            rw [HC'.out] at hb0 hb1 hb2 ⊢
            simp only [Cfg.blk] at hb0 hb1 hb2
            have : k = 0 ∨ k = 1 ∨ k = 2 ∨ k = 3 := by omega
            rcases this with rfl | rfl | rfl | rfl
            · simp [Cfg.first]
            · have := hb0 (by omega); simp [Cfg.first] at *; omega
            · have := hb0 (by omega); have := hb1 (by omega); simp [Cfg.first] at *; omega
            · have := hb0 (by omega); have := hb1 (by omega); have := hb2 (by omega); simp [Cfg.first] at *; omega
          have HFR := Lib.hid hfr
          have jn : Hid (∀ j : Nat, j < k + 1 → 0 ≤ c'.blk j ∧ c'.blk j ≤ 512) := Lib.hid fun j hj => by
            by_cases e : j = k
            · subst e; exact hb
            · exact HJ.out j (by omega)
          clear hb hfr
          generalize c'.blk k = y at hix HFS HB HWB
          have nxt : ∀ t : Bool, t = decide (0 < c'.first k + y) → t = decide (0 < c'.first (k + 1)) := fun t ht => by rw [HFS.out]; exact ht
          have NXT := Lib.hid nxt
          clear nxt
          cases s with
          | true =>
            go_wp2_with (go_at_call 161; refine (HWB.out _).mono ?_; rintro e w' ⟨rfl, rfl⟩)
            exact ⟨⟨k + 1, true, by omega, by go_num, rfl, NXT.out _ (by have := of_decide_eq_true HSS.out.symm; have := HB.out; rw [decide_eq_true]; omega), jn.out, by first | rfl | trivial⟩, by simp [RowKit.intOf]; omega⟩
          | false =>
            by_cases hy : 0 < y
            · go_wp2_with (go_at_call 161; refine (HWB.out _).mono ?_; rintro e w' ⟨rfl, rfl⟩)
              exact ⟨⟨k + 1, true, by omega, by go_num, rfl, NXT.out _ (by have := HFR.out; rw [decide_eq_true]; omega), jn.out, by first | rfl | trivial⟩, by simp [RowKit.intOf]; omega⟩
            · go_wp2_with (go_at_call 161; refine (HWB.out _).mono ?_; rintro e w' ⟨rfl, rfl⟩)
              exact ⟨⟨k + 1, false, by omega, by go_num, congrArg _ (decide_eq_false (by omega)), NXT.out _ (by have := of_decide_eq_false HSS.out.symm; rw [decide_eq_false]; omega), jn.out, by first | rfl | trivial⟩, by simp [RowKit.intOf]; omega⟩
        · have e : r = 1 := by
            have h4 : ¬ ((0 ≤ n0 ∧ n0 ≤ 512) ∧ (0 ≤ n1 ∧ n1 ≤ 512) ∧ (0 ≤ n2 ∧ n2 ≤ 512) ∧ (0 ≤ n3 ∧ n3 ≤ 512)) := by
              rintro ⟨a, b, c, d⟩
              rw [HC'.out] at hb
              have : k = 0 ∨ k = 1 ∨ k = 2 ∨ k = 3 := by omega
              rcases this with rfl | rfl | rfl | rfl
              · exact hb a
              · exact hb b
              · exact hb c
              · exact hb d
            rw [HX2.out, if_pos h4]
          subst e
          have HWB : Hid (∀ W, Calls Tryz.prog 161 #[.int .i64 (c'.blk k), .int .i64 512] W fun e w' => e = .returned (.bool false) ∧ w' = W) := Lib.hid fun W => by
            have := HWI.out W (c'.blk k) 512
            rwa [decide_eq_false hb] at this
          clear hb
          generalize c'.blk k = y at hix HWB
          go_wp2_with (go_at_call 161; refine (HWB.out _).mono ?_; rintro e w' ⟨rfl, rfl⟩)
          go_ret
          exact ⟨rfl, HRF.out _ H3.out⟩
      · obtain rfl : k = 4 := by omega
        have h4 : ((0 ≤ n0 ∧ n0 ≤ 512) ∧ (0 ≤ n1 ∧ n1 ≤ 512) ∧ (0 ≤ n2 ∧ n2 ≤ 512) ∧ (0 ≤ n3 ∧ n3 ≤ 512)) := by
          have hb0 := HJ.out 0 (by omega); have hb1 := HJ.out 1 (by omega); have hb2 := HJ.out 2 (by omega); have hb3 := HJ.out 3 (by omega)
          rw [HC'.out] at hb0 hb1 hb2 hb3
          exact ⟨hb0, hb1, hb2, hb3⟩
        have hx := HX2.out
        rw [if_neg (fun h => h h4)] at hx
        have hcnt : s = decide (0 < n0 + n1 + n2 + n3) := by rw [HSS.out, HC'.out]; simp [Cfg.first]
        rw [show Cfg.count ⟨kinds, n0, n1, n2, n3, roots, weaks, log⟩ = n0 + n1 + n2 + n3 from rfl] at hx
        have HX3 := Lib.hid hx
        have HB4 := Lib.hid h4
        have HCT := Lib.hid hcnt
        clear hx h4 hcnt HJ HSS HX2
        obtain ⟨k0, k1, k2, k3, k4, k5, k6, k7⟩ := HCELL.out _ H3.out
        cases s with
        | false =>
          have e : r = 1 := by
            have := of_decide_eq_false HCT.out.symm
            have := HB4.out
            have hp : n0 + n1 + n2 + n3 = 0 ∨ ¬(1 ≤ roots ∧ roots ≤ 16) ∨ ¬(0 ≤ weaks ∧ weaks ≤ 16) := .inl (by omega)
            rw [HX3.out, if_pos hp]
          subst e
          go_wp2_with fail
          go_ret
          exact ⟨rfl, HRF.out _ H3.out⟩
        | true =>
          by_cases hr1 : 0 ≤ roots ∧ roots ≤ 16
          · have HW1 : Hid (∀ W, Calls Tryz.prog 161 #[.int .i64 roots, .int .i64 16] W fun e w' => e = .returned (.bool true) ∧ w' = W) := Lib.hid fun W => by
              have := HWI.out W roots 16
              rwa [decide_eq_true hr1] at this
            by_cases hw1 : 0 ≤ weaks ∧ weaks ≤ 16
            · have HW2 : Hid (∀ W, Calls Tryz.prog 161 #[.int .i64 weaks, .int .i64 16] W fun e w' => e = .returned (.bool true) ∧ w' = W) := Lib.hid fun W => by
                have := HWI.out W weaks 16
                rwa [decide_eq_true hw1] at this
              by_cases hr0 : roots = 0
              · have hp : n0 + n1 + n2 + n3 = 0 ∨ ¬(1 ≤ roots ∧ roots ≤ 16) ∨ ¬(0 ≤ weaks ∧ weaks ≤ 16) := .inr (.inl (by omega))
                have e : r = 1 := by rw [HX3.out, if_pos hp]
                clear hp
                subst e
                subst hr0
                go_wp2_with (first | (go_at_call_of 161 (Value.int .i64 weaks); refine (HW2.out _).mono ?_; rintro e w' ⟨rfl, rfl⟩) | (go_at_call 161; refine (HW1.out _).mono ?_; rintro e w' ⟨rfl, rfl⟩))
                go_ret
                exact ⟨rfl, HRF.out _ H3.out⟩
              · have hr0' : (roots == 0) = false := by simpa using hr0
                go_wp2_with (first | (go_at_call_of 161 (Value.int .i64 weaks); refine (HW2.out _).mono ?_; rintro e w' ⟨rfl, rfl⟩) | (go_at_call 161; refine (HW1.out _).mono ?_; rintro e w' ⟨rfl, rfl⟩))
                have hp : ¬ (n0 + n1 + n2 + n3 = 0 ∨ ¬(1 ≤ roots ∧ roots ≤ 16) ∨ ¬(0 ≤ weaks ∧ weaks ≤ 16)) := by
                  have := of_decide_eq_true HCT.out.symm
                  omega
                have hx := HX3.out
                rw [if_neg hp] at hx
                have HX4 := Lib.hid hx
                clear hp hx HX3
                by_cases g1 : log < 40
                · have hq : log < 40 ∨ 4096 < log ∨ log % 8 ≠ 0 := .inl g1
                  have e : r = 1 := by rw [HX4.out, if_pos hq]
                  subst e
                  clear hq
                  go_quiet ((go_at_call 114; exact Calls.quiet_of_same (HND.out _)))
                  go_wp2_with fail
                  go_ret
                  exact ⟨rfl, HRF.out _ (H3.out.drewN _)⟩
                by_cases g2 : 4096 < log
                · have hq : log < 40 ∨ 4096 < log ∨ log % 8 ≠ 0 := .inr (.inl g2)
                  have e : r = 1 := by rw [HX4.out, if_pos hq]
                  subst e
                  clear hq
                  go_quiet ((go_at_call 114; exact Calls.quiet_of_same (HND.out _)))
                  go_wp2_with fail
                  go_ret
                  exact ⟨rfl, HRF.out _ (H3.out.drewN _)⟩
                by_cases g3 : log % 8 = 0
                · have hq : ¬ (log < 40 ∨ 4096 < log ∨ log % 8 ≠ 0) := by omega
                  have hx := HX4.out
                  rw [if_neg hq] at hx
                  have HX5 := Lib.hid hx
                  have g3' : (log % 8 != 0) = false := by simpa using g3
                  have HG : Hid ((0 ≤ roots ∧ roots ≤ 16) ∧ (0 ≤ weaks ∧ weaks ≤ 16) ∧ (0 ≤ log ∧ log ≤ 4096)) := Lib.hid ⟨hr1, hw1, by omega⟩
                  clear hq hx HX4
                  go_quiet ((go_at_call 114; exact Calls.quiet_of_same (HND.out _)))
                  go_wp2_with fail
                  have hnr : Cfg.Near ⟨kinds, n0, n1, n2, n3, roots, weaks, log⟩ := by
                    have h4 := HB4.out; have h5 := HG.out; have h6 := HKN.out
                    exact ⟨by rw [h6]; omega, h4.1, h4.2.1, h4.2.2.1, h4.2.2.2, h5.1, h5.2.1, h5.2.2⟩
                  refine (HPL.out hnr _ (H3.out.drewN _)).mono ?_
                  rintro e w2 ⟨b, rfl, h7⟩
                  have HNR := Lib.hid hnr
                  have c12 : w2.cell? ⟨b, 12, none⟩ = some (.int .i64 (Cfg.words ⟨kinds, n0, n1, n2, n3, roots, weaks, log⟩)) := h7.cell 12 rfl
                  have H7 := Lib.hid (HRF.out _ h7.right)
                  clear h7 hnr
                  generalize Cfg.words ⟨kinds, n0, n1, n2, n3, roots, weaks, log⟩ = ws at c12 HX5
                  by_cases hw65 : 65536 < ws
                  · have e : r = 9 := by rw [HX5.out, if_pos hw65]
                    subst e
                    go_wp2_with fail
                    go_ret
                    exact ⟨rfl, H7.out⟩
                  · have e : r = 0 := by rw [HX5.out, if_neg hw65]
                    subst e
                    go_wp2_with fail
                    go_ret
                    exact ⟨rfl, H7.out⟩
                · have hq : log < 40 ∨ 4096 < log ∨ log % 8 ≠ 0 := .inr (.inr g3)
                  have e : r = 1 := by rw [HX4.out, if_pos hq]
                  subst e
                  have g3' : (log % 8 != 0) = true := by simpa using g3
                  clear hq
                  go_quiet ((go_at_call 114; exact Calls.quiet_of_same (HND.out _)))
                  go_wp2_with fail
                  go_ret
                  exact ⟨rfl, HRF.out _ (H3.out.drewN _)⟩
            · have HW2 : Hid (∀ W, Calls Tryz.prog 161 #[.int .i64 weaks, .int .i64 16] W fun e w' => e = .returned (.bool false) ∧ w' = W) := Lib.hid fun W => by
                have := HWI.out W weaks 16
                rwa [decide_eq_false hw1] at this
              have hp : n0 + n1 + n2 + n3 = 0 ∨ ¬(1 ≤ roots ∧ roots ≤ 16) ∨ ¬(0 ≤ weaks ∧ weaks ≤ 16) := .inr (.inr hw1)
              have e : r = 1 := by rw [HX3.out, if_pos hp]
              clear hp
              subst e
              go_wp2_with (first | (go_at_call_of 161 (Value.int .i64 weaks); refine (HW2.out _).mono ?_; rintro e w' ⟨rfl, rfl⟩) | (go_at_call 161; refine (HW1.out _).mono ?_; rintro e w' ⟨rfl, rfl⟩))
              go_ret
              exact ⟨rfl, HRF.out _ H3.out⟩
          · have HW1 : Hid (∀ W, Calls Tryz.prog 161 #[.int .i64 roots, .int .i64 16] W fun e w' => e = .returned (.bool false) ∧ w' = W) := Lib.hid fun W => by
              have := HWI.out W roots 16
              rwa [decide_eq_false hr1] at this
            have hp : n0 + n1 + n2 + n3 = 0 ∨ ¬(1 ≤ roots ∧ roots ≤ 16) ∨ ¬(0 ≤ weaks ∧ weaks ≤ 16) := .inr (.inl (by omega))
            have e : r = 1 := by rw [HX3.out, if_pos hp]
            clear hp
            subst e
            go_wp2_with (go_at_call 161; first | (refine (HW1.out _).mono ?_; rintro e w' ⟨rfl, rfl⟩))
            go_ret
            exact ⟨rfl, HRF.out _ H3.out⟩
set_option maxHeartbeats 1000000 in
/-- New of a config that may not be. -/
theorem layNewBad_calls (w : World) (c : Cfg) (ks : List (Value × List Int)) (kv : Value) (hv : ∀ W, Sat E W F → RdK W kv ks) (hk : ks.map (·.2) = c.kinds) (hs : Sat E w F) (hm : c.may ≠ 0) :
    Calls Tryz.prog 52 #[.agg (cfgCells kv c)] w fun e w' => e = .returned (.tuple #[.pointer none, .int .i64 c.may]) ∧ Sat E w' F := by
  have HC := Lib.hid (fun W hW => layMay_calls W c ks kv hv hk hW)
  obtain ⟨a0, c0, rfl, hc⟩ := (hv w hs).val
  generalize c.may = m at *
  have HS := Lib.hid (hs.alloc (.cells (cfgCells (.slice a0 ks.length c0) c) 29))
  have hm2 : (m != 0) = true := by simpa using hm
  clear hv hk hs
  unfold cfgCells at *
  go_enter Tryz.func52, Tryz.ntmps52
  go_wp2_with fail
  refine (HC.out _ HS.out.right).mono ?_
  rintro e w1 ⟨rfl, h1⟩
  go_wp2_with fail
  go_ret2
  exact ⟨rfl, h1⟩
set_option maxHeartbeats 1000000 in
theorem layNew_calls (w : World) (c : Cfg) (ks : List (Value × List Int)) (kv : Value) (hv : ∀ W, Sat E W F → RdK W kv ks) (hk : ks.map (·.2) = c.kinds) (hs : Sat E w F) (hm : c.may = 0) :
    Calls Tryz.prog 52 #[.agg (cfgCells kv c)] w fun e w' => ∃ b, e = .returned (.tuple #[.pointer (some ⟨b, 0, none⟩), .int .i64 0]) ∧ Sat E w' (lay b c * F) := by
  have hok := Cfg.ok_of_may hm
  obtain ⟨R, hR⟩ : ∃ R : HP, R = pt w.heap.size (.cells (cfgCells kv c) 29) * F := ⟨_, rfl⟩
  have hv2 : ∀ W, Sat E W R → RdK W kv ks := fun W hW => hv W (by rw [hR] at hW; exact hW.right)
  have HC := Lib.hid (fun W hW => layMay_calls (F := R) W c ks kv hv2 hk hW)
  rw [hm] at HC
  have hkl : ks.length = c.kinds.length := by rw [← hk, List.length_map]
  have hk15 : ∀ p ∈ ks, p.2.length ≤ 15 := by
    intro p hp
    have h1 := hok.kinds p.2 (by rw [← hk]; exact List.mem_map.2 ⟨p, hp, rfl⟩)
    unfold kindMay kindW at h1
    rw [decide_eq_true_iff] at h1
    by_cases h2 : p.2.length = 0 ∨ 15 < p.2.length ∨ ¬ ∀ f ∈ p.2, kw f ≠ 0
    · rw [if_pos h2] at h1; omega
    · omega
  have HO : Hid (∀ W, Sat E W R → Calls Tryz.prog 122 #[.agg (cfgCells kv c)] W fun e w' => ∃ ao cc ks', e = .returned (.agg (cfgCells (.slice ao ks'.length cc) c)) ∧ ks'.map (·.2) = c.kinds ∧ Sat E w' (kindsR (.slice ao ks'.length cc) ks' * R)) := Lib.hid fun W hW => own_calls (F := R) W c ks kv hv2 hk (by rw [hkl]; exact hok.k) hk15 hW
  have HPL : Hid (∀ W (ks' : List (Value × List Int)) ao cc, ks'.map (·.2) = c.kinds → Sat E W (kindsR (.slice ao ks'.length cc) ks' * R) → Calls Tryz.prog 121 #[.agg (cfgCells (.slice ao ks'.length cc) c)] W fun e w' => ∃ b, e = .returned (.pointer (some ⟨b, 0, none⟩)) ∧ Sat E w' (lay b c * R)) := Lib.hid fun W ks' ao cc hk' hW => by
    have hl : ks'.length = c.kinds.length := by rw [← hk', List.length_map]
    rw [hl] at hW ⊢
    refine (place_calls W c ao cc hok.toNear hW).mono ?_
    rintro e w' ⟨b, rfl, h⟩
    exact ⟨b, rfl, lay_mk ⟨hok, hk', ao, cc, by rw [hl]⟩ h⟩
  have HS : Hid (Sat E (w.alloc (.cells (cfgCells kv c) 29)) R) := Lib.hid (by rw [hR]; exact hs.alloc _)
  obtain ⟨a0, c0, rfl, hc⟩ := (hv w hs).val
  have HRF : Hid (∀ b W, Sat E W (lay b c * R) → Sat E W (lay b c * F)) := Lib.hid fun b W hW => by
    rw [hR] at hW
    have h : Sat E W (pt w.heap.size (.cells (cfgCells (.slice a0 ks.length c0) c) 29) * (lay b c * F)) := hW.ac (by ac_rfl)
    exact h.right
  have HCELL : Hid (∀ W, Sat E W R → CfgAt W w.heap.size (.slice a0 ks.length c0) c) := Lib.hid fun W hW => by rw [hR] at hW; exact cfg_at hW
  clear hv hv2 hk hs hR hkl hk15 hok hm
  generalize ks.length = n at *
  obtain ⟨kinds, n0, n1, n2, n3, roots, weaks, log⟩ := c
  simp only [cfgCells] at *
  go_enter Tryz.func52, Tryz.ntmps52
  go_wp2_with fail
  refine (HC.out _ HS.out).mono ?_
  rintro e w1 ⟨rfl, h1⟩
  obtain ⟨k0, k1, k2, k3, k4, k5, k6, k7⟩ := HCELL.out _ h1
  have H1 := Lib.hid h1
  clear h1
  go_wp2_with fail
  refine (HO.out _ H1.out).mono ?_
  rintro e w2 ⟨ao, cc, ks', rfl, hk', h2⟩
  go_wp2_with fail
  refine (HPL.out _ ks' ao cc hk' h2).mono ?_
  rintro e w3 ⟨b, rfl, h3⟩
  go_wp2_with fail
  go_ret2
  exact ⟨b, rfl, HRF.out _ _ h3⟩
end
end Scul
/- Fields of bits of words; headers: plain. -/
namespace Scul
/-- n bits of a word from bit f on. -/
def getW (w f n : Nat) : Nat := w / 2 ^ f % 2 ^ n
/-- A word with n bits from bit f on. -/
def setW (w f n v : Nat) : Nat := bitsN (fun i => if f ≤ i ∧ i < f + n then v.testBit (i - f) else w.testBit i) 64
theorem getW_bit (w f n i : Nat) : (getW w f n).testBit i = (decide (i < n) && w.testBit (f + i)) := by
  unfold getW
  rw [Nat.testBit_mod_two_pow, Nat.testBit_div_two_pow, Nat.add_comm]
theorem setW_bit (w f n v i : Nat) : (setW w f n v).testBit i = (decide (i < 64) && if f ≤ i ∧ i < f + n then v.testBit (i - f) else w.testBit i) := bitsN_bit _ _ _
theorem setW_lt (w f n v : Nat) : setW w f n v < 2 ^ 64 := bitsN_lt _ _
theorem getW_lt (w f n : Nat) : getW w f n < 2 ^ n := Nat.mod_lt _ (Nat.two_pow_pos n)
/-- What stands in the bits that were set. -/
theorem getW_set (w f n v : Nat) (h : f + n ≤ 64) : getW (setW w f n v) f n = v % 2 ^ n := by
  refine Nat.eq_of_testBit_eq fun i => ?_
  rw [getW_bit, setW_bit, Nat.testBit_mod_two_pow]
  by_cases hi : i < n
  · rw [if_pos (by omega)]
    simp [hi, show f + i < 64 by omega]
  · simp [hi]
theorem getW_set_other (w f n v g m : Nat) (h : g + m ≤ f ∨ f + n ≤ g) (h2 : g + m ≤ 64) : getW (setW w f n v) g m = getW w g m := by
  refine Nat.eq_of_testBit_eq fun i => ?_
  rw [getW_bit, getW_bit, setW_bit]
  by_cases hi : i < m
  · rw [if_neg (by omega)]
    simp [hi, show g + i < 64 by omega]
  · simp [hi]
theorem lt_of_bits {n k : Nat} (h : ∀ i, k ≤ i → n.testBit i = false) : n < 2 ^ k := by
  refine Nat.lt_pow_two_of_testBit _ fun i hi => h i hi
theorem bits_of_lt {n k i : Nat} (h : n < 2 ^ k) (hi : k ≤ i) : n.testBit i = false := Nat.testBit_lt_two_pow (Nat.lt_of_lt_of_le h (Nat.pow_le_pow_right (by omega) hi))
/-- How many bits are 1. -/
def popR (n : Nat) : Nat := if h : n = 0 then 0 else n % 2 + popR (n / 2)
termination_by n
decreasing_by omega
theorem popR_zero : popR 0 = 0 := by rw [popR]; rfl
theorem popR_half (n : Nat) : popR n = n % 2 + popR (n / 2) := by
  by_cases h : n = 0
  · subst h; simp [popR_zero]
  · rw [popR, dif_neg h]
theorem popR_le (k : Nat) : ∀ n, n < 2 ^ k → popR n ≤ k := by
  induction k with
  | zero => intro n h; have : n = 0 := by simpa using h
            subst this; simp [popR_zero]
  | succ k ih =>
    intro n h
    rw [popR_half]
    have := ih (n / 2) (by rw [Nat.pow_succ] at h; omega)
    omega
/-- The lowest 1 is struck. -/
theorem popR_and (n : Nat) : 0 < n → popR (n &&& (n - 1)) + 1 = popR n := by
  induction n using Nat.strongRecOn with
  | _ n ih =>
    intro h
    by_cases ho : n % 2 = 1
    · have e : n &&& (n - 1) = 2 * (n / 2) := by
        refine Nat.eq_of_testBit_eq fun i => ?_
        rw [Nat.testBit_and]
        cases i with
        | zero => simp only [Nat.testBit_zero]; rw [decide_eq_false (show ¬ (n - 1) % 2 = 1 by omega), decide_eq_false (show ¬ 2 * (n / 2) % 2 = 1 by omega)]; simp
        | succ i =>
          simp only [Nat.testBit_succ]
          rw [show (n - 1) / 2 = n / 2 by omega, show 2 * (n / 2) / 2 = n / 2 by omega, Bool.and_self]
      rw [e, popR_half (2 * (n / 2)), popR_half n]
      rw [show 2 * (n / 2) % 2 = 0 by omega, show 2 * (n / 2) / 2 = n / 2 by omega, ho]
      omega
    · have e : n &&& (n - 1) = 2 * ((n / 2) &&& (n / 2 - 1)) := by
        refine Nat.eq_of_testBit_eq fun i => ?_
        rw [Nat.testBit_and]
        cases i with
        | zero => simp only [Nat.testBit_zero]; rw [decide_eq_false ho, decide_eq_false (show ¬ 2 * ((n / 2) &&& (n / 2 - 1)) % 2 = 1 by omega)]; simp
        | succ i =>
          simp only [Nat.testBit_succ]
          rw [show 2 * ((n / 2) &&& (n / 2 - 1)) / 2 = (n / 2) &&& (n / 2 - 1) by omega, Nat.testBit_and, show (n - 1) / 2 = n / 2 - 1 by omega]
      have h2 := ih (n / 2) (by omega) (by omega)
      rw [e, popR_half (2 * ((n / 2) &&& (n / 2 - 1))), popR_half n]
      rw [show 2 * ((n / 2) &&& (n / 2 - 1)) % 2 = 0 by omega, show 2 * ((n / 2) &&& (n / 2 - 1)) / 2 = (n / 2) &&& (n / 2 - 1) by omega]
      omega
/-- The check of a word's lower bits. -/
def chkW (w : Nat) : Nat := popR (getW w 0 56) + 1
theorem chkW_range (w : Nat) : 1 ≤ chkW w ∧ chkW w ≤ 57 := by
  have := popR_le 56 _ (getW_lt w 0 56)
  unfold chkW; omega
def checkedW (w : Nat) : Nat := setW w 56 8 (chkW w)
/-- A header; 0: there is none. -/
def hdrW (k n : Int) (e : Nat) : Nat := if k < 0 ∨ 15 < k ∨ n < 1 ∨ 16 < n then 0 else checkedW (setW (setW (setW 0 0 4 k.toNat) 4 5 n.toNat) 9 32 e)
/-- What a header says. -/
def hdrP (w : Nat) : Option (Nat × Nat × Nat) :=
  if getW w 4 5 < 1 ∨ 16 < getW w 4 5 ∨ getW w 41 15 ≠ 0 ∨ checkedW w ≠ w then none else some (getW w 0 4, getW w 4 5, getW w 9 32)
theorem chk_checked (w : Nat) : chkW (checkedW w) = chkW w := by
  unfold chkW checkedW
  rw [getW_set_other _ _ _ _ _ _ (by omega) (by omega)]
theorem checked_checked (w : Nat) : checkedW (checkedW w) = checkedW w := by
  rw [show checkedW (checkedW w) = setW (checkedW w) 56 8 (chkW (checkedW w)) from rfl, chk_checked]
  refine Nat.eq_of_testBit_eq fun i => ?_
  rw [setW_bit]
  unfold checkedW
  rw [setW_bit]
  by_cases h : i < 64
  · by_cases h2 : 56 ≤ i ∧ i < 56 + 8
    · simp [h2]
    · rw [if_neg h2, if_neg h2]; simp
  · simp [h]
/-- A header says what it was made of. -/
theorem hdrP_hdrW (k n : Int) (e : Nat) (hk : 0 ≤ k) (hk2 : k ≤ 15) (hn : 1 ≤ n) (hn2 : n ≤ 16) : hdrP (hdrW k n e) = some (k.toNat, n.toNat, e % 2 ^ 32) := by
  unfold hdrW
  rw [if_neg (by omega)]
  obtain ⟨w0, h0⟩ : ∃ w0, w0 = setW (setW (setW 0 0 4 k.toNat) 4 5 n.toNat) 9 32 e := ⟨_, rfl⟩
  rw [← h0]
  have g1 : getW (checkedW w0) 0 4 = k.toNat := by
    unfold checkedW
    rw [getW_set_other _ _ _ _ _ _ (by omega) (by omega), h0, getW_set_other _ _ _ _ _ _ (by omega) (by omega), getW_set_other _ _ _ _ _ _ (by omega) (by omega), getW_set _ _ _ _ (by omega)]
    exact Nat.mod_eq_of_lt (by omega)
  have g2 : getW (checkedW w0) 4 5 = n.toNat := by
    unfold checkedW
    rw [getW_set_other _ _ _ _ _ _ (by omega) (by omega), h0, getW_set_other _ _ _ _ _ _ (by omega) (by omega), getW_set _ _ _ _ (by omega)]
    exact Nat.mod_eq_of_lt (by omega)
  have g3 : getW (checkedW w0) 9 32 = e % 2 ^ 32 := by
    unfold checkedW
    rw [getW_set_other _ _ _ _ _ _ (by omega) (by omega), h0, getW_set _ _ _ _ (by omega)]
  have g4 : getW (checkedW w0) 41 15 = 0 := by
    unfold checkedW
    rw [getW_set_other _ _ _ _ _ _ (by omega) (by omega), h0, getW_set_other _ _ _ _ _ _ (by omega) (by omega), getW_set_other _ _ _ _ _ _ (by omega) (by omega), getW_set_other _ _ _ _ _ _ (by omega) (by omega)]
    simp [getW]
  unfold hdrP
  rw [g1, g2, g3, g4, checked_checked, if_neg (by omega)]
end Scul
