/- Lemmas and contracts for scullion's HeapNil: HxH, HxI, HxJ, HxK, HxL, HxM. -/
import Derived.Test.YtcfbanfbldionaaGreatHeapNilQ13
/- heap: field. -/
namespace Scul
open Go Go.Sl Go.RowKit Go.Proofs
theorem objF_range (ks : List (List Int)) (k i : Int) (v : Val) : 0 ≤ (objF ks k i v).1 ∧ (objF ks k i v).1 ≤ 31 := by
  unfold objF
  cases hk : kindAt ks k with
  | none => simp
  | some fs =>
    simp only
    split
    · simp
    · cases hv : valW (fs.getD i.toNat 0) v with
      | none => simp
      | some l =>
        simp only
        have h1 := kwSum_range (fs.take i.toNat)
        have h2 := (kindMay_len (kindAt_some hk).2.2.2.1).2.1
        have h3 : (fs.take i.toNat).length ≤ fs.length := by rw [List.length_take]; omega
        omega
section
variable {E : Env} {w : World} {F A : HP} {X : HX} {U R : List Bool} {d : Dev}
theorem hp_field (k i : Int) (v : Val) (hv : v.Wf) (hi : I64 i) (h : Sat E w (A * (hpR X U R * F))) :
    Calls Tryz.prog 144 #[X.kv, .int .i64 k, .int .i64 i, vagg v] w fun e w' => ∃ s, e = .returned (.tuple #[.int .i64 (objF X.c.kinds k i v).1, s, .int .i64 (objF X.c.kinds k i v).2.2]) ∧ Sat E w' (words s (objF X.c.kinds k i v).2.1 * (A * (hpR X U R * F))) := by
  have hfit := (hp_open (Sat.swap h)).1
  have h3 := objField_calls (F := A * (hpR X U R * F)) w X.ks X.kv k i v hv hi (fun W hW => hp_rdk (Sat.swap hW)) h
  rw [hfit.1.1] at h3
  exact h3
set_option maxRecDepth 100000 in
set_option maxHeartbeats 4000000 in
theorem hfield_calls (w : World) (x : Wr) (hx : x.Wf) (hlen : X.c.words ≤ d.read.length) (h : Sat E w (hpR X U R * (dev X.db d * F))) :
    Calls Tryz.prog 76 #[.pointer (some ⟨X.h, 0, none⟩), wagg x] w fun e w' => ∃ s, e = .returned (.tuple #[.int .i64 (Hp.fieldW X.c U d x).1, s, .int .i64 (Hp.fieldW X.c U d x).2.2]) ∧ Sat E w' (words s (Hp.fieldW X.c U d x).2.1 * (hpR X U R * (dev X.db d * F))) := by
  obtain ⟨q, hq⟩ : ∃ q, q = Hp.fieldW X.c U d x := ⟨_, rfl⟩
  rw [← hq]
  unfold Hp.fieldW at hq
  have hok := hp_ok h
  have hul := (hp_len h).1
  obtain ⟨g, hg⟩ : ∃ g, g = w.heap.size := ⟨_, rfl⟩
  obtain ⟨D, hD⟩ : ∃ D : HP, D = hpR X U R * (dev X.db d * F) := ⟨_, rfl⟩
  have H := Lib.hid (wbox_alloc h x)
  rw [← hg, ← hD] at H
  have HCE : Hid (∀ V (A : HP), Sat E V (A * (wbox g x * D)) → (V.cell? ⟨g, 0, none⟩ = some (.int .i64 x.kind) ∧ V.cell? ⟨g, 1, none⟩ = some (.int .i64 x.obj) ∧ V.cell? ⟨g, 2, none⟩ = some (.int .i64 x.field)) ∧ V.cell? ⟨g, 3, none⟩ = some (.int .i64 x.val.kind) ∧ V.cell? ⟨g, 4, none⟩ = some (.int .i64 x.val.int) ∧ V.cell? ⟨g, 5, none⟩ = some (.int .u64 x.val.re) ∧ V.cell? ⟨g, 6, none⟩ = some (.int .u64 x.val.im) ∧ V.cell? ⟨g, 7, none⟩ = some (.int .i64 x.val.ref)) := Lib.hid fun V A hV => wbox_cells hV.right
  have HCH : Hid (∀ V (A : HP), Sat E V (A * (wbox g x * D)) → V.cell? ⟨X.h, 1, none⟩ = some (.pointer (some ⟨X.lb, 0, none⟩)) ∧ V.cell? ⟨X.h, 2, none⟩ = some X.kv) := Lib.hid fun V A hV => by
    rw [hD] at hV
    have := hp_cells (hV.right)
    exact ⟨this.2.1, this.2.2.1⟩
  have HRA : Hid (∀ V (A : HP), Sat E V (A * (wbox g x * D)) → Calls Tryz.prog 143 #[.pointer (some ⟨X.h, 0, none⟩), wagg x] V fun e w' => e = .returned (.int .i64 (Hp.rootAt X.c x)) ∧ Sat E w' (A * (wbox g x * D))) := Lib.hid fun V A hV => by
    rw [hD] at hV ⊢
    exact (hrootAt_calls (X := X) (U := U) (R := R) V x (F := A * (wbox g x * (dev X.db d * F))) (hV.ac (by ac_rfl))).mono fun e w' ⟨he, h2⟩ => ⟨he, h2.ac (by ac_rfl)⟩
  have HKD : Hid (∀ V, Sat E V (wbox g x * D) → Calls Tryz.prog 21 #[.pointer (some ⟨X.h, 0, none⟩), .int .i64 x.obj] V fun e w' => e = .returned (.tuple #[.int .i64 (Hp.obj X.c U d x.obj).1, .int .i64 (Hp.obj X.c U d x.obj).2.2]) ∧ Sat E w' (wbox g x * D)) := Lib.hid fun V hV => by
    rw [hD] at hV ⊢
    exact (hkind_calls (X := X) (U := U) (R := R) (d := d) V x.obj hlen (F := wbox g x * F) (hV.ac (by ac_rfl))).mono fun e w' ⟨he, h2⟩ => ⟨he, h2.ac (by ac_rfl)⟩
  have HFD : Hid (∀ V, Sat E V (emp * (wbox g x * D)) → Calls Tryz.prog 144 #[X.kv, .int .i64 (Hp.obj X.c U d x.obj).1, .int .i64 x.field, vagg x.val] V fun e w' => ∃ s, e = .returned (.tuple #[.int .i64 (objF X.c.kinds (Hp.obj X.c U d x.obj).1 x.field x.val).1, s, .int .i64 (objF X.c.kinds (Hp.obj X.c U d x.obj).1 x.field x.val).2.2]) ∧ Sat E w' (words s (objF X.c.kinds (Hp.obj X.c U d x.obj).1 x.field x.val).2.1 * (wbox g x * D))) := Lib.hid fun V hV => by
    rw [emp_sep, hD] at hV
    rw [hD]
    exact hp_field _ _ _ hx.val hx.field hV
  have HAT : Hid (∀ V (A : HP), Sat E V (A * (wbox g x * D)) → Calls Tryz.prog 68 #[.pointer (some ⟨X.lb, 0, none⟩), .int .i64 x.obj] V fun e w' => e = .returned (.int .i64 (X.c.at_ x.obj)) ∧ Sat E w' (A * (wbox g x * D))) := Lib.hid fun V A hV => by
    have h1 : Sat E V ((A * wbox g x) * (hpR X U R * (dev X.db d * F))) := by rw [hD] at hV; exact hV.ac (by ac_rfl)
    exact (hpAt_calls x.obj h1).mono fun e w' ⟨he, m, hw⟩ => ⟨he, by rw [hw]; exact hV.drewN m⟩
  have hat : (Hp.obj X.c U d x.obj).2.2 = 0 → 0 ≤ X.c.at_ x.obj ∧ X.c.at_ x.obj ≤ 65536 := fun he => by
    have hu : getB U x.obj = true := by
      unfold Hp.obj at he
      split at he
      · cases he
      · rename_i h; simpa using h
    have hb : 0 ≤ x.obj ∧ x.obj < X.c.count := by have := getB_in hu; rw [hul] at this; have := hok.some; omega
    obtain ⟨g1, g2, g3, g4⟩ := Cfg.at_range hok.toNear hb.1 hb.2
    have hpp := Hp.places hok
    have hlg := hok.toNear.log
    omega
  have hfr := objF_range X.c.kinds (Hp.obj X.c U d x.obj).1 x.field x.val
  show Calls _ _ _ _ fun e w' => ∃ s, e = .returned (.tuple #[.int .i64 q.1, s, .int .i64 q.2.2]) ∧ Sat E w' (words s q.2.1 * (hpR X U R * (dev X.db d * F)))
  rw [← hD]
  have HBX : Hid (∀ V (A : HP), Sat E V (A * (wbox g x * D)) → Sat E V (A * D)) := Lib.hid fun V A hV => Sat.mid hV
  generalize wbox g x * D = B at *
  unfold vagg at HFD
  unfold vcells at HFD
  unfold wagg at *
  unfold wcells at *
  clear h hok hul hlen hD hx
  subst hg
  generalize Hp.rootAt X.c x = ra at *
  generalize Hp.obj X.c U d x.obj = ob at *
  obtain ⟨ok0, ovs, oe⟩ := ob
  simp only at *
  generalize objF X.c.kinds ok0 x.field x.val = of at *
  obtain ⟨fo, fl, fe⟩ := of
  simp only at *
  generalize X.c.at_ x.obj = A0 at *
  obtain ⟨⟨c0, c1, c2⟩, c3, c4, c5, c6, c7⟩ := HCE.out _ emp (by rw [emp_sep]; exact H.out)
  generalize x.kind = k at *
  generalize x.field = f at *
  generalize x.obj = o at *
  generalize x.val.kind = v1 at *
  generalize x.val.int = v2 at *
  generalize x.val.re = v3 at *
  generalize x.val.im = v4 at *
  generalize x.val.ref = v5 at *
  by_cases hk : k = 1
  · subst hk
    rw [if_neg (by simp)] at hq
    by_cases hoe : oe = 0
    · subst hoe
      rw [if_neg (by simp)] at hq
      subst hq
      obtain ⟨ha0, ha1⟩ := hat rfl
      have HA0 : Hid (0 ≤ A0 ∧ A0 ≤ 65536 ∧ 0 ≤ fo ∧ fo ≤ 31) := Lib.hid ⟨ha0, ha1, hfr.1, hfr.2⟩
      clear hat
      go_enter Tryz.func76, Tryz.ntmps76
      go_upto_region 8 with (go_at_call 21; refine (HKD.out _ H.out).mono ?_; rintro e w2 ⟨rfl, h2⟩)
      clear c0 c1 c2 c3 c4 c5 c6 c7 H HKD
      have H2 := Lib.hid (show Sat E w2 (emp * B) from by rw [emp_sep]; exact h2)
      clear h2
      obtain ⟨⟨c0, c1, c2⟩, c3, c4, c5, c6, c7⟩ := HCE.out _ _ H2.out
      obtain ⟨k1, k2⟩ := HCH.out _ _ H2.out
      go_cut [9, 10, 8] (fun s9 s10 s8 wx => s9 = .int .i64 fo ∧ s8 = .int .i64 fe ∧ Sat E wx (words s10 fl * B))
      case first =>
        go_region_held3 (fun V => V.cell? ⟨X.h, 2, none⟩ = some X.kv ∧ V.cell? ⟨w.heap.size, 2, none⟩ = some (.int .i64 f) ∧ V.cell? ⟨w.heap.size, 3, none⟩ = some (.int .i64 v1) ∧ V.cell? ⟨w.heap.size, 4, none⟩ = some (.int .i64 v2) ∧ V.cell? ⟨w.heap.size, 5, none⟩ = some (.int .u64 v3) ∧ V.cell? ⟨w.heap.size, 6, none⟩ = some (.int .u64 v4) ∧ V.cell? ⟨w.heap.size, 7, none⟩ = some (.int .i64 v5)) (first | exact ⟨k2, c2, c3, c4, c5, c6, c7⟩ | exact ⟨(HCH.out _ _ h3).2, (HCE.out _ _ h3).1.2.2, (HCE.out _ _ h3).2⟩) ((go_at_call 144; refine (HFD.out _ (by first | exact H2.out | exact H2.out.drew | exact H2.out.drewN _)).mono ?_; rintro e w3 ⟨s, rfl, h3⟩))
        all_goals
          go_wp2_with fail
          go_meet
          exact ⟨rfl, rfl, h3⟩
      case rest =>
        obtain ⟨rfl, rfl, h5⟩ := hcut
        rename World => W5
        have H5 := Lib.hid h5
        have hsum : IntKind.i64.wrap (A0 + fo) = A0 + fo := wrap_id (by omega) (by omega)
        have hsum2 : wrap64 (A0 + fo) = A0 + fo := by unfold wrap64; omega
        clear h5 c0 c1 c2 c3 c4 c5 c6 c7 k1 k2 H2 ha0 ha1 hfr
        go_upto_region 9 with fail
        go_cut [4, 5, 6] (fun s4 s5 s6 wx => s4 = .int .i64 (A0 + fo) ∧ s6 = .int .i64 fe ∧ Sat E wx (words s5 fl * B))
        case first =>
          have x1 : ∀ y : At E (words u10 fl * B), y.W.cell? ⟨X.h, 1, none⟩ = some (.pointer (some ⟨X.lb, 0, none⟩)) := fun y => (HCH.out _ _ y.ok).1
          have x2 : ∀ y : At E (words u10 fl * B), y.W.cell? ⟨w.heap.size, 1, none⟩ = some (.int .i64 o) := fun y => (HCE.out _ _ y.ok).1.2.1
          refine wp_region_class H5.out (by kernel_rfl) (by kernel_rfl) fun ne => ?_
          repeat (go_big_quiet_step ((go_at_call 68; exact At.call (HAT.out _ _ (At.ok _)))))
          refine wpQuiet_nil ?_
          rintro _ ⟨⟨w4, h4⟩, rfl⟩
          go_wp2_with fail
          go_meet
          exact ⟨rfl, rfl, h4⟩
        case rest =>
          obtain ⟨rfl, rfl, h6⟩ := hcut
          go_wp2_with fail
          go_ret3
          exact ⟨_, rfl, HBX.out _ _ h6⟩
    · rw [if_pos hoe] at hq
      subst hq
      have hoe1 : (oe != 0) = true := by simpa using hoe
      clear hoe hat hfr
      go_enter Tryz.func76, Tryz.ntmps76
      go_wp2_with (go_at_call 21; refine (HKD.out _ H.out).mono ?_; rintro e w2 ⟨rfl, h2⟩)
      go_ret3
      exact ⟨_, rfl, wrow_nil (by have := HBX.out _ emp (by rw [emp_sep]; exact h2); rwa [emp_sep] at this)⟩
  · have hk1 : (k != 1) = true := by simpa using hk
    rw [if_pos hk] at hq
    clear hk hat hfr
    have H0 := Lib.hid (show Sat E _ (emp * B) from by rw [emp_sep]; exact H.out)
    by_cases h3 : v1 = 3
    · subst h3
      rw [if_pos rfl] at hq
      subst hq
      have hwp : (IntKind.u64.wrap (IntKind.u64.wrap v5 + 1)) = (v5 % 18446744073709551616 + 1) % 18446744073709551616 := by rw [IntKind.wrap_u64, IntKind.wrap_u64]
      have hwp1 : IntKind.u64.wrap v5 = v5 % 18446744073709551616 := IntKind.wrap_u64 _
      have HWP := Lib.hid hwp
      clear hwp
      go_enter Tryz.func76, Tryz.ntmps76
      go_upto_region 3 with fail
      have HAL : Hid (∀ V (A : HP) o, Sat E V (A * B) → Sat E (V.alloc o) ((pt V.heap.size o * A) * B)) := Lib.hid fun V A o hV => by rw [sep_assoc]; exact hV.alloc o
      have HW0 : Hid (∀ V (A : HP) n y, Sat E V ((pt n (.cells #[.int .u64 y] 24) * A) * B) → Sat E V (words (.slice (some ⟨n, 0, none⟩) 1 1) [y] * B)) := Lib.hid fun V A n y hV => by
        rw [sep_assoc] at hV
        have h1 : Sat E V (words (.slice (some ⟨n, 0, none⟩) 1 1) [y] * (A * B)) := Sat.row_mk (n := 1) (cap := 1) (size := 1) (cs := [Value.int .u64 y]) hV (Nat.le_refl _) (by simp [maxLen]) rfl rfl
        exact Sat.mid h1
      go_cut [4, 5, 6] (fun s4 s5 s6 wx => s4 = .int .i64 ra ∧ s6 = .int .i64 0 ∧ Sat E wx (words s5 [(v5 % 18446744073709551616 + 1) % 18446744073709551616] * B))
      case first =>
        have HSS : Hid (∀ V (A : HP), Sat E V (A * B) → V.cell? ⟨w.heap.size, 0, none⟩ = some (.int .i64 k) ∧ V.cell? ⟨w.heap.size, 1, none⟩ = some (.int .i64 o) ∧ V.cell? ⟨w.heap.size, 2, none⟩ = some (.int .i64 f) ∧ V.cell? ⟨w.heap.size, 3, none⟩ = some (.int .i64 3) ∧ V.cell? ⟨w.heap.size, 4, none⟩ = some (.int .i64 v2) ∧ V.cell? ⟨w.heap.size, 5, none⟩ = some (.int .u64 v3) ∧ V.cell? ⟨w.heap.size, 6, none⟩ = some (.int .u64 v4) ∧ V.cell? ⟨w.heap.size, 7, none⟩ = some (.int .i64 v5)) := Lib.hid fun V A hV => ⟨(HCE.out _ _ hV).1.1, (HCE.out _ _ hV).1.2.1, (HCE.out _ _ hV).1.2.2, (HCE.out _ _ hV).2⟩
        go_region_held3 (fun V => V.cell? ⟨w.heap.size, 0, none⟩ = some (.int .i64 k) ∧ V.cell? ⟨w.heap.size, 1, none⟩ = some (.int .i64 o) ∧ V.cell? ⟨w.heap.size, 2, none⟩ = some (.int .i64 f) ∧ V.cell? ⟨w.heap.size, 3, none⟩ = some (.int .i64 3) ∧ V.cell? ⟨w.heap.size, 4, none⟩ = some (.int .i64 v2) ∧ V.cell? ⟨w.heap.size, 5, none⟩ = some (.int .u64 v3) ∧ V.cell? ⟨w.heap.size, 6, none⟩ = some (.int .u64 v4) ∧ V.cell? ⟨w.heap.size, 7, none⟩ = some (.int .i64 v5)) (first | exact ⟨c0, c1, c2, c3, c4, c5, c6, c7⟩ | exact HSS.out _ _ h3 | exact HSS.out _ _ (HAL.out _ _ _ h3) | exact HSS.out _ _ (HAL.out _ _ _ H0.out) | exact HSS.out _ _ (HAL.out _ _ _ H0.out.drew)) ((go_at_call 143; refine (HRA.out _ _ (by first | exact H0.out | exact H0.out.drew | exact HAL.out _ _ _ H0.out | exact HAL.out _ _ _ H0.out.drew)).mono ?_; rintro e w3 ⟨rfl, h3⟩))
        all_goals
          go_wp2_with fail
          go_meet
          first
            | exact ⟨rfl, rfl, words_new1 (by have := h3; rwa [emp_sep] at this) _⟩
            | exact ⟨rfl, rfl, HW0.out _ _ _ _ h3⟩
            | exact ⟨rfl, rfl, HW0.out _ _ _ _ (HAL.out _ _ _ h3)⟩
            | exact ⟨rfl, rfl, by have h7 := HW0.out _ _ _ _ h3; rw [IntKind.wrap_u64] at h7; simpa only [World.size_alloc] using h7⟩
      case rest =>
        obtain ⟨rfl, rfl, h6⟩ := hcut
        go_wp2_with fail
        go_ret3
        exact ⟨_, rfl, by have h7 := HBX.out _ (words u5 [(v5 % 18446744073709551616 + 1) % 18446744073709551616]) h6; exact h7⟩
    · rw [if_neg h3] at hq
      subst hq
      have h31 : (v1 == 3) = false := by simpa using h3
      clear h3
      go_enter Tryz.func76, Tryz.ntmps76
      go_wp2_with (go_at_call 143; refine (HRA.out _ _ H0.out).mono ?_; rintro e w2 ⟨rfl, h2⟩)
      go_ret3
      exact ⟨_, rfl, words_new1 (by have := HBX.out _ _ h2; rwa [emp_sep] at this) 0⟩
end
end Scul
/- heap: mayBlocks, each. -/
namespace Scul
open Go Go.Sl Go.RowKit Go.Proofs
def wrCells (l : List Wr) : List Value := l.flatMap fun v => (wcells v).toList
theorem wrCells_at (l : List Wr) (k j : Nat) (hk : k < l.length) (hj : j < 8) : (wrCells l)[8 * k + j]? = (wcells l[k])[j]? := by
  induction l generalizing k with
  | nil => simp at hk
  | cons c l ih =>
    show ((wcells c).toList ++ wrCells l)[8 * k + j]? = _
    cases k with
    | zero =>
      rw [Nat.mul_zero, Nat.zero_add, List.getElem?_append_left (by simpa [wcells] using hj)]
      simp
    | succ k =>
      rw [List.getElem?_append_right (by simp [wcells]; omega)]
      have e : 8 * (k + 1) + j - (wcells c).toList.length = 8 * k + j := by simp [wcells]; omega
      rw [e, ih k (by simpa using hk)]
      rfl
theorem wrCells_append (l m : List Wr) : wrCells (l ++ m) = wrCells l ++ wrCells m := by simp [wrCells]
/-- A slice that reads as writes. -/
def RdW (w : World) (v : Value) (l : List Wr) : Prop := Rd w 8 v l.length (wrCells l)
theorem RdW.nth {w : World} {ao : Option Addr} {c : Nat} {l : List Wr} (h : RdW w (.slice ao l.length c) l) (k : Nat) (hk : k < l.length) :
    ∃ bb o, ao = some ⟨bb, o, none⟩ ∧ (w.cell? ⟨bb, o + k * 8, none⟩ = some (.int .i64 l[k].kind) ∧ w.cell? ⟨bb, o + k * 8 + 1, none⟩ = some (.int .i64 l[k].obj) ∧ w.cell? ⟨bb, o + k * 8 + 2, none⟩ = some (.int .i64 l[k].field)) ∧ w.cell? ⟨bb, o + k * 8 + 3, none⟩ = some (.int .i64 l[k].val.kind) ∧ w.cell? ⟨bb, o + k * 8 + 4, none⟩ = some (.int .i64 l[k].val.int) ∧ w.cell? ⟨bb, o + k * 8 + 5, none⟩ = some (.int .u64 l[k].val.re) ∧ w.cell? ⟨bb, o + k * 8 + 6, none⟩ = some (.int .u64 l[k].val.im) ∧ w.cell? ⟨bb, o + k * 8 + 7, none⟩ = some (.int .i64 l[k].val.ref) := by
  obtain ⟨bb, o, rfl, hc⟩ := Rd.at h (by omega)
  have g : ∀ j u, j < 8 → (wcells l[k])[j]? = some u → w.cell? ⟨bb, o + (8 * k + j), none⟩ = some u := fun j u hj hu => hc (8 * k + j) _ (by rw [wrCells_at l k j hk hj]; exact hu)
  have e : ∀ j, o + (8 * k + j) = o + k * 8 + j := fun j => by omega
  refine ⟨bb, o, rfl, ⟨?_, ?_, ?_⟩, ?_, ?_, ?_, ?_, ?_⟩
  · have := g 0 _ (by omega) rfl; rwa [e 0] at this
  · have := g 1 _ (by omega) rfl; rwa [e 1] at this
  · have := g 2 _ (by omega) rfl; rwa [e 2] at this
  · have := g 3 _ (by omega) rfl; rwa [e 3] at this
  · have := g 4 _ (by omega) rfl; rwa [e 4] at this
  · have := g 5 _ (by omega) rfl; rwa [e 5] at this
  · have := g 6 _ (by omega) rfl; rwa [e 6] at this
  · have := g 7 _ (by omega) rfl; rwa [e 7] at this
section
variable {E : Env} {w : World} {F A : HP} {X : HX} {U R : List Bool} {d : Dev}
set_option maxRecDepth 100000 in
set_option maxHeartbeats 1000000 in
theorem hmayBlocks_calls (w : World) (l : List Int) (ao : Option Addr) (cc : Nat) (hv : Rd w 1 (.slice ao l.length cc) l.length (i64s l)) (h : Sat E w (hpR X U R * F)) :
    Calls Tryz.prog 103 #[.pointer (some ⟨X.h, 0, none⟩), .slice ao l.length cc] w fun e w' => e = .returned (.bool (mayB R [] l)) ∧ w' = w := by
  have hm := hv.most
  have hcl := hp_cells (A := emp) (w := w) (X := X) (U := U) (R := R) (F := F) (E := E) (by rw [emp_sep]; exact h)
  have c3 := hcl.2.2.2
  have HG : Hid (∀ i, Calls Tryz.prog 65 #[.pointer (some ⟨X.tb, 0, none⟩), .int .i64 i] w fun e w' => e = .returned (.bool (getB R i)) ∧ w' = w) := Lib.hid fun i => hpReserved_calls i (A := emp) (w := w) (X := X) (U := U) (R := R) (F := F) (E := E) (by rw [emp_sep]; exact h)
  have HC : Hid (∀ (n : Nat) x, n ≤ l.length → Calls Tryz.prog 153 #[.slice ao n cc, .int .i64 x] w fun e w' => e = .returned (.bool ((l.take n).contains x)) ∧ w' = w) := Lib.hid fun n x hn => containsI_calls w ao cc n l x hn hv
  obtain ⟨ao', cc', heq, hcc⟩ := hv.val
  simp only [Value.slice.injEq, true_and] at heq
  obtain ⟨rfl, rfl⟩ := heq
  obtain ⟨r, hr⟩ : ∃ r, r = mayB R [] l := ⟨_, rfl⟩
  rw [← hr]
  have HX := Lib.hid hr
  obtain ⟨n, hn⟩ : ∃ n, n = l.length := ⟨_, rfl⟩
  rw [← hn] at hv HC hm hcc ⊢
  have HN := Lib.hid hn
  have HV := Lib.hid hv
  clear hr hn hv h hcl
  go_enter Tryz.func103, Tryz.ntmps103
  go_wp2_with fail
  go_loopw [9] (fun iv wr => ∃ k : Nat, k ≤ n ∧ iv = .int .i64 k ∧ r = mayB R (l.take k) (l.drop k) ∧ wr = w) (fun iv _ => n - (RowKit.intOf iv).toNat)
  case atStart => exact ⟨0, Nat.zero_le _, rfl, by rw [HX.out]; rfl, rfl⟩
  case round =>
    obtain ⟨k, hk, rfl, he, rfl⟩ := hrel
    by_cases hlt : k < n
    · obtain ⟨b, o, rfl, hc⟩ := HV.out.at (by omega)
      have cx := Rd.nthI HV.out k hlt
      clear hc
      have hk2 : k < l.length := by rw [← HN.out]; exact hlt
      have hgd : l.getD k 0 = l[k] := by rw [List.getD_eq_getElem?_getD, List.getElem?_eq_getElem hk2]; rfl
      rw [hgd] at cx
      have hd : l.drop k = l[k] :: l.drop (k + 1) := List.drop_eq_getElem_cons hk2
      have ht : l.take k ++ [l[k]] = l.take (k + 1) := (List.take_succ_eq_append_getElem hk2).symm
      have HCk := Lib.hid (HC.out k l[k] (by omega))
      have HGk := Lib.hid (HG.out l[k])
      rw [hd] at he
      unfold mayB at he
      rw [ht] at he
      generalize l[k] = x at *
      clear hd ht hgd hk2
      cases hg : getB R x with
      | false =>
        rw [hg] at HGk he
        have hr : r = false := by simpa using he
        subst hr
        clear hg he
        go_wp2_with (go_at_call 65; refine HGk.out.mono ?_; rintro e w' ⟨rfl, rfl⟩)
        go_ret
        exact ⟨rfl, by first | rfl | trivial⟩
      | true =>
        cases hcn : (l.take k).contains x with
        | true =>
          rw [hg] at HGk he; rw [hcn] at HCk he
          have hr : r = false := by simpa using he
          subst hr
          clear hg he hcn
          go_wp2_with (first | (go_at_call 65; refine HGk.out.mono ?_; rintro e w' ⟨rfl, rfl⟩) | (go_at_call 153; refine HCk.out.mono ?_; rintro e w' ⟨rfl, rfl⟩))
          go_ret
          exact ⟨rfl, by first | rfl | trivial⟩
        | false =>
          rw [hg] at HGk he; rw [hcn] at HCk he
          have HE : Hid (r = mayB R (l.take (k + 1)) (l.drop (k + 1))) := Lib.hid (by simpa using he)
          clear hg he hcn
          go_wp2_with (first | (go_at_call 65; refine HGk.out.mono ?_; rintro e w' ⟨rfl, rfl⟩) | (go_at_call 153; refine HCk.out.mono ?_; rintro e w' ⟨rfl, rfl⟩))
          exact ⟨⟨k + 1, by omega, by go_num, HE.out, by first | rfl | trivial⟩, by simp [RowKit.intOf]; omega⟩
    · obtain rfl : k = n := by omega
      rw [HN.out, List.drop_length] at he
      have hr : r = true := he
      subst hr
      clear he
      go_wp2_with fail
      go_ret
      exact ⟨rfl, by first | rfl | trivial⟩
theorem firstE_drop (ask : Wr → Int) (l : List Wr) (k : Nat) (hk : k < l.length) : Hp.firstE ask (l.drop k) = if ask l[k] ≠ 0 then ask l[k] else Hp.firstE ask (l.drop (k + 1)) := by
  rw [List.drop_eq_getElem_cons hk]
  rfl
set_option maxRecDepth 100000 in
set_option maxHeartbeats 1000000 in
theorem heach_calls (w : World) (f : FuncId) (ra rb : Array Value) (ask : Wr → Int) (ws : List Wr) (wa : Option Addr) (wc : Nat) (P : Nat → HP) (hw : ∀ k W, Sat E W (P k * F) → RdW W (.slice wa ws.length wc) ws)
    (hcf : ∀ args W, (callFunc f args).run Tryz.prog W = .ok (.enter f args) W)
    (hf : ∀ k (hk : k < ws.length) W, Sat E W (P k * F) → Calls Tryz.prog f (ra.push (wagg ws[k]) ++ rb) W fun e w' => e = .returned (.int .i64 (ask ws[k])) ∧ Sat E w' (P (k + 1) * F)) (h : Sat E w (P 0 * F)) :
    Calls Tryz.prog 111 #[.slice wa ws.length wc, .func (.func f) ra rb] w fun e w' => e = .returned (.int .i64 (Hp.firstE ask ws)) ∧ ∃ k, (Hp.firstE ask ws = 0 → k = ws.length) ∧ Sat E w' (P k * F) := by
  obtain ⟨r, hr⟩ : ∃ r, r = Hp.firstE ask ws := ⟨_, rfl⟩
  rw [← hr]
  have HX := Lib.hid hr
  have hm := Rd.most (hw 0 w h)
  obtain ⟨_, _, heq, hcc⟩ := Rd.val (hw 0 w h)
  simp only [Value.slice.injEq, true_and] at heq
  obtain ⟨rfl, rfl⟩ := heq
  have HW := Lib.hid hw
  have HF : Hid (∀ k (hk : k < ws.length) W, Sat E W (P k * F) → Calls Tryz.prog f (ra.push (.agg #[.int .i64 ws[k].kind, .int .i64 ws[k].obj, .int .i64 ws[k].field, .int .i64 ws[k].val.kind, .int .i64 ws[k].val.int, .int .u64 ws[k].val.re, .int .u64 ws[k].val.im, .int .i64 ws[k].val.ref]) ++ rb) W fun e w' => e = .returned (.int .i64 (ask ws[k])) ∧ Sat E w' (P (k + 1) * F)) := Lib.hid hf
  have HS := Lib.hid h
  have HCF := Lib.hid hcf
  obtain ⟨n, hn⟩ : ∃ n, n = ws.length := ⟨_, rfl⟩
  have HN := Lib.hid hn
  rw [← hn] at hm hcc ⊢
  obtain ⟨Q, hQ⟩ : ∃ Q : Ending → World → Prop, Q = fun e w' => e = .returned (.int .i64 r) ∧ ∃ k, (r = 0 → k = n) ∧ Sat E w' (P k * F) := ⟨_, rfl⟩
  have HQ : Hid (∀ e w', Q e w' ↔ e = .returned (.int .i64 r) ∧ ∃ k, (r = 0 → k = n) ∧ Sat E w' (P k * F)) := Lib.hid fun e w' => by rw [hQ]
  refine Calls.mono (R := Q) ?_ fun e w' hp => (HQ.out e w').1 hp
  clear hQ
  clear hr hw hf h hn hcf
  go_enter Tryz.func111, Tryz.ntmps111
  go_wp2_with fail
  go_loopw [10] (fun iv wr => ∃ k : Nat, k ≤ n ∧ iv = .int .i64 (k : Int) ∧ r = Hp.firstE ask (ws.drop k) ∧ Sat E wr (P k * F)) (fun iv _ => n - (RowKit.intOf iv).toNat)
  case atStart => exact ⟨0, Nat.zero_le _, rfl, by rw [HX.out]; rfl, HS.out⟩
  case round =>
    obtain ⟨k, hk, rfl, he, hr⟩ := hrel
    have HR := Lib.hid hr
    clear HS
    by_cases hkn : k = n
    · subst hkn
      have hr0 : r = 0 := by rw [he, HN.out, List.drop_length]; rfl
      subst hr0
      clear he hr
      go_wp2_with fail
      exact (HQ.out _ _).2 ⟨rfl, k, fun _ => rfl, HR.out⟩
    · have hk1 : (k : Int) < n := by omega
      have hkc : ¬ n ≤ k := by omega
      have hkv : k < ws.length := by have := HN.out; omega
      have hrv := HW.out k wr hr
      obtain ⟨bb, oo, rfl, ⟨y0, y1, y2⟩, y3, y4, y5, y6, y7⟩ := RdW.nth hrv k hkv
      rw [firstE_drop ask ws k hkv] at he
      have HFk := Lib.hid (fun V hV => HF.out k hkv V hV)
      have HAL : Hid (∀ o, Sat E (wr.alloc o) (P k * F)) := Lib.hid fun o => Sat.right (HR.out.alloc o)
      generalize ws[k] = x at *
      clear hrv hr hkv
      by_cases ha : ask x = 0
      · rw [if_neg (by simpa using ha)] at he
        have HE := Lib.hid he
        rw [ha] at HFk
        clear he ha
        go_wp2_with fail
        rw [HCF.out]
        refine (HFk.out _ (HAL.out _)).mono ?_
        rintro e w2 ⟨rfl, h2⟩
        go_wp2_with fail
        exact ⟨⟨k + 1, by omega, by go_num, HE.out, h2⟩, by simp [RowKit.intOf]; omega⟩
      · rw [if_pos ha] at he
        have ha1 : (r != 0) = true := by rw [he]; simpa using ha
        have ha0 : r ≠ 0 := by rw [he]; exact ha
        rw [← he] at HFk
        clear he ha
        go_wp2_with fail
        rw [HCF.out]
        refine (HFk.out _ (HAL.out _)).mono ?_
        rintro e w2 ⟨rfl, h2⟩
        go_wp2_with fail
        exact (HQ.out _ _).2 ⟨rfl, k + 1, fun h0 => absurd h0 ha0, h2⟩
end
end Scul
/- heap: what Fits asks of each write. -/
namespace Scul
open Go Go.Sl Go.RowKit Go.Proofs
/-- The boxes that Fits keeps: the heap, the blocks, the count. -/
def fbox (X : HX) (hb bb cb : Nat) (bv : Value) (cnt : Int) : HP := pt hb (.cells #[.pointer (some ⟨X.h, 0, none⟩)] 35) * (pt bb (.cells #[bv] 38) * pt cb (.cells #[.int .i64 cnt] 3))
section
variable {E : Env} {w : World} {F A G : HP} {X : HX} {U R : List Bool} {d : Dev} {hb bb cb : Nat} {bv : Value} {cnt : Int}
theorem fbox_cells (h : Sat E w (fbox X hb bb cb bv cnt * F)) : w.cell? ⟨hb, 0, none⟩ = some (.pointer (some ⟨X.h, 0, none⟩)) ∧ w.cell? ⟨bb, 0, none⟩ = some bv ∧ w.cell? ⟨cb, 0, none⟩ = some (.int .i64 cnt) ∧ w.frozen? ⟨cb, 0, none⟩ = false := by
  unfold fbox at h
  rw [sep_assoc, sep_assoc] at h
  exact ⟨h.cell 0 rfl, h.right.cell 0 rfl, h.right.right.cell 0 rfl, h.right.right.free 0⟩
theorem fbox_set (h : Sat E w (fbox X hb bb cb bv cnt * F)) (y : Int) : Sat E (w.setCell ⟨cb, 0, none⟩ (.int .i64 y)) (fbox X hb bb cb bv y * F) := by
  unfold fbox at *
  have h1 : Sat E w (pt cb (.cells #[.int .i64 cnt] 3) * (pt hb (.cells #[.pointer (some ⟨X.h, 0, none⟩)] 35) * (pt bb (.cells #[bv] 38) * F))) := h.ac (by ac_rfl)
  have h2 := h1.setCell (i := 0) (v := .int .i64 y)
  simp only [List.setIfInBounds_toArray, List.set_cons_zero] at h2
  exact h2.ac (by ac_rfl)
set_option maxRecDepth 100000 in
set_option maxHeartbeats 1000000 in
theorem fits1_calls (w : World) (x : Wr) (bl : List Int) (ba : Option Addr) (bc : Nat) (hbl : ∀ W, Sat E W F → Rd W 1 (.slice ba bl.length bc) bl.length (i64s bl)) (h : Sat E w (fbox X hb bb cb (.slice ba bl.length bc) cnt * (hpR X U R * F))) :
    Calls Tryz.prog 106 #[wagg x, .pointer (some ⟨hb, 0, none⟩), .pointer (some ⟨bb, 0, none⟩)] w fun e w' => e = .returned (.int .i64 (Hp.refersE U bl x)) ∧ Sat E w' (fbox X hb bb cb (.slice ba bl.length bc) cnt * (hpR X U R * F)) := by
  have H := Lib.hid (wbox_alloc h x)
  have HRF := Lib.hid (hrefers_calls (X := X) (U := U) (R := R) (w.alloc (.cells (wcells x) 49)) x bl ba bc (F := (wbox w.heap.size x * fbox X hb bb cb (.slice ba bl.length bc) cnt) * F) (fun W hW => hbl W hW.right) (H.out.ac (by ac_rfl)))
  obtain ⟨b1, b2, _, _⟩ := fbox_cells H.out.right
  obtain ⟨⟨c0, c1, c2⟩, c3, c4, c5, c6, c7⟩ := wbox_cells H.out
  have HB : Hid (∀ V, Sat E V (hpR X U R * ((wbox w.heap.size x * fbox X hb bb cb (.slice ba bl.length bc) cnt) * F)) → Sat E V (fbox X hb bb cb (.slice ba bl.length bc) cnt * (hpR X U R * F))) := Lib.hid fun V hV => Sat.right (hV.ac (B := wbox w.heap.size x * (fbox X hb bb cb (.slice ba bl.length bc) cnt * (hpR X U R * F))) (by ac_rfl))
  generalize Hp.refersE U bl x = q at *
  generalize bl.length = n at *
  unfold wagg at *
  unfold wcells at *
  clear h hbl
  generalize x.kind = k at *
  generalize x.field = f at *
  generalize x.obj = o at *
  generalize x.val.kind = v1 at *
  generalize x.val.int = v2 at *
  generalize x.val.re = v3 at *
  generalize x.val.im = v4 at *
  generalize x.val.ref = v5 at *
  go_enter Tryz.func106, Tryz.ntmps106
  go_wp2_with (go_at_call 107; refine HRF.out.mono ?_; rintro e w2 ⟨rfl, h2⟩)
  go_ret
  exact ⟨rfl, HB.out _ h2⟩
set_option maxRecDepth 100000 in
set_option maxHeartbeats 1000000 in
theorem fits2_calls (w : World) (x : Wr) (hx : x.Wf) (hlen : X.c.words ≤ d.read.length) (h : Sat E w (fbox X hb bb cb bv cnt * (hpR X U R * (dev X.db d * F)))) :
    Calls Tryz.prog 109 #[wagg x, .pointer (some ⟨hb, 0, none⟩)] w fun e w' => e = .returned (.int .i64 (Hp.field5E X.c U d x)) ∧ Sat E w' (fbox X hb bb cb bv cnt * (hpR X U R * (dev X.db d * F))) := by
  obtain ⟨q, hq⟩ : ∃ q, q = Hp.field5E X.c U d x := ⟨_, rfl⟩
  rw [← hq]
  unfold Hp.field5E at hq
  have H := Lib.hid (wbox_alloc h x)
  have HFD := Lib.hid (hfield_calls (X := X) (U := U) (R := R) (d := d) (w.alloc (.cells (wcells x) 49)) x hx hlen (F := (wbox w.heap.size x * fbox X hb bb cb bv cnt) * F) (H.out.ac (by ac_rfl)))
  obtain ⟨b1, _, _, _⟩ := fbox_cells H.out.right
  obtain ⟨⟨c0, c1, c2⟩, c3, c4, c5, c6, c7⟩ := wbox_cells H.out
  have HB : Hid (∀ V (A : HP), Sat E V (A * (hpR X U R * (dev X.db d * ((wbox w.heap.size x * fbox X hb bb cb bv cnt) * F)))) → Sat E V (fbox X hb bb cb bv cnt * (hpR X U R * (dev X.db d * F)))) := Lib.hid fun V A hV => Sat.right (hV.ac (B := (A * wbox w.heap.size x) * (fbox X hb bb cb bv cnt * (hpR X U R * (dev X.db d * F)))) (by ac_rfl))
  generalize Hp.fieldW X.c U d x = fw at *
  obtain ⟨fa, fl, fe⟩ := fw
  simp only at *
  unfold wagg at *
  unfold wcells at *
  clear h hx hlen
  generalize x.kind = k at *
  generalize x.field = f at *
  generalize x.obj = o at *
  generalize x.val.kind = v1 at *
  generalize x.val.int = v2 at *
  generalize x.val.re = v3 at *
  generalize x.val.im = v4 at *
  generalize x.val.ref = v5 at *
  by_cases h3 : fe = 3
  · subst h3
    rw [if_neg (by simp)] at hq
    subst hq
    go_enter Tryz.func109, Tryz.ntmps109
    go_wp2_with (go_at_call 76; refine HFD.out.mono ?_; rintro e w2 ⟨s, rfl, h2⟩)
    go_ret
    exact ⟨rfl, HB.out _ _ h2⟩
  · have h31 : (fe != 3) = true := by simpa using h3
    rw [if_pos h3] at hq
    subst hq
    clear h3
    go_enter Tryz.func109, Tryz.ntmps109
    go_wp2_with (go_at_call 76; refine HFD.out.mono ?_; rintro e w2 ⟨s, rfl, h2⟩)
    go_ret
    exact ⟨rfl, HB.out _ _ h2⟩
set_option maxRecDepth 100000 in
set_option maxHeartbeats 1000000 in
theorem fits3_calls (w : World) (x : Wr) (hx : x.Wf) (hlen : X.c.words ≤ d.read.length) (hcnt : 0 ≤ cnt ∧ cnt ≤ 1000000) (hfl : (Hp.fieldW X.c U d x).2.1.length ≤ 2) (h : Sat E w (fbox X hb bb cb bv cnt * (hpR X U R * (dev X.db d * F)))) :
    Calls Tryz.prog 110 #[wagg x, .pointer (some ⟨hb, 0, none⟩), .pointer (some ⟨cb, 0, none⟩)] w fun e w' => e = .returned (.int .i64 (Hp.field6E X.c U d x)) ∧ Sat E w' (fbox X hb bb cb bv (cnt + (Hp.fieldW X.c U d x).2.1.length) * (hpR X U R * (dev X.db d * F))) := by
  have H := Lib.hid (wbox_alloc h x)
  have HFD := Lib.hid (hfield_calls (X := X) (U := U) (R := R) (d := d) (w.alloc (.cells (wcells x) 49)) x hx hlen (F := (wbox w.heap.size x * fbox X hb bb cb bv cnt) * F) (H.out.ac (by ac_rfl)))
  obtain ⟨b1, _, _, _⟩ := fbox_cells H.out.right
  obtain ⟨⟨c0, c1, c2⟩, c3, c4, c5, c6, c7⟩ := wbox_cells H.out
  have HB : Hid (∀ V (A : HP), Sat E V (A * (hpR X U R * (dev X.db d * ((wbox w.heap.size x * fbox X hb bb cb bv cnt) * F)))) → Sat E V (fbox X hb bb cb bv cnt * (hpR X U R * (dev X.db d * F)))) := Lib.hid fun V A hV => Sat.right (hV.ac (B := (A * wbox w.heap.size x) * (fbox X hb bb cb bv cnt * (hpR X U R * (dev X.db d * F)))) (by ac_rfl))
  have HCC : Hid (∀ V, Sat E V (fbox X hb bb cb bv cnt * (hpR X U R * (dev X.db d * F))) → V.cell? ⟨cb, 0, none⟩ = some (.int .i64 cnt) ∧ V.frozen? ⟨cb, 0, none⟩ = false) := Lib.hid fun V hV => ⟨(fbox_cells hV).2.2.1, (fbox_cells hV).2.2.2⟩
  have HST : Hid (∀ V y, Sat E V (fbox X hb bb cb bv cnt * (hpR X U R * (dev X.db d * F))) → Sat E (V.setCell ⟨cb, 0, none⟩ (.int .i64 y)) (fbox X hb bb cb bv y * (hpR X U R * (dev X.db d * F)))) := Lib.hid fun V y hV => fbox_set hV y
  unfold Hp.field6E
  generalize Hp.fieldW X.c U d x = fw at *
  obtain ⟨fa, fl, fe⟩ := fw
  simp only at *
  unfold wagg at *
  unfold wcells at *
  clear h hx hlen
  generalize x.kind = k at *
  generalize x.field = f at *
  generalize x.obj = o at *
  generalize x.val.kind = v1 at *
  generalize x.val.int = v2 at *
  generalize x.val.re = v3 at *
  generalize x.val.im = v4 at *
  generalize x.val.ref = v5 at *
  obtain ⟨n, hn⟩ : ∃ n, n = fl.length := ⟨_, rfl⟩
  have HN := Lib.hid hn
  rw [← hn] at hfl ⊢
  have hfl2 : (n : Int) ≤ 2 := by omega
  have hfl0 : (0 : Int) ≤ n := by omega
  clear hn
  go_enter Tryz.func110, Tryz.ntmps110
  go_wp2_with (go_at_call 76; refine HFD.out.mono ?_; rintro e w2 ⟨s, rfl, h2⟩; obtain ⟨sa, sc, rfl, _⟩ := words_val h2; rw [← HN.out] at *; obtain ⟨d1, d2⟩ := HCC.out _ (HB.out _ _ h2))
  go_ret
  exact ⟨rfl, HST.out _ _ (HB.out _ _ h2)⟩
end
end Scul
/- heap: each of Fits' questions, of all writes. -/
namespace Scul
open Go Go.Sl Go.RowKit Go.Proofs
theorem callFunc_enter {P : Program} {f : FuncId} {fn : Func} (hf : P.funcs[f]? = some fn) (hname : (fn.name == "runtime.NumGoroutine") = false) (hb : fn.body.isNone = false) (args : Array Value) (w : World) :
    (callFunc f args).run P w = .ok (.enter f args) w := by
  have h1 : fn.name ≠ "runtime.NumGoroutine" := by simpa using hname
  have h2 : ¬ fn.body = none := by intro h; rw [h] at hb; cases hb
  simp [callFunc, hf, h1, h2]
theorem fieldW_len (c : Cfg) (U : List Bool) (d : Dev) (x : Wr) : (Hp.fieldW c U d x).2.1.length ≤ 2 := by
  unfold Hp.fieldW
  split
  · simp only; split <;> simp
  · split
    · simp
    · unfold objF
      split
      · simp
      · split
        · simp
        · split
          · simp
          · rename_i h
            have h1 := valW_length h
            simp only
            have h3 := Int.le_trans (Int.le_of_eq h1) (kw_range _).2
            omega
theorem fieldN_append (c : Cfg) (U : List Bool) (d : Dev) (a b : List Wr) : Hp.fieldN c U d (a ++ b) = Hp.fieldN c U d a + Hp.fieldN c U d b := by
  induction a with
  | nil => simp [Hp.fieldN]
  | cons w a ih => simp only [List.cons_append, Hp.fieldN, ih]; omega
theorem fieldN_take (c : Cfg) (U : List Bool) (d : Dev) (ws : List Wr) (j : Nat) (hj : j < ws.length) : Hp.fieldN c U d (ws.take (j + 1)) = Hp.fieldN c U d (ws.take j) + (Hp.fieldW c U d ws[j]).2.1.length := by
  rw [List.take_succ_eq_append_getElem hj, fieldN_append]
  simp [Hp.fieldN]
theorem fieldN_range (c : Cfg) (U : List Bool) (d : Dev) (ws : List Wr) : 0 ≤ Hp.fieldN c U d ws ∧ Hp.fieldN c U d ws ≤ 2 * ws.length := by
  induction ws with
  | nil => simp [Hp.fieldN]
  | cons w a ih => have := fieldW_len c U d w; simp only [Hp.fieldN, List.length_cons]; omega
/-- The six questions. -/
def askE (c : Cfg) (U : List Bool) (d : Dev) (bl : List Int) (k : Nat) : Wr → Int :=
  if k = 0 then Hp.placeE U else if k = 1 then Hp.indexE c else if k = 2 then Hp.refersE U bl else if k = 3 then Hp.typedE else if k = 4 then Hp.field5E c U d else Hp.field6E c U d
def askV (X : HX) (hb bb cb : Nat) (k : Nat) : Value :=
  if k = 0 then .func (.func 104) #[.pointer (some ⟨X.h, 0, none⟩)] #[] else if k = 1 then .func (.func 105) #[.pointer (some ⟨X.h, 0, none⟩)] #[] else if k = 2 then .func (.func 106) #[] #[.pointer (some ⟨hb, 0, none⟩), .pointer (some ⟨bb, 0, none⟩)]
  else if k = 3 then .func (.func 108) #[] #[] else if k = 4 then .func (.func 109) #[] #[.pointer (some ⟨hb, 0, none⟩)] else .func (.func 110) #[] #[.pointer (some ⟨hb, 0, none⟩), .pointer (some ⟨cb, 0, none⟩)]
section
variable {E : Env} {w : World} {F A G : HP} {X : HX} {U R : List Bool} {d : Dev} {hb bb cb : Nat}
theorem hask_calls (w : World) (k : Nat) (hk : k < 6) (bl : List Int) (ba : Option Addr) (bc : Nat) (ws : List Wr) (wa : Option Addr) (wc : Nat) (hwf : ∀ x ∈ ws, x.Wf) (hwl : ws.length ≤ 100000) (hbl : ∀ W, Sat E W F → Rd W 1 (.slice ba bl.length bc) bl.length (i64s bl)) (hws : ∀ W, Sat E W F → RdW W (.slice wa ws.length wc) ws) (hlen : X.c.words ≤ d.read.length)
    (h : Sat E w (fbox X hb bb cb (.slice ba bl.length bc) 0 * (hpR X U R * (dev X.db d * F)))) :
    Calls Tryz.prog 111 #[.slice wa ws.length wc, askV X hb bb cb k] w fun e w' => e = .returned (.int .i64 (Hp.firstE (askE X.c U d bl k) ws)) ∧ ∃ cnt, (Hp.firstE (askE X.c U d bl k) ws = 0 → cnt = if k = 5 then Hp.fieldN X.c U d ws else 0) ∧ Sat E w' (fbox X hb bb cb (.slice ba bl.length bc) cnt * (hpR X U R * (dev X.db d * F))) := by
  have hk6 : k = 0 ∨ k = 1 ∨ k = 2 ∨ k = 3 ∨ k = 4 ∨ k = 5 := by omega
  have hw2 : ∀ (P : Nat → HP) (j : Nat) W, Sat E W (P j * (hpR X U R * (dev X.db d * F))) → RdW W (.slice wa ws.length wc) ws := fun P j W hW => hws W hW.right.right.right
  have hcon : ∀ (f : FuncId) (ra rb : Array Value) (ask : Wr → Int), k ≠ 5 → (∀ args W, (callFunc f args).run Tryz.prog W = .ok (.enter f args) W) →
      (∀ x ∈ ws, ∀ W, Sat E W (fbox X hb bb cb (.slice ba bl.length bc) 0 * (hpR X U R * (dev X.db d * F))) → Calls Tryz.prog f (ra.push (wagg x) ++ rb) W fun e w' => e = .returned (.int .i64 (ask x)) ∧ Sat E w' (fbox X hb bb cb (.slice ba bl.length bc) 0 * (hpR X U R * (dev X.db d * F)))) →
      Calls Tryz.prog 111 #[.slice wa ws.length wc, .func (.func f) ra rb] w fun e w' => e = .returned (.int .i64 (Hp.firstE ask ws)) ∧ ∃ cnt, (Hp.firstE ask ws = 0 → cnt = if k = 5 then Hp.fieldN X.c U d ws else 0) ∧ Sat E w' (fbox X hb bb cb (.slice ba bl.length bc) cnt * (hpR X U R * (dev X.db d * F))) := fun f ra rb ask hk5 hcf hf =>
    (heach_calls w f ra rb ask ws wa wc (fun _ => fbox X hb bb cb (.slice ba bl.length bc) 0) (hw2 _) hcf (fun j hj W hW => hf _ (List.getElem_mem hj) W hW) h).mono fun e w' ⟨he, _, _, h2⟩ => ⟨he, 0, fun _ => by rw [if_neg hk5], h2⟩
  rcases hk6 with rfl | rfl | rfl | rfl | rfl | rfl
  · exact hcon _ _ _ _ (by decide) (callFunc_enter Tryz.func104 (by kernel_rfl) (by kernel_rfl)) fun x hx W hW =>
      (hplace_calls (X := X) (U := U) (R := R) W x (F := fbox X hb bb cb (.slice ba bl.length bc) 0 * (dev X.db d * F)) (hW.ac (by ac_rfl))).mono fun e w' ⟨he, h2⟩ => ⟨he, h2.ac (by ac_rfl)⟩
  · exact hcon _ _ _ _ (by decide) (callFunc_enter Tryz.func105 (by kernel_rfl) (by kernel_rfl)) fun x hx W hW =>
      (hindex_calls (X := X) (U := U) (R := R) W x (F := fbox X hb bb cb (.slice ba bl.length bc) 0 * (dev X.db d * F)) (hW.ac (by ac_rfl))).mono fun e w' ⟨he, h2⟩ => ⟨he, h2.ac (by ac_rfl)⟩
  · exact hcon _ _ _ _ (by decide) (callFunc_enter Tryz.func106 (by kernel_rfl) (by kernel_rfl)) fun x hx W hW =>
      fits1_calls (X := X) (U := U) (R := R) W x bl ba bc (F := dev X.db d * F) (fun V hV => hbl V hV.right) hW
  · exact hcon _ _ _ _ (by decide) (callFunc_enter Tryz.func108 (by kernel_rfl) (by kernel_rfl)) fun x hx W hW => htyped_calls W x hW
  · exact hcon _ _ _ _ (by decide) (callFunc_enter Tryz.func109 (by kernel_rfl) (by kernel_rfl)) fun x hx W hW =>
      fits2_calls (X := X) (U := U) (R := R) (d := d) W x (hwf x hx) hlen hW
  · refine (heach_calls w _ _ _ (Hp.field6E X.c U d) ws wa wc (fun j => fbox X hb bb cb (.slice ba bl.length bc) (Hp.fieldN X.c U d (ws.take j))) (hw2 _) (callFunc_enter Tryz.func110 (by kernel_rfl) (by kernel_rfl)) (fun j hj W hW => ?_) (by simpa [Hp.fieldN] using h)).mono fun e w' ⟨he, j, hj, h2⟩ => ⟨he, _, fun h0 => ?_, h2⟩
    · have hr := fieldN_range X.c U d (ws.take j)
      have hl : (ws.take j).length ≤ ws.length := by rw [List.length_take]; omega
      have := fits3_calls (X := X) (U := U) (R := R) (d := d) W ws[j] (hwf _ (List.getElem_mem hj)) hlen ⟨hr.1, by omega⟩ (fieldW_len _ _ _ _) hW
      rw [← fieldN_take _ _ _ _ _ hj] at this
      exact this
    · rw [hj h0, List.take_length]
      rfl
end
end Scul
/- heap: Fits. -/
namespace Scul
open Go Go.Sl Go.RowKit Go.Proofs
theorem fits_err {c : Cfg} {U R : List Bool} {d : Dev} {bl : List Int} {ws : List Wr} (hm : mayB R [] bl = true) (k : Nat) (hk : k < 6) (h : ∀ j, j < k → Hp.firstE (askE c U d bl j) ws = 0) (he : Hp.firstE (askE c U d bl k) ws ≠ 0) : Hp.fits c U R d bl ws = Hp.firstE (askE c U d bl k) ws := by
  have hk6 : k = 0 ∨ k = 1 ∨ k = 2 ∨ k = 3 ∨ k = 4 ∨ k = 5 := by omega
  have a0 : 0 < k → Hp.firstE (Hp.placeE U) ws = 0 := fun hk => h 0 hk
  have a1 : 1 < k → Hp.firstE (Hp.indexE c) ws = 0 := fun hk => h 1 hk
  have a2 : 2 < k → Hp.firstE (Hp.refersE U bl) ws = 0 := fun hk => h 2 hk
  have a3 : 3 < k → Hp.firstE Hp.typedE ws = 0 := fun hk => h 3 hk
  have a4 : 4 < k → Hp.firstE (Hp.field5E c U d) ws = 0 := fun hk => h 4 hk
  clear h
  unfold Hp.fits
  rw [hm, if_neg (by decide)]
  rcases hk6 with rfl | rfl | rfl | rfl | rfl | rfl
  · exact if_pos he
  · rw [a0 (by omega), if_neg (by simp)]; exact if_pos he
  · rw [a0 (by omega), if_neg (by simp), a1 (by omega), if_neg (by simp)]; exact if_pos he
  · rw [a0 (by omega), if_neg (by simp), a1 (by omega), if_neg (by simp), a2 (by omega), if_neg (by simp)]; exact if_pos he
  · rw [a0 (by omega), if_neg (by simp), a1 (by omega), if_neg (by simp), a2 (by omega), if_neg (by simp), a3 (by omega), if_neg (by simp)]; exact if_pos he
  · rw [a0 (by omega), if_neg (by simp), a1 (by omega), if_neg (by simp), a2 (by omega), if_neg (by simp), a3 (by omega), if_neg (by simp), a4 (by omega), if_neg (by simp)]; exact if_pos he
theorem fits_end {c : Cfg} {U R : List Bool} {d : Dev} {bl : List Int} {ws : List Wr} (hm : mayB R [] bl = true) (h : ∀ j, j < 6 → Hp.firstE (askE c U d bl j) ws = 0) : Hp.fits c U R d bl ws = if 1024 < Hp.countN c U d bl ws ∨ c.log < Redo.need (Hp.countN c U d bl ws) then 9 else 0 := by
  have a0 : Hp.firstE (Hp.placeE U) ws = 0 := h 0 (by omega)
  have a1 : Hp.firstE (Hp.indexE c) ws = 0 := h 1 (by omega)
  have a2 : Hp.firstE (Hp.refersE U bl) ws = 0 := h 2 (by omega)
  have a3 : Hp.firstE Hp.typedE ws = 0 := h 3 (by omega)
  have a4 : Hp.firstE (Hp.field5E c U d) ws = 0 := h 4 (by omega)
  have a5 : Hp.firstE (Hp.field6E c U d) ws = 0 := h 5 (by omega)
  unfold Hp.fits
  rw [hm, if_neg (by decide), a0, if_neg (by simp), a1, if_neg (by simp), a2, if_neg (by simp), a3, if_neg (by simp), a4, if_neg (by simp), a5, if_neg (by simp)]
section
variable {E : Env} {w : World} {F A G : HP} {X : HX} {U R : List Bool} {d : Dev}
set_option maxRecDepth 100000 in
set_option maxHeartbeats 4000000 in
theorem hfits_calls (w : World) (bl : List Int) (ba : Option Addr) (bc : Nat) (ws : List Wr) (wa : Option Addr) (wc : Nat) (hwf : ∀ x ∈ ws, x.Wf) (hwl : ws.length ≤ 100000) (hbl : ∀ W, Sat E W F → Rd W 1 (.slice ba bl.length bc) bl.length (i64s bl)) (hws : ∀ W, Sat E W F → RdW W (.slice wa ws.length wc) ws) (hlen : X.c.words ≤ d.read.length) (h : Sat E w (hpR X U R * (dev X.db d * F))) :
    Calls Tryz.prog 46 #[.pointer (some ⟨X.h, 0, none⟩), .slice ba bl.length bc, .slice wa ws.length wc] w fun e w' => e = .returned (.int .i64 (Hp.fits X.c U R d bl ws)) ∧ Sat E w' (hpR X U R * (dev X.db d * F)) := by
  obtain ⟨r, hr⟩ : ∃ r, r = Hp.fits X.c U R d bl ws := ⟨_, rfl⟩
  rw [← hr]
  have H0 := Lib.hid (Sat.alloc2 h (.cells #[.pointer (some ⟨X.h, 0, none⟩)] 35) (.cells #[.slice ba bl.length bc] 38))
  obtain ⟨hb, hhb⟩ : ∃ hb, hb = w.heap.size := ⟨_, rfl⟩
  obtain ⟨B, hB⟩ : ∃ B : HP, B = hpR X U R * (dev X.db d * F) := ⟨_, rfl⟩
  have hbm := (hbl _ h.right.right).most
  obtain ⟨ba', bc', heq, hbc⟩ := Rd.val (hbl _ h.right.right)
  simp only [Value.slice.injEq, true_and] at heq
  obtain ⟨rfl, rfl⟩ := heq
  obtain ⟨n, hn⟩ : ∃ n, n = bl.length := ⟨_, rfl⟩
  have HN := Lib.hid hn
  obtain ⟨m, hm⟩ : ∃ m, m = ws.length := ⟨_, rfl⟩
  have HM := Lib.hid hm
  have HMB : Hid (∀ V (A : HP), Sat E V (A * B) → Calls Tryz.prog 103 #[.pointer (some ⟨X.h, 0, none⟩), .slice ba n bc] V fun e w' => e = .returned (.bool (mayB R [] bl)) ∧ w' = V) := Lib.hid fun V A hV => by
    rw [hB] at hV
    rw [hn]
    exact hmayBlocks_calls (X := X) (U := U) (R := R) V bl ba bc (hbl _ hV.right.right.right) (F := A * (dev X.db d * F)) (hV.ac (by ac_rfl))
  rw [← hB] at h H0 ⊢
  rw [← hhb, ← hn] at H0
  rw [← hn, ← hm]
  rw [← hn] at hbm hbc
  cases hmb : mayB R [] bl with
  | false =>
    have e0 : r = 1 := by rw [hr]; unfold Hp.fits; rw [hmb, if_pos rfl]
    subst e0
    rw [hmb] at HMB
    subst hhb
    clear h hr hbl hws hwf hlen hn hm hwl hmb hbm hbc hB
    go_enter Tryz.func46, Tryz.ntmps46
    go_upto_region 1 with fail
    refine atSat _ H0.out fun W0 hW0 => ?_
    have b0 := hW0.right.cell 0 rfl
    have b1 := hW0.cell 0 rfl
    have H1 := Lib.hid hW0
    have HMB1 := Lib.hid (HMB.out W0 (pt (w.heap.size + 1) (.cells #[.slice ba n bc] 38) * pt w.heap.size (.cells #[.pointer (some ⟨X.h, 0, none⟩)] 35)) (by rw [sep_assoc]; exact hW0))
    clear hW0 H0 HMB
    go_wp2_with (go_at_call 103; refine HMB1.out.mono ?_; rintro e w1 ⟨rfl, rfl⟩)
    go_ret
    exact ⟨rfl, H1.out.right.right⟩
  | true =>
    rw [hmb] at HMB
    have hres : (∀ b ∈ bl, 0 ≤ b ∧ b < X.c.count) ∧ bl.length ≤ X.c.count.toNat := mayB_in (hp_len (by rw [hB] at h; exact h)).2 hmb
    have hokk : X.c.Ok := hp_ok (by rw [hB] at h; exact h)
    have hc2 : X.c.count ≤ 2048 := (Cfg.near_places hokk.toNear).2.2.2.2.2.2.2.2.2.2.1
    have hn2k : n ≤ 2048 := by rw [hn]; omega
    subst hhb
    have HR := Lib.hid hr
    have HMBT := Lib.hid hmb
    have HK : Hid (∀ (cb k : Nat) V (A : HP), k < 6 → Sat E V (A * (fbox X w.heap.size (w.heap.size + 1) cb (.slice ba n bc) 0 * B)) → Calls Tryz.prog 111 #[.slice wa m wc, askV X w.heap.size (w.heap.size + 1) cb k] V fun e w' => e = .returned (.int .i64 (Hp.firstE (askE X.c U d bl k) ws)) ∧ ∃ cnt, (Hp.firstE (askE X.c U d bl k) ws = 0 → cnt = if k = 5 then Hp.fieldN X.c U d ws else 0) ∧ Sat E w' (A * (fbox X w.heap.size (w.heap.size + 1) cb (.slice ba n bc) cnt * B))) := Lib.hid fun cb k V A hk hV => by
      rw [hn] at hV ⊢
      rw [hB] at hV ⊢
      rw [hm]
      exact (hask_calls (X := X) (U := U) (R := R) (d := d) V k hk bl ba bc ws wa wc hwf hwl (F := A * F) (fun W hW => hbl W hW.right) (fun W hW => hws W hW.right) hlen (hV.ac (by ac_rfl))).mono fun e w' ⟨he, cnt, hc, h2⟩ => ⟨he, cnt, hc, h2.ac (by ac_rfl)⟩
    have HCX : Hid (∀ V (A : HP), Sat E V (A * B) → V.cell? ⟨X.h, 1, none⟩ = some (.pointer (some ⟨X.lb, 0, none⟩))) := Lib.hid fun V A hV => by rw [hB] at hV; exact (hp_cells hV).2.1
    have HBIT : Hid (∀ V (A : HP) x, Sat E V (A * B) → Calls Tryz.prog 60 #[.pointer (some ⟨X.lb, 0, none⟩), .int .i64 x] V fun e w' => e = .returned (.int .i64 (X.c.bitsOf x)) ∧ Sat E w' (A * B)) := Lib.hid fun V A x hV => by
      have hV2 := hV
      rw [hB] at hV2
      obtain ⟨G, hG⟩ := hp_lay hV2
      exact (layBits_calls V x hG).mono fun e w' ⟨he, p, hw⟩ => ⟨he, by rw [hw]; exact hV.drewN p⟩
    have HLG : Hid (∀ V (A : HP), Sat E V (A * B) → Calls Tryz.prog 55 #[.pointer (some ⟨X.lb, 0, none⟩)] V fun e w' => e = .returned (.tuple #[.int .i64 X.c.logAt, .int .i64 (X.c.logAt + X.c.log)]) ∧ Sat E w' (A * B)) := Lib.hid fun V A hV => by
      have hV2 := hV
      rw [hB] at hV2
      obtain ⟨G, hG⟩ := hp_lay hV2
      exact (layLog_calls V hG).mono fun e w' ⟨he, p, hw⟩ => ⟨he, by rw [hw]; exact hV.drewN p⟩
    have HRB : Hid (∀ V (A : HP), Sat E V (A * B) → Rd V 1 (.slice ba n bc) n (i64s bl)) := Lib.hid fun V A hV => by rw [hB] at hV; rw [hn]; exact hbl _ hV.right.right.right
    have hfn := fieldN_range X.c U d ws
    obtain ⟨L, hL⟩ : ∃ L, L = (compB (sortB (bl.map X.c.bitsOf))).length := ⟨_, rfl⟩
    have hLn : L ≤ n := by
      rw [hL, hn]
      refine Nat.le_trans (compB_length _) ?_
      rw [sortB_length, List.length_map]
      exact Nat.le_refl _
    obtain ⟨cN, hcN⟩ : ∃ cN, cN = Hp.fieldN X.c U d ws := ⟨_, rfl⟩
    have HCN : Hid (Hp.countN X.c U d bl ws = cN + L) := Lib.hid (by rw [hcN, hL]; rfl)
    have hpp := Hp.places hokk
    have hlg := hokk.toNear.log
    have hm5 : m ≤ 100000 := by omega
    rw [← hcN, ← hm] at hfn
    rw [← hcN] at HK
    have HLL := Lib.hid hL
    clear h hr hbl hws hwf hlen hmb hn hm hB hL hcN
    go_enter Tryz.func46, Tryz.ntmps46
    go_upto_region 1 with fail
    refine atSat _ H0.out fun W0 hW0 => ?_
    have b0 := hW0.right.cell 0 rfl
    have b1 := hW0.cell 0 rfl
    have H1 := Lib.hid hW0
    have HMB1 := Lib.hid (HMB.out W0 (pt (w.heap.size + 1) (.cells #[.slice ba n bc] 38) * pt w.heap.size (.cells #[.pointer (some ⟨X.h, 0, none⟩)] 35)) (by rw [sep_assoc]; exact hW0))
    clear hW0 H0 HMB
    go_upto_region 4 with (go_at_call 103; refine HMB1.out.mono ?_; rintro e w1 ⟨rfl, rfl⟩)
    have h2 := H1.out.alloc (.cells #[.int .i64 0] 3)
    have H2 : Hid (Sat E _ (fbox X w.heap.size (w.heap.size + 1) w1.heap.size (.slice ba n bc) 0 * B)) := Lib.hid (h2.ac (by unfold fbox; ac_rfl))
    refine atSat _ H2.out fun W2 hW2 => ?_
    generalize w1.heap.size = cb at *
    clear H2 h2 H1 b0 b1 HMB1
    generalize w.heap.size + 1 = bb at *
    generalize w.heap.size = hb at *
    obtain ⟨b0, b1, b2, _⟩ := fbox_cells hW2
    obtain ⟨sb, hsb⟩ : ∃ sb, sb = W2.heap.size := ⟨_, rfl⟩
    obtain ⟨RW, hRW⟩ : ∃ RW : HP, RW = row 154 1 (.slice (some ⟨sb, 0, none⟩) 6 6) 6 [askV X hb bb cb 0, askV X hb bb cb 1, askV X hb bb cb 2, askV X hb bb cb 3, askV X hb bb cb 4, askV X hb bb cb 5] := ⟨_, rfl⟩
    have H3 : Hid (Sat E (W2.alloc (.cells #[askV X hb bb cb 0, askV X hb bb cb 1, askV X hb bb cb 2, askV X hb bb cb 3, askV X hb bb cb 4, askV X hb bb cb 5] 154)) (RW * (fbox X hb bb cb (.slice ba n bc) 0 * B))) := Lib.hid (by
      rw [hRW, hsb]
      exact Sat.row_mk (n := 6) (cap := 6) (size := 1) (hW2.alloc _) (Nat.le_refl _) (by simp [maxLen]) rfl rfl)
    have HRW : Hid (∀ V (A : HP) k, k < 6 → Sat E V (RW * A) → V.cell? ⟨sb, k, none⟩ = some (askV X hb bb cb k)) := Lib.hid fun V A k hk hV => by
      rw [hRW] at hV
      have hk6 : k = 0 ∨ k = 1 ∨ k = 2 ∨ k = 3 ∨ k = 4 ∨ k = 5 := by omega
      rcases hk6 with rfl | rfl | rfl | rfl | rfl | rfl <;> exact hV.row_cell _ rfl
    subst hsb
    clear hW2 hRW
    go_wp2_with fail
    go_loopw [33] (fun iv wr => ∃ k : Nat, k ≤ 6 ∧ iv = .int .i64 (k : Int) ∧ (∀ j, j < k → Hp.firstE (askE X.c U d bl j) ws = 0) ∧ Sat E wr (RW * (fbox X hb bb cb (.slice ba n bc) (if k = 6 then cN else 0) * B))) (fun iv _ => 6 - (RowKit.intOf iv).toNat)
    case atStart => exact ⟨0, Nat.zero_le _, rfl, fun j hj => absurd hj (Nat.not_lt_zero _), H3.out⟩
    case round =>
      obtain ⟨k, hk, rfl, hall, hw⟩ := hrel
      have HALL := Lib.hid hall
      clear hall H3 b0 b1 b2
      by_cases hk6 : k = 6
      · rw [if_pos hk6] at hw
        have HW := Lib.hid hw
        have HEND := Lib.hid (fits_end HMBT.out fun j hj => HALL.out j (by omega))
        have hz6 : (k : Int) = 6 := by omega
        rw [hz6]
        clear hz6 HALL hk hk6
        obtain ⟨b0, b1, b2, b3⟩ := fbox_cells hw.right
        clear hw HK HRW
        go_wp2_with fail
        go_loopw [46, 11] (fun iv lv wr => ∃ (k : Nat) (a : Option Addr) (cc : Nat), k ≤ n ∧ iv = .int .i64 (k : Int) ∧ lv = .slice a k cc ∧ Sat E wr (ints (.slice a k cc) ((bl.take k).map X.c.bitsOf) * (RW * (fbox X hb bb cb (.slice ba n bc) cN * B)))) (fun iv _ _ => n - (RowKit.intOf iv).toNat)
        case atStart => exact ⟨0, none, 0, Nat.zero_le _, rfl, rfl, ints_nil HW.out⟩
        case round =>
          obtain ⟨k, a, cc, hk, rfl, rfl, hw⟩ := hrel
          clear b0 b1 b2 b3 HW
          obtain ⟨b0, b1, b2, b3⟩ := fbox_cells hw.right.right
          have hwB : Sat E wr ((ints (.slice a k cc) ((bl.take k).map X.c.bitsOf) * (RW * fbox X hb bb cb (.slice ba n bc) cN)) * B) := hw.ac (by ac_rfl)
          have l1 := HCX.out _ _ hwB
          have HW := Lib.hid hw
          by_cases hkn : k = n
          · subst hkn
            have htk : bl.take k = bl := List.take_of_length_le (by rw [← HN.out]; exact Nat.le_refl _)
            rw [htk] at hw
            have HSO := Lib.hid (sortI_calls wr (bl.map X.c.bitsOf) (.slice a k cc) (by rw [List.length_map, ← HN.out]; omega) hw)
            have HCO : Hid (∀ V, Sat E V (ints (.slice a k cc) (sortB (bl.map X.c.bitsOf)) * (RW * (fbox X hb bb cb (.slice ba k bc) cN * B))) → Calls Tryz.prog 113 #[.slice a k cc] V fun e w' => ∃ a2 c2, e = .returned (.slice a2 L c2) ∧ Sat E w' ((ints (.slice a2 L c2) (compB (sortB (bl.map X.c.bitsOf))) * RW) * (fbox X hb bb cb (.slice ba k bc) cN * B))) := Lib.hid fun V hV => by
              refine (compactI_calls V _ _ hV).mono fun e w' ⟨v', he, h2⟩ => ?_
              obtain ⟨a2, c2, rfl⟩ := ints_val h2
              rw [← HLL.out] at he h2
              exact ⟨a2, c2, he, by rw [sep_assoc]; exact h2⟩
            have HFS : Hid (∀ V (A : HP) y, Sat E V (A * (fbox X hb bb cb (.slice ba k bc) cN * B)) → Sat E (V.setCell ⟨cb, 0, none⟩ (.int .i64 y)) (A * (fbox X hb bb cb (.slice ba k bc) y * B))) := Lib.hid fun V A y hV =>
              (fbox_set (F := A * B) (hV.ac (by ac_rfl)) y).ac (by ac_rfl)
            have HFC : Hid (∀ V (A : HP), Sat E V (A * (fbox X hb bb cb (.slice ba k bc) cN * B)) → V.cell? ⟨cb, 0, none⟩ = some (.int .i64 cN) ∧ V.frozen? ⟨cb, 0, none⟩ = false) := Lib.hid fun V A hV => ⟨(fbox_cells hV.right).2.2.1, (fbox_cells hV.right).2.2.2⟩
            clear hw hwB htk
            go_upto_region 18 with (go_at_call 112; refine HSO.out.mono ?_; rintro e w4 ⟨rfl, h4⟩)
            clear HSO HW b0 b1 b2 b3 l1
            have h4' : Sat E w4 ((ints (.slice a k cc) (sortB (bl.map X.c.bitsOf)) * RW) * (fbox X hb bb cb (.slice ba k bc) cN * B)) := by rw [sep_assoc]; exact h4
            have c0 := HFC.out _ _ h4'
            have H4 := Lib.hid h4
            clear h4 h4'
            have hL2 : (L : Int) ≤ 2048 := by omega
            have hL0 : (0 : Int) ≤ L := by omega
            have hcN1 : cN ≤ 200000 := by omega
            have hcN0 : 0 ≤ cN := hfn.1
            have hwr : IntKind.i64.wrap (cN + (L : Int)) = cN + L := wrap_id (by omega) (by omega)
            go_cut [] (fun wx => ∃ A2 : HP, Sat E wx (A2 * (fbox X hb bb cb (.slice ba k bc) (cN + L) * B)))
            case first =>
              obtain ⟨c1, c2⟩ := c0
              go_region_with ((go_at_call 113; refine (HCO.out _ (by first | exact H4.out | exact H4.out.drew | exact H4.out.drewN _)).mono ?_; rintro e w5 ⟨a2, c2, rfl, h5⟩; obtain ⟨c5, c6⟩ := HFC.out _ _ h5))
              all_goals
                go_wp2_with fail
                go_meet
                try rw [hwr]
                exact ⟨_, HFS.out _ _ _ h5⟩
            case rest =>
              obtain ⟨A2, h6⟩ := hcut
              rename World => W6
              obtain ⟨b0, b1, b2, b3⟩ := fbox_cells h6.right
              have h6' : Sat E W6 ((A2 * fbox X hb bb cb (.slice ba k bc) (cN + L)) * B) := by rw [sep_assoc]; exact h6
              have l1 := HCX.out _ _ h6'
              have HLG1 := Lib.hid (HLG.out _ _ h6')
              have HFB : Hid (∀ V, Sat E V ((A2 * fbox X hb bb cb (.slice ba k bc) (cN + L)) * B) → V.cell? ⟨cb, 0, none⟩ = some (.int .i64 (cN + L))) := Lib.hid fun V hV => by
                rw [sep_assoc] at hV
                exact (fbox_cells hV.right).2.2.1
              have hend := HEND.out
              rw [HCN.out, ← HR.out] at hend
              obtain ⟨T, hT⟩ : ∃ T, T = cN + L := ⟨_, rfl⟩
              rw [← hT] at hend b2 HLG1 HFB
              have hT0 : 0 ≤ T ∧ T ≤ 300000 := by omega
              have HND := Lib.hid (fun V => need_calls V T)
              generalize X.c.logAt = f at *
              generalize X.c.log = g at *
              have hsub : IntKind.i64.wrap (f + g - f) = g := by rw [show f + g - f = g by omega]; exact wrap_id (by omega) (by omega)
              have hsub2 : wrap64 (f + g - f) = g := by rw [show f + g - f = g by omega]; unfold wrap64; omega
              clear h6 h6' H4 HCO HFS HFC c0 hT hL2 hL0 hcN1 hcN0 HLG HBIT HRB HEND HCN HCX
              by_cases h1 : 1024 < T
              · rw [if_pos (.inl h1)] at hend
                subst hend
                go_wp2_with (first | (go_at_call 55; refine HLG1.out.mono ?_; rintro e w7 ⟨rfl, h7⟩; have b2' := HFB.out _ h7) | (go_at_call 114; refine (HND.out _).mono ?_; rintro e w8 ⟨rfl, rfl⟩))
                go_ret
                exact ⟨rfl, h7.right⟩
              · have hneed : Redo.need T = 8 + 2 * T := by unfold Redo.need; rw [if_neg (by omega)]
                rw [hneed] at hend HND
                by_cases h2 : g < 8 + 2 * T
                · rw [if_pos (.inr h2)] at hend
                  subst hend
                  go_wp2_with (first | (go_at_call 55; refine HLG1.out.mono ?_; rintro e w7 ⟨rfl, h7⟩; have b2' := HFB.out _ h7) | (go_at_call 114; refine (HND.out _).mono ?_; rintro e w8 ⟨rfl, rfl⟩))
                  go_ret
                  exact ⟨rfl, h7.right⟩
                · rw [if_neg (by omega)] at hend
                  subst hend
                  go_wp2_with (first | (go_at_call 55; refine HLG1.out.mono ?_; rintro e w7 ⟨rfl, h7⟩; have b2' := HFB.out _ h7) | (go_at_call 114; refine (HND.out _).mono ?_; rintro e w8 ⟨rfl, rfl⟩))
                  go_ret
                  exact ⟨rfl, h7.right⟩
          · have hk1 : (k : Int) < n := by omega
            have hkn' : k < n := by omega
            have hk2 : k < bl.length := by have := HN.out; omega
            have hkc : ¬ n ≤ k := by omega
            have hk2k : (k : Int) ≤ 2048 := by omega
            have hrb := HRB.out _ _ hwB
            obtain ⟨bx, bo, rfl, hq0⟩ := hrb.at (by omega)
            clear hq0
            have cx := Rd.nthI hrb k hkn'
            have HTK : Hid ((bl.take (k + 1)).map X.c.bitsOf = (bl.take k).map X.c.bitsOf ++ [X.c.bitsOf (bl.getD k 0)]) := Lib.hid (by
              rw [List.take_succ_eq_append_getElem hk2, List.map_append, List.getD_eq_getElem?_getD, List.getElem?_eq_getElem hk2]
              rfl)
            have HLT : Hid (((bl.take k).map X.c.bitsOf).length = k) := Lib.hid (by rw [List.length_map, List.length_take]; omega)
            have HBK := Lib.hid (HBIT.out _ _ (bl.getD k 0) hwB)
            have HIB : Hid (∀ V, Sat E V ((ints (.slice a k cc) ((bl.take k).map X.c.bitsOf) * (RW * fbox X hb bb cb (.slice (some ⟨bx, bo, none⟩) n bc) cN)) * B) → Sat E V (ints (.slice a k cc) ((bl.take k).map X.c.bitsOf) * (RW * (fbox X hb bb cb (.slice (some ⟨bx, bo, none⟩) n bc) cN * B)))) := Lib.hid fun V hV => hV.ac (by ac_rfl)
            generalize X.c.bitsOf (bl.getD k 0) = y at *
            generalize bl.getD k 0 = x at *
            clear hw hwB hrb hk2 HW
            go_wp2_with (first | (go_at_call 60; refine HBK.out.mono ?_; rintro e w4 ⟨rfl, h4⟩; have H4 := Lib.hid (HIB.out _ h4); clear h4) | (at_builtin; refine wpl_pushI rfl _ _ rfl (H4.out.alloc _) rfl rfl (by rw [HLT.out]; omega) ?_; intro r2 er ra rc w6 h6))
            have hrl : r2.length = k + 1 := by rw [er.out, List.length_append, HLT.out]; rfl
            refine ⟨⟨k + 1, ra, rc, by omega, by go_num, by rw [hrl], ?_⟩, by simp [RowKit.intOf]; omega⟩
            rw [HTK.out, ← er.out, ← hrl]
            exact h6
      · rw [if_neg hk6] at hw
        have hk5 : k < 6 := by omega
        have hk1 : (k : Int) < 6 := by omega
        have cx := HRW.out _ _ k hk5 hw
        have HKk := Lib.hid (HK.out cb k wr RW hk5 hw)
        generalize askV X hb bb cb k = fv at *
        clear hw
        by_cases he : Hp.firstE (askE X.c U d bl k) ws = 0
        · have HE := Lib.hid he
          rw [he] at HKk
          clear he
          go_wp2_with (go_at_call 111; refine HKk.out.mono ?_; rintro e w3 ⟨rfl, cnt, hc, h3⟩)
          refine ⟨⟨k + 1, by omega, by go_num, fun j hj => ?_, ?_⟩, by simp [RowKit.intOf]; omega⟩
          · by_cases hjk : j = k
            · rw [hjk]; exact HE.out
            · exact HALL.out j (by omega)
          · rw [hc (by first | rfl | trivial)] at h3
            by_cases h5 : k = 5
            · subst h5; exact h3
            · rw [if_neg h5] at h3; rw [if_neg (by omega)]; exact h3
        · have he1 : (Hp.firstE (askE X.c U d bl k) ws != 0) = true := by simpa using he
          have HE : Hid (r = Hp.firstE (askE X.c U d bl k) ws) := Lib.hid (by rw [HR.out]; exact fits_err HMBT.out k hk5 HALL.out he)
          rw [← HE.out] at he1 HKk
          clear he
          go_wp2_with (go_at_call 111; refine HKk.out.mono ?_; rintro e w3 ⟨rfl, cnt, hc, h3⟩)
          go_ret
          exact ⟨rfl, h3.right.right⟩
end
end Scul
/- heap: Release, Weaken. -/
namespace Scul
open Go Go.Sl Go.RowKit Go.Proofs
theorem bitsOf_range {c : Cfg} (h : c.Ok) (b : Int) : -1 ≤ c.bitsOf b ∧ c.bitsOf b ≤ 200 := by
  have hp := Hp.places h
  have hc2 : c.count ≤ 2048 := (Cfg.near_places h.toNear).2.2.2.2.2.2.2.2.2.2.1
  have n1 := h.toNear.roots; have n2 := h.toNear.weaks
  unfold Cfg.bitsOf
  split
  · omega
  · rename_i h1
    have h4 := Cfg.cls_neg h.toNear b
    have h3 := Cfg.cls_range c b
    have : 0 ≤ b ∧ b < c.count := by
      by_cases h5 : 0 ≤ b ∧ b < c.count
      · exact h5
      · rw [h4.2 h5] at h1; omega
    omega
theorem turnE_mem {c : Cfg} (h : c.Ok) {V : List Bool} {ws : List Int} {x : Ent} (hx : x ∈ turnE c V ws) : U64 x.word ∧ I64 x.at_ := by
  unfold turnE at hx
  obtain ⟨j, _, rfl⟩ := List.mem_map.1 hx
  have := bitsOf_range h (j * 64)
  exact ⟨Hp.wordB_u64 _ _, by simp only; unfold I64; omega⟩
section
variable {E : Env} {w : World} {F A G : HP} {X : HX} {U R : List Bool} {d : Dev}
theorem hp_release_bad (l : List Int) (ao : Option Addr) (cc : Nat) (hv : Rd w 1 (.slice ao l.length cc) l.length (i64s l)) (hm : mayB U [] l = false) (h : Sat E w (hpR X U R * F)) :
    Calls Tryz.prog 100 #[.pointer (some ⟨X.tb, 0, none⟩), .slice ao l.length cc] w fun e w' => e = .returned (.tuple #[.slice none 0 0, .int .i64 1]) ∧ w' = w := by
  obtain ⟨G, hG, _⟩ := hp_tabB h
  exact release_bad w l ao cc hv hm hG
theorem hp_release_ok (l : List Int) (ao : Option Addr) (cc : Nat) (hv : ∀ W, Sat E W F → Rd W 1 (.slice ao l.length cc) l.length (i64s l)) (hm : mayB U [] l = true) (h : Sat E w (hpR X U R * F)) :
    Calls Tryz.prog 100 #[.pointer (some ⟨X.tb, 0, none⟩), .slice ao l.length cc] w fun e w' => ∃ v, e = .returned (.tuple #[v, .int .i64 0]) ∧ Sat E w' (entRow v (turnE X.c (setAll U l false) (wordsOf l)) * (hpR X (setAll U l false) (setAll R l false) * F)) := by
  obtain ⟨hk, h2⟩ := hp_open h
  refine (release_ok (c := X.c) (R := R) (lb := X.lb) w l ao cc (F := pt X.h (.cells (hpCells X) 111) * (kindsR X.kv X.ks * F)) (fun W hW => hv W hW.right.right) hk.2.1 hm (h2.ac (by ac_rfl))).mono fun e w' ⟨v, he, h3⟩ => ⟨v, he, ?_⟩
  have h4 : Sat E w' (hpR X (setAll U l false) (setAll R l false) * (entRow v (turnE X.c (setAll U l false) (wordsOf l)) * F)) := hp_mk ⟨hk.1, by rw [setAll_length, hk.2.1], by rw [setAll_length, hk.2.2]⟩ (h3.ac (by ac_rfl))
  exact Sat.swap h4
theorem hp_publish_ok (l : List Int) (ao : Option Addr) (cc : Nat) (hv : ∀ W, Sat E W F → Rd W 1 (.slice ao l.length cc) l.length (i64s l)) (hm : mayB R [] l = true) (h : Sat E w (hpR X U R * F)) :
    Calls Tryz.prog 75 #[.pointer (some ⟨X.tb, 0, none⟩), .slice ao l.length cc] w fun e w' => ∃ v, e = .returned (.tuple #[v, .int .i64 0]) ∧ Sat E w' (entRow v (turnE X.c (setAll U l true) (wordsOf l)) * (hpR X (setAll U l true) (setAll R l false) * F)) := by
  obtain ⟨hk, h2⟩ := hp_open h
  refine (publish_ok (c := X.c) (U := U) (R := R) (lb := X.lb) w l ao cc (F := pt X.h (.cells (hpCells X) 111) * (kindsR X.kv X.ks * F)) (fun W hW => hv W hW.right.right) hk.2.2 hm (h2.ac (by ac_rfl))).mono fun e w' ⟨v, he, h3⟩ => ⟨v, he, ?_⟩
  have h4 : Sat E w' (hpR X (setAll U l true) (setAll R l false) * (entRow v (turnE X.c (setAll U l true) (wordsOf l)) * F)) := hp_mk ⟨hk.1, by rw [setAll_length, hk.2.1], by rw [setAll_length, hk.2.2]⟩ (h3.ac (by ac_rfl))
  exact Sat.swap h4
set_option maxRecDepth 100000 in
set_option maxHeartbeats 1000000 in
theorem hRelease_calls (w : World) (bl : List Int) (ba : Option Addr) (bc : Nat) (hbl : ∀ W, Sat E W F → Rd W 1 (.slice ba bl.length bc) bl.length (i64s bl)) (h : Sat E w (hpR X U R * (dev X.db d * F))) :
    Calls Tryz.prog 43 #[.pointer (some ⟨X.h, 0, none⟩), .slice ba bl.length bc] w fun e w' => e = .returned (.int .i64 (Hp.release X.c ⟨d, U, R⟩ bl).2) ∧ Sat E w' (hpR X (Hp.release X.c ⟨d, U, R⟩ bl).1.U (Hp.release X.c ⟨d, U, R⟩ bl).1.R * (dev X.db (Hp.release X.c ⟨d, U, R⟩ bl).1.d * F)) := by
  have hc := hp_cells (A := emp) (w := w) (X := X) (U := U) (R := R) (F := dev X.db d * F) (E := E) (by rw [emp_sep]; exact h)
  have c3 := hc.2.2.2
  have H := Lib.hid h
  have hok := hp_ok h
  have hul := (hp_len h).1
  unfold Hp.release
  simp only
  cases hm : mayB U [] bl with
  | false =>
    rw [if_pos rfl]
    have HB := Lib.hid (hp_release_bad bl ba bc (hbl w h.right.right) hm h)
    generalize bl.length = n at *
    clear h hbl hm hc hok hul
    go_enter Tryz.func43, Tryz.ntmps43
    go_wp2_with (go_at_call 100; refine HB.out.mono ?_; rintro e w1 ⟨rfl, rfl⟩)
    go_ret
    exact ⟨rfl, H.out⟩
  | true =>
    rw [if_neg (by simp)]
    have hbr := mayB_in hul hm
    have hc2 : X.c.count ≤ 2048 := (Cfg.near_places hok.toNear).2.2.2.2.2.2.2.2.2.2.1
    have HB := Lib.hid (hp_release_ok bl ba bc (F := dev X.db d * F) (fun W hW => hbl W hW.right) hm h)
    obtain ⟨T, hT⟩ : ∃ T, T = turnE X.c (setAll U bl false) (wordsOf bl) := ⟨_, rfl⟩
    have hTl : T.length ≤ 1000000 := by
      rw [hT, turnE_length]
      have := wordsOf_length bl
      omega
    have HTM : Hid (∀ x ∈ T, U64 x.word ∧ I64 x.at_) := Lib.hid fun x hx => by rw [hT] at hx; exact turnE_mem hok hx
    have HWR : Hid (∀ V a cc, Sat E V (entRow (.slice a T.length cc) T * (hpR X (setAll U bl false) (setAll R bl false) * (dev X.db d * F))) → Calls Tryz.prog 77 #[.pointer (some ⟨X.h, 0, none⟩), .slice a T.length cc] V fun e w' => e = .returned (.int .i64 (Hp.write X.c d T).2) ∧ Sat E w' (hpR X (setAll U bl false) (setAll R bl false) * (dev X.db (Hp.write X.c d T).1 * F))) := Lib.hid fun V a cc hV =>
      (hwrite_calls (X := X) (U := setAll U bl false) (R := setAll R bl false) (d := d) V T a cc hTl (F := entRow (.slice a T.length cc) T * F) (fun W hW => entRow_rd hW (fun x hx => (HTM.out x hx).1) (fun x hx => (HTM.out x hx).2)) (hV.ac (by ac_rfl))).mono fun e w' ⟨he, h2⟩ => ⟨he, Sat.right (h2.ac (B := entRow (.slice a T.length cc) T * (hpR X (setAll U bl false) (setAll R bl false) * (dev X.db (Hp.write X.c d T).1 * F))) (by ac_rfl))⟩
    rw [← hT] at HB ⊢
    generalize setAll U bl false = U2 at *
    generalize setAll R bl false = R2 at *
    generalize Hp.write X.c d T = q at *
    generalize bl.length = n at *
    clear h hbl hm hc hok hul hbr hT hTl
    go_enter Tryz.func43, Tryz.ntmps43
    go_wp2_with (first | (go_at_call 100; refine HB.out.mono ?_; rintro e w1 ⟨v, rfl, h1⟩; obtain ⟨va, vc, rfl⟩ := entRow_val h1) | (go_at_call 77; refine (HWR.out _ _ _ h1).mono ?_; rintro e w2 ⟨rfl, h2⟩))
    go_ret
    exact ⟨rfl, h2⟩
theorem weakOf_range {c : Cfg} (h : c.Ok) (i : Int) : -1 ≤ c.weakOf i ∧ c.weakOf i ≤ 100 := by
  have hp := Hp.places h
  have n1 := h.toNear.roots; have n2 := h.toNear.weaks
  have := (Cfg.near_places h.toNear)
  unfold Cfg.weakOf
  split <;> omega
theorem weakenB_cons (c : Cfg) (i : Int) (l : List Int) : Hp.weakenB c (i :: l) = (decide (c.weakOf i < 0) || Hp.weakenB c l) := rfl
set_option maxRecDepth 100000 in
set_option maxHeartbeats 1000000 in
theorem hWeaken_calls (w : World) (bl : List Int) (ba : Option Addr) (bc : Nat) (hn : bl.length ≤ 100000) (hbl : ∀ W, Sat E W F → Rd W 1 (.slice ba bl.length bc) bl.length (i64s bl)) (h : Sat E w (hpR X U R * (dev X.db d * F))) :
    Calls Tryz.prog 37 #[.pointer (some ⟨X.h, 0, none⟩), .slice ba bl.length bc] w fun e w' => e = .returned (.int .i64 (Hp.weaken X.c d bl).2) ∧ Sat E w' (hpR X U R * (dev X.db (Hp.weaken X.c d bl).1 * F)) := by
  obtain ⟨q, hq⟩ : ∃ q, q = Hp.weaken X.c d bl := ⟨_, rfl⟩
  rw [← hq]
  unfold Hp.weaken at hq
  have hok := hp_ok h
  have hbm := (hbl _ h.right.right).most
  obtain ⟨ba', bc', heq, hbc⟩ := Rd.val (hbl _ h.right.right)
  simp only [Value.slice.injEq, true_and] at heq
  obtain ⟨rfl, rfl⟩ := heq
  obtain ⟨T, hT⟩ : ∃ T : Int → Ent, T = fun i => ⟨X.c.weakOf i, 0⟩ := ⟨_, rfl⟩
  obtain ⟨n, hn'⟩ : ∃ n, n = bl.length := ⟨_, rfl⟩
  have HN := Lib.hid hn'
  obtain ⟨B, hB⟩ : ∃ B : HP, B = hpR X U R * (dev X.db d * F) := ⟨_, rfl⟩
  have HCX : Hid (∀ V (A : HP), Sat E V (A * B) → V.cell? ⟨X.h, 1, none⟩ = some (.pointer (some ⟨X.lb, 0, none⟩))) := Lib.hid fun V A hV => by rw [hB] at hV; exact (hp_cells hV).2.1
  have HWK : Hid (∀ V (A : HP) x, Sat E V (A * B) → Calls Tryz.prog 99 #[.pointer (some ⟨X.lb, 0, none⟩), .int .i64 x] V fun e w' => e = .returned (.int .i64 (X.c.weakOf x)) ∧ Sat E w' (A * B)) := Lib.hid fun V A x hV => by
    have hV2 := hV
    rw [hB] at hV2
    obtain ⟨G, hG⟩ := hp_lay hV2
    exact (layWeak_calls V x hG).mono fun e w' ⟨he, p, hw⟩ => ⟨he, by rw [hw]; exact hV.drewN p⟩
  have HRB : Hid (∀ V (A : HP), Sat E V (A * B) → Rd V 1 (.slice ba n bc) n (i64s bl)) := Lib.hid fun V A hV => by rw [hB] at hV; rw [hn']; exact hbl _ hV.right.right.right
  have HWR : Hid (Hp.weakenB X.c bl = false → ∀ V a, Sat E V (entRow a (bl.map T) * B) → ∃ va vc, a = .slice va n vc ∧ Calls Tryz.prog 77 #[.pointer (some ⟨X.h, 0, none⟩), a] V fun e w' => e = .returned (.int .i64 q.2) ∧ Sat E w' (hpR X U R * (dev X.db q.1 * F))) := Lib.hid fun hb V a hV => by
    obtain ⟨va, vc, rfl⟩ := entRow_val hV
    rw [if_neg (by rw [hb]; simp)] at hq
    refine ⟨va, vc, by rw [hn', List.length_map], ?_⟩
    rw [hB] at hV
    rw [hq, hT]
    rw [hT] at hV
    have hml : (bl.map fun i => (⟨X.c.weakOf i, 0⟩ : Ent)).length ≤ 1000000 := by rw [List.length_map]; omega
    refine (hwrite_calls (X := X) (U := U) (R := R) (d := d) V (bl.map fun i => (⟨X.c.weakOf i, 0⟩ : Ent)) va vc hml (F := entRow (.slice va (bl.map fun i => (⟨X.c.weakOf i, 0⟩ : Ent)).length vc) (bl.map fun i => (⟨X.c.weakOf i, 0⟩ : Ent)) * F) (fun W hW => entRow_rd hW (fun x hx => ?_) (fun x hx => ?_)) (hV.ac (by ac_rfl))).mono fun e w' ⟨he, h2⟩ => ⟨he, Sat.right (h2.ac (B := entRow (.slice va (bl.map fun i => (⟨X.c.weakOf i, 0⟩ : Ent)).length vc) (bl.map fun i => (⟨X.c.weakOf i, 0⟩ : Ent)) * _) (by ac_rfl))⟩
    · obtain ⟨i, _, rfl⟩ := List.mem_map.1 hx
      show U64 0
      exact ⟨by decide, by decide⟩
    · obtain ⟨i, _, rfl⟩ := List.mem_map.1 hx
      have := weakOf_range hok i
      simp only
      unfold I64
      omega
  have HQB : Hid (Hp.weakenB X.c bl = true → q = (d, 4)) := Lib.hid fun hb => by rw [hq, if_pos hb]
  have HWO : Hid (∀ i, -1 ≤ X.c.weakOf i ∧ X.c.weakOf i ≤ 100) := Lib.hid fun i => weakOf_range hok i
  have HD : Hid (∀ V, Sat E V B → Sat E V (hpR X U R * (dev X.db d * F))) := Lib.hid fun V hV => by rw [hB] at hV; exact hV
  have HT := Lib.hid hT
  rw [← hn'] at hbm hbc hn ⊢
  rw [← hB] at h
  have H := Lib.hid (entRow_nil h)
  have hn5 : (n : Int) ≤ 100000 := by omega
  clear h hq hok hbl hn' hB hT
  go_enter Tryz.func37, Tryz.ntmps37
  go_wp2_with fail
  go_loopw [13, 5] (fun iv lv wr => ∃ (k : Nat) (a : Option Addr) (cc : Nat), k ≤ n ∧ iv = .int .i64 (k : Int) ∧ lv = .slice a k cc ∧ (∀ j, j < k → ¬ X.c.weakOf (bl.getD j 0) < 0) ∧ Sat E wr (entRow (.slice a k cc) ((bl.take k).map T) * B)) (fun iv _ _ => n - (RowKit.intOf iv).toNat)
  case atStart => exact ⟨0, none, 0, Nat.zero_le _, rfl, rfl, fun j hj => absurd hj (Nat.not_lt_zero _), H.out⟩
  case round =>
    obtain ⟨k, a, cc, hk, rfl, rfl, hall, hw⟩ := hrel
    have HALL := Lib.hid hall
    have HW := Lib.hid hw
    have l1 := HCX.out _ _ hw
    clear hall H
    by_cases hkn : k = n
    · have hb : Hp.weakenB X.c bl = false := by
        unfold Hp.weakenB
        rw [List.any_eq_false]
        intro x hx
        obtain ⟨j, hj, rfl⟩ := List.getElem_of_mem hx
        have := HALL.out j (by rw [hkn, HN.out]; exact hj)
        rw [List.getD_eq_getElem?_getD, List.getElem?_eq_getElem hj] at this
        simpa using this
      have htk : bl.take k = bl := List.take_of_length_le (by rw [hkn, ← HN.out]; exact Nat.le_refl _)
      rw [htk] at hw
      subst hkn
      obtain ⟨va, vc, he, hcall⟩ := HWR.out hb _ _ hw
      have HC := Lib.hid hcall
      clear hw htk hb hcall he
      go_wp2_with (go_at_call 77; refine HC.out.mono ?_; rintro e w5 ⟨rfl, h5⟩)
      go_ret
      exact ⟨rfl, h5⟩
    · have hk1 : (k : Int) < n := by omega
      have hkn' : k < n := by omega
      have hk2 : k < bl.length := by have := HN.out; omega
      have hkc : ¬ n ≤ k := by omega
      have hk5 : (k : Int) ≤ 100000 := by omega
      have hrb := HRB.out _ _ hw
      obtain ⟨bx, bo, rfl, hq0⟩ := hrb.at (by omega)
      have cx := Rd.nthI hrb k hkn'
      have HWKk := Lib.hid (HWK.out _ _ (bl.getD k 0) hw)
      have hwo := HWO.out (bl.getD k 0)
      have hgd : bl.getD k 0 = bl[k] := by rw [List.getD_eq_getElem?_getD, List.getElem?_eq_getElem hk2]; rfl
      have HTK : Hid ((bl.take (k + 1)).map T = (bl.take k).map T ++ [⟨X.c.weakOf (bl.getD k 0), 0⟩]) := Lib.hid (by
        rw [List.take_succ_eq_append_getElem hk2, List.map_append, hgd]
        rw [HT.out]
        rfl)
      have HLT : Hid (((bl.take k).map T).length = k) := Lib.hid (by rw [List.length_map, List.length_take]; omega)
      have HAL : Hid (∀ x, X.c.weakOf (bl.getD k 0) = x → ¬ x < 0 → ∀ j, j < k + 1 → ¬ X.c.weakOf (bl.getD j 0) < 0) := Lib.hid fun x hx h0 j hj => by
        by_cases hjk : j = k
        · rw [hjk, hx]; exact h0
        · exact HALL.out j (by omega)
      have HBD : Hid (X.c.weakOf (bl.getD k 0) < 0 → q = (d, 4)) := Lib.hid fun h0 => HQB.out (by
        unfold Hp.weakenB
        rw [List.any_eq_true]
        exact ⟨bl[k], List.getElem_mem hk2, by rw [← hgd]; simpa using h0⟩)
      clear hrb hq0 hw hk2 hgd
      by_cases h0 : X.c.weakOf (bl.getD k 0) < 0
      · have hq4 := HBD.out h0
        subst hq4
        generalize X.c.weakOf (bl.getD k 0) = y at *
        generalize bl.getD k 0 = x at *
        go_wp2_with (go_at_call 99; refine HWKk.out.mono ?_; rintro e w4 ⟨rfl, h4⟩)
        go_ret
        exact ⟨rfl, HD.out _ h4.right⟩
      · have HA2 := Lib.hid (HAL.out _ rfl h0)
        clear HAL HBD HALL
        generalize X.c.weakOf (bl.getD k 0) = y at *
        generalize bl.getD k 0 = x at *
        go_wp2_with (first | (go_at_call 99; refine HWKk.out.mono ?_; rintro e w4 ⟨rfl, h4⟩; have H4 := Lib.hid h4; clear h4) | (at_builtin; refine wpl_pushE rfl _ _ rfl (H4.out.alloc _) rfl rfl (by rw [HLT.out]; omega) ?_; intro r2 er ra rc w6 h6))
        have hrl : r2.length = k + 1 := by rw [er.out, List.length_append, HLT.out]; rfl
        refine ⟨⟨k + 1, ra, rc, by omega, by go_num, by rw [hrl], fun j hj => by have := HA2.out j hj; omega, ?_⟩, by simp [RowKit.intOf]; omega⟩
        rw [HTK.out, ← er.out, ← hrl]
        exact h6
end
end Scul
