/- Lemmas and contracts for scullion's HeapNil: HwE, HwF, HwG, HwH, HwI, HwJ, HwK. -/
import Derived.Test.YtcfbanfbldionaaGreatHeapNilQ6
import Derived.Test.YtcfbanfbldionaaGreatHeapNilQ5
/- value: Words, Of. -/
namespace Scul
open Go Go.Sl Go.RowKit Go.Proofs
section
variable {E : Env} {w : World} {F : HP}
theorem wrow_nil (hs : Sat E w F) : Sat E w (words (.slice none 0 0) [] * F) := hs.row_nil _ _
theorem wrow_one (hs : Sat E w F) (B : Obj) (x : Int) : Sat E ((w.alloc B).alloc (.cells #[.int .u64 x] 24)) (words (.slice (some ⟨w.heap.size + 1, 0, none⟩) 1 1) [x] * F) := by
  have h2 := Sat.row_mk (n := 1) (cap := 1) (size := 1) (cs := [Value.int .u64 x]) (Sat.alloc2 hs B (.cells #[.int .u64 x] 24)) (Nat.le_refl _) (by simp [maxLen]) rfl rfl
  exact Sat.right (h2.ac (B := pt w.heap.size B * (words _ [x] * F)) (by simp only [words_def]; simp only [List.length_singleton, u64s, List.map_cons, List.map_nil]; ac_rfl))
theorem wrow_two (hs : Sat E w F) (B : Obj) (x y : Int) : Sat E ((w.alloc B).alloc (.cells #[.int .u64 x, .int .u64 y] 24)) (words (.slice (some ⟨w.heap.size + 1, 0, none⟩) 2 2) [x, y] * F) := by
  have h2 := Sat.row_mk (n := 2) (cap := 2) (size := 1) (cs := [Value.int .u64 x, Value.int .u64 y]) (Sat.alloc2 hs B (.cells #[.int .u64 x, .int .u64 y] 24)) (Nat.le_refl _) (by simp [maxLen]) rfl rfl
  exact Sat.right (h2.ac (B := pt w.heap.size B * (words _ [x, y] * F)) (by simp only [words_def]; simp only [List.length_cons, List.length_nil, u64s, List.map_cons, List.map_nil]; ac_rfl))
theorem ret_vw {s : Value} {a b : Bool} (h : a = b) : Ending.returned (.tuple #[s, .bool a]) = .returned (.tuple #[s, .bool b]) := by rw [h]
set_option maxHeartbeats 1000000 in
theorem valWords_calls (w : World) (k : Int) (v : Val) (hv : v.Wf) (hs : Sat E w F) :
    Calls Tryz.prog 137 #[.int .i64 k, vagg v] w fun e w' => ∃ s, e = .returned (.tuple #[s, .bool (valW k v).isSome]) ∧ Sat E w' (words s ((valW k v).getD []) * F) := by
  have hr := hv.ref
  obtain ⟨R, hR⟩ : ∃ R, R = valW k v := ⟨_, rfl⟩
  rw [← hR]
  obtain ⟨kd, n, re, im, rf⟩ := v
  unfold vagg vcells
  simp only [valW] at hR hr ⊢
  have H1 := Lib.hid (fun x => wrow_one hs (.cells #[.int .i64 kd, .int .i64 n, .int .u64 re, .int .u64 im, .int .i64 rf] 26) x)
  have H2 := Lib.hid (fun x y => wrow_two hs (.cells #[.int .i64 kd, .int .i64 n, .int .u64 re, .int .u64 im, .int .i64 rf] 26) x y)
  have H0 := Lib.hid (wrow_nil (Sat.right (hs.alloc (.cells #[.int .i64 kd, .int .i64 n, .int .u64 re, .int .u64 im, .int .i64 rf] 26))))
  clear hs hv
  by_cases k1 : k = 1
  · subst k1
    by_cases d1 : kd = 1
    · subst d1
      rw [if_pos ⟨rfl, rfl⟩] at hR
      subst hR
      go_enter Tryz.func137, Tryz.ntmps137
      go_wp2_with (go_at_call 174; refine (wInt_calls _ _).mono ?_; rintro e w' ⟨rfl, rfl⟩)
      go_ret2
      exact ⟨_, rfl, H1.out _⟩
    · rw [if_neg (fun h => d1 h.2), if_neg (by simp), if_neg (by simp), if_neg (by simp)] at hR
      subst hR
      have z1 : (kd == 1) = false := by simpa using d1
      go_enter Tryz.func137, Tryz.ntmps137
      go_wp2_with fail
      go_ret2
      exact ⟨_, rfl, H0.out⟩
  by_cases k2 : k = 2
  · subst k2
    by_cases d2 : kd = 2
    · subst d2
      rw [if_neg (by simp), if_pos ⟨rfl, rfl⟩] at hR
      subst hR
      go_enter Tryz.func137, Tryz.ntmps137
      go_wp2_with fail
      go_ret2
      exact ⟨_, rfl, H2.out _ _⟩
    · rw [if_neg (by simp), if_neg (fun h => d2 h.2), if_neg (by simp), if_neg (by simp)] at hR
      subst hR
      have z2 : (kd == 2) = false := by simpa using d2
      go_enter Tryz.func137, Tryz.ntmps137
      go_wp2_with fail
      go_ret2
      exact ⟨_, rfl, H0.out⟩
  by_cases k3 : k = 3
  · subst k3
    rw [if_neg (by simp), if_neg (by simp)] at hR
    by_cases d0 : kd = 0
    · subst d0
      rw [if_pos ⟨rfl, rfl⟩] at hR
      subst hR
      go_enter Tryz.func137, Tryz.ntmps137
      go_wp2_with fail
      go_ret2
      exact ⟨_, rfl, H1.out _⟩
    rw [if_neg (fun h => d0 h.2)] at hR
    have z0 : (kd == 0) = false := by simpa using d0
    by_cases d3 : kd = 3
    · subst d3
      by_cases r0 : 0 ≤ rf
      · by_cases r1 : rf ≤ 1099511627776
        · rw [if_pos ⟨rfl, rfl, r0, r1⟩] at hR
          subst hR
          go_enter Tryz.func137, Tryz.ntmps137
          go_wp2_with fail
          go_ret2
          exact ⟨_, rfl, H1.out _⟩
        · rw [if_neg (fun h => r1 h.2.2.2)] at hR
          subst hR
          go_enter Tryz.func137, Tryz.ntmps137
          go_wp2_with fail
          go_ret2
          exact ⟨_, rfl, H0.out⟩
      · rw [if_neg (fun h => r0 h.2.2.1)] at hR
        subst hR
        go_enter Tryz.func137, Tryz.ntmps137
        go_wp2_with fail
        go_ret2
        exact ⟨_, rfl, H0.out⟩
    · rw [if_neg (fun h => d3 h.2.1)] at hR
      subst hR
      have z3 : (kd == 3) = false := by simpa using d3
      go_enter Tryz.func137, Tryz.ntmps137
      go_wp2_with fail
      go_ret2
      exact ⟨_, rfl, H0.out⟩
  · rw [if_neg (fun h => k1 h.1), if_neg (fun h => k2 h.1), if_neg (fun h => k3 h.1), if_neg (fun h => k3 h.1)] at hR
    subst hR
    have z1 : (k == 1) = false := by simpa using k1
    have z2 : (k == 2) = false := by simpa using k2
    have z3 : (k == 3) = false := by simpa using k3
    go_enter Tryz.func137, Tryz.ntmps137
    go_wp2_with fail
    go_ret2
    exact ⟨_, rfl, H0.out⟩
end
end Scul
/- value: Of. -/
namespace Scul
open Go Go.Sl Go.RowKit Go.Proofs
theorem results_cell_row_tmp {P : Program} {fn : Func} {p u : Tmp} {ty : TypeId} (h : fn.results = #[.cell p ty, .tmp u]) (tmps : Array Value) (w : World) (g : Nat) (t : TypeId) (cs : Array Value) (fr : Nat × Nat) (d : TypeDesc)
    (hp : tmps.getD p undef = .pointer (some ⟨g, 0, none⟩)) (hg : w.heap[g]? = some (.cells cs t fr))
    (hu : P.underlying ty = some d) (hd : (match d with | .struct _ | .array _ _ => true | _ => false) = true) (hi : (P.info? ty).map (·.size) = some cs.size) :
    (results fn tmps).run P w = .ok (.tuple #[.agg cs, tmps.getD u undef]) w := by
  rw [results_cell_tmp h]
  have hp' : tmps[p]?.getD undef = .pointer (some ⟨g, 0, none⟩) := by simpa using hp
  simp [hp', asAddr, run_loadVar_row w g t ty cs fr d hg hu hd hi]
section
variable {E : Env} {w : World} {F : HP}
/-- What Of answers. -/
def valOV (k : Int) (l : List Int) : Value := .tuple #[vagg ((valO k l).getD Val.nil), .bool (valO k l).isSome]
set_option maxHeartbeats 2000000 in
theorem valOf_calls (w : World) (k : Int) (l : List Int) (sv : Value) (hl : ∀ x ∈ l, U64 x) (hv : ∀ W, Sat E W F → Rd W 1 sv l.length (u64s l)) (hs : Sat E w F) :
    Calls Tryz.prog 179 #[.int .i64 k, sv] w fun e w' => e = .returned (valOV k l) ∧ Sat E w' F := by
  obtain ⟨R, hR⟩ : ∃ R, R = valO k l := ⟨_, rfl⟩
  unfold valOV
  rw [← hR]
  obtain ⟨ao, c, rfl, hc⟩ := (hv w hs).val
  obtain ⟨n, hn⟩ : ∃ n, n = l.length := ⟨_, rfl⟩
  have hm := (hv w hs).most
  have HV := Lib.hid hv
  have HS := Lib.hid (hs.alloc (.cells #[.int .i64 0, .int .i64 0, .int .u64 0, .int .u64 0, .int .i64 0] 26))
  have HL := Lib.hid hl
  have NONE : Hid (∀ W, Sat E W (pt w.heap.size (.cells #[.int .i64 0, .int .i64 0, .int .u64 0, .int .u64 0, .int .i64 0] 26) * F) → W.cell? ⟨w.heap.size, 0, none⟩ = some (.int .i64 0) ∧ W.cell? ⟨w.heap.size, 1, none⟩ = some (.int .i64 0) ∧ W.cell? ⟨w.heap.size, 2, none⟩ = some (.int .u64 0) ∧ W.cell? ⟨w.heap.size, 3, none⟩ = some (.int .u64 0) ∧ W.cell? ⟨w.heap.size, 4, none⟩ = some (.int .i64 0) ∧ W.frozen? ⟨w.heap.size, 0, none⟩ = false ∧ W.frozen? ⟨w.heap.size, 1, none⟩ = false ∧ W.frozen? ⟨w.heap.size, 2, none⟩ = false ∧ W.frozen? ⟨w.heap.size, 3, none⟩ = false ∧ W.frozen? ⟨w.heap.size, 4, none⟩ = false) := Lib.hid fun W h =>
    ⟨h.cell 0 rfl, h.cell 1 rfl, h.cell 2 rfl, h.cell 3 rfl, h.cell 4 rfl, h.free 0, h.free 1, h.free 2, h.free 3, h.free 4⟩
  clear hs hv hl
  rw [← hn] at HV hm hc ⊢
  have SET : Hid (∀ (W : World) (a b c d e : Value), Sat E W (pt w.heap.size (.cells #[.int .i64 0, .int .i64 0, .int .u64 0, .int .u64 0, .int .i64 0] 26) * F) → Sat E (((((W.setCell ⟨w.heap.size, 0, none⟩ a).setCell ⟨w.heap.size, 1, none⟩ b).setCell ⟨w.heap.size, 2, none⟩ c).setCell ⟨w.heap.size, 3, none⟩ d).setCell ⟨w.heap.size, 4, none⟩ e) (pt w.heap.size (.cells #[a, b, c, d, e] 26) * F)) := Lib.hid fun W a b c d e h => Sat.set5 h
  by_cases k1 : k = 1
  · subst k1
    by_cases n1 : n = 1
    · subst n1
      obtain ⟨x, rfl⟩ := List.length_eq_one_iff.1 hn.symm
      clear hn hm
      unfold valO at hR
      rw [if_pos ⟨rfl, rfl⟩] at hR
      subst hR
      simp only [List.getD_cons_zero]
      have C1 : Hid (∀ W, Sat E W (pt w.heap.size (.cells #[.int .i64 0, .int .i64 0, .int .u64 0, .int .u64 0, .int .i64 0] 26) * F) → Calls Tryz.prog 203 #[.int .i64 (wrap64 x)] W fun e w' => e = .returned (.agg #[.int .i64 1, .int .i64 (wrap64 x), .int .u64 0, .int .u64 0, .int .i64 0]) ∧ Sat E w' (pt w.heap.size (.cells #[.int .i64 0, .int .i64 0, .int .u64 0, .int .u64 0, .int .i64 0] 26) * F)) := Lib.hid fun W hW => vInt_calls W _ hW
      go_enter Tryz.func179, Tryz.ntmps179
      go_upto_region 1 with fail
      refine atSat _ HS.out fun W h1 => ?_
      obtain ⟨z0, z1, z2, z3, z4, f0, f1, f2, f3, f4⟩ := NONE.out W h1
      obtain ⟨b, o, rfl, hr⟩ := (HV.out W h1.right).at (by omega)
      have cx : W.cell? ⟨b, o, none⟩ = some (.int .u64 x) := hr 0 _ rfl
      have H1 := Lib.hid h1
      clear h1 hr
      go_wp2_with (first | (go_at_call 204; refine (toInt_calls _ _).mono ?_; rintro e w' ⟨rfl, rfl⟩) | (go_at_call 203; refine (C1.out _ H1.out).mono ?_; rintro e w' ⟨rfl, h2⟩; clear z0 z1 z2 z3 z4 f0 f1 f2 f3 f4; obtain ⟨z0, z1, z2, z3, z4, f0, f1, f2, f3, f4⟩ := NONE.out w' h2))
      refine bodyPost_ret (results_cell_row_tmp rfl _ _ _ _ _ _ _ rfl (SET.out _ _ _ _ _ _ h2).at Tryz.underlying26 (by rfl) (by kernel_rfl)) rfl ?_
      exact ⟨rfl, (SET.out _ _ _ _ _ _ h2).right⟩
    · unfold valO at hR
      rw [if_neg (fun h => n1 (hn.trans h.2)), if_neg (by simp), if_neg (by simp), if_neg (by simp)] at hR
      subst hR
      have zn : ((n : Int) == 1) = false := by simp; omega
      clear hn
      go_enter Tryz.func179, Tryz.ntmps179
      go_upto_region 1 with fail
      refine atSat _ HS.out fun W h1 => ?_
      obtain ⟨z0, z1, z2, z3, z4, f0, f1, f2, f3, f4⟩ := NONE.out W h1
      have H1 := Lib.hid h1
      clear h1
      go_wp2_with fail
      refine bodyPost_ret (results_cell_row_tmp rfl _ _ _ _ _ _ _ rfl (SET.out _ _ _ _ _ _ H1.out).at Tryz.underlying26 (by rfl) (by kernel_rfl)) rfl ?_
      exact ⟨rfl, (SET.out _ _ _ _ _ _ H1.out).right⟩
  by_cases k2 : k = 2
  · subst k2
    by_cases n2 : n = 2
    · subst n2
      obtain ⟨x, y, rfl⟩ : ∃ x y, l = [x, y] := by
        match l, hn with
        | [x, y], _ => exact ⟨x, y, rfl⟩
      clear hn hm
      have hx := HL.out x (by simp); have hy := HL.out y (by simp)
      unfold U64 at hx hy
      unfold valO at hR
      rw [if_neg (by simp), if_pos ⟨rfl, rfl⟩] at hR
      subst hR
      simp only [List.getD_cons_zero, List.getD_cons_succ]
      have C1 : Hid (∀ W, Sat E W (pt w.heap.size (.cells #[.int .i64 0, .int .i64 0, .int .u64 0, .int .u64 0, .int .i64 0] 26) * F) → Calls Tryz.prog 205 #[.complex .f64 x.toNat y.toNat] W fun e w' => e = .returned (.agg #[.int .i64 2, .int .i64 0, .int .u64 x, .int .u64 y, .int .i64 0]) ∧ Sat E w' (pt w.heap.size (.cells #[.int .i64 0, .int .i64 0, .int .u64 0, .int .u64 0, .int .i64 0] 26) * F)) := Lib.hid fun W hW => by
        have h := vComplex_calls W x.toNat y.toNat hW
        rw [Int.toNat_of_nonneg hx.1, Int.toNat_of_nonneg hy.1] at h
        exact h
      go_enter Tryz.func179, Tryz.ntmps179
      go_upto_region 1 with fail
      refine atSat _ HS.out fun W h1 => ?_
      obtain ⟨z0, z1, z2, z3, z4, f0, f1, f2, f3, f4⟩ := NONE.out W h1
      obtain ⟨b, o, rfl, hr⟩ := (HV.out W h1.right).at (by omega)
      have cx : W.cell? ⟨b, o, none⟩ = some (.int .u64 x) := hr 0 _ rfl
      have cy : W.cell? ⟨b, o + 1, none⟩ = some (.int .u64 y) := hr 1 _ rfl
      have H1 := Lib.hid h1
      clear h1 hr
      go_upto_region 4 with fail
      go_region_with (first | (go_at_call 206; refine (cplxOf_calls _ _ _).mono ?_; rintro e w' ⟨rfl, rfl⟩) | (go_at_call 205; refine (C1.out _ (by first | exact H1.out | exact H1.out.drew | exact H1.out.drewN _)).mono ?_; rintro e w' ⟨rfl, h2⟩; clear z0 z1 z2 z3 z4 f0 f1 f2 f3 f4; obtain ⟨z0, z1, z2, z3, z4, f0, f1, f2, f3, f4⟩ := NONE.out w' h2))
      all_goals
        go_wp2_with fail
        refine bodyPost_ret (results_cell_row_tmp rfl _ _ _ _ _ _ _ rfl (SET.out _ _ _ _ _ _ h2).at Tryz.underlying26 (by rfl) (by kernel_rfl)) rfl ?_
        exact ⟨rfl, (SET.out _ _ _ _ _ _ h2).right⟩
    · unfold valO at hR
      rw [if_neg (by simp), if_neg (fun h => n2 (hn.trans h.2)), if_neg (by simp), if_neg (by simp)] at hR
      subst hR
      have zn : ((n : Int) == 2) = false := by simp; omega
      clear hn
      go_enter Tryz.func179, Tryz.ntmps179
      go_upto_region 1 with fail
      refine atSat _ HS.out fun W h1 => ?_
      obtain ⟨z0, z1, z2, z3, z4, f0, f1, f2, f3, f4⟩ := NONE.out W h1
      have H1 := Lib.hid h1
      clear h1
      go_wp2_with fail
      refine bodyPost_ret (results_cell_row_tmp rfl _ _ _ _ _ _ _ rfl (SET.out _ _ _ _ _ _ H1.out).at Tryz.underlying26 (by rfl) (by kernel_rfl)) rfl ?_
      exact ⟨rfl, (SET.out _ _ _ _ _ _ H1.out).right⟩
  by_cases k3 : k = 3
  · subst k3
    by_cases n1 : n = 1
    · subst n1
      obtain ⟨x, rfl⟩ := List.length_eq_one_iff.1 hn.symm
      clear hn hm
      have hx := HL.out x (by simp)
      unfold U64 at hx
      unfold valO at hR
      rw [if_neg (by simp), if_neg (by simp)] at hR
      rw [List.getD_cons_zero] at hR
      by_cases x0 : x = 0
      · subst x0
        rw [if_pos ⟨rfl, rfl, rfl⟩] at hR
        subst hR
        have C1 : Hid (∀ W, Sat E W (pt w.heap.size (.cells #[.int .i64 0, .int .i64 0, .int .u64 0, .int .u64 0, .int .i64 0] 26) * F) → Calls Tryz.prog 207 #[] W fun e w' => e = .returned (.agg #[.int .i64 0, .int .i64 0, .int .u64 0, .int .u64 0, .int .i64 0]) ∧ Sat E w' (pt w.heap.size (.cells #[.int .i64 0, .int .i64 0, .int .u64 0, .int .u64 0, .int .i64 0] 26) * F)) := Lib.hid fun W hW => vNil_calls W hW
        go_enter Tryz.func179, Tryz.ntmps179
        go_upto_region 1 with fail
        refine atSat _ HS.out fun W h1 => ?_
        obtain ⟨z0, z1, z2, z3, z4, f0, f1, f2, f3, f4⟩ := NONE.out W h1
        obtain ⟨b, o, rfl, hr⟩ := (HV.out W h1.right).at (by omega)
        have cx : W.cell? ⟨b, o, none⟩ = some (.int .u64 0) := hr 0 _ rfl
        have H1 := Lib.hid h1
        clear h1 hr
        go_wp2_with (go_at_call 207; refine (C1.out _ H1.out).mono ?_; rintro e w' ⟨rfl, h2⟩; clear z0 z1 z2 z3 z4 f0 f1 f2 f3 f4; obtain ⟨z0, z1, z2, z3, z4, f0, f1, f2, f3, f4⟩ := NONE.out w' h2)
        refine bodyPost_ret (results_cell_row_tmp rfl _ _ _ _ _ _ _ rfl (SET.out _ _ _ _ _ _ h2).at Tryz.underlying26 (by rfl) (by kernel_rfl)) rfl ?_
        exact ⟨rfl, (SET.out _ _ _ _ _ _ h2).right⟩
      · have zx : (x == 0) = false := by simpa using x0
        rw [if_neg (fun h => x0 h.2.2)] at hR
        by_cases xm : x ≤ 1099511627777
        · rw [if_pos ⟨rfl, rfl, xm⟩] at hR
          subst hR
          have e1 : IntKind.u64.wrap (x - 1) = x - 1 := by rw [IntKind.wrap_u64]; omega
          have x1 : 1 ≤ x := by omega
          have C1 : Hid (∀ W, Sat E W (pt w.heap.size (.cells #[.int .i64 0, .int .i64 0, .int .u64 0, .int .u64 0, .int .i64 0] 26) * F) → Calls Tryz.prog 208 #[.int .i64 (x - 1)] W fun e w' => e = .returned (.agg #[.int .i64 3, .int .i64 0, .int .u64 0, .int .u64 0, .int .i64 (x - 1)]) ∧ Sat E w' (pt w.heap.size (.cells #[.int .i64 0, .int .i64 0, .int .u64 0, .int .u64 0, .int .i64 0] 26) * F)) := Lib.hid fun W hW => vRef_calls W _ hW
          go_enter Tryz.func179, Tryz.ntmps179
          go_upto_region 1 with fail
          refine atSat _ HS.out fun W h1 => ?_
          obtain ⟨z0, z1, z2, z3, z4, f0, f1, f2, f3, f4⟩ := NONE.out W h1
          obtain ⟨b, o, rfl, hr⟩ := (HV.out W h1.right).at (by omega)
          have cx : W.cell? ⟨b, o, none⟩ = some (.int .u64 x) := hr 0 _ rfl
          have H1 := Lib.hid h1
          clear h1 hr
          go_wp2_with (go_at_call 208; refine (C1.out _ H1.out).mono ?_; rintro e w' ⟨rfl, h2⟩; clear z0 z1 z2 z3 z4 f0 f1 f2 f3 f4; obtain ⟨z0, z1, z2, z3, z4, f0, f1, f2, f3, f4⟩ := NONE.out w' h2)
          refine bodyPost_ret (results_cell_row_tmp rfl _ _ _ _ _ _ _ rfl (SET.out _ _ _ _ _ _ h2).at Tryz.underlying26 (by rfl) (by kernel_rfl)) rfl ?_
          exact ⟨rfl, (SET.out _ _ _ _ _ _ h2).right⟩
        · rw [if_neg (fun h => xm h.2.2)] at hR
          subst hR
          go_enter Tryz.func179, Tryz.ntmps179
          go_upto_region 1 with fail
          refine atSat _ HS.out fun W h1 => ?_
          obtain ⟨z0, z1, z2, z3, z4, f0, f1, f2, f3, f4⟩ := NONE.out W h1
          obtain ⟨b, o, rfl, hr⟩ := (HV.out W h1.right).at (by omega)
          have cx : W.cell? ⟨b, o, none⟩ = some (.int .u64 x) := hr 0 _ rfl
          clear hr
          have H1 := Lib.hid h1
          clear h1
          go_wp2_with fail
          refine bodyPost_ret (results_cell_row_tmp rfl _ _ _ _ _ _ _ rfl (SET.out _ _ _ _ _ _ H1.out).at Tryz.underlying26 (by rfl) (by kernel_rfl)) rfl ?_
          exact ⟨rfl, (SET.out _ _ _ _ _ _ H1.out).right⟩
    · unfold valO at hR
      rw [if_neg (by simp), if_neg (by simp), if_neg (fun h => n1 (hn.trans h.2.1)), if_neg (fun h => n1 (hn.trans h.2.1))] at hR
      subst hR
      have zn : ((n : Int) == 1) = false := by simp; omega
      clear hn
      go_enter Tryz.func179, Tryz.ntmps179
      go_upto_region 1 with fail
      refine atSat _ HS.out fun W h1 => ?_
      obtain ⟨z0, z1, z2, z3, z4, f0, f1, f2, f3, f4⟩ := NONE.out W h1
      have H1 := Lib.hid h1
      clear h1
      go_wp2_with fail
      refine bodyPost_ret (results_cell_row_tmp rfl _ _ _ _ _ _ _ rfl (SET.out _ _ _ _ _ _ H1.out).at Tryz.underlying26 (by rfl) (by kernel_rfl)) rfl ?_
      exact ⟨rfl, (SET.out _ _ _ _ _ _ H1.out).right⟩
  · unfold valO at hR
    rw [if_neg (fun h => k1 h.1), if_neg (fun h => k2 h.1), if_neg (fun h => k3 h.1), if_neg (fun h => k3 h.1)] at hR
    subst hR
    have q1 : (k == 1) = false := by simpa using k1
    have q2 : (k == 2) = false := by simpa using k2
    have q3 : (k == 3) = false := by simpa using k3
    clear hn
    go_enter Tryz.func179, Tryz.ntmps179
    go_upto_region 1 with fail
    refine atSat _ HS.out fun W h1 => ?_
    obtain ⟨z0, z1, z2, z3, z4, f0, f1, f2, f3, f4⟩ := NONE.out W h1
    have H1 := Lib.hid h1
    clear h1
    go_wp2_with fail
    refine bodyPost_ret (results_cell_row_tmp rfl _ _ _ _ _ _ _ rfl (SET.out _ _ _ _ _ _ H1.out).at Tryz.underlying26 (by rfl) (by kernel_rfl)) rfl ?_
    exact ⟨rfl, (SET.out _ _ _ _ _ _ H1.out).right⟩
end
end Scul
/- kind.Offset, object.of. -/
namespace Scul
open Go Go.Sl Go.RowKit Go.Proofs
theorem kindW_ne {fs : List Int} (h : kindW fs ≠ 0) : 1 ≤ fs.length ∧ fs.length ≤ 15 ∧ (∀ f ∈ fs, kw f ≠ 0) ∧ kindW fs = 1 + kwSum fs := by
  unfold kindW at h ⊢
  split at h
  · exact absurd rfl h
  · rename_i e
    simp only [not_or, Classical.not_not] at e
    rw [if_neg (by simp only [not_or, Classical.not_not]; exact e)]
    exact ⟨by omega, by omega, e.2.2, rfl⟩
theorem kwSum_take_succ (fs : List Int) (k : Nat) (h : k < fs.length) : kwSum (fs.take (k + 1)) = kwSum (fs.take k) + kw (fs.getD k 0) := by
  rw [List.take_succ_eq_append_getElem h, kwSum_append]
  simp [kwSum, h]
section
variable {E : Env} {w : World} {F : HP}
def Of.arr (p i : Value) (g k : Nat) (s : Int) (u : Nat → Value) : Array Value := #[p, i, .pointer (some ⟨g, 0, none⟩), u 3, u 4, .int .i64 (k : Int), .int .i64 s, u 7, u 8, u 9, u 10, u 11, u 12, u 13, u 14, u 15, u 16, u 17, u 18, u 19, u 20, u 21, u 22, u 23, u 24, u 25, u 26, u 27, u 28, u 29, u 30, u 31, u 32, u 33, u 34]
def Of.fr (p i : Value) (g k : Nat) (s : Int) (a : Act) : Prop := a = ⟨Of.arr p i g k s (fun k => a.tmps.getD k undef), []⟩
def Of.J (E : Env) (p i : Value) (g : Nat) (fv : Value) (F : HP) (fs : List Int) (m : Nat) (n : Nat) (a : Act) (w : World) : Prop :=
  ∃ (k : Nat) (s : Int), m - k = n ∧ k ≤ m ∧ s = 1 + kwSum (fs.take k) ∧ Sat E w (pt g (.cells #[fv] 62) * F) ∧ Of.fr p i g k s a
set_option maxHeartbeats 1000000 in
theorem offset_calls (w : World) (fs : List Int) (fv : Value) (m : Nat) (hm : m < fs.length) (hk : kindW fs ≠ 0) (hv : ∀ W, Sat E W F → Rd W 1 fv fs.length (i64s fs)) (hs : Sat E w F) :
    Calls Tryz.prog 176 #[.agg #[fv], .int .i64 (m : Int)] w fun e w' => e = .returned (.int .i64 (1 + kwSum (fs.take m))) ∧ Sat E w' F := by
  obtain ⟨n1, n2, hall, _⟩ := kindW_ne hk
  obtain ⟨ao, c, rfl, hc⟩ := (hv w hs).val
  have HV := Lib.hid hv
  have HA := Lib.hid (hs.alloc (.cells #[.slice ao fs.length c] 62))
  have HKW := Lib.hid (fun (W : World) (hW : Sat E W (pt w.heap.size (.cells #[.slice ao fs.length c] 62) * F)) => kWords_calls W fs _ (fun W2 h2 => HV.out W2 h2.right) hW)
  obtain ⟨R, hR⟩ : ∃ R, R = 1 + kwSum (fs.take m) := ⟨_, rfl⟩
  rw [← hR]
  have HR := Lib.hid hR
  have HJ0 : Hid (∀ W, Sat E W (pt w.heap.size (.cells #[.slice ao fs.length c] 62) * F) → ∀ p i a, Of.fr p i w.heap.size 0 1 a → Of.J E p i w.heap.size (.slice ao fs.length c) F fs m m a W) := Lib.hid fun W hW p i a ha => ⟨0, 1, rfl, Nat.zero_le _, by simp [kwSum], hW, ha⟩
  have hz : (kindW fs == 0) = false := by simpa using hk
  obtain ⟨N, hN⟩ : ∃ N, N = fs.length := ⟨_, rfl⟩
  have HN := Lib.hid hN
  rw [← hN] at HV HA HKW HJ0 hm hc ⊢
  have HALL := Lib.hid hall
  have hmN : (m : Int) < N := by omega
  generalize kindW fs = kwf at HKW hz
  clear hv hs hR hall hN n1 hk
  go_enter Tryz.func176, Tryz.ntmps176
  go_wp2_with fail
  refine wp_scope_ghost 0 (Of.J E (.agg #[.slice ao N c]) (.int .i64 (m : Int)) w.heap.size (.slice ao N c) F fs m) rfl ?_ ?_
  · rintro n a W ⟨k, s, hn, hkm, he, hW, ha⟩
    obtain ⟨u, hu⟩ : ∃ u : Nat → Value, u = fun k => a.tmps.getD k undef := ⟨_, rfl⟩
    unfold Of.fr at ha
    rw [← hu] at ha
    clear hu
    unfold Of.arr at ha
    subst ha
    have HW := Lib.hid hW
    have HE := Lib.hid he
    by_cases h0 : k = m
    · subst h0
      clear he hn hW
      go_wp2_with fail
      simp only [Exit.jump]
      go_ret
      exact ⟨ret_int (HE.out.trans HR.out.symm), HW.out.right⟩
    · have hkl : k < fs.length := by have := HN.out; omega
      have z0 : W.cell? ⟨w.heap.size, 0, none⟩ = some (.slice ao N c) := hW.cell 0 rfl
      obtain ⟨b, o, rfl, hr⟩ := (HV.out W hW.right).at (by omega)
      have cx : W.cell? ⟨b, o + k, none⟩ = some (.int .i64 (fs.getD k 0)) := Rd.nthI (HV.out W hW.right) k (by omega)
      have hsr := kwSum_range (fs.take k)
      rw [List.length_take] at hsr
      have hs31 : 1 ≤ s ∧ s ≤ 31 := by omega
      have HT := Lib.hid (kwSum_take_succ fs k hkl)
      generalize fs.getD k 0 = f at cx HT
      have hkr := kw_range f
      have HKF := Lib.hid (fun W => kwords_calls W f)
      generalize kw f = kf at HT hkr HKF
      have hkz : ((k : Int) == (m : Int)) = false := by simp; omega
      have HN2 : Hid (∀ a, Of.fr (.agg #[.slice (some ⟨b, o, none⟩) N c]) (.int .i64 (m : Int)) w.heap.size (k + 1) (s + kf) a → ∃ n', n' < n ∧ Of.J E (.agg #[.slice (some ⟨b, o, none⟩) N c]) (.int .i64 (m : Int)) w.heap.size (.slice (some ⟨b, o, none⟩) N c) F fs m n' a W) := Lib.hid fun a ha =>
        ⟨m - (k + 1), by omega, k + 1, s + kf, rfl, by omega, by rw [HT.out, HE.out]; omega, HW.out, ha⟩
      have hkN : (k : Int) < N := by omega
      have hk15 : (k : Int) ≤ 15 := by omega
      clear hr he hn hW hsr hkl
      go_wp2_with (go_at_call 133; refine (HKF.out _).mono ?_; rintro e w1 ⟨rfl, rfl⟩)
      refine wp_goto ?_
      show (0 : Nat) = 0 ∧ _
      exact ⟨rfl, HN2.out _ rfl⟩
  · intro hpass
    go_wp2_with (go_at_call 64; refine (HKW.out _ HA.out).mono ?_; rintro e w1 ⟨rfl, h1⟩; have z0 : w1.cell? ⟨w.heap.size, 0, none⟩ = some (.slice ao N c) := h1.cell 0 rfl)
    refine wp_label ?_
    simp only [Exit.then]
    go_step
    exact hpass _ _ _ (HJ0.out _ h1 _ _ _ rfl)
/-- What of answers: a kind. -/
def kindV (ks : List (Value × List Int)) (k : Int) : Value × List Int := ks.getD k.toNat (.slice none 0 0, [])
end
end Scul
/- object: of, Field. -/
namespace Scul
open Go Go.Sl Go.RowKit Go.Proofs
/-- Where a field's words stand, what they are, the answer. -/
def objF (ks : List (List Int)) (k i : Int) (v : Val) : Int × List Int × Int :=
  match kindAt ks k with
  | none => (0, [], 3)
  | some fs => if i < 0 ∨ (fs.length : Int) ≤ i then (0, [], 4) else match valW (fs.getD i.toNat 0) v with
    | none => (0, [], 3)
    | some l => (1 + kwSum (fs.take i.toNat), l, 0)
section
variable {E : Env} {w : World} {F : HP}
theorem kindAt_nth {ks : List (Value × List Int)} {k : Nat} (h : k < ks.length) (h16 : k < 16) (hm : kindMay (ks[k].2) = true) : kindAt (ks.map (·.2)) (k : Int) = some ks[k].2 := by
  unfold kindAt
  rw [Int.toNat_natCast]
  have e : (ks.map (·.2)).getD k [] = ks[k].2 := by rw [List.getD_eq_getElem?_getD, List.getElem?_map, List.getElem?_eq_getElem h]; rfl
  rw [e, if_pos ⟨by omega, by simp; omega, by omega, hm⟩]
theorem kindAt_bad {ks : List (Value × List Int)} {k : Nat} (h : k < ks.length) (hm : kindMay (ks[k].2) = false) : kindAt (ks.map (·.2)) (k : Int) = none := by
  unfold kindAt
  rw [Int.toNat_natCast]
  have e : (ks.map (·.2)).getD k [] = ks[k].2 := by rw [List.getD_eq_getElem?_getD, List.getElem?_map, List.getElem?_eq_getElem h]; rfl
  rw [e, if_neg (by rintro ⟨_, _, _, h⟩; rw [hm] at h; cases h)]
theorem kindAt_out {ks : List (List Int)} {k : Int} (h : ¬ (0 ≤ k ∧ k < ks.length ∧ k < 16)) : kindAt ks k = none := by
  unfold kindAt
  rw [if_neg (fun e => h ⟨e.1, e.2.1, e.2.2.1⟩)]
def ObjOf (ks : List (Value × List Int)) (k : Int) (e : Ending) : Prop := (∃ p, p ∈ ks ∧ kindAt (ks.map (·.2)) k = some p.2 ∧ e = .returned (.tuple #[.agg #[p.1], .bool true])) ∨ (kindAt (ks.map (·.2)) k = none ∧ e = .returned (.tuple #[.agg #[.slice none 0 0], .bool false]))
set_option maxHeartbeats 1000000 in
theorem objOf_calls (w : World) (ks : List (Value × List Int)) (kv : Value) (k : Int) (hv : ∀ W, Sat E W F → RdK W kv ks) (hs : Sat E w F) :
    Calls Tryz.prog 135 #[kv, .int .i64 k] w fun e w' => ObjOf ks k e ∧ Sat E w' F := by
  obtain ⟨ao, c, rfl, hc⟩ := (hv w hs).val
  have HV := Lib.hid hv
  have HS := Lib.hid (hs.alloc (.cells #[.slice none 0 0] 62))
  have NONE : Hid (∀ W, Sat E W (pt w.heap.size (.cells #[.slice none 0 0] 62) * F) → W.cell? ⟨w.heap.size, 0, none⟩ = some (.slice none 0 0) ∧ W.frozen? ⟨w.heap.size, 0, none⟩ = false) := Lib.hid fun W h => ⟨h.cell 0 rfl, h.free 0⟩
  have SET : Hid (∀ (W : World) (a : Value), Sat E W (pt w.heap.size (.cells #[.slice none 0 0] 62) * F) → Sat E (W.setCell ⟨w.heap.size, 0, none⟩ a) (pt w.heap.size (.cells #[a] 62) * F)) := Lib.hid fun W a h => h.setCell
  have hlc : (ks.length : Int) ≤ 9223372036854775807 := by have := (hv w hs).1.most; omega
  clear hs hv
  by_cases h0 : k < 0
  · have e0 : kindAt (ks.map (·.2)) k = none := kindAt_out (by omega)
    have E0 := Lib.hid e0
    clear e0
    go_enter Tryz.func135, Tryz.ntmps135
    go_upto_region 1 with fail
    refine atSat _ HS.out fun W h1 => ?_
    obtain ⟨z0, f0⟩ := NONE.out W h1
    have H1 := Lib.hid h1
    clear h1
    go_wp2_with fail
    refine bodyPost_ret (results_cell_row_tmp rfl _ _ _ _ _ _ _ rfl (SET.out _ _ H1.out).at Tryz.underlying62 (by rfl) (by kernel_rfl)) rfl ?_
    exact ⟨.inr ⟨E0.out, rfl⟩, (SET.out _ _ H1.out).right⟩
  obtain ⟨K, rfl⟩ := Int.eq_ofNat_of_zero_le (a := k) (by omega)
  by_cases h1 : ks.length ≤ K
  · have e0 : kindAt (ks.map (·.2)) (K : Int) = none := kindAt_out (by simp; omega)
    have E0 := Lib.hid e0
    clear e0
    have h1' : (ks.length : Int) ≤ K := by omega
    generalize ks.length = n at *
    go_enter Tryz.func135, Tryz.ntmps135
    go_upto_region 1 with fail
    refine atSat _ HS.out fun W h1 => ?_
    obtain ⟨z0, f0⟩ := NONE.out W h1
    have H1 := Lib.hid h1
    clear h1
    go_wp2_with fail
    refine bodyPost_ret (results_cell_row_tmp rfl _ _ _ _ _ _ _ rfl (SET.out _ _ H1.out).at Tryz.underlying62 (by rfl) (by kernel_rfl)) rfl ?_
    exact ⟨.inr ⟨E0.out, rfl⟩, (SET.out _ _ H1.out).right⟩
  have h1' : (K : Int) < ks.length := by omega
  by_cases h2 : 16 ≤ K
  · have e0 : kindAt (ks.map (·.2)) (K : Int) = none := kindAt_out (by omega)
    have E0 := Lib.hid e0
    clear e0
    have h2' : 16 ≤ (K : Int) := by omega
    generalize ks.length = n at *
    go_enter Tryz.func135, Tryz.ntmps135
    go_upto_region 1 with fail
    refine atSat _ HS.out fun W h1 => ?_
    obtain ⟨z0, f0⟩ := NONE.out W h1
    have H1 := Lib.hid h1
    clear h1
    go_wp2_with fail
    refine bodyPost_ret (results_cell_row_tmp rfl _ _ _ _ _ _ _ rfl (SET.out _ _ H1.out).at Tryz.underlying62 (by rfl) (by kernel_rfl)) rfl ?_
    exact ⟨.inr ⟨E0.out, rfl⟩, (SET.out _ _ H1.out).right⟩
  have h2' : (K : Int) < 16 := by omega
  have hK : K < ks.length := by omega
  obtain ⟨p, hp⟩ : ∃ p, p = ks[K] := ⟨_, rfl⟩
  have hmem : p ∈ ks := hp ▸ List.getElem_mem hK
  have hat : kindMay p.2 = true → kindAt (ks.map (·.2)) (K : Int) = some p.2 := fun hm => by rw [hp] at hm ⊢; exact kindAt_nth hK (by omega) hm
  have hbad : kindMay p.2 = false → kindAt (ks.map (·.2)) (K : Int) = none := fun hm => by rw [hp] at hm; exact kindAt_bad hK hm
  have HN : Hid (∀ W, Sat E W F → ∃ b o, ao = some ⟨b, o, none⟩ ∧ W.cell? ⟨b, o + K, none⟩ = some p.1) := Lib.hid fun W hW => by
    have h := (HV.out W hW).1
    obtain ⟨b, o, rfl, hr⟩ := h.at (by omega)
    exact ⟨b, o, rfl, hr K _ (by rw [List.getElem?_map, List.getElem?_eq_getElem hK, ← hp]; rfl)⟩
  have HP : Hid (∀ W, Sat E W F → (∃ a c, p.1 = .slice a p.2.length c) ∧ Rd W 1 p.1 p.2.length (i64s p.2)) := Lib.hid fun W hW => (HV.out W hW).2 p hmem
  have HM := Lib.hid hmem; have HAT := Lib.hid hat; have HBAD := Lib.hid hbad
  obtain ⟨pv, pf⟩ := p
  simp only at HN HP HAT HBAD
  clear hp hmem hat hbad h0 h1 h2 hK HV
  generalize ks.length = n at *
  have HC := Lib.hid (fun W (hW : Sat E W (pt w.heap.size (.cells #[.slice none 0 0] 62) * F)) => kMay_calls W pf pv (fun W2 h2 => (HP.out W2 h2.right).2) hW)
  cases hm : kindMay pf with
  | false =>
    have e0 := HBAD.out hm
    have E0 := Lib.hid e0
    rw [hm] at HC
    clear e0 hm
    go_enter Tryz.func135, Tryz.ntmps135
    go_upto_region 1 with fail
    refine atSat _ HS.out fun W h1 => ?_
    obtain ⟨b, o, rfl, cx⟩ := HN.out W h1.right
    obtain ⟨⟨pa, pc, rfl⟩, _⟩ := HP.out W h1.right
    have H1 := Lib.hid h1
    clear h1
    go_wp2_with (go_at_call 158; refine (HC.out _ H1.out).mono ?_; rintro e w2 ⟨rfl, h2⟩; obtain ⟨z0, f0⟩ := NONE.out w2 h2)
    refine bodyPost_ret (results_cell_row_tmp rfl _ _ _ _ _ _ _ rfl (SET.out _ _ h2).at Tryz.underlying62 (by rfl) (by kernel_rfl)) rfl ?_
    exact ⟨.inr ⟨E0.out, rfl⟩, (SET.out _ _ h2).right⟩
  | true =>
    have e0 := HAT.out hm
    have E0 := Lib.hid e0
    rw [hm] at HC
    clear e0 hm
    go_enter Tryz.func135, Tryz.ntmps135
    go_upto_region 1 with fail
    refine atSat _ HS.out fun W h1 => ?_
    obtain ⟨b, o, rfl, cx⟩ := HN.out W h1.right
    obtain ⟨⟨pa, pc, rfl⟩, _⟩ := HP.out W h1.right
    have H1 := Lib.hid h1
    clear h1
    go_wp2_with (go_at_call 158; refine (HC.out _ H1.out).mono ?_; rintro e w2 ⟨rfl, h2⟩; obtain ⟨z0, f0⟩ := NONE.out w2 h2; obtain ⟨b', o', eb, cy⟩ := HN.out w2 h2.right; simp only [Option.some.injEq, Addr.mk.injEq, and_true] at eb; obtain ⟨rfl, rfl⟩ := eb)
    refine bodyPost_ret (results_cell_row_tmp rfl _ _ _ _ _ _ _ rfl (SET.out _ _ h2).at Tryz.underlying62 (by rfl) (by kernel_rfl)) rfl ?_
    exact ⟨.inl ⟨_, HM.out, E0.out, rfl⟩, (SET.out _ _ h2).right⟩
theorem objOf_none {w : World} {ks : List (Value × List Int)} {kv : Value} {k : Int} (h0 : kindAt (ks.map (·.2)) k = none) (h : Calls Tryz.prog 135 #[kv, .int .i64 k] w fun e w' => ObjOf ks k e ∧ Sat E w' F) :
    Calls Tryz.prog 135 #[kv, .int .i64 k] w fun e w' => e = .returned (.tuple #[.agg #[.slice none 0 0], .bool false]) ∧ Sat E w' F := h.mono fun e w' ⟨ho, h⟩ => ⟨by
      rcases ho with ⟨p, _, h1, _⟩ | ⟨_, h1⟩
      · rw [h0] at h1; cases h1
      · exact h1, h⟩
theorem objOf_some {w : World} {ks : List (Value × List Int)} {kv : Value} {k : Int} {fs : List Int} (h0 : kindAt (ks.map (·.2)) k = some fs) (hv : ∀ W, Sat E W F → RdK W kv ks) (h : Calls Tryz.prog 135 #[kv, .int .i64 k] w fun e w' => ObjOf ks k e ∧ Sat E w' F) :
    Calls Tryz.prog 135 #[kv, .int .i64 k] w fun e w' => ∃ a c, e = .returned (.tuple #[.agg #[.slice a fs.length c], .bool true]) ∧ (∀ W, Sat E W F → Rd W 1 (.slice a fs.length c) fs.length (i64s fs)) ∧ Sat E w' F := h.mono fun e w' ⟨ho, h⟩ => by
      rcases ho with ⟨p, hm, h1, h2⟩ | ⟨h1, _⟩
      · rw [h0] at h1
        cases h1
        obtain ⟨a, c, e⟩ := ((hv w' h).2 p hm).1
        refine ⟨a, c, by rw [← e]; exact h2, fun W hW => ?_, h⟩
        have := ((hv W hW).2 p hm).2
        rwa [e] at this
      · rw [h0] at h1; cases h1
set_option maxHeartbeats 2000000 in
theorem objField_calls (w : World) (ks : List (Value × List Int)) (kv : Value) (k i : Int) (v : Val) (hw : v.Wf) (hi : I64 i) (hv : ∀ W, Sat E W F → RdK W kv ks) (hs : Sat E w F) :
    Calls Tryz.prog 144 #[kv, .int .i64 k, .int .i64 i, vagg v] w fun e w' => ∃ s, e = .returned (.tuple #[.int .i64 (objF (ks.map (·.2)) k i v).1, s, .int .i64 (objF (ks.map (·.2)) k i v).2.2]) ∧ Sat E w' (words s (objF (ks.map (·.2)) k i v).2.1 * F) := by
  obtain ⟨R, hR⟩ : ∃ R, R = objF (ks.map (·.2)) k i v := ⟨_, rfl⟩
  rw [← hR]
  have HS := Lib.hid (hs.alloc (.cells (vcells v) 26))
  have HO := Lib.hid (fun W (hW : Sat E W (pt w.heap.size (.cells (vcells v) 26) * F)) => objOf_calls W ks kv k (fun W2 h2 => hv W2 h2.right) hW)
  have HV2 : ∀ W, Sat E W (pt w.heap.size (.cells (vcells v) 26) * F) → RdK W kv ks := fun W2 h2 => hv W2 h2.right
  obtain ⟨ao, c, rfl, hc⟩ := (hv w hs).val
  unfold objF at hR
  cases hk : kindAt (ks.map (·.2)) k with
  | none =>
    rw [hk] at hR
    simp only at hR
    subst hR
    have HO2 := Lib.hid (fun W hW => objOf_none hk (HO.out W hW))
    clear hk hv hs HO HV2
    unfold vagg vcells at *
    go_enter Tryz.func144, Tryz.ntmps144
    go_wp2_with (go_at_call 135; refine (HO2.out _ HS.out).mono ?_; rintro e w2 ⟨rfl, h2⟩)
    go_ret3
    exact ⟨_, rfl, wrow_nil (Sat.right (Sat.right (h2.alloc _)))⟩
  | some fs =>
    rw [hk] at hR
    simp only at hR
    have HO2 := Lib.hid (fun W hW => objOf_some hk HV2 (HO.out W hW))
    have hk2 := (kindAt_some hk).2.2.2.1
    obtain ⟨kw1, kw2, kw3⟩ := kindMay_w hk2
    have hl := kindMay_len hk2
    have hkne : kindW fs ≠ 0 := by omega
    clear hk hv hs HO HV2
    unfold I64 at hi
    by_cases hb : i < 0 ∨ (fs.length : Int) ≤ i
    · rw [if_pos hb] at hR
      subst hR
      by_cases h0 : i < 0
      · generalize fs.length = n at *
        clear hb hl
        unfold vagg vcells at *
        go_enter Tryz.func144, Tryz.ntmps144
        go_wp2_with (go_at_call 135; refine (HO2.out _ HS.out).mono ?_; rintro e w2 ⟨a2, c2, rfl, hrd, h2⟩)
        go_ret3
        exact ⟨_, rfl, wrow_nil (Sat.right (Sat.right (h2.alloc _)))⟩
      · have h1 : (fs.length : Int) ≤ i := by omega
        obtain ⟨n, hn⟩ : ∃ n, n = fs.length := ⟨_, rfl⟩
        rw [← hn] at h1 HO2
        clear hb hl hn
        unfold vagg vcells at *
        go_enter Tryz.func144, Tryz.ntmps144
        go_wp2_with (go_at_call 135; refine (HO2.out _ HS.out).mono ?_; rintro e w2 ⟨a2, c2, rfl, hrd, h2⟩)
        go_ret3
        exact ⟨_, rfl, wrow_nil (Sat.right (Sat.right (h2.alloc _)))⟩
    · rw [if_neg hb] at hR
      obtain ⟨I, rfl⟩ := Int.eq_ofNat_of_zero_le (a := i) (by omega)
      rw [Int.toNat_natCast] at hR
      have hI : I < fs.length := by omega
      have HI := Lib.hid hI
      have HR := Lib.hid hR
      have h1 : (I : Int) < fs.length := by omega
      have HKN := Lib.hid hkne
      have HL := Lib.hid hl
      clear hb hR hI hl hkne kw1 kw2 kw3 hk2 hi
      obtain ⟨n, hn⟩ : ∃ n, n = fs.length := ⟨_, rfl⟩
      have HN := Lib.hid hn
      have HW := Lib.hid hw
      rw [← hn] at h1 HO2
      clear hn hw
      go_enter Tryz.func144, Tryz.ntmps144
      go_upto_region 2 with (go_at_call 135; refine (HO2.out _ HS.out).mono ?_; rintro e w2 ⟨a2, c2, rfl, hrd, h2⟩)
      refine atSat _ (h2.alloc (.cells #[.slice a2 n c2] 62)) fun W h3 => ?_
      generalize w2.heap.size = g at h3 ⊢
      have z0 : W.cell? ⟨g, 0, none⟩ = some (.slice a2 n c2) := h3.cell 0 rfl
      have H3 := Lib.hid h3
      have hi0 : decide ((I : Int) < 0) = false := by simp
      have hi1 : decide ((n : Int) ≤ I) = false := by simp; omega
      have hi2 : ¬ n ≤ I := by omega
      have y0 : W.cell? ⟨w.heap.size, 0, none⟩ = some (.int .i64 v.kind) := h3.right.cell 0 rfl
      have y1 : W.cell? ⟨w.heap.size, 1, none⟩ = some (.int .i64 v.int) := h3.right.cell 1 rfl
      have y2 : W.cell? ⟨w.heap.size, 2, none⟩ = some (.int .u64 v.re) := h3.right.cell 2 rfl
      have y3 : W.cell? ⟨w.heap.size, 3, none⟩ = some (.int .u64 v.im) := h3.right.cell 3 rfl
      have y4 : W.cell? ⟨w.heap.size, 4, none⟩ = some (.int .i64 v.ref) := h3.right.cell 4 rfl
      have HRD : Hid (∀ W, Sat E W (pt w.heap.size (.cells (vcells v) 26) * F) → Rd W 1 (.slice a2 n c2) n (i64s fs)) := Lib.hid hrd
      have cx : ∃ b o, a2 = some ⟨b, o, none⟩ ∧ W.cell? ⟨b, o + I, none⟩ = some (.int .i64 (fs.getD I 0)) := by
        have hr0 := HRD.out W h3.right
        obtain ⟨b, o, rfl, _⟩ := hr0.at (by omega)
        exact ⟨b, o, rfl, Rd.nthI hr0 I (by omega)⟩
      obtain ⟨b, o, rfl, cx⟩ := cx
      clear hrd h2 h3
      generalize hf : fs.getD I 0 = f at cx
      have HF := Lib.hid hf
      have HVW : Hid (∀ W, Sat E W (pt g (.cells #[.slice (some ⟨b, o, none⟩) n c2] 62) * (pt w.heap.size (.cells (vcells v) 26) * F)) → Calls Tryz.prog 137 #[.int .i64 f, .agg #[.int .i64 v.kind, .int .i64 v.int, .int .u64 v.re, .int .u64 v.im, .int .i64 v.ref]] W fun e w' => ∃ s, e = .returned (.tuple #[s, .bool (valW f v).isSome]) ∧ Sat E w' (words s ((valW f v).getD []) * (pt g (.cells #[.slice (some ⟨b, o, none⟩) n c2] 62) * (pt w.heap.size (.cells (vcells v) 26) * F)))) := Lib.hid fun W hW => valWords_calls W f v HW.out hW
      clear hf
      go_upto_region 6 with fail
      go_cut [13, 12] (fun s13 b12 wx => b12 = .bool (valW f v).isSome ∧ Sat E wx (words s13 ((valW f v).getD []) * (pt g (.cells #[.slice (some ⟨b, o, none⟩) n c2] 62) * (pt w.heap.size (.cells (vcells v) 26) * F))))
      case first =>
        go_region_with (go_at_call 137; refine (HVW.out _ (by first | exact H3.out | exact H3.out.drew | exact H3.out.drewN _)).mono ?_; rintro e w4 ⟨s4, rfl, h4⟩)
        all_goals
          go_wp2_with fail
          go_meet
          exact ⟨rfl, h4⟩
      case rest =>
        obtain ⟨rfl, h5⟩ := hcut
        clear y0 y1 y2 y3 y4 z0 cx H3 HVW
        rename World => W5
        cases hvw : valW f v with
        | none =>
          rw [hvw] at h5
          have e0 : R = (0, [], 3) := by rw [HR.out, HF.out, hvw]
          subst e0
          have H6 := Lib.hid (wrow_nil h5.right.right.right)
          clear h5 hvw
          go_wp2_with fail
          go_ret3
          exact ⟨_, rfl, H6.out⟩
        | some l =>
          rw [hvw] at h5
          simp only [Option.getD_some] at h5
          have e0 : R = (1 + kwSum (fs.take I), l, 0) := by rw [HR.out, HF.out, hvw]
          have z0 : W5.cell? ⟨g, 0, none⟩ = some (.slice (some ⟨b, o, none⟩) n c2) := (h5.ac (B := pt g (.cells #[.slice (some ⟨b, o, none⟩) n c2] 62) * (words u13 l * (pt w.heap.size (.cells (vcells v) 26) * F))) (by ac_rfl)).cell 0 rfl
          have HOF := Lib.hid (offset_calls W5 fs (.slice (some ⟨b, o, none⟩) n c2) I HI.out HKN.out (fun W2 h2 => by rw [← HN.out]; exact HRD.out W2 h2.right.right) h5)
          subst e0
          clear h5 hvw
          go_wp2_with (go_at_call 176; refine HOF.out.mono ?_; rintro e w6 ⟨rfl, h6⟩)
          go_ret3
          exact ⟨_, rfl, Sat.right (Sat.right (h6.ac (B := pt g (.cells #[.slice (some ⟨b, o, none⟩) n c2] 62) * (pt w.heap.size (.cells (vcells v) 26) * (words u13 l * F))) (by ac_rfl)))⟩
end
end Scul
/- Rows of values. -/
namespace Scul
open Go Go.Sl Go.RowKit Go.Proofs
def valCells (l : List Val) : List Value := l.flatMap fun v => (vcells v).toList
theorem valCells_at (l : List Val) (k j : Nat) (hk : k < l.length) (hj : j < 5) : (valCells l)[5 * k + j]? = (vcells l[k])[j]? := by
  induction l generalizing k with
  | nil => simp at hk
  | cons c l ih =>
    show ((vcells c).toList ++ valCells l)[5 * k + j]? = _
    cases k with
    | zero =>
      rw [Nat.mul_zero, Nat.zero_add, List.getElem?_append_left (by simpa [vcells] using hj)]
      simp
    | succ k =>
      rw [List.getElem?_append_right (by simp [vcells]; omega)]
      have e : 5 * (k + 1) + j - (vcells c).toList.length = 5 * k + j := by simp [vcells]; omega
      rw [e, ih k (by simpa using hk)]
      rfl
theorem valCells_append (l m : List Val) : valCells (l ++ m) = valCells l ++ valCells m := by simp [valCells]
/-- A slice that reads as values. -/
def RdV (w : World) (v : Value) (l : List Val) : Prop := Rd w 5 v l.length (valCells l)
theorem RdV.nth {w : World} {ao : Option Addr} {c : Nat} {l : List Val} (h : RdV w (.slice ao l.length c) l) (k : Nat) (hk : k < l.length) :
    ∃ bb o, ao = some ⟨bb, o, none⟩ ∧ w.cell? ⟨bb, o + k * 5, none⟩ = some (.int .i64 l[k].kind) ∧ w.cell? ⟨bb, o + k * 5 + 1, none⟩ = some (.int .i64 l[k].int) ∧ w.cell? ⟨bb, o + k * 5 + 2, none⟩ = some (.int .u64 l[k].re) ∧ w.cell? ⟨bb, o + k * 5 + 3, none⟩ = some (.int .u64 l[k].im) ∧ w.cell? ⟨bb, o + k * 5 + 4, none⟩ = some (.int .i64 l[k].ref) := by
  obtain ⟨bb, o, rfl, hc⟩ := Rd.at h (by omega)
  refine ⟨bb, o, rfl, ?_, ?_, ?_, ?_, ?_⟩
  · have := hc (5 * k + 0) _ (by rw [valCells_at l k 0 hk (by omega)]; rfl)
    rwa [show o + (5 * k + 0) = o + k * 5 by omega] at this
  · have := hc (5 * k + 1) _ (by rw [valCells_at l k 1 hk (by omega)]; rfl)
    rwa [show o + (5 * k + 1) = o + k * 5 + 1 by omega] at this
  · have := hc (5 * k + 2) _ (by rw [valCells_at l k 2 hk (by omega)]; rfl)
    rwa [show o + (5 * k + 2) = o + k * 5 + 2 by omega] at this
  · have := hc (5 * k + 3) _ (by rw [valCells_at l k 3 hk (by omega)]; rfl)
    rwa [show o + (5 * k + 3) = o + k * 5 + 3 by omega] at this
  · have := hc (5 * k + 4) _ (by rw [valCells_at l k 4 hk (by omega)]; rfl)
    rwa [show o + (5 * k + 4) = o + k * 5 + 4 by omega] at this
section
variable {E : Env} {w : World} {F R : HP}
/-- Values of one's own. -/
def valRow (v : Value) (l : List Val) : HP := row 26 5 v l.length (valCells l)
theorem valT : SliceT Tryz.prog 41 26 5 40 (.agg #[.int .i64 0, .int .i64 0, .int .u64 0, .int .u64 0, .int .i64 0]) := .mk' Tryz.underlying41 (by kernel_rfl) rfl
theorem valRow_nil (h : Sat E w F) : Sat E w (valRow (.slice none 0 0) [] * F) := h.row_nil _ _
theorem valRow_val {v : Value} {l : List Val} (h : Sat E w (valRow v l * F)) : ∃ ao c, v = .slice ao l.length c := by
  obtain ⟨ao, c, hv, _⟩ := Sat.row_val h
  exact ⟨ao, c, hv⟩
theorem valRow_rd {v : Value} {l : List Val} (h : Sat E w (valRow v l * F)) : RdV w v l := Sat.rd h
theorem rd_val {xb : Nat} {v : Val} {t : TypeId} {f : Nat × Nat} (h : Sat E w (pt xb (.cells (vcells v) t f) * R)) : Rd w 5 (.slice (some ⟨xb, 0, none⟩) 1 1) 1 (vcells v).toList :=
  ⟨rfl, by simp [maxLen], .inr ⟨xb, 0, 1, rfl, Nat.le_refl _, fun j u hu => by rw [Nat.zero_add]; exact h.cell j (by simpa using hu)⟩⟩
theorem vcells_one (v : Val) : ∀ u ∈ (vcells v).toList, u.oneCell' = true := by
  intro u hu
  simp [vcells] at hu
  rcases hu with rfl | rfl | rfl | rfl | rfl <;> rfl
theorem wpl_pushV {ops : Array Oper} {rest : List Oper} {o : Oper} {a : Act} {Q : Exit → Act → World → Prop} (hgd : o.guard = none) (s x : Operand)
    (ho : o.op = .call { callee := .builtin .append, args := #[s, x], argTypes := #[41, 41] })
    {v : Value} {l : List Val} {xb : Nat} {X : Val} {t : TypeId} {f : Nat × Nat} (hs : Sat E w (pt xb (.cells (vcells X) t f) * (valRow v l * R))) (hv : a.eval s = v) (hx : a.eval x = .slice (some ⟨xb, 0, none⟩) 1 1) (hn : l.length + 1 ≤ 1000000)
    (h : ∀ r, Hid (r = l ++ [X]) → ∀ ao c w', Sat E w' (valRow (.slice ao r.length c) r * R) → wpList Tryz.prog ops Q rest (a.put o.dst (.slice ao r.length c)) w') : wpList Tryz.prog ops Q (o :: rest) a w := by
  refine wpl_append hgd s x valT ho v l.length (valCells l) (Sat.swap hs) hv _ 1 _ (rd_val hs) hx (vcells_one X) (by simp only [maxLen]; omega) (by omega) fun v' w' h' => ?_
  have h2 : Sat E w' (valRow v' (l ++ [X]) * R) := by
    unfold valRow
    rw [List.length_append, valCells_append]
    exact Sat.mid (by simpa [valCells] using h')
  obtain ⟨ao, c, rfl⟩ := valRow_val h2
  exact h _ (Lib.hid rfl) ao c w' h2
end
/-- Encode's fields, from one on. -/
theorem encF_drop {fs : List Int} {vs : List Val} (hl : vs.length = fs.length) {i : Nat} (h : i < fs.length) :
    encF (fs.drop i) (vs.drop i) = match valW (fs.getD i 0) (vs.getD i Val.nil) with
      | none => none
      | some w => (encF (fs.drop (i + 1)) (vs.drop (i + 1))).map (w ++ ·) := by
  rw [List.drop_eq_getElem_cons h, List.drop_eq_getElem_cons (show i < vs.length by omega)]
  have e1 : fs.getD i 0 = fs[i] := by rw [List.getD_eq_getElem?_getD, List.getElem?_eq_getElem h]; rfl
  have e2 : vs.getD i Val.nil = vs[i] := by rw [List.getD_eq_getElem?_getD, List.getElem?_eq_getElem (by omega)]; rfl
  rw [e1, e2]
  rfl
theorem encF_end {fs : List Int} {vs : List Val} (hl : vs.length = fs.length) : encF (fs.drop fs.length) (vs.drop fs.length) = some [] := by
  rw [List.drop_length, ← hl, List.drop_length]
  rfl
end Scul
/- object: Encode. -/
namespace Scul
open Go Go.Sl Go.RowKit Go.Proofs
section
variable {E : Env} {w : World} {F : HP}
def En.arr (p0 p1 p2 p3 sv : Value) (g i : Nat) (u : Nat → Value) : Array Value := #[p0, p1, p2, p3, u 4, u 5, u 6, u 7, u 8, u 9, .pointer (some ⟨g, 0, none⟩), u 11, .int .i64 (i : Int), u 13, sv, u 15, u 16, u 17, u 18, u 19, u 20, u 21, u 22, u 23, u 24, u 25, u 26, u 27, u 28, u 29, u 30, u 31, u 32, u 33, u 34, u 35, u 36, u 37, u 38, u 39, u 40, u 41, u 42, u 43, u 44, u 45, u 46, u 47, u 48, u 49, u 50, u 51, u 52, u 53, u 54, u 55, u 56, u 57, u 58, u 59, u 60, u 61]
def En.fr (p0 p1 p2 p3 sv : Value) (g i : Nat) (a : Act) : Prop := a = ⟨En.arr p0 p1 p2 p3 sv g i (fun k => a.tmps.getD k undef), []⟩
def En.ans (out : List Int) : Option (List Int) → Int × List Int
  | none => (3, [])
  | some l => (0, out ++ l)
def En.J (E : Env) (p0 p1 p2 p3 : Value) (F : HP) (N : Nat) (fs : List Int) (vs : List Val) (R : Int × List Int) (n : Nat) (a : Act) (w : World) : Prop :=
  ∃ (g i : Nat) (a2 : Option Addr) (c2 : Nat) (a3 : Option Addr) (c3 : Nat) (out : List Int), N - i = n ∧ i ≤ N ∧ R = En.ans out (encF (fs.drop i) (vs.drop i)) ∧ out.length ≤ 1 + 2 * i ∧
    (∀ W, Sat E W F → Rd W 1 (.slice a2 N c2) N (i64s fs)) ∧ Sat E w (pt g (.cells #[.slice a2 N c2] 62) * (words (.slice a3 out.length c3) out * F)) ∧ En.fr p0 p1 p2 p3 (.slice a3 out.length c3) g i a
theorem words_new1 (h : Sat E w F) (x : Int) : Sat E (w.alloc (.cells #[.int .u64 x] 24)) (words (.slice (some ⟨w.heap.size, 0, none⟩) 1 1) [x] * F) :=
  Sat.row_mk (n := 1) (cap := 1) (size := 1) (cs := [Value.int .u64 x]) (h.alloc _) (Nat.le_refl _) (by simp [maxLen]) rfl rfl
set_option maxHeartbeats 4000000 in
theorem encode_calls (w : World) (ks : List (Value × List Int)) (kv fv : Value) (k : Int) (vs : List Val) (e : Nat) (hk64 : I64 k) (hwf : ∀ v ∈ vs, v.Wf) (hv : ∀ W, Sat E W F → RdK W kv ks) (hf : ∀ W, Sat E W F → RdV W fv vs) (hs : Sat E w F) :
    Calls Tryz.prog 66 #[kv, .int .i64 k, fv, .int .u64 (e : Int)] w fun e' w' => ∃ s, e' = .returned (.tuple #[s, .int .i64 (objE (ks.map (·.2)) k vs e).1]) ∧ Sat E w' (words s (objE (ks.map (·.2)) k vs e).2 * F) := by
  obtain ⟨R, hR⟩ : ∃ R, R = objE (ks.map (·.2)) k vs e := ⟨_, rfl⟩
  rw [← hR]
  have HS := Lib.hid hs
  have HO := Lib.hid (fun W (hW : Sat E W F) => objOf_calls W ks kv k hv hW)
  obtain ⟨ao, c, rfl, hc⟩ := (hv w hs).val
  obtain ⟨fa, fc, rfl, hfc⟩ := Rd.val (hf w hs)
  have HF := Lib.hid hf
  unfold objE at hR
  cases hk : kindAt (ks.map (·.2)) k with
  | none =>
    rw [hk] at hR
    simp only at hR
    subst hR
    have HO2 := Lib.hid (fun W hW => objOf_none hk (HO.out W hW))
    clear hk hv hs HO hf
    go_enter Tryz.func66, Tryz.ntmps66
    go_wp2_with fail
    refine wp_scope_ghost 0 (fun _ _ _ => False) rfl (fun _ _ _ h => h.elim) fun _ => ?_
    go_wp2_with (go_at_call 135; refine (HO2.out _ HS.out).mono ?_; rintro e w2 ⟨rfl, h2⟩)
    simp only [Exit.jump]
    go_ret2
    exact ⟨_, rfl, wrow_nil (Sat.right (h2.alloc _))⟩
  | some fs =>
    rw [hk] at hR
    simp only at hR
    have HO2 := Lib.hid (fun W hW => objOf_some hk hv (HO.out W hW))
    obtain ⟨hk0, hk1, hk2, hk3, _⟩ := kindAt_some hk
    obtain ⟨kw1, kw2, kw3⟩ := kindMay_w hk3
    have hl := kindMay_len hk3
    have hlc := (HF.out w hs).most
    clear hk hv hs HO hf
    by_cases hlen : vs.length ≠ fs.length
    · rw [if_pos hlen] at hR
      subst hR
      have hln : ((vs.length : Int) != (fs.length : Int)) = true := by simp; omega
      obtain ⟨n, hn⟩ : ∃ n, n = fs.length := ⟨_, rfl⟩
      rw [← hn] at hln HO2
      clear hlen hl hn kw1 kw2 kw3
      generalize vs.length = m at *
      go_enter Tryz.func66, Tryz.ntmps66
      go_wp2_with fail
      refine wp_scope_ghost 0 (fun _ _ _ => False) rfl (fun _ _ _ h => h.elim) fun _ => ?_
      go_wp2_with (go_at_call 135; refine (HO2.out _ HS.out).mono ?_; rintro e w2 ⟨a2, c2, rfl, hrd, h2⟩)
      simp only [Exit.jump]
      go_ret2
      exact ⟨_, rfl, wrow_nil (Sat.right (h2.alloc _))⟩
    · have hvl : vs.length = fs.length := Classical.not_not.1 hlen
      rw [if_neg hlen] at hR
      have hR2 : R = En.ans [(hdrW k (kindW fs) e : Int)] (encF (fs.drop 0) (vs.drop 0)) := by
        rw [hR, List.drop_zero, List.drop_zero]
        cases encF fs vs <;> rfl
      have HR := Lib.hid hR2
      have HVL := Lib.hid hvl
      have HWF := Lib.hid hwf
      have HL := Lib.hid hl
      have hkn : kindW fs ≠ 0 := by omega
      have HKN := Lib.hid hkn
      have HK64 := Lib.hid hk64
      have HKR : Hid (I64 (kindW fs)) := Lib.hid ⟨by omega, by omega⟩
      clear hR hR2 hlen hwf hl hkn kw1 kw2 kw3 hk64
      obtain ⟨N, hN⟩ : ∃ N, N = fs.length := ⟨_, rfl⟩
      have HN := Lib.hid hN
      have hln : ((N : Int) != (N : Int)) = false := by simp
      rw [hvl, ← hN] at hfc hlc HF ⊢
      rw [← hN] at HL HO2
      clear hvl hN
      go_enter Tryz.func66, Tryz.ntmps66
      go_wp2_with fail
      refine wp_scope_ghost 0 (En.J E (.slice ao ks.length c) (.int .i64 k) (.slice fa N fc) (.int .u64 (e : Int)) F N fs vs R) rfl ?_ ?_
      · rintro n a W ⟨g, i, a2, c2, a3, c3, out, hn, hi, hr, hol, hrd, hW, ha⟩
        obtain ⟨u, hu⟩ : ∃ u : Nat → Value, u = fun k => a.tmps.getD k undef := ⟨_, rfl⟩
        unfold En.fr at ha
        rw [← hu] at ha
        clear hu
        unfold En.arr at ha
        subst ha
        have HRD := Lib.hid hrd
        have HRR := Lib.hid hr
        have HW := Lib.hid hW
        clear hrd hr
        by_cases h0 : i = N
        · subst h0
          have e0 : R = (0, out) := by
            rw [HRR.out, HN.out, encF_end HVL.out, En.ans, List.append_nil]
          subst e0
          clear hW hn
          go_wp2_with fail
          simp only [Exit.jump]
          go_ret2
          exact ⟨_, rfl, HW.out.right⟩
        · have hi1 : (i : Int) < N := by omega
          have hiN : i < fs.length := by have := HN.out; omega
          have hvN : vs.length = N := by rw [HVL.out, HN.out]
          have hiv : i < vs.length := by omega
          have hN15 : N ≤ 15 := HL.out.2.1
          have hi15 : (i : Int) ≤ 15 := by omega
          have h0' : ((i : Int) == (N : Int)) = false := by simp; omega
          have z0 : W.cell? ⟨g, 0, none⟩ = some (.slice a2 N c2) := hW.cell 0 rfl
          have cx : ∃ b o, a2 = some ⟨b, o, none⟩ ∧ W.cell? ⟨b, o + i, none⟩ = some (.int .i64 (fs.getD i 0)) := by
            have hr0 := HRD.out W hW.right.right
            obtain ⟨b, o, rfl, _⟩ := hr0.at (by omega)
            exact ⟨b, o, rfl, Rd.nthI hr0 i (by omega)⟩
          obtain ⟨b, o, rfl, cx⟩ := cx
          have hrv := HF.out W hW.right.right
          rw [← hvN] at hrv
          obtain ⟨bb, oo, rfl, y0, y1, y2, y3, y4⟩ := RdV.nth hrv i hiv
          have hst := encF_drop HVL.out hiN
          have e2 : vs.getD i Val.nil = vs[i] := by rw [List.getD_eq_getElem?_getD, List.getElem?_eq_getElem hiv]; rfl
          rw [e2] at hst
          have hvw0 : (vs[i]).Wf := HWF.out _ (List.getElem_mem hiv)
          clear e2 hrv
          generalize vs[i] = v at *
          generalize fs.getD i 0 = f at *
          have HST := Lib.hid hst
          have HVW0 := Lib.hid hvw0
          have HVW : Hid (∀ W, Sat E W (pt g (.cells #[.slice (some ⟨b, o, none⟩) N c2] 62) * (words (.slice a3 out.length c3) out * F)) → Calls Tryz.prog 137 #[.int .i64 f, .agg #[.int .i64 v.kind, .int .i64 v.int, .int .u64 v.re, .int .u64 v.im, .int .i64 v.ref]] W fun e w' => ∃ s, e = .returned (.tuple #[s, .bool (valW f v).isSome]) ∧ Sat E w' (words s ((valW f v).getD []) * (pt g (.cells #[.slice (some ⟨b, o, none⟩) N c2] 62) * (words (.slice a3 out.length c3) out * F)))) := Lib.hid fun W hW => valWords_calls W f v HVW0.out hW
          have HOL := Lib.hid hol
          have hcmp : ¬ N ≤ i := by omega
          clear hst hvw0 hW hol hiv hiN
          go_upto_region 11 with fail
          go_cut [13, 11] (fun s13 b11 wx => b11 = .bool (valW f v).isSome ∧ Sat E wx (words s13 ((valW f v).getD []) * (pt g (.cells #[.slice (some ⟨b, o, none⟩) N c2] 62) * (words (.slice a3 out.length c3) out * F))))
          case first =>
            go_region_with (go_at_call 137; refine (HVW.out _ (by first | exact HW.out | exact HW.out.drew | exact HW.out.drewN _)).mono ?_; rintro e4 w4 ⟨s4, rfl, h4⟩)
            all_goals
              go_wp2_with fail
              go_meet
              exact ⟨rfl, h4⟩
          case rest =>
            obtain ⟨rfl, h5⟩ := hcut
            clear y0 y1 y2 y3 y4 z0 cx HW HVW
            rename World => W5
            cases hvw : valW f v with
            | none =>
              rw [hvw] at h5
              have e0 : R = (3, []) := by rw [HRR.out, HST.out, hvw]; rfl
              subst e0
              have H6 := Lib.hid (wrow_nil h5.right.right.right)
              clear h5 hvw
              go_wp2_with fail
              simp only [Exit.jump]
              go_ret2
              exact ⟨_, rfl, H6.out⟩
            | some l =>
              rw [hvw] at h5
              simp only [Option.getD_some] at h5
              have e0 : R = En.ans (out ++ l) (encF (fs.drop (i + 1)) (vs.drop (i + 1))) := by
                rw [HRR.out, HST.out, hvw]
                simp only
                cases encF (fs.drop (i + 1)) (vs.drop (i + 1)) with
                | none => rfl
                | some t => simp [En.ans]
              have hl2 : l.length ≤ 2 := by
                have := valW_length hvw
                have := kw_range f
                omega
              have HE0 := Lib.hid e0
              have HA1 : Hid (Sat E W5 (words (.slice a3 out.length c3) out * (pt g (.cells #[.slice (some ⟨b, o, none⟩) N c2] 62) * (words u13 l * F)))) := Lib.hid (h5.ac (by ac_rfl))
              have HA2 : Hid (Rd W5 1 u13 l.length (u64s l)) := Lib.hid (Sat.rd (show Sat E W5 (row 24 1 u13 l.length (u64s l) * _) from h5))
              have HA3 : Hid (out.length + l.length ≤ 1000000) := Lib.hid (by have := HOL.out; omega)
              have HNX : Hid (∀ r ra rc W' a, r = out ++ l → Sat E W' (words (.slice ra r.length rc) r * (pt g (.cells #[.slice (some ⟨b, o, none⟩) N c2] 62) * (words u13 l * F))) → En.fr (.slice ao ks.length c) (.int .i64 k) (.slice (some ⟨bb, oo, none⟩) N fc) (.int .u64 (e : Int)) (.slice ra r.length rc) g (i + 1) a → ∃ n', n' < n ∧ En.J E (.slice ao ks.length c) (.int .i64 k) (.slice (some ⟨bb, oo, none⟩) N fc) (.int .u64 (e : Int)) F N fs vs R n' a W') := Lib.hid fun r ra rc W' a hr h ha =>
                ⟨N - (i + 1), by omega, g, i + 1, some ⟨b, o, none⟩, c2, ra, rc, r, rfl, by omega, by rw [hr]; exact HE0.out, by rw [hr, List.length_append]; have := HOL.out; omega, HRD.out, Sat.right (h.ac (B := words u13 l * (pt g (.cells #[.slice (some ⟨b, o, none⟩) N c2] 62) * (words (.slice ra r.length rc) r * F))) (by ac_rfl)), ha⟩
              clear h5 hvw e0 hl2
              go_wp2_with (at_builtin; refine wpl_app64 rfl _ _ rfl HA1.out rfl HA2.out rfl HA3.out ?_; intro r er ra rc w6 h6)
              refine wp_goto ?_
              show (0 : Nat) = 0 ∧ _
              exact ⟨rfl, HNX.out _ _ _ _ _ er.out h6 rfl⟩
      · intro hpass
        go_upto_region 2 with (go_at_call 135; refine (HO2.out _ HS.out).mono ?_; rintro e w2 ⟨a2, c2, rfl, hrd, h2⟩)
        refine atSat _ (h2.alloc (.cells #[.slice a2 N c2] 62)) fun W h3 => ?_
        generalize w2.heap.size = g at h3 ⊢
        have z0 : W.cell? ⟨g, 0, none⟩ = some (.slice a2 N c2) := h3.cell 0 rfl
        have HRD := Lib.hid hrd
        have HKW := Lib.hid (kWords_calls W fs (.slice a2 N c2) (fun W2 hW2 => by rw [← HN.out]; exact HRD.out W2 hW2.right) h3)
        have HHM := Lib.hid (fun W2 (hW : Sat E W2 (pt g (.cells #[.slice a2 N c2] 62) * F)) => hMake_calls W2 k (kindW fs) e HK64.out HKR.out hW)
        have HJ0 : Hid (∀ W' b a, Sat E W' (words (.slice (some ⟨b, 0, none⟩) 1 1) [(hdrW k (kindW fs) e : Int)] * (pt g (.cells #[.slice a2 N c2] 62) * F)) → En.fr (.slice ao ks.length c) (.int .i64 k) (.slice fa N fc) (.int .u64 (e : Int)) (.slice (some ⟨b, 0, none⟩) 1 1) g 0 a → En.J E (.slice ao ks.length c) (.int .i64 k) (.slice fa N fc) (.int .u64 (e : Int)) F N fs vs R N a W') := Lib.hid fun W' b a h ha =>
          ⟨g, 0, a2, c2, some ⟨b, 0, none⟩, 1, [(hdrW k (kindW fs) e : Int)], rfl, Nat.zero_le _, HR.out, Nat.le_refl _, HRD.out, Sat.swap h, ha⟩
        clear hrd h2 h3
        generalize hdrW k (kindW fs) e = hd at HHM HJ0
        generalize kindW fs = kf at HKW HHM
        go_wp2_with (first | (go_at_call 64; refine HKW.out.mono ?_; rintro e w4 ⟨rfl, h4⟩; have HX := Lib.hid h4) | (go_at_call 136; refine (HHM.out _ HX.out).mono ?_; rintro e w5 ⟨rfl, h5⟩))
        refine wp_label ?_
        simp only [Exit.then]
        go_step
        refine hpass _ _ _ (HJ0.out _ _ _ (words_new1 h5 _) ?_)
        exact rfl
end
end Scul
/- object: Decode. -/
namespace Scul
open Go Go.Sl Go.RowKit Go.Proofs
/-- What Decode answers: kind, fields, epoch, the error. -/
def objDA : Option (Int × List Val × Nat) → Int × List Val × Nat × Int
  | none => (0, [], 0, 8)
  | some (k, vs, e) => (k, vs, e, 0)
def De.ans (k : Int) (e : Nat) (out : List Val) : Option (List Val) → Int × List Val × Nat × Int
  | none => (0, [], 0, 8)
  | some vs => (k, out ++ vs, e, 0)
theorem decF_drop {fs : List Int} {i : Nat} (h : i < fs.length) (r : List Int) :
    decF (fs.drop i) (r.drop (kwSum (fs.take i)).toNat) = match valO (fs.getD i 0) ((r.drop (kwSum (fs.take i)).toNat).take (kw (fs.getD i 0)).toNat) with
      | none => none
      | some v => (decF (fs.drop (i + 1)) (r.drop (kwSum (fs.take (i + 1))).toNat)).map (v :: ·) := by
  have e1 : fs.getD i 0 = fs[i] := by rw [List.getD_eq_getElem?_getD, List.getElem?_eq_getElem h]; rfl
  rw [List.drop_eq_getElem_cons h, kwSum_take_succ fs i h, e1]
  have h1 := (kwSum_range (fs.take i)).1
  have h2 := (kw_range fs[i]).1
  show (match valO fs[i] _ with | none => none | some v => _) = _
  rw [List.drop_drop, Int.toNat_add h1 h2]
theorem kwSum_take_le (fs : List Int) (j : Nat) : kwSum (fs.take j) ≤ kwSum fs := by
  have h := kwSum_append (fs.take j) (fs.drop j)
  rw [List.take_append_drop] at h
  have := (kwSum_range (fs.drop j)).1
  omega
theorem kw_pos {fs : List Int} (h : ∀ f ∈ fs, f = 1 ∨ f = 2 ∨ f = 3) {i : Nat} (hi : i < fs.length) : 1 ≤ kw (fs.getD i 0) := by
  have := h (fs.getD i 0) (by rw [List.getD_eq_getElem?_getD, List.getElem?_eq_getElem hi]; exact List.getElem_mem hi)
  unfold kw
  split
  · omega
  · split <;> omega
section
variable {E : Env} {w : World} {F : HP}
theorem hParse_none {w : World} {x : Int} (hx : U64 x) (h : hdrP x.toNat = none) : Calls Tryz.prog 178 #[.int .u64 x] w fun e w' => e = .returned (.tuple #[.int .i64 0, .int .i64 0, .int .u64 0, .bool false]) ∧ w' = w := by
  obtain ⟨X, rfl, hX⟩ := u64_nat hx
  have := hParse_calls w X hX
  rw [Int.toNat_natCast] at h
  unfold hdrPV at this
  rwa [h] at this
theorem hParse_some {w : World} {x : Int} (hx : U64 x) {k n e : Nat} (h : hdrP x.toNat = some (k, n, e)) : Calls Tryz.prog 178 #[.int .u64 x] w fun e' w' => e' = .returned (.tuple #[.int .i64 (k : Int), .int .i64 (n : Int), .int .u64 (e : Int), .bool true]) ∧ w' = w := by
  obtain ⟨X, rfl, hX⟩ := u64_nat hx
  have := hParse_calls w X hX
  rw [Int.toNat_natCast] at h
  unfold hdrPV at this
  rwa [h] at this
set_option maxHeartbeats 4000000 in
theorem decode_calls (w : World) (ks : List (Value × List Int)) (kv sv : Value) (l : List Int) (hl : ∀ x ∈ l, U64 x) (hv : ∀ W, Sat E W F → RdK W kv ks) (hw : ∀ W, Sat E W F → Rd W 1 sv l.length (u64s l)) (hs : Sat E w F) :
    Calls Tryz.prog 147 #[kv, sv] w fun e' w' => ∃ s, e' = .returned (.tuple #[.int .i64 (objDA (objD (ks.map (·.2)) l)).1, s, .int .u64 ((objDA (objD (ks.map (·.2)) l)).2.2.1 : Int), .int .i64 (objDA (objD (ks.map (·.2)) l)).2.2.2]) ∧ Sat E w' (valRow s (objDA (objD (ks.map (·.2)) l)).2.1 * F) := by
  obtain ⟨R, hR⟩ : ∃ R, R = objDA (objD (ks.map (·.2)) l) := ⟨_, rfl⟩
  rw [← hR]
  have HS := Lib.hid hs
  have HO := Lib.hid (fun W (k : Int) (hW : Sat E W F) => objOf_calls W ks kv k hv hW)
  obtain ⟨ao, c, rfl, hc⟩ := (hv w hs).val
  obtain ⟨fa, fc, rfl, hfc⟩ := Rd.val (hw w hs)
  have HW := Lib.hid hw
  have hm := (hw w hs).most
  cases l with
  | nil =>
    subst hR
    clear hs HO hw hv HW
    go_enter Tryz.func147, Tryz.ntmps147
    go_wp2_with fail
    refine bodyPost_ret (results_tmp4 rfl _ _ _) rfl ?_
    exact ⟨_, rfl, valRow_nil HS.out⟩
  | cons x r =>
    obtain ⟨L, hL⟩ : ∃ L, L = (x :: r).length := ⟨_, rfl⟩
    have HL := Lib.hid hL
    rw [← hL] at hfc hm HW ⊢
    have hL1 : 1 ≤ L := by rw [hL]; simp
    have hL0 : ((L : Int) == 0) = false := by simp; omega
    obtain ⟨b, o, rfl, hcx⟩ := (HW.out w hs).at (by omega)
    have HC0 : Hid (∀ W, Sat E W F → W.cell? ⟨b, o, none⟩ = some (.int .u64 x)) := Lib.hid fun W hW => by
      obtain ⟨b', o', e, h⟩ := (HW.out W hW).at (by omega)
      simp only [Option.some.injEq, Addr.mk.injEq, and_true] at e
      obtain ⟨rfl, rfl⟩ := e
      exact h 0 _ rfl
    have c0 := HC0.out w hs
    have hx := hl x (by simp)
    have HU := Lib.hid hl
    clear hcx hw hl hL
    cases hp : hdrP x.toNat with
    | none =>
      have e0 : R = (0, [], 0, 8) := by rw [hR]; unfold objD; simp only; rw [hp]; rfl
      subst e0
      have HP := Lib.hid (fun W => hParse_none (w := W) hx hp)
      cases hk : kindAt (ks.map (·.2)) 0 with
      | none =>
        have HO2 := Lib.hid (fun W hW => objOf_none hk (HO.out W 0 hW))
        clear hR hp hk hv hs HO hx
        go_enter Tryz.func147, Tryz.ntmps147
        go_wp2_with (first | (go_at_call 178; refine (HP.out _).mono ?_; rintro e w' ⟨rfl, rfl⟩) | (go_at_call 135; refine (HO2.out _ HS.out).mono ?_; rintro e w2 ⟨rfl, h2⟩))
        refine bodyPost_ret (results_tmp4 rfl _ _ _) rfl ?_
        exact ⟨_, rfl, valRow_nil (Sat.right (h2.alloc _))⟩
      | some fs =>
        have HO2 := Lib.hid (fun W hW => objOf_some hk hv (HO.out W 0 hW))
        clear hR hp hk hv hs HO hx
        generalize fs.length = n at HO2
        go_enter Tryz.func147, Tryz.ntmps147
        go_wp2_with (first | (go_at_call 178; refine (HP.out _).mono ?_; rintro e w' ⟨rfl, rfl⟩) | (go_at_call 135; refine (HO2.out _ HS.out).mono ?_; rintro e w2 ⟨a2, c2, rfl, hrd, h2⟩))
        refine bodyPost_ret (results_tmp4 rfl _ _ _) rfl ?_
        exact ⟨_, rfl, valRow_nil (Sat.right (h2.alloc _))⟩
    | some q =>
      obtain ⟨k, n, e⟩ := q
      have HP := Lib.hid (fun W => hParse_some (w := W) hx hp)
      cases hk : kindAt (ks.map (·.2)) (k : Int) with
      | none =>
        have e0 : R = (0, [], 0, 8) := by rw [hR]; unfold objD; simp only; rw [hp]; simp only; rw [hk]; rfl
        subst e0
        have HO2 := Lib.hid (fun W hW => objOf_none hk (HO.out W k hW))
        clear hR hp hk hv hs HO hx
        go_enter Tryz.func147, Tryz.ntmps147
        go_wp2_with (first | (go_at_call 178; refine (HP.out _).mono ?_; rintro e w' ⟨rfl, rfl⟩) | (go_at_call 135; refine (HO2.out _ HS.out).mono ?_; rintro e w2 ⟨rfl, h2⟩))
        refine bodyPost_ret (results_tmp4 rfl _ _ _) rfl ?_
        exact ⟨_, rfl, valRow_nil (Sat.right (h2.alloc _))⟩
      | some fs =>
        have HO2 := Lib.hid (fun W hW => objOf_some hk hv (HO.out W k hW))
        obtain ⟨_, _, _, hk3, _⟩ := kindAt_some hk
        obtain ⟨kw1, kw2, kw3⟩ := kindMay_w hk3
        have hl := kindMay_len hk3
        have hR1 : R = objDA (if (n : Int) ≠ kindW fs ∨ (x :: r).length < n then none else (decF fs r).map fun vs => ((k : Int), vs, e)) := by
          rw [hR]; unfold objD; simp only; rw [hp]; simp only; rw [hk]
        rw [← HL.out] at hR1
        have HKN : Hid (kindW fs ≠ 0) := Lib.hid (by omega)
        have HKS := Lib.hid kw1
        have HFL := Lib.hid hl
        obtain ⟨N, hN⟩ : ∃ N, N = fs.length := ⟨_, rfl⟩
        have HN := Lib.hid hN
        have hN15 : N ≤ 15 := by rw [hN]; exact hl.2.1
        rw [← hN] at HO2
        have HKW := Lib.hid (fun (W : World) (g : Nat) (a2 : Option Addr) (c2 : Nat) (hrd : ∀ W, Sat E W F → Rd W 1 (.slice a2 N c2) N (i64s fs)) (hW : Sat E W (pt g (.cells #[.slice a2 N c2] 62) * F)) => kWords_calls W fs (.slice a2 N c2) (fun W2 hW2 => by rw [← hN]; exact hrd W2 hW2.right) hW)
        have hn16 := kw3
        clear hR hp hk hv hs HO hx hN hl kw2
        have ARM := HKW
        by_cases hnk : (n : Int) = kindW fs
        · rw [← hnk] at hn16
          have hk0 : ((n : Int) != (n : Int)) = false := by simp
          have HKW2 : Hid (∀ (W : World) (g : Nat) (a2 : Option Addr) (c2 : Nat) (hrd : ∀ W, Sat E W F → Rd W 1 (.slice a2 N c2) N (i64s fs)) (hW : Sat E W (pt g (.cells #[.slice a2 N c2] 62) * F)), Calls Tryz.prog 64 #[.agg #[.slice a2 N c2]] W fun e w' => e = .returned (.int .i64 (n : Int)) ∧ Sat E w' (pt g (.cells #[.slice a2 N c2] 62) * F)) := Lib.hid fun W g a2 c2 hrd hW => by rw [hnk]; exact ARM.out W g a2 c2 hrd hW
          clear ARM HKW
          by_cases hLn : n ≤ L
          · have e0 : R = De.ans (k : Int) e [] (decF (fs.drop 0) (r.drop (kwSum (fs.take 0)).toNat)) := by
              rw [hR1, if_neg (by simp only [not_or, Classical.not_not]; exact ⟨hnk, by omega⟩)]
              simp only [List.drop_zero, List.take_zero, kwSum, Int.toNat_zero]
              cases decF fs r <;> rfl
            have HE0 := Lib.hid e0
            have hnk2 : (n : Int) = 1 + kwSum fs := hnk.trans kw1
            have HNK := Lib.hid hnk2
            have hnL : (n : Int) ≤ L := by omega
            have hcmp : ¬ L < n := by omega
            clear hR1 e0 hnk hnk2 kw1 kw3 hLn
            go_enter Tryz.func147, Tryz.ntmps147
            go_wp2_with (first | (go_at_call 178; refine (HP.out _).mono ?_; rintro e w' ⟨rfl, rfl⟩) | (go_at_call 135; refine (HO2.out _ HS.out).mono ?_; rintro e w2 ⟨a2, c2, rfl, hrd, h2⟩) | (go_at_call 64; refine (HKW2.out _ _ _ _ hrd (h2.alloc _)).mono ?_; rintro e w3 ⟨rfl, h3⟩; have z0 : w3.cell? ⟨w2.heap.size, 0, none⟩ = some (.slice a2 N c2) := h3.cell 0 rfl))
            have HRD := Lib.hid hrd
            have H3 := Lib.hid h3
            clear hrd h2 h3 HO2 HKW2 HP
            go_loopw [60, 14] (fun iv tv wr => ∃ (i : Nat) (out : List Val) (a3 : Option Addr) (c3 : Nat), i ≤ N ∧ iv = .int .i64 (i : Int) ∧ tv = .slice a3 out.length c3 ∧ out.length = i ∧ R = De.ans (k : Int) e out (decF (fs.drop i) (r.drop (kwSum (fs.take i)).toNat)) ∧ Sat E wr (valRow (.slice a3 out.length c3) out * (pt w2.heap.size (.cells #[.slice a2 N c2] 62) * F))) (fun iv _ _ => N - (RowKit.intOf iv).toNat)
            case atStart => exact ⟨0, [], none, 0, Nat.zero_le _, rfl, rfl, rfl, HE0.out, valRow_nil H3.out⟩
            case round =>
              obtain ⟨i, out, a3, c3, hi, rfl, rfl, ho, hr, hW⟩ := hrel
              have HRR := Lib.hid hr
              have HWr := Lib.hid hW
              have HOO := Lib.hid ho
              clear hr z0 H3 HE0
              by_cases hin : i = N
              · subst hin
                have e0 : R = ((k : Int), out, e, 0) := by
                  rw [HRR.out, HN.out, List.drop_length]
                  show ((k : Int), out ++ [], e, (0 : Int)) = _
                  rw [List.append_nil]
                subst e0
                clear hW ho
                go_wp2_with fail
                refine bodyPost_ret (results_tmp4 rfl _ _ _) rfl ?_
                exact ⟨_, rfl, HWr.out.ac (by ac_rfl) |>.right⟩
              · have hi1 : (i : Int) < N := by omega
                have hiN : i < fs.length := by have := HN.out; omega
                have hw1 := kwSum_range (fs.take i)
                have hf1 := kw_pos HFL.out.2.2 hiN
                have hkt := kwSum_take_succ fs i hiN
                have hf2 := kw_range (fs.getD i 0)
                have hle := kwSum_take_le fs (i + 1)
                have hst := decF_drop hiN r
                have hNK := HNK.out
                obtain ⟨A, hA⟩ : ∃ A : Nat, (A : Int) = 1 + kwSum (fs.take i) := ⟨(1 + kwSum (fs.take i)).toNat, by omega⟩
                obtain ⟨B, hB⟩ : ∃ B : Nat, (B : Int) = 1 + kwSum (fs.take (i + 1)) := ⟨(1 + kwSum (fs.take (i + 1))).toNat, by omega⟩
                have hBA : B = A + (kw (fs.getD i 0)).toNat := by omega
                have hAB : A < B := by omega
                have hBn : B ≤ n := by omega
                have hAk : (kwSum (fs.take i)).toNat = A - 1 := by omega
                have hA1 : 1 ≤ A := by omega
                have hseg : (r.drop (kwSum (fs.take i)).toNat).take (kw (fs.getD i 0)).toNat = ((x :: r).drop A).take (B - A) := by
                  obtain ⟨A', rfl⟩ : ∃ m, A = m + 1 := ⟨A - 1, by omega⟩
                  rw [hAk, List.drop_succ_cons, show B - (A' + 1) = (kw (fs.getD i 0)).toNat by omega]
                  rfl
                rw [hseg] at hst
                have hsl : (((x :: r).drop A).take (B - A)).length = B - A := by
                  have := HL.out
                  rw [List.length_take, List.length_drop, ← this]
                  omega
                have hsu : ∀ y ∈ ((x :: r).drop A).take (B - A), U64 y := fun y hy => HU.out y (List.mem_of_mem_drop (List.mem_of_mem_take hy))
                have HOF : Hid (∀ (W : World) (j z : Int), ((j = (i : Int) ∧ z = A) ∨ (j = (i : Int) + 1 ∧ (i : Int) + 1 < N ∧ z = B)) → Sat E W (valRow (.slice a3 out.length c3) out * (pt w2.heap.size (.cells #[.slice a2 N c2] 62) * F)) → Calls Tryz.prog 176 #[.agg #[.slice a2 N c2], .int .i64 j] W fun e w' => e = .returned (.int .i64 z) ∧ Sat E w' (valRow (.slice a3 out.length c3) out * (pt w2.heap.size (.cells #[.slice a2 N c2] 62) * F))) := Lib.hid fun W j z hj hW => by
                  rcases hj with ⟨rfl, rfl⟩ | ⟨rfl, hlt, rfl⟩
                  · rw [hA]
                    exact offset_calls W fs (.slice a2 N c2) i hiN HKN.out (fun W2 h2 => by rw [← HN.out]; exact HRD.out W2 h2.right.right) hW
                  · rw [hB]
                    exact offset_calls W fs (.slice a2 N c2) (i + 1) (by have := HN.out; omega) HKN.out (fun W2 h2 => by rw [← HN.out]; exact HRD.out W2 h2.right.right) hW
                have HVO := Lib.hid (fun (W : World) (hW : Sat E W (valRow (.slice a3 out.length c3) out * (pt w2.heap.size (.cells #[.slice a2 N c2] 62) * F))) => valOf_calls W (fs.getD i 0) (((x :: r).drop A).take (B - A)) (.slice (some ⟨b, o + A, none⟩) (B - A) (fc - A)) hsu (fun W2 h2 => by
                  have h3 := Rd.cut (HW.out W2 h2.right.right) A B (by omega) (by omega) (ao := some ⟨b, o + A, none⟩) (fun _ => rfl) (fun h => absurd h (by omega)) rfl rfl
                  rw [hsl, u64s_take, show u64s ((x :: r).drop A) = (u64s (x :: r)).drop A by simp [u64s]]
                  exact h3) hW)
                have cx : ∃ b2 o2, a2 = some ⟨b2, o2, none⟩ ∧ wr.cell? ⟨b2, o2 + i, none⟩ = some (.int .i64 (fs.getD i 0)) := by
                  have hr0 := HRD.out wr hW.right.right
                  obtain ⟨b2, o2, rfl, _⟩ := hr0.at (by omega)
                  exact ⟨b2, o2, rfl, Rd.nthI hr0 i (by omega)⟩
                obtain ⟨b2, o2, rfl, cx⟩ := cx
                have z0 : wr.cell? ⟨w2.heap.size, 0, none⟩ = some (.slice (some ⟨b2, o2, none⟩) N c2) := hW.right.cell 0 rfl
                have HBN : Hid (¬ (i : Int) + 1 < N → B = n) := Lib.hid fun h => by
                  have e1 : i + 1 = fs.length := by have := HN.out; omega
                  rw [e1, List.take_length] at hB
                  omega
                generalize ((x :: r).drop A).take (B - A) = sg at *
                generalize fs.getD i 0 = f at *
                have HST := Lib.hid hst
                have hBL : B ≤ L := by omega
                have hBc : B ≤ fc := by omega
                have hAc : ¬ fc = A := by omega
                have hi15 : (i : Int) ≤ 15 := by omega
                clear hw1 hf1 hkt hf2 hle hst hNK hBA hAk hseg hsl hsu hW ho hA hB
                go_upto_region 12 with (go_at_call 176; refine (HOF.out _ _ _ (by first | exact .inl ⟨rfl, rfl⟩ | exact .inr ⟨rfl, by assumption, rfl⟩) (by first | exact hh.out | exact HWr.out)).mono ?_; rintro e4 w4 ⟨rfl, h4⟩; have hh := Lib.hid h4)
                clear cx z0
                have z0 : w4.cell? ⟨w2.heap.size, 0, none⟩ = some (.slice (some ⟨b2, o2, none⟩) N c2) := h4.right.cell 0 rfl
                clear h4
                go_upto_if 74 with fail
                go_cut [18] (fun s18 wx => s18 = .int .i64 (B : Int) ∧ Sat E wx (valRow (.slice a3 out.length c3) out * (pt w2.heap.size (.cells #[.slice (some ⟨b2, o2, none⟩) N c2] 62) * F)))
                case first =>
                  by_cases hlast : (i : Int) + 1 < N
                  · go_wp2_with (go_at_call 176; refine (HOF.out _ _ _ (by first | exact .inl ⟨rfl, rfl⟩ | exact .inr ⟨rfl, by assumption, rfl⟩) (by first | exact hh.out | exact HWr.out)).mono ?_; rintro e4 w4 ⟨rfl, h4⟩; have hh := Lib.hid h4)
                    go_meet
                    exact ⟨rfl, h4⟩
                  · have hBn2 := HBN.out (by omega)
                    subst hBn2
                    go_wp2_with fail
                    go_meet
                    exact ⟨rfl, hh.out⟩
                case rest =>
                  obtain ⟨rfl, h5⟩ := hcut
                  clear z0 hh HOF
                  rename World => W5
                  have H5 := Lib.hid h5
                  clear h5
                  unfold valOV at HVO
                  cases hvo : valO f sg with
                  | none =>
                    rw [hvo] at HVO
                    simp only [Option.getD_none, Option.isSome_none, vagg, vcells, Val.nil] at HVO
                    have e0 : R = (0, [], 0, 8) := by rw [HRR.out, HST.out, hvo]; rfl
                    subst e0
                    clear hvo
                    go_wp2_with (go_at_call 179; refine (HVO.out _ H5.out).mono ?_; rintro e6 w6 ⟨rfl, h6⟩)
                    refine bodyPost_ret (results_tmp4 rfl _ _ _) rfl ?_
                    exact ⟨_, rfl, valRow_nil (Sat.right (Sat.right (Sat.right (h6.alloc _))))⟩
                  | some v =>
                    rw [hvo] at HVO
                    simp only [Option.getD_some, Option.isSome_some, vagg, vcells] at HVO
                    have e0 : R = De.ans (k : Int) e (out ++ [v]) (decF (fs.drop (i + 1)) (r.drop (kwSum (fs.take (i + 1))).toNat)) := by
                      rw [HRR.out, HST.out, hvo]
                      simp only
                      cases decF (fs.drop (i + 1)) (r.drop (kwSum (fs.take (i + 1))).toNat) with
                      | none => rfl
                      | some t => simp [De.ans]
                    have HE1 := Lib.hid e0
                    have HB1 : Hid (out.length + 1 ≤ 1000000) := Lib.hid (by have := HOO.out; omega)
                    have HAL : Hid (∀ W, Sat E W (valRow (.slice a3 out.length c3) out * (pt w2.heap.size (.cells #[.slice (some ⟨b2, o2, none⟩) N c2] 62) * F)) → ∀ A B, Sat E ((W.alloc A).alloc B) (pt (W.heap.size + 1) B * (valRow (.slice a3 out.length c3) out * (pt W.heap.size A * (pt w2.heap.size (.cells #[.slice (some ⟨b2, o2, none⟩) N c2] 62) * F))))) := Lib.hid fun W hW A B => (Sat.alloc2 hW A B).ac (by ac_rfl)
                    clear hvo e0
                    go_wp2_with (first | (go_at_call 179; refine (HVO.out _ H5.out).mono ?_; rintro e6 w6 ⟨rfl, h6⟩; have h66 := Lib.hid h6; clear h6) | (at_builtin; refine wpl_pushV rfl _ _ rfl (X := v) (HAL.out _ h66.out _ _) rfl rfl HB1.out ?_; intro rr er ra rc w7 h7))
                    refine ⟨⟨i + 1, rr, ra, rc, by omega, rfl, rfl, by rw [er.out, List.length_append, HOO.out]; rfl, by rw [er.out]; exact HE1.out, ?_⟩, by simp [RowKit.intOf]; omega⟩
                    exact Sat.right (h7.ac (B := pt w6.heap.size _ * (valRow (.slice ra rr.length rc) rr * (pt w2.heap.size (.cells #[.slice (some ⟨b2, o2, none⟩) N c2] 62) * F))) (by ac_rfl))
          · have e0 : R = (0, [], 0, 8) := by rw [hR1, if_pos (.inr (by omega))]; rfl
            subst e0
            have hnL : (L : Int) < n := by omega
            clear hR1 hnk hLn kw1 kw3
            go_enter Tryz.func147, Tryz.ntmps147
            go_wp2_with (first | (go_at_call 178; refine (HP.out _).mono ?_; rintro e w' ⟨rfl, rfl⟩) | (go_at_call 135; refine (HO2.out _ HS.out).mono ?_; rintro e w2 ⟨a2, c2, rfl, hrd, h2⟩) | (go_at_call 64; refine (HKW2.out _ _ _ _ hrd (h2.alloc _)).mono ?_; rintro e w3 ⟨rfl, h3⟩))
            refine bodyPost_ret (results_tmp4 rfl _ _ _) rfl ?_
            exact ⟨_, rfl, valRow_nil h3.right⟩
        · have e0 : R = (0, [], 0, 8) := by rw [hR1, if_pos (.inl hnk)]; rfl
          subst e0
          have hk0 : ((n : Int) != kindW fs) = true := by simpa using hnk
          generalize kindW fs = kf at *
          clear hR1 hnk kw1 kw3
          go_enter Tryz.func147, Tryz.ntmps147
          go_wp2_with (first | (go_at_call 178; refine (HP.out _).mono ?_; rintro e w' ⟨rfl, rfl⟩) | (go_at_call 135; refine (HO2.out _ HS.out).mono ?_; rintro e w2 ⟨a2, c2, rfl, hrd, h2⟩) | (go_at_call 64; refine (HKW.out _ _ _ _ hrd (h2.alloc _)).mono ?_; rintro e w3 ⟨rfl, h3⟩))
          refine bodyPost_ret (results_tmp4 rfl _ _ _) rfl ?_
          exact ⟨_, rfl, valRow_nil h3.right⟩
end
end Scul
