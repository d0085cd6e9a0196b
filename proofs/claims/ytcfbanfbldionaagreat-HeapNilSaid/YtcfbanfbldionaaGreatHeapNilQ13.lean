/- Lemmas and contracts for scullion's HeapNil: HwJ, HwK, HwL, HwM, HwN. -/
import Derived.Test.YtcfbanfbldionaaGreatHeapNilQ12
import Derived.BigRegion
/- object: Encode. -/
namespace Scul
open Go Go.Sl Go.RowKit Go.Proofs
section
variable {E : Env} {w : World} {F : HP}
def En.arr (p0 p1 p2 p3 sv : Value) (g i : Nat) (u : Nat → Value) : Array Value := #[p0, p1, p2, p3, u 4, u 5, u 6, u 7, u 8, u 9, .pointer (some ⟨g, 0, none⟩), u 11, .int .i64 (i : Int), u 13, sv, u 15, u 16, u 17, u 18, u 19, u 20, u 21, u 22, u 23, u 24, u 25, u 26, u 27, u 28, u 29, u 30, u 31, u 32, u 33, u 34, u 35, u 36, u 37, u 38, u 39, u 40, u 41, u 42, u 43, u 44, u 45, u 46, u 47, u 48, u 49, u 50, u 51, u 52, u 53, u 54, u 55, u 56, u 57, u 58, u 59, u 60, u 61]
def En.fr (p0 p1 p2 p3 sv : Value) (g i : Nat) (a : Act) : Prop := a = ⟨En.arr p0 p1 p2 p3 sv g i (fun k => a.tmps.getD k undef), []⟩
def En.ans (out : List Int) : Option (List Int) → Int × List Int
  | none => (3, [])
  | some l => (0, out ++ l)
def En.J (E : Env) (p0 p1 p2 p3 : Value) (F : HP) (N : Nat) (fs : List Int) (vs : List Val) (R : Int × List Int) (n : Nat) (a : Act) (w : World) : Prop :=
  ∃ (g i : Nat) (a2 : Option Addr) (c2 : Nat) (a3 : Option Addr) (c3 : Nat) (out : List Int), N - i = n ∧ i ≤ N ∧ R = En.ans out (encF (fs.drop i) (vs.drop i)) ∧ out.length ≤ 1 + 2 * i ∧
    (∀ W, Sat E W F → Rd W 1 (.slice a2 N c2) N (i64s fs)) ∧ Sat E w (pt g (.cells #[.slice a2 N c2] 62) * (words (.slice a3 out.length c3) out * F)) ∧ En.fr p0 p1 p2 p3 (.slice a3 out.length c3) g i a
theorem words_new1 (h : Sat E w F) (x : Int) : Sat E (w.alloc (.cells #[.int .u64 x] 24)) (words (.slice (some ⟨w.heap.size, 0, none⟩) 1 1) [x] * F) :=
  Sat.row_mk (n := 1) (cap := 1) (size := 1) (cs := [Value.int .u64 x]) (h.alloc _) (Nat.le_refl _) (by simp [maxLen]) rfl rfl
set_option maxHeartbeats 4000000 in
theorem encode_calls (w : World) (ks : List (Value × List Int)) (kv fv : Value) (k : Int) (vs : List Val) (e : Nat) (hk64 : I64 k) (hwf : ∀ v ∈ vs, v.Wf) (hv : ∀ W, Sat E W F → RdK W kv ks) (hf : ∀ W, Sat E W F → RdV W fv vs) (hs : Sat E w F) :
    Calls Tryz.prog 66 #[kv, .int .i64 k, fv, .int .u64 (e : Int)] w fun e' w' => ∃ s, e' = .returned (.tuple #[s, .int .i64 (objE (ks.map (·.2)) k vs e).1]) ∧ Sat E w' (words s (objE (ks.map (·.2)) k vs e).2 * F) := by
  obtain ⟨R, hR⟩ : ∃ R, R = objE (ks.map (·.2)) k vs e := ⟨_, rfl⟩
  rw [← hR]
  have HS := Lib.hid hs
  have HO := Lib.hid (fun W (hW : Sat E W F) => objOf_calls W ks kv k hv hW)
  obtain ⟨ao, c, rfl, hc⟩ := (hv w hs).val
  obtain ⟨fa, fc, rfl, hfc⟩ := Rd.val (hf w hs)
  have HF := Lib.hid hf
  unfold objE at hR
  cases hk : kindAt (ks.map (·.2)) k with
  | none =>
    rw [hk] at hR
    simp only at hR
    subst hR
    have HO2 := Lib.hid (fun W hW => objOf_none hk (HO.out W hW))
    clear hk hv hs HO hf
    go_enter Tryz.func66, Tryz.ntmps66
    go_wp2_with fail
    refine wp_scope_ghost 0 (fun _ _ _ => False) rfl (fun _ _ _ h => h.elim) fun _ => ?_
    go_wp2_with (go_at_call 135; refine (HO2.out _ HS.out).mono ?_; rintro e w2 ⟨rfl, h2⟩)
    simp only [Exit.jump]
    go_ret2
    exact ⟨_, rfl, wrow_nil (Sat.right (h2.alloc _))⟩
  | some fs =>
    rw [hk] at hR
    simp only at hR
    have HO2 := Lib.hid (fun W hW => objOf_some hk hv (HO.out W hW))
    obtain ⟨hk0, hk1, hk2, hk3, _⟩ := kindAt_some hk
    obtain ⟨kw1, kw2, kw3⟩ := kindMay_w hk3
    have hl := kindMay_len hk3
    have hlc := (HF.out w hs).most
    clear hk hv hs HO hf
    by_cases hlen : vs.length ≠ fs.length
    · rw [if_pos hlen] at hR
      subst hR
      have hln : ((vs.length : Int) != (fs.length : Int)) = true := by simp; omega
      obtain ⟨n, hn⟩ : ∃ n, n = fs.length := ⟨_, rfl⟩
      rw [← hn] at hln HO2
      clear hlen hl hn kw1 kw2 kw3
      generalize vs.length = m at *
      go_enter Tryz.func66, Tryz.ntmps66
      go_wp2_with fail
      refine wp_scope_ghost 0 (fun _ _ _ => False) rfl (fun _ _ _ h => h.elim) fun _ => ?_
      go_wp2_with (go_at_call 135; refine (HO2.out _ HS.out).mono ?_; rintro e w2 ⟨a2, c2, rfl, hrd, h2⟩)
      simp only [Exit.jump]
      go_ret2
      exact ⟨_, rfl, wrow_nil (Sat.right (h2.alloc _))⟩
    · have hvl : vs.length = fs.length := Classical.not_not.1 hlen
      rw [if_neg hlen] at hR
      have hR2 : R = En.ans [(hdrW k (kindW fs) e : Int)] (encF (fs.drop 0) (vs.drop 0)) := by
        rw [hR, List.drop_zero, List.drop_zero]
        cases encF fs vs <;> rfl
      have HR := Lib.hid hR2
      have HVL := Lib.hid hvl
      have HWF := Lib.hid hwf
      have HL := Lib.hid hl
      have hkn : kindW fs ≠ 0 := by omega
      have HKN := Lib.hid hkn
      have HK64 := Lib.hid hk64
      have HKR : Hid (I64 (kindW fs)) := Lib.hid ⟨by omega, by omega⟩
      clear hR hR2 hlen hwf hl hkn kw1 kw2 kw3 hk64
      obtain ⟨N, hN⟩ : ∃ N, N = fs.length := ⟨_, rfl⟩
      have HN := Lib.hid hN
      have hln : ((N : Int) != (N : Int)) = false := by simp
      rw [hvl, ← hN] at hfc hlc HF ⊢
      rw [← hN] at HL HO2
      clear hvl hN
      go_enter Tryz.func66, Tryz.ntmps66
      go_wp2_with fail
      refine wp_scope_ghost 0 (En.J E (.slice ao ks.length c) (.int .i64 k) (.slice fa N fc) (.int .u64 (e : Int)) F N fs vs R) rfl ?_ ?_
      · rintro n a W ⟨g, i, a2, c2, a3, c3, out, hn, hi, hr, hol, hrd, hW, ha⟩
        obtain ⟨u, hu⟩ : ∃ u : Nat → Value, u = fun k => a.tmps.getD k undef := ⟨_, rfl⟩
        unfold En.fr at ha
        rw [← hu] at ha
        clear hu
        unfold En.arr at ha
        subst ha
        have HRD := Lib.hid hrd
        have HRR := Lib.hid hr
        have HW := Lib.hid hW
        clear hrd hr
        by_cases h0 : i = N
        · subst h0
          have e0 : R = (0, out) := by
            rw [HRR.out, HN.out, encF_end HVL.out, En.ans, List.append_nil]
          subst e0
          clear hW hn
          go_wp2_with fail
          simp only [Exit.jump]
          go_ret2
          exact ⟨_, rfl, HW.out.right⟩
        · have hi1 : (i : Int) < N := by omega
          have hiN : i < fs.length := by have := HN.out; omega
          have hvN : vs.length = N := by rw [HVL.out, HN.out]
          have hiv : i < vs.length := by omega
          have hN15 : N ≤ 15 := HL.out.2.1
          have hi15 : (i : Int) ≤ 15 := by omega
          have h0' : ((i : Int) == (N : Int)) = false := by simp; omega
          have z0 : W.cell? ⟨g, 0, none⟩ = some (.slice a2 N c2) := hW.cell 0 rfl
          have cx : ∃ b o, a2 = some ⟨b, o, none⟩ ∧ W.cell? ⟨b, o + i, none⟩ = some (.int .i64 (fs.getD i 0)) := by
            have hr0 := HRD.out W hW.right.right
            obtain ⟨b, o, rfl, _⟩ := hr0.at (by omega)
            exact ⟨b, o, rfl, Rd.nthI hr0 i (by omega)⟩
          obtain ⟨b, o, rfl, cx⟩ := cx
          have hrv := HF.out W hW.right.right
          rw [← hvN] at hrv
          obtain ⟨bb, oo, rfl, y0, y1, y2, y3, y4⟩ := RdV.nth hrv i hiv
          have hst := encF_drop HVL.out hiN
          have e2 : vs.getD i Val.nil = vs[i] := by rw [List.getD_eq_getElem?_getD, List.getElem?_eq_getElem hiv]; rfl
          rw [e2] at hst
          have hvw0 : (vs[i]).Wf := HWF.out _ (List.getElem_mem hiv)
          clear e2 hrv
          generalize vs[i] = v at *
          generalize fs.getD i 0 = f at *
          have HST := Lib.hid hst
          have HVW0 := Lib.hid hvw0
          have HVW : Hid (∀ W, Sat E W (pt g (.cells #[.slice (some ⟨b, o, none⟩) N c2] 62) * (words (.slice a3 out.length c3) out * F)) → Calls Tryz.prog 137 #[.int .i64 f, .agg #[.int .i64 v.kind, .int .i64 v.int, .int .u64 v.re, .int .u64 v.im, .int .i64 v.ref]] W fun e w' => ∃ s, e = .returned (.tuple #[s, .bool (valW f v).isSome]) ∧ Sat E w' (words s ((valW f v).getD []) * (pt g (.cells #[.slice (some ⟨b, o, none⟩) N c2] 62) * (words (.slice a3 out.length c3) out * F)))) := Lib.hid fun W hW => valWords_calls W f v HVW0.out hW
          have HOL := Lib.hid hol
          have hcmp : ¬ N ≤ i := by omega
          clear hst hvw0 hW hol hiv hiN
          go_upto_region 11 with fail
          go_cut [13, 11] (fun s13 b11 wx => b11 = .bool (valW f v).isSome ∧ Sat E wx (words s13 ((valW f v).getD []) * (pt g (.cells #[.slice (some ⟨b, o, none⟩) N c2] 62) * (words (.slice a3 out.length c3) out * F))))
          case first =>
            go_region_with (go_at_call 137; refine (HVW.out _ (by first | exact HW.out | exact HW.out.drew | exact HW.out.drewN _)).mono ?_; rintro e4 w4 ⟨s4, rfl, h4⟩)
            all_goals
              go_wp2_with fail
              go_meet
              exact ⟨rfl, h4⟩
          case rest =>
            obtain ⟨rfl, h5⟩ := hcut
            clear y0 y1 y2 y3 y4 z0 cx HW HVW
            rename World => W5
            cases hvw : valW f v with
            | none =>
              rw [hvw] at h5
              have e0 : R = (3, []) := by rw [HRR.out, HST.out, hvw]; rfl
              subst e0
              have H6 := Lib.hid (wrow_nil h5.right.right.right)
              clear h5 hvw
              go_wp2_with fail
              simp only [Exit.jump]
              go_ret2
              exact ⟨_, rfl, H6.out⟩
            | some l =>
              rw [hvw] at h5
              simp only [Option.getD_some] at h5
              have e0 : R = En.ans (out ++ l) (encF (fs.drop (i + 1)) (vs.drop (i + 1))) := by
                rw [HRR.out, HST.out, hvw]
                simp only
                cases encF (fs.drop (i + 1)) (vs.drop (i + 1)) with
                | none => rfl
                | some t => simp [En.ans]
              have hl2 : l.length ≤ 2 := by
                have := valW_length hvw
                have := kw_range f
                omega
              have HE0 := Lib.hid e0
              have HA1 : Hid (Sat E W5 (words (.slice a3 out.length c3) out * (pt g (.cells #[.slice (some ⟨b, o, none⟩) N c2] 62) * (words u13 l * F)))) := Lib.hid (h5.ac (by ac_rfl))
              have HA2 : Hid (Rd W5 1 u13 l.length (u64s l)) := Lib.hid (Sat.rd (show Sat E W5 (row 24 1 u13 l.length (u64s l) * _) from h5))
              have HA3 : Hid (out.length + l.length ≤ 1000000) := Lib.hid (by have := HOL.out; omega)
              have HNX : Hid (∀ r ra rc W' a, r = out ++ l → Sat E W' (words (.slice ra r.length rc) r * (pt g (.cells #[.slice (some ⟨b, o, none⟩) N c2] 62) * (words u13 l * F))) → En.fr (.slice ao ks.length c) (.int .i64 k) (.slice (some ⟨bb, oo, none⟩) N fc) (.int .u64 (e : Int)) (.slice ra r.length rc) g (i + 1) a → ∃ n', n' < n ∧ En.J E (.slice ao ks.length c) (.int .i64 k) (.slice (some ⟨bb, oo, none⟩) N fc) (.int .u64 (e : Int)) F N fs vs R n' a W') := Lib.hid fun r ra rc W' a hr h ha =>
                ⟨N - (i + 1), by omega, g, i + 1, some ⟨b, o, none⟩, c2, ra, rc, r, rfl, by omega, by rw [hr]; exact HE0.out, by rw [hr, List.length_append]; have := HOL.out; omega, HRD.out, Sat.right (h.ac (B := words u13 l * (pt g (.cells #[.slice (some ⟨b, o, none⟩) N c2] 62) * (words (.slice ra r.length rc) r * F))) (by ac_rfl)), ha⟩
              clear h5 hvw e0 hl2
              go_wp2_with (at_builtin; refine wpl_app64 rfl _ _ rfl HA1.out rfl HA2.out rfl HA3.out ?_; intro r er ra rc w6 h6)
              refine wp_goto ?_
              show (0 : Nat) = 0 ∧ _
              exact ⟨rfl, HNX.out _ _ _ _ _ er.out h6 rfl⟩
      · intro hpass
        go_upto_region 2 with (go_at_call 135; refine (HO2.out _ HS.out).mono ?_; rintro e w2 ⟨a2, c2, rfl, hrd, h2⟩)
        refine atSat _ (h2.alloc (.cells #[.slice a2 N c2] 62)) fun W h3 => ?_
        generalize w2.heap.size = g at h3 ⊢
        have z0 : W.cell? ⟨g, 0, none⟩ = some (.slice a2 N c2) := h3.cell 0 rfl
        have HRD := Lib.hid hrd
        have HKW := Lib.hid (kWords_calls W fs (.slice a2 N c2) (fun W2 hW2 => by rw [← HN.out]; exact HRD.out W2 hW2.right) h3)
        have HHM := Lib.hid (fun W2 (hW : Sat E W2 (pt g (.cells #[.slice a2 N c2] 62) * F)) => hMake_calls W2 k (kindW fs) e HK64.out HKR.out hW)
        have HJ0 : Hid (∀ W' b a, Sat E W' (words (.slice (some ⟨b, 0, none⟩) 1 1) [(hdrW k (kindW fs) e : Int)] * (pt g (.cells #[.slice a2 N c2] 62) * F)) → En.fr (.slice ao ks.length c) (.int .i64 k) (.slice fa N fc) (.int .u64 (e : Int)) (.slice (some ⟨b, 0, none⟩) 1 1) g 0 a → En.J E (.slice ao ks.length c) (.int .i64 k) (.slice fa N fc) (.int .u64 (e : Int)) F N fs vs R N a W') := Lib.hid fun W' b a h ha =>
          ⟨g, 0, a2, c2, some ⟨b, 0, none⟩, 1, [(hdrW k (kindW fs) e : Int)], rfl, Nat.zero_le _, HR.out, Nat.le_refl _, HRD.out, Sat.swap h, ha⟩
        clear hrd h2 h3
        generalize hdrW k (kindW fs) e = hd at HHM HJ0
        generalize kindW fs = kf at HKW HHM
        go_wp2_with (first | (go_at_call 64; refine HKW.out.mono ?_; rintro e w4 ⟨rfl, h4⟩; have HX := Lib.hid h4) | (go_at_call 136; refine (HHM.out _ HX.out).mono ?_; rintro e w5 ⟨rfl, h5⟩))
        refine wp_label ?_
        simp only [Exit.then]
        go_step
        refine hpass _ _ _ (HJ0.out _ _ _ (words_new1 h5 _) ?_)
        exact rfl
end
end Scul
/- object: Decode. -/
namespace Scul
open Go Go.Sl Go.RowKit Go.Proofs
/-- What Decode answers: kind, fields, epoch, the error. -/
def objDA : Option (Int × List Val × Nat) → Int × List Val × Nat × Int
  | none => (0, [], 0, 8)
  | some (k, vs, e) => (k, vs, e, 0)
def De.ans (k : Int) (e : Nat) (out : List Val) : Option (List Val) → Int × List Val × Nat × Int
  | none => (0, [], 0, 8)
  | some vs => (k, out ++ vs, e, 0)
theorem decF_drop {fs : List Int} {i : Nat} (h : i < fs.length) (r : List Int) :
    decF (fs.drop i) (r.drop (kwSum (fs.take i)).toNat) = match valO (fs.getD i 0) ((r.drop (kwSum (fs.take i)).toNat).take (kw (fs.getD i 0)).toNat) with
      | none => none
      | some v => (decF (fs.drop (i + 1)) (r.drop (kwSum (fs.take (i + 1))).toNat)).map (v :: ·) := by
  have e1 : fs.getD i 0 = fs[i] := by rw [List.getD_eq_getElem?_getD, List.getElem?_eq_getElem h]; rfl
  rw [List.drop_eq_getElem_cons h, kwSum_take_succ fs i h, e1]
  have h1 := (kwSum_range (fs.take i)).1
  have h2 := (kw_range fs[i]).1
  show (match valO fs[i] _ with | none => none | some v => _) = _
  rw [List.drop_drop, Int.toNat_add h1 h2]
theorem kwSum_take_le (fs : List Int) (j : Nat) : kwSum (fs.take j) ≤ kwSum fs := by
  have h := kwSum_append (fs.take j) (fs.drop j)
  rw [List.take_append_drop] at h
  have := (kwSum_range (fs.drop j)).1
  omega
theorem kw_pos {fs : List Int} (h : ∀ f ∈ fs, f = 1 ∨ f = 2 ∨ f = 3) {i : Nat} (hi : i < fs.length) : 1 ≤ kw (fs.getD i 0) := by
  have := h (fs.getD i 0) (by rw [List.getD_eq_getElem?_getD, List.getElem?_eq_getElem hi]; exact List.getElem_mem hi)
  unfold kw
  split
  · omega
  · split <;> omega
section
variable {E : Env} {w : World} {F : HP}
theorem hParse_none {w : World} {x : Int} (hx : U64 x) (h : hdrP x.toNat = none) : Calls Tryz.prog 178 #[.int .u64 x] w fun e w' => e = .returned (.tuple #[.int .i64 0, .int .i64 0, .int .u64 0, .bool false]) ∧ w' = w := by
  obtain ⟨X, rfl, hX⟩ := u64_nat hx
  have := hParse_calls w X hX
  rw [Int.toNat_natCast] at h
  unfold hdrPV at this
  rwa [h] at this
theorem hParse_some {w : World} {x : Int} (hx : U64 x) {k n e : Nat} (h : hdrP x.toNat = some (k, n, e)) : Calls Tryz.prog 178 #[.int .u64 x] w fun e' w' => e' = .returned (.tuple #[.int .i64 (k : Int), .int .i64 (n : Int), .int .u64 (e : Int), .bool true]) ∧ w' = w := by
  obtain ⟨X, rfl, hX⟩ := u64_nat hx
  have := hParse_calls w X hX
  rw [Int.toNat_natCast] at h
  unfold hdrPV at this
  rwa [h] at this
set_option maxHeartbeats 4000000 in
theorem decode_calls (w : World) (ks : List (Value × List Int)) (kv sv : Value) (l : List Int) (hl : ∀ x ∈ l, U64 x) (hv : ∀ W, Sat E W F → RdK W kv ks) (hw : ∀ W, Sat E W F → Rd W 1 sv l.length (u64s l)) (hs : Sat E w F) :
    Calls Tryz.prog 147 #[kv, sv] w fun e' w' => ∃ s, e' = .returned (.tuple #[.int .i64 (objDA (objD (ks.map (·.2)) l)).1, s, .int .u64 ((objDA (objD (ks.map (·.2)) l)).2.2.1 : Int), .int .i64 (objDA (objD (ks.map (·.2)) l)).2.2.2]) ∧ Sat E w' (valRow s (objDA (objD (ks.map (·.2)) l)).2.1 * F) := by
  obtain ⟨R, hR⟩ : ∃ R, R = objDA (objD (ks.map (·.2)) l) := ⟨_, rfl⟩
  rw [← hR]
  have HS := Lib.hid hs
  have HO := Lib.hid (fun W (k : Int) (hW : Sat E W F) => objOf_calls W ks kv k hv hW)
  obtain ⟨ao, c, rfl, hc⟩ := (hv w hs).val
  obtain ⟨fa, fc, rfl, hfc⟩ := Rd.val (hw w hs)
  have HW := Lib.hid hw
  have hm := (hw w hs).most
  cases l with
  | nil =>
    subst hR
    clear hs HO hw hv HW
    go_enter Tryz.func147, Tryz.ntmps147
    go_wp2_with fail
    refine bodyPost_ret (results_tmp4 rfl _ _ _) rfl ?_
    exact ⟨_, rfl, valRow_nil HS.out⟩
  | cons x r =>
    obtain ⟨L, hL⟩ : ∃ L, L = (x :: r).length := ⟨_, rfl⟩
    have HL := Lib.hid hL
    rw [← hL] at hfc hm HW ⊢
    have hL1 : 1 ≤ L := by rw [hL]; simp
    have hL0 : ((L : Int) == 0) = false := by simp; omega
    obtain ⟨b, o, rfl, hcx⟩ := (HW.out w hs).at (by omega)
    have HC0 : Hid (∀ W, Sat E W F → W.cell? ⟨b, o, none⟩ = some (.int .u64 x)) := Lib.hid fun W hW => by
      obtain ⟨b', o', e, h⟩ := (HW.out W hW).at (by omega)
      simp only [Option.some.injEq, Addr.mk.injEq, and_true] at e
      obtain ⟨rfl, rfl⟩ := e
      exact h 0 _ rfl
    have c0 := HC0.out w hs
    have hx := hl x (by simp)
    have HU := Lib.hid hl
    clear hcx hw hl hL
    cases hp : hdrP x.toNat with
    | none =>
      have e0 : R = (0, [], 0, 8) := by rw [hR]; unfold objD; simp only; rw [hp]; rfl
      subst e0
      have HP := Lib.hid (fun W => hParse_none (w := W) hx hp)
      cases hk : kindAt (ks.map (·.2)) 0 with
      | none =>
        have HO2 := Lib.hid (fun W hW => objOf_none hk (HO.out W 0 hW))
        clear hR hp hk hv hs HO hx
        go_enter Tryz.func147, Tryz.ntmps147
        go_wp2_with (first | (go_at_call 178; refine (HP.out _).mono ?_; rintro e w' ⟨rfl, rfl⟩) | (go_at_call 135; refine (HO2.out _ HS.out).mono ?_; rintro e w2 ⟨rfl, h2⟩))
        refine bodyPost_ret (results_tmp4 rfl _ _ _) rfl ?_
        exact ⟨_, rfl, valRow_nil (Sat.right (h2.alloc _))⟩
      | some fs =>
        have HO2 := Lib.hid (fun W hW => objOf_some hk hv (HO.out W 0 hW))
        clear hR hp hk hv hs HO hx
        generalize fs.length = n at HO2
        go_enter Tryz.func147, Tryz.ntmps147
        go_wp2_with (first | (go_at_call 178; refine (HP.out _).mono ?_; rintro e w' ⟨rfl, rfl⟩) | (go_at_call 135; refine (HO2.out _ HS.out).mono ?_; rintro e w2 ⟨a2, c2, rfl, hrd, h2⟩))
        refine bodyPost_ret (results_tmp4 rfl _ _ _) rfl ?_
        exact ⟨_, rfl, valRow_nil (Sat.right (h2.alloc _))⟩
    | some q =>
      obtain ⟨k, n, e⟩ := q
      have HP := Lib.hid (fun W => hParse_some (w := W) hx hp)
      cases hk : kindAt (ks.map (·.2)) (k : Int) with
      | none =>
        have e0 : R = (0, [], 0, 8) := by rw [hR]; unfold objD; simp only; rw [hp]; simp only; rw [hk]; rfl
        subst e0
        have HO2 := Lib.hid (fun W hW => objOf_none hk (HO.out W k hW))
        clear hR hp hk hv hs HO hx
        go_enter Tryz.func147, Tryz.ntmps147
        go_wp2_with (first | (go_at_call 178; refine (HP.out _).mono ?_; rintro e w' ⟨rfl, rfl⟩) | (go_at_call 135; refine (HO2.out _ HS.out).mono ?_; rintro e w2 ⟨rfl, h2⟩))
        refine bodyPost_ret (results_tmp4 rfl _ _ _) rfl ?_
        exact ⟨_, rfl, valRow_nil (Sat.right (h2.alloc _))⟩
      | some fs =>
        have HO2 := Lib.hid (fun W hW => objOf_some hk hv (HO.out W k hW))
        obtain ⟨_, _, _, hk3, _⟩ := kindAt_some hk
        obtain ⟨kw1, kw2, kw3⟩ := kindMay_w hk3
        have hl := kindMay_len hk3
        have hR1 : R = objDA (if (n : Int) ≠ kindW fs ∨ (x :: r).length < n then none else (decF fs r).map fun vs => ((k : Int), vs, e)) := by
          rw [hR]; unfold objD; simp only; rw [hp]; simp only; rw [hk]
        rw [← HL.out] at hR1
        have HKN : Hid (kindW fs ≠ 0) := Lib.hid (by omega)
        have HKS := Lib.hid kw1
        have HFL := Lib.hid hl
        obtain ⟨N, hN⟩ : ∃ N, N = fs.length := ⟨_, rfl⟩
        have HN := Lib.hid hN
        have hN15 : N ≤ 15 := by rw [hN]; exact hl.2.1
        rw [← hN] at HO2
        have HKW := Lib.hid (fun (W : World) (g : Nat) (a2 : Option Addr) (c2 : Nat) (hrd : ∀ W, Sat E W F → Rd W 1 (.slice a2 N c2) N (i64s fs)) (hW : Sat E W (pt g (.cells #[.slice a2 N c2] 62) * F)) => kWords_calls W fs (.slice a2 N c2) (fun W2 hW2 => by rw [← hN]; exact hrd W2 hW2.right) hW)
        have hn16 := kw3
        clear hR hp hk hv hs HO hx hN hl kw2
        have ARM := HKW
        by_cases hnk : (n : Int) = kindW fs
        · rw [← hnk] at hn16
          have hk0 : ((n : Int) != (n : Int)) = false := by simp
          have HKW2 : Hid (∀ (W : World) (g : Nat) (a2 : Option Addr) (c2 : Nat) (hrd : ∀ W, Sat E W F → Rd W 1 (.slice a2 N c2) N (i64s fs)) (hW : Sat E W (pt g (.cells #[.slice a2 N c2] 62) * F)), Calls Tryz.prog 64 #[.agg #[.slice a2 N c2]] W fun e w' => e = .returned (.int .i64 (n : Int)) ∧ Sat E w' (pt g (.cells #[.slice a2 N c2] 62) * F)) := Lib.hid fun W g a2 c2 hrd hW => by rw [hnk]; exact ARM.out W g a2 c2 hrd hW
          clear ARM HKW
          by_cases hLn : n ≤ L
          · have e0 : R = De.ans (k : Int) e [] (decF (fs.drop 0) (r.drop (kwSum (fs.take 0)).toNat)) := by
              rw [hR1, if_neg (by simp only [not_or, Classical.not_not]; exact ⟨hnk, by omega⟩)]
              simp only [List.drop_zero, List.take_zero, kwSum, Int.toNat_zero]
              cases decF fs r <;> rfl
            have HE0 := Lib.hid e0
            have hnk2 : (n : Int) = 1 + kwSum fs := hnk.trans kw1
            have HNK := Lib.hid hnk2
            have hnL : (n : Int) ≤ L := by omega
            have hcmp : ¬ L < n := by omega
            clear hR1 e0 hnk hnk2 kw1 kw3 hLn
            go_enter Tryz.func147, Tryz.ntmps147
            go_wp2_with (first | (go_at_call 178; refine (HP.out _).mono ?_; rintro e w' ⟨rfl, rfl⟩) | (go_at_call 135; refine (HO2.out _ HS.out).mono ?_; rintro e w2 ⟨a2, c2, rfl, hrd, h2⟩) | (go_at_call 64; refine (HKW2.out _ _ _ _ hrd (h2.alloc _)).mono ?_; rintro e w3 ⟨rfl, h3⟩; have z0 : w3.cell? ⟨w2.heap.size, 0, none⟩ = some (.slice a2 N c2) := h3.cell 0 rfl))
            have HRD := Lib.hid hrd
            have H3 := Lib.hid h3
            clear hrd h2 h3 HO2 HKW2 HP
            go_loopw [60, 14] (fun iv tv wr => ∃ (i : Nat) (out : List Val) (a3 : Option Addr) (c3 : Nat), i ≤ N ∧ iv = .int .i64 (i : Int) ∧ tv = .slice a3 out.length c3 ∧ out.length = i ∧ R = De.ans (k : Int) e out (decF (fs.drop i) (r.drop (kwSum (fs.take i)).toNat)) ∧ Sat E wr (valRow (.slice a3 out.length c3) out * (pt w2.heap.size (.cells #[.slice a2 N c2] 62) * F))) (fun iv _ _ => N - (RowKit.intOf iv).toNat)
            case atStart => exact ⟨0, [], none, 0, Nat.zero_le _, rfl, rfl, rfl, HE0.out, valRow_nil H3.out⟩
            case round =>
              obtain ⟨i, out, a3, c3, hi, rfl, rfl, ho, hr, hW⟩ := hrel
              have HRR := Lib.hid hr
              have HWr := Lib.hid hW
              have HOO := Lib.hid ho
              clear hr z0 H3 HE0
              by_cases hin : i = N
              · subst hin
                have e0 : R = ((k : Int), out, e, 0) := by
                  rw [HRR.out, HN.out, List.drop_length]
                  show ((k : Int), out ++ [], e, (0 : Int)) = _
                  rw [List.append_nil]
                subst e0
                clear hW ho
                go_wp2_with fail
                refine bodyPost_ret (results_tmp4 rfl _ _ _) rfl ?_
                exact ⟨_, rfl, HWr.out.ac (by ac_rfl) |>.right⟩
              · have hi1 : (i : Int) < N := by omega
                have hiN : i < fs.length := by have := HN.out; omega
                have hw1 := kwSum_range (fs.take i)
                have hf1 := kw_pos HFL.out.2.2 hiN
                have hkt := kwSum_take_succ fs i hiN
                have hf2 := kw_range (fs.getD i 0)
                have hle := kwSum_take_le fs (i + 1)
                have hst := decF_drop hiN r
                have hNK := HNK.out
                obtain ⟨A, hA⟩ : ∃ A : Nat, (A : Int) = 1 + kwSum (fs.take i) := ⟨(1 + kwSum (fs.take i)).toNat, by omega⟩
                obtain ⟨B, hB⟩ : ∃ B : Nat, (B : Int) = 1 + kwSum (fs.take (i + 1)) := ⟨(1 + kwSum (fs.take (i + 1))).toNat, by omega⟩
                have hBA : B = A + (kw (fs.getD i 0)).toNat := by omega
                have hAB : A < B := by omega
                have hBn : B ≤ n := by omega
                have hAk : (kwSum (fs.take i)).toNat = A - 1 := by omega
                have hA1 : 1 ≤ A := by omega
                have hseg : (r.drop (kwSum (fs.take i)).toNat).take (kw (fs.getD i 0)).toNat = ((x :: r).drop A).take (B - A) := by
                  obtain ⟨A', rfl⟩ : ∃ m, A = m + 1 := ⟨A - 1, by omega⟩
                  rw [hAk, List.drop_succ_cons, show B - (A' + 1) = (kw (fs.getD i 0)).toNat by omega]
                  rfl
                rw [hseg] at hst
                have hsl : (((x :: r).drop A).take (B - A)).length = B - A := by
                  have := HL.out
                  rw [List.length_take, List.length_drop, ← this]
                  omega
                have hsu : ∀ y ∈ ((x :: r).drop A).take (B - A), U64 y := fun y hy => HU.out y (List.mem_of_mem_drop (List.mem_of_mem_take hy))
                have HOF : Hid (∀ (W : World) (j z : Int), ((j = (i : Int) ∧ z = A) ∨ (j = (i : Int) + 1 ∧ (i : Int) + 1 < N ∧ z = B)) → Sat E W (valRow (.slice a3 out.length c3) out * (pt w2.heap.size (.cells #[.slice a2 N c2] 62) * F)) → Calls Tryz.prog 176 #[.agg #[.slice a2 N c2], .int .i64 j] W fun e w' => e = .returned (.int .i64 z) ∧ Sat E w' (valRow (.slice a3 out.length c3) out * (pt w2.heap.size (.cells #[.slice a2 N c2] 62) * F))) := Lib.hid fun W j z hj hW => by
                  rcases hj with ⟨rfl, rfl⟩ | ⟨rfl, hlt, rfl⟩
                  · rw [hA]
                    exact offset_calls W fs (.slice a2 N c2) i hiN HKN.out (fun W2 h2 => by rw [← HN.out]; exact HRD.out W2 h2.right.right) hW
                  · rw [hB]
                    exact offset_calls W fs (.slice a2 N c2) (i + 1) (by have := HN.out; omega) HKN.out (fun W2 h2 => by rw [← HN.out]; exact HRD.out W2 h2.right.right) hW
                have HVO := Lib.hid (fun (W : World) (hW : Sat E W (valRow (.slice a3 out.length c3) out * (pt w2.heap.size (.cells #[.slice a2 N c2] 62) * F))) => valOf_calls W (fs.getD i 0) (((x :: r).drop A).take (B - A)) (.slice (some ⟨b, o + A, none⟩) (B - A) (fc - A)) hsu (fun W2 h2 => by
                  have h3 := Rd.cut (HW.out W2 h2.right.right) A B (by omega) (by omega) (ao := some ⟨b, o + A, none⟩) (fun _ => rfl) (fun h => absurd h (by omega)) rfl rfl
                  rw [hsl, u64s_take, show u64s ((x :: r).drop A) = (u64s (x :: r)).drop A by simp [u64s]]
                  exact h3) hW)
                have cx : ∃ b2 o2, a2 = some ⟨b2, o2, none⟩ ∧ wr.cell? ⟨b2, o2 + i, none⟩ = some (.int .i64 (fs.getD i 0)) := by
                  have hr0 := HRD.out wr hW.right.right
                  obtain ⟨b2, o2, rfl, _⟩ := hr0.at (by omega)
                  exact ⟨b2, o2, rfl, Rd.nthI hr0 i (by omega)⟩
                obtain ⟨b2, o2, rfl, cx⟩ := cx
                have z0 : wr.cell? ⟨w2.heap.size, 0, none⟩ = some (.slice (some ⟨b2, o2, none⟩) N c2) := hW.right.cell 0 rfl
                have HBN : Hid (¬ (i : Int) + 1 < N → B = n) := Lib.hid fun h => by
                  have e1 : i + 1 = fs.length := by have := HN.out; omega
                  rw [e1, List.take_length] at hB
                  omega
                generalize ((x :: r).drop A).take (B - A) = sg at *
                generalize fs.getD i 0 = f at *
                have HST := Lib.hid hst
                have hBL : B ≤ L := by omega
                have hBc : B ≤ fc := by omega
                have hAc : ¬ fc = A := by omega
                have hi15 : (i : Int) ≤ 15 := by omega
                clear hw1 hf1 hkt hf2 hle hst hNK hBA hAk hseg hsl hsu hW ho hA hB
                go_upto_region 12 with (go_at_call 176; refine (HOF.out _ _ _ (by first | exact .inl ⟨rfl, rfl⟩ | exact .inr ⟨rfl, by assumption, rfl⟩) (by first | exact hh.out | exact HWr.out)).mono ?_; rintro e4 w4 ⟨rfl, h4⟩; have hh := Lib.hid h4)
                clear cx z0
                have z0 : w4.cell? ⟨w2.heap.size, 0, none⟩ = some (.slice (some ⟨b2, o2, none⟩) N c2) := h4.right.cell 0 rfl
                clear h4
                go_upto_if 74 with fail
                go_cut [18] (fun s18 wx => s18 = .int .i64 (B : Int) ∧ Sat E wx (valRow (.slice a3 out.length c3) out * (pt w2.heap.size (.cells #[.slice (some ⟨b2, o2, none⟩) N c2] 62) * F)))
                case first =>
                  by_cases hlast : (i : Int) + 1 < N
                  · go_wp2_with (go_at_call 176; refine (HOF.out _ _ _ (by first | exact .inl ⟨rfl, rfl⟩ | exact .inr ⟨rfl, by assumption, rfl⟩) (by first | exact hh.out | exact HWr.out)).mono ?_; rintro e4 w4 ⟨rfl, h4⟩; have hh := Lib.hid h4)
                    go_meet
                    exact ⟨rfl, h4⟩
                  · have hBn2 := HBN.out (by omega)
                    subst hBn2
                    go_wp2_with fail
                    go_meet
                    exact ⟨rfl, hh.out⟩
                case rest =>
                  obtain ⟨rfl, h5⟩ := hcut
                  clear z0 hh HOF
                  rename World => W5
                  have H5 := Lib.hid h5
                  clear h5
                  unfold valOV at HVO
                  cases hvo : valO f sg with
                  | none =>
                    rw [hvo] at HVO
                    simp only [Option.getD_none, Option.isSome_none, vagg, vcells, Val.nil] at HVO
                    have e0 : R = (0, [], 0, 8) := by rw [HRR.out, HST.out, hvo]; rfl
                    subst e0
                    clear hvo
                    go_wp2_with (go_at_call 179; refine (HVO.out _ H5.out).mono ?_; rintro e6 w6 ⟨rfl, h6⟩)
                    refine bodyPost_ret (results_tmp4 rfl _ _ _) rfl ?_
                    exact ⟨_, rfl, valRow_nil (Sat.right (Sat.right (Sat.right (h6.alloc _))))⟩
                  | some v =>
                    rw [hvo] at HVO
                    simp only [Option.getD_some, Option.isSome_some, vagg, vcells] at HVO
                    have e0 : R = De.ans (k : Int) e (out ++ [v]) (decF (fs.drop (i + 1)) (r.drop (kwSum (fs.take (i + 1))).toNat)) := by
                      rw [HRR.out, HST.out, hvo]
                      simp only
                      cases decF (fs.drop (i + 1)) (r.drop (kwSum (fs.take (i + 1))).toNat) with
                      | none => rfl
                      | some t => simp [De.ans]
                    have HE1 := Lib.hid e0
                    have HB1 : Hid (out.length + 1 ≤ 1000000) := Lib.hid (by have := HOO.out; omega)
                    have HAL : Hid (∀ W, Sat E W (valRow (.slice a3 out.length c3) out * (pt w2.heap.size (.cells #[.slice (some ⟨b2, o2, none⟩) N c2] 62) * F)) → ∀ A B, Sat E ((W.alloc A).alloc B) (pt (W.heap.size + 1) B * (valRow (.slice a3 out.length c3) out * (pt W.heap.size A * (pt w2.heap.size (.cells #[.slice (some ⟨b2, o2, none⟩) N c2] 62) * F))))) := Lib.hid fun W hW A B => (Sat.alloc2 hW A B).ac (by ac_rfl)
                    clear hvo e0
                    go_wp2_with (first | (go_at_call 179; refine (HVO.out _ H5.out).mono ?_; rintro e6 w6 ⟨rfl, h6⟩; have h66 := Lib.hid h6; clear h6) | (at_builtin; refine wpl_pushV rfl _ _ rfl (X := v) (HAL.out _ h66.out _ _) rfl rfl HB1.out ?_; intro rr er ra rc w7 h7))
                    refine ⟨⟨i + 1, rr, ra, rc, by omega, rfl, rfl, by rw [er.out, List.length_append, HOO.out]; rfl, by rw [er.out]; exact HE1.out, ?_⟩, by simp [RowKit.intOf]; omega⟩
                    exact Sat.right (h7.ac (B := pt w6.heap.size _ * (valRow (.slice ra rr.length rc) rr * (pt w2.heap.size (.cells #[.slice (some ⟨b2, o2, none⟩) N c2] 62) * F))) (by ac_rfl))
          · have e0 : R = (0, [], 0, 8) := by rw [hR1, if_pos (.inr (by omega))]; rfl
            subst e0
            have hnL : (L : Int) < n := by omega
            clear hR1 hnk hLn kw1 kw3
            go_enter Tryz.func147, Tryz.ntmps147
            go_wp2_with (first | (go_at_call 178; refine (HP.out _).mono ?_; rintro e w' ⟨rfl, rfl⟩) | (go_at_call 135; refine (HO2.out _ HS.out).mono ?_; rintro e w2 ⟨a2, c2, rfl, hrd, h2⟩) | (go_at_call 64; refine (HKW2.out _ _ _ _ hrd (h2.alloc _)).mono ?_; rintro e w3 ⟨rfl, h3⟩))
            refine bodyPost_ret (results_tmp4 rfl _ _ _) rfl ?_
            exact ⟨_, rfl, valRow_nil h3.right⟩
        · have e0 : R = (0, [], 0, 8) := by rw [hR1, if_pos (.inl hnk)]; rfl
          subst e0
          have hk0 : ((n : Int) != kindW fs) = true := by simpa using hnk
          generalize kindW fs = kf at *
          clear hR1 hnk kw1 kw3
          go_enter Tryz.func147, Tryz.ntmps147
          go_wp2_with (first | (go_at_call 178; refine (HP.out _).mono ?_; rintro e w' ⟨rfl, rfl⟩) | (go_at_call 135; refine (HO2.out _ HS.out).mono ?_; rintro e w2 ⟨a2, c2, rfl, hrd, h2⟩) | (go_at_call 64; refine (HKW.out _ _ _ _ hrd (h2.alloc _)).mono ?_; rintro e w3 ⟨rfl, h3⟩))
          refine bodyPost_ret (results_tmp4 rfl _ _ _) rfl ?_
          exact ⟨_, rfl, valRow_nil h3.right⟩
end
end Scul
/- layout: Words, Log, Root, Weak, At, Config, number. -/
namespace Scul
open Go Go.Sl Go.RowKit Go.Proofs
namespace Cfg
/-- A root's word; -1. -/
def rootOf (c : Cfg) (i : Int) : Int := if i < 0 ∨ c.roots ≤ i then -1 else c.rootsAt + i
def weakOf (c : Cfg) (i : Int) : Int := if i < 0 ∨ c.weaks ≤ i then -1 else c.rootsAt + c.roots + i
/-- Where a class's blocks begin. -/
def atSum (c : Cfg) (k : Nat) : Int := if k = 0 then c.blocksAt else if k = 1 then c.blocksAt + 2 * c.n0 else if k = 2 then c.blocksAt + 2 * c.n0 + 4 * c.n1 else c.blocksAt + 2 * c.n0 + 4 * c.n1 + 8 * c.n2
theorem at_cls (c : Cfg) (b : Int) (k : Nat) (hk : k < 4) (h : c.cls b = k) : c.at_ b = c.atSum k + (b - c.from_ k) * (2 * 2 ^ k) := by
  unfold at_ atSum from_
  have : k = 0 ∨ k = 1 ∨ k = 2 ∨ k = 3 := by omega
  rcases this with rfl | rfl | rfl | rfl <;> rw [h] <;> simp <;> omega
end Cfg
section
variable {E : Env} {w : World} {F : HP} {b : Nat} {c : Cfg}
theorem lay_nums (h : Sat E w (lay b c * F)) : w.cell? ⟨b, 5, none⟩ = some (.int .i64 c.roots) ∧ w.cell? ⟨b, 6, none⟩ = some (.int .i64 c.weaks) ∧ w.cell? ⟨b, 7, none⟩ = some (.int .i64 c.log) ∧ w.cell? ⟨b, 8, none⟩ = some (.int .i64 c.rootsAt) ∧ w.cell? ⟨b, 9, none⟩ = some (.int .i64 c.bitsAt) ∧ w.cell? ⟨b, 10, none⟩ = some (.int .i64 c.logAt) ∧ w.cell? ⟨b, 11, none⟩ = some (.int .i64 c.blocksAt) ∧ w.cell? ⟨b, 12, none⟩ = some (.int .i64 c.words) := by
  obtain ⟨kv, ks, _, hs⟩ := lay_open h
  exact ⟨hs.cell 5 rfl, hs.cell 6 rfl, hs.cell 7 rfl, hs.cell 8 rfl, hs.cell 9 rfl, hs.cell 10 rfl, hs.cell 11 rfl, hs.cell 12 rfl⟩
theorem layWords_calls (w : World) (h : Sat E w (lay b c * F)) :
    Calls Tryz.prog 54 #[.pointer (some ⟨b, 0, none⟩)] w fun e w' => e = .returned (.int .i64 c.words) ∧ w' = w := by
  obtain ⟨_, _, _, _, _, _, _, c12⟩ := lay_nums h
  clear h
  generalize c.words = x at *
  go_enter Tryz.func54, Tryz.ntmps54
  go_wp2_with fail
  go_ret
  exact ⟨rfl, rfl⟩
theorem layLog_calls (w : World) (h : Sat E w (lay b c * F)) :
    Calls Tryz.prog 55 #[.pointer (some ⟨b, 0, none⟩)] w fun e w' => e = .returned (.tuple #[.int .i64 c.logAt, .int .i64 (c.logAt + c.log)]) ∧ ∃ m, w' = w.drewN m := by
  obtain ⟨_, _, c7, _, _, c10, _, _⟩ := lay_nums h
  have hn := (lay_ok h).toNear
  have hp := Cfg.near_places hn
  have hl := hn.log
  have h00 : 0 ≤ c.logAt := by
    have h1 : 0 ≤ c.bitsAt := by have := hn.roots; have := hn.weaks; omega
    have h2 : 0 ≤ c.count := hp.2.2.2.2.2.2.2.2.2.1
    unfold Cfg.logAt Cfg.lineOf
    omega
  have h0 : 0 ≤ c.logAt ∧ c.logAt ≤ 130 := ⟨h00, hp.2.2.2.2.2.1⟩
  clear h hn hp
  generalize c.logAt = x at *
  generalize c.log = y at *
  have e1 : IntKind.i64.wrap (x + y) = x + y := wrap_id (by omega) (by omega)
  go_enter Tryz.func55, Tryz.ntmps55
  go_wp2_with fail
  go_quiet (fail)
  go_wp2_with fail
  go_ret2
  exact ⟨rfl, _, rfl⟩
theorem layRoot_calls (w : World) (i : Int) (h : Sat E w (lay b c * F)) :
    Calls Tryz.prog 86 #[.pointer (some ⟨b, 0, none⟩), .int .i64 i] w fun e w' => e = .returned (.int .i64 (c.rootOf i)) ∧ w' = w := by
  obtain ⟨c5, _, _, c8, _⟩ := lay_nums h
  have hn := (lay_ok h).toNear
  have hp := Cfg.near_places hn
  have hr := hn.roots
  have h0 : 0 ≤ c.rootsAt ∧ c.rootsAt ≤ 32 := ⟨by omega, hp.2.1⟩
  obtain ⟨R, hR⟩ : ∃ R, R = c.rootOf i := ⟨_, rfl⟩
  rw [← hR]
  unfold Cfg.rootOf at hR
  clear h hn hp
  generalize c.rootsAt = x at *
  generalize c.roots = y at *
  by_cases h1 : i < 0
  · rw [if_pos (.inl h1)] at hR
    subst hR
    go_enter Tryz.func86, Tryz.ntmps86
    go_wp2_with fail
    go_ret
    exact ⟨rfl, rfl⟩
  by_cases h2 : y ≤ i
  · rw [if_pos (.inr h2)] at hR
    subst hR
    go_enter Tryz.func86, Tryz.ntmps86
    go_wp2_with fail
    go_ret
    exact ⟨rfl, rfl⟩
  rw [if_neg (by omega)] at hR
  subst hR
  have h3 : i < y := by omega
  go_enter Tryz.func86, Tryz.ntmps86
  go_wp2_with fail
  go_ret
  exact ⟨rfl, rfl⟩
theorem layWeak_calls (w : World) (i : Int) (h : Sat E w (lay b c * F)) :
    Calls Tryz.prog 99 #[.pointer (some ⟨b, 0, none⟩), .int .i64 i] w fun e w' => e = .returned (.int .i64 (c.weakOf i)) ∧ ∃ m, w' = w.drewN m := by
  obtain ⟨c5, c6, _, c8, _⟩ := lay_nums h
  have hn := (lay_ok h).toNear
  have hp := Cfg.near_places hn
  have hr := hn.roots
  have hw := hn.weaks
  have h0 : 0 ≤ c.rootsAt ∧ c.rootsAt ≤ 32 := ⟨by omega, hp.2.1⟩
  obtain ⟨R, hR⟩ : ∃ R, R = c.weakOf i := ⟨_, rfl⟩
  rw [← hR]
  unfold Cfg.weakOf at hR
  clear h hn hp
  generalize c.rootsAt = x at *
  generalize c.roots = z at *
  generalize c.weaks = y at *
  by_cases h1 : i < 0
  · rw [if_pos (.inl h1)] at hR
    subst hR
    go_enter Tryz.func99, Tryz.ntmps99
    go_wp2_with fail
    go_ret
    exact ⟨rfl, 0, rfl⟩
  by_cases h2 : y ≤ i
  · rw [if_pos (.inr h2)] at hR
    subst hR
    go_enter Tryz.func99, Tryz.ntmps99
    go_wp2_with fail
    go_ret
    exact ⟨rfl, 0, rfl⟩
  rw [if_neg (by omega)] at hR
  subst hR
  have h3 : i < y := by omega
  have e1 : IntKind.i64.wrap (x + z) = x + z := wrap_id (by omega) (by omega)
  have e2 : IntKind.i64.wrap (x + z + i) = x + z + i := wrap_id (by omega) (by omega)
  go_enter Tryz.func99, Tryz.ntmps99
  go_wp2_with fail
  go_quiet (fail)
  go_wp2_with fail
  go_ret
  exact ⟨rfl, _, rfl⟩
theorem min_run (x y : Int) (w : World) : (Builtin.min_ #[24, 24] 24 #[.int .u64 x, .int .u64 y]).run Tryz.prog w = .ok (.int .u64 (if y < x then y else x)) w := rfl
theorem number_calls (w : World) (x : Int) (hx : U64 x) : Calls Tryz.prog 118 #[.int .u64 x] w fun e w' => e = .returned (.int .i64 (smallW x)) ∧ w' = w := by
  have hm := min_run x 4097
  have e0 : (if (4097 : Int) < x then 4097 else x) = smallW x := by unfold smallW; split <;> omega
  rw [e0] at hm
  have h1 : 0 ≤ smallW x ∧ smallW x ≤ 4097 := by unfold smallW; unfold U64 at hx; omega
  clear e0 hx
  generalize smallW x = y at *
  go_enter Tryz.func118, Tryz.ntmps118
  go_wp2_with fail
  go_ret
  exact ⟨rfl, rfl⟩
theorem atSum_range {c : Cfg} (h : c.Near) (j : Nat) : 0 ≤ c.atSum j ∧ c.atSum j ≤ 20000 := by
  have hp := Cfg.near_places h
  have h0 := h.n0; have h1 := h.n1; have h2 := h.n2; have h3 := h.n3
  have hl : 0 ≤ c.blocksAt := by
    have a1 : 0 ≤ c.bitsAt := by have := h.roots; have := h.weaks; omega
    have a2 : 0 ≤ c.count := hp.2.2.2.2.2.2.2.2.2.1
    have a3 : 0 ≤ c.logAt := by unfold Cfg.logAt Cfg.lineOf; omega
    have := h.log
    unfold Cfg.blocksAt
    omega
  have hu : c.blocksAt ≤ 5000 := hp.2.2.2.2.2.2.1
  unfold Cfg.atSum
  split
  · omega
  · split
    · omega
    · split <;> omega
theorem atSum_succ (c : Cfg) (j : Nat) (hj : j < 3) : c.atSum (j + 1) = c.atSum j + c.blk j * (2 * 2 ^ j) := by
  have : j = 0 ∨ j = 1 ∨ j = 2 := by omega
  rcases this with rfl | rfl | rfl <;> simp [Cfg.atSum, Cfg.blk] <;> omega
set_option maxRecDepth 100000 in
set_option maxHeartbeats 2000000 in
theorem layAt_calls (w : World) (x : Int) (h : Sat E w (lay b c * F)) :
    Calls Tryz.prog 68 #[.pointer (some ⟨b, 0, none⟩), .int .i64 x] w fun e w' => e = .returned (.int .i64 (c.at_ x)) ∧ ∃ m, w' = w.drewN m := by
  have HC := Lib.hid (class_calls w x h)
  have hn := (lay_ok h).toNear
  obtain ⟨_, _, _, _, _, _, c11, _⟩ := lay_nums h
  have HB : Hid (∀ (m : Nat) (j : Nat), j < 4 → (w.drewN m).cell? ⟨b, 1 + j, none⟩ = some (.int .i64 (c.blk j))) := Lib.hid fun m j hj => (lay_cells (h.drewN m)).1 j hj
  have HRG : Hid (∀ (m : Nat) (i : Int), Calls Tryz.prog 129 #[.pointer (some ⟨b, 0, none⟩), .int .i64 i] (w.drewN m) fun e w' => e = .returned (.tuple #[.int .i64 (c.from_ i), .int .i64 (c.upto i)]) ∧ ∃ k, w' = (w.drewN m).drewN k) := Lib.hid fun m i => range_calls _ i (h.drewN m)
  have hcr := Cfg.cls_range c x
  obtain ⟨R, hR⟩ : ∃ R, R = c.at_ x := ⟨_, rfl⟩
  rw [← hR]
  have HN := Lib.hid hn
  by_cases h0 : c.cls x < 0
  · have e : R = -1 := by rw [hR]; unfold Cfg.at_; rw [if_neg (by omega), if_neg (by omega), if_neg (by omega), if_neg (by omega)]
    subst e
    clear hR h hn
    generalize c.cls x = k at *
    go_enter Tryz.func68, Tryz.ntmps68
    go_wp2_with fail
    refine HC.out.mono ?_
    rintro e w1 ⟨rfl, m, rfl⟩
    go_wp2_with fail
    go_ret
    exact ⟨rfl, m, rfl⟩
  · obtain ⟨K, hK⟩ := Int.eq_ofNat_of_zero_le (a := c.cls x) (by omega)
    have hK4 : K < 4 := by omega
    rw [Cfg.at_cls c x K hK4 hK] at hR
    have hin := (Cfg.cls_in hn x (K : Int) (by omega)).1 hK
    have HSZ := Lib.hid (fun (W : World) (i : Int) (h0 : 0 ≤ i) (h1 : i < 4) => lsize_calls W i h0 h1)
    have hs16 : (2 : Int) * 2 ^ K ≤ 16 ∧ 2 ≤ (2 : Int) * 2 ^ K := by
      have : K = 0 ∨ K = 1 ∨ K = 2 ∨ K = 3 := by omega
      rcases this with rfl | rfl | rfl | rfl <;> simp
    have hfr : 0 ≤ c.from_ K ∧ x - c.from_ K < 512 := by
      have := upto_first c K hK4
      have h2 := from_first c K hK4
      have h3 := first_succ c K hK4
      have h4 := blk_range hn K
      have h5 := first_range hn K
      have := hin.2
      omega
    have hxr : 0 ≤ x - c.from_ K := by omega
    have hxu : x ≤ 5000 := by
      have h5 := first_range hn K
      have h2 := from_first c K hK4
      omega
    rw [hK] at HC
    obtain ⟨S, hS⟩ : ∃ S, S = c.atSum K := ⟨_, rfl⟩
    have HS := Lib.hid hS
    have hSr := atSum_range hn K
    rw [← hS] at hR hSr
    have HRK := Lib.hid (fun m => HRG.out m (K : Int))
    generalize c.from_ (K : Int) = f at *
    generalize c.upto (K : Int) = u at HRK
    have hprod : 0 ≤ (x - f) * (2 * 2 ^ K) ∧ (x - f) * (2 * 2 ^ K) ≤ 512 * 16 := ⟨Int.mul_nonneg hxr (by omega), Int.mul_le_mul (by omega) hs16.1 (by omega) (by omega)⟩
    have HSZK : Hid (∀ W, Calls Tryz.prog 138 #[.int .i64 (K : Int)] W fun e w' => e = .returned (.int .i64 (2 * 2 ^ K)) ∧ w' = W) := Lib.hid fun W => by
      have := lsize_calls W (K : Int) (by omega) (by omega)
      rwa [Int.toNat_natCast] at this
    have HRR := Lib.hid hR
    clear hR h hn hK hin h0 hcr hS HRG
    generalize hz : (2 : Int) * 2 ^ K = z at *
    have HZ := Lib.hid hz
    clear hz
    have hk3 : (K : Int) ≤ 3 := by omega
    go_enter Tryz.func68, Tryz.ntmps68
    go_wp2_with fail
    refine HC.out.mono ?_
    rintro e w1 ⟨rfl, m, rfl⟩
    have c11' : (w.drewN m).cell? ⟨b, 11, none⟩ = some (.int .i64 c.blocksAt) := c11
    clear c11
    go_wp2_with fail
    go_loopw [20, 6] (fun iv av wr => ∃ (j : Nat) (m2 : Nat), j ≤ K ∧ iv = .int .i64 (j : Int) ∧ av = .int .i64 (c.atSum j) ∧ wr = w.drewN m2) (fun iv _ _ => K - (RowKit.intOf iv).toNat)
    case atStart => exact ⟨0, m, Nat.zero_le _, rfl, rfl, rfl⟩
    case round =>
      obtain ⟨j, m2, hj, rfl, rfl, hwr⟩ := hrel
      by_cases hjK : j = K
      · subst hjK
        subst hwr
        have e1 : IntKind.i64.wrap (x - f) = x - f := wrap_id (by omega) (by omega)
        have e2 : IntKind.i64.wrap ((x - f) * z) = (x - f) * z := wrap_id (by omega) (by omega)
        have e3 : IntKind.i64.wrap (S + (x - f) * z) = S + (x - f) * z := wrap_id (by omega) (by omega)
        rw [← HS.out]
        go_wp2_with (first | (go_at_call 129; refine (HRK.out _).mono ?_; rintro e w3 ⟨rfl, m3, rfl⟩) | (go_at_call 138; refine (HSZK.out _).mono ?_; rintro e w3 ⟨rfl, rfl⟩))
        go_ret
        exact ⟨ret_int (by rw [HRR.out]), m2 + m3, by first | rfl | rw [World.drewN_drewN]⟩
      · have hj1 : (j : Int) < K := by omega
        have hjc : ¬ K ≤ j := by omega
        have hb : wr.cell? ⟨b, 1 + j, none⟩ = some (.int .i64 (c.blk j)) := by rw [hwr]; exact HB.out m2 j (by omega)
        have HWR := Lib.hid hwr
        clear hwr
        have hyr := blk_range HN.out j
        have hsr := atSum_range HN.out j
        have hsu := atSum_succ c j (by omega)
        have hz2 : (2 : Int) * 2 ^ j ≤ 16 ∧ 2 ≤ (2 : Int) * 2 ^ j := by
          have : j = 0 ∨ j = 1 ∨ j = 2 := by omega
          rcases this with rfl | rfl | rfl <;> simp
        have HSZJ : Hid (∀ W, Calls Tryz.prog 138 #[.int .i64 (j : Int)] W fun e w' => e = .returned (.int .i64 (2 * 2 ^ j)) ∧ w' = W) := Lib.hid fun W => by
          have := lsize_calls W (j : Int) (by omega) (by omega)
          rwa [Int.toNat_natCast] at this
        generalize c.blk j = y at *
        generalize (2 : Int) * 2 ^ j = z2 at *
        generalize c.atSum j = s at *
        have hp2 : 0 ≤ y * z2 ∧ y * z2 ≤ 512 * 16 := ⟨Int.mul_nonneg hyr.1 (by omega), Int.mul_le_mul (by omega) hz2.1 (by omega) (by omega)⟩
        have e1 : IntKind.i64.wrap (y * z2) = y * z2 := wrap_id (by omega) (by omega)
        have e2 : IntKind.i64.wrap (s + y * z2) = s + y * z2 := wrap_id (by omega) (by omega)
        have HSU := Lib.hid hsu
        have hj4 : (j : Int) < 4 := by omega
        clear hsu hprod
        go_upto_region 8 with fail
        go_quiet ((go_at_call 138; exact Calls.quiet_of_same (HSZJ.out _)))
        go_wp2_with fail
        exact ⟨⟨j + 1, _, by omega, by go_num, by rw [HSU.out], by rw [HWR.out, World.drewN_drewN]⟩, by simp [RowKit.intOf]; omega⟩
end
end Scul
/- layout.Config; kind: Word, Parse. -/
namespace Scul
open Go Go.Sl Go.RowKit Go.Proofs
theorem kwGo_drop (x : Nat) (fs : List Int) (i : Nat) (h : i < fs.length) : kwGo x i (fs.drop i) = kwGo (setW x (4 + 2 * i) 2 (fs.getD i 0).toNat) (i + 1) (fs.drop (i + 1)) := by
  have e1 : fs.getD i 0 = fs[i] := by rw [List.getD_eq_getElem?_getD, List.getElem?_eq_getElem h]; rfl
  rw [List.drop_eq_getElem_cons h, e1]
  rfl
section
variable {E : Env} {w : World} {F : HP} {b : Nat} {c : Cfg}
set_option maxHeartbeats 1000000 in
theorem config_calls (w : World) (h : Sat E w (lay b c * F)) :
    Calls Tryz.prog 61 #[.pointer (some ⟨b, 0, none⟩)] w fun e w' => ∃ ao cc ks, e = .returned (.agg (cfgCells (.slice ao ks.length cc) c)) ∧ ks.map (·.2) = c.kinds ∧ Sat E w' (kindsR (.slice ao ks.length cc) ks * (lay b c * F)) := by
  have hok := lay_ok h
  obtain ⟨kv0, ks0, ⟨_, hk0, a0, c0, rfl⟩, hs⟩ := lay_open h
  have hlen : ks0.length ≤ 16 := by
    have := hok.toNear.k
    rw [← hk0, List.length_map] at this
    exact this
  have h15 : ∀ p ∈ ks0, p.2.length ≤ 15 := fun p hp => by
    have h1 := hok.kinds p.2 (by rw [← hk0]; exact List.mem_map.2 ⟨p, hp, rfl⟩)
    exact (kindMay_len h1).2.1
  have HA := Lib.hid ((hs.alloc (.cells #[.slice none 0 0, .int .i64 0, .int .i64 0, .int .i64 0, .int .i64 0, .int .i64 0, .int .i64 0, .int .i64 0] 29)).ac (B := pt b (.cells (layCells (.slice a0 ks0.length c0) c) 165) * (pt w.heap.size (.cells #[.slice none 0 0, .int .i64 0, .int .i64 0, .int .i64 0, .int .i64 0, .int .i64 0, .int .i64 0, .int .i64 0] 29) * (kindsR (.slice a0 ks0.length c0) ks0 * F))) (by ac_rfl))
  have HO := Lib.hid (fun W (hW : Sat E W (pt b (.cells (layCells (.slice a0 ks0.length c0) c) 165) * (pt w.heap.size (.cells #[.slice none 0 0, .int .i64 0, .int .i64 0, .int .i64 0, .int .i64 0, .int .i64 0, .int .i64 0, .int .i64 0] 29) * (kindsR (.slice a0 ks0.length c0) ks0 * F)))) => own_calls W c ks0 (.slice a0 ks0.length c0) (fun W2 hW2 => kindsR_rd hW2) hk0 hlen h15 (hW.ac (B := kindsR (.slice a0 ks0.length c0) ks0 * (pt b (.cells (layCells (.slice a0 ks0.length c0) c) 165) * (pt w.heap.size (.cells #[.slice none 0 0, .int .i64 0, .int .i64 0, .int .i64 0, .int .i64 0, .int .i64 0, .int .i64 0, .int .i64 0] 29) * F))) (by ac_rfl)))
  have HM : Hid (∀ W A, Sat E W (A * (kindsR (.slice a0 ks0.length c0) ks0 * (pt b (.cells (layCells (.slice a0 ks0.length c0) c) 165) * F))) → Sat E W (A * (lay b c * F))) := Lib.hid fun W A hW => by
    have h1 : Sat E W (pt b (.cells (layCells (.slice a0 ks0.length c0) c) 165) * (kindsR (.slice a0 ks0.length c0) ks0 * (A * F))) := hW.ac (by ac_rfl)
    exact (lay_mk ⟨hok, hk0, _, _, rfl⟩ h1).ac (by ac_rfl)
  clear hs h hok hlen h15 hk0
  unfold cfgCells at *
  go_enter Tryz.func61, Tryz.ntmps61
  go_upto_region 1 with fail
  refine atSat _ HA.out fun W hW => ?_
  have q0 : W.cell? ⟨b, 0, none⟩ = some (.slice a0 ks0.length c0) := hW.cell 0 rfl
  have q1 : W.cell? ⟨b, 1, none⟩ = some (.int .i64 c.n0) := hW.cell 1 rfl
  have q2 : W.cell? ⟨b, 2, none⟩ = some (.int .i64 c.n1) := hW.cell 2 rfl
  have q3 : W.cell? ⟨b, 3, none⟩ = some (.int .i64 c.n2) := hW.cell 3 rfl
  have q4 : W.cell? ⟨b, 4, none⟩ = some (.int .i64 c.n3) := hW.cell 4 rfl
  have q5 : W.cell? ⟨b, 5, none⟩ = some (.int .i64 c.roots) := hW.cell 5 rfl
  have q6 : W.cell? ⟨b, 6, none⟩ = some (.int .i64 c.weaks) := hW.cell 6 rfl
  have q7 : W.cell? ⟨b, 7, none⟩ = some (.int .i64 c.log) := hW.cell 7 rfl
  have HW := Lib.hid hW
  clear hW
  have HD : Hid (∀ W2 (A : HP), Sat E W2 (pt w.heap.size (.cells #[.slice none 0 0, .int .i64 0, .int .i64 0, .int .i64 0, .int .i64 0, .int .i64 0, .int .i64 0, .int .i64 0] 29) * A) → (W2.cell? ⟨w.heap.size, 0, none⟩ = some (.slice none 0 0) ∧ W2.cell? ⟨w.heap.size, 1, none⟩ = some (.int .i64 0) ∧ W2.cell? ⟨w.heap.size, 2, none⟩ = some (.int .i64 0) ∧ W2.cell? ⟨w.heap.size, 3, none⟩ = some (.int .i64 0) ∧ W2.cell? ⟨w.heap.size, 4, none⟩ = some (.int .i64 0) ∧ W2.cell? ⟨w.heap.size, 5, none⟩ = some (.int .i64 0) ∧ W2.cell? ⟨w.heap.size, 6, none⟩ = some (.int .i64 0) ∧ W2.cell? ⟨w.heap.size, 7, none⟩ = some (.int .i64 0)) ∧ ∀ i, W2.frozen? ⟨w.heap.size, i, none⟩ = false) := Lib.hid fun W2 A h => ⟨⟨h.cell 0 rfl, h.cell 1 rfl, h.cell 2 rfl, h.cell 3 rfl, h.cell 4 rfl, h.cell 5 rfl, h.cell 6 rfl, h.cell 7 rfl⟩, h.free⟩
  go_wp2_with (go_at_call 122; refine (HO.out _ HW.out).mono ?_; rintro e w2 ⟨a2, c2, ks2, rfl, hk2, h2⟩; have H2s := Lib.hid (h2.ac (B := pt w.heap.size (.cells #[.slice none 0 0, .int .i64 0, .int .i64 0, .int .i64 0, .int .i64 0, .int .i64 0, .int .i64 0, .int .i64 0] 29) * (kindsR (.slice a2 ks2.length c2) ks2 * (kindsR (.slice a0 ks0.length c0) ks0 * (pt b (.cells (layCells (.slice a0 ks0.length c0) c) 165) * F)))) (by ac_rfl)); clear h2; obtain ⟨⟨d0, d1, d2, d3, d4, d5, d6, d7⟩, ff⟩ := HD.out _ _ H2s.out; have f0 := ff 0; have f1 := ff 1; have f2 := ff 2; have f3 := ff 3; have f4 := ff 4; have f5 := ff 5; have f6 := ff 6; have f7 := ff 7; clear ff)
  have h14 := (((((((H2s.out.setCell (i := 0) (v := .slice a2 ks2.length c2)).setCell (i := 1) (v := .int .i64 c.n0)).setCell (i := 2) (v := .int .i64 c.n1)).setCell (i := 3) (v := .int .i64 c.n2)).setCell (i := 4) (v := .int .i64 c.n3)).setCell (i := 5) (v := .int .i64 c.roots)).setCell (i := 6) (v := .int .i64 c.weaks)).setCell (i := 7) (v := .int .i64 c.log)
  simp only [List.setIfInBounds_toArray, List.set_cons_zero, List.set_cons_succ] at h14
  refine bodyPost_ret (results_cell_row rfl _ _ _ _ _ _ _ rfl h14.at Tryz.underlying29 (by rfl) (by kernel_rfl)) rfl ?_
  exact ⟨a2, c2, ks2, rfl, hk2, HM.out _ _ h14.right⟩
set_option maxHeartbeats 1000000 in
theorem kWord_calls (w : World) (fs : List Int) (fv : Value) (hv : ∀ W, Sat E W F → Rd W 1 fv fs.length (i64s fs)) (hs : Sat E w F) :
    Calls Tryz.prog 157 #[.agg #[fv]] w fun e w' => e = .returned (.int .u64 ((kwW fs : Nat) : Int)) ∧ Sat E w' F := by
  obtain ⟨R, hR⟩ : ∃ R, R = kwW fs := ⟨_, rfl⟩
  rw [← hR]
  obtain ⟨ao, c, rfl, hc⟩ := (hv w hs).val
  have HV := Lib.hid hv
  have HA := Lib.hid (hs.alloc (.cells #[.slice ao fs.length c] 62))
  have HKM := Lib.hid (fun (W : World) (hW : Sat E W (pt w.heap.size (.cells #[.slice ao fs.length c] 62) * F)) => kMay_calls W fs _ (fun W2 h2 => HV.out W2 h2.right) hW)
  unfold kwW at hR
  cases hm : kindMay fs with
  | false =>
    rw [hm] at HKM hR
    rw [if_neg (by simp)] at hR
    subst hR
    clear hm hv hs
    go_enter Tryz.func157, Tryz.ntmps157
    go_wp2_with (go_at_call 158; refine (HKM.out _ HA.out).mono ?_; rintro e w1 ⟨rfl, h1⟩)
    go_ret
    exact ⟨rfl, h1.right⟩
  | true =>
    have hl := kindMay_len hm
    rw [hm] at HKM hR
    rw [if_pos rfl] at hR
    have HR : Hid (R = kwGo (setW 0 0 4 fs.length) 0 (fs.drop 0)) := Lib.hid hR
    obtain ⟨N, hN⟩ : ∃ N, N = fs.length := ⟨_, rfl⟩
    have HN := Lib.hid hN
    have hN15 : (N : Int) ≤ 15 := by omega
    rw [← hN] at HKM HA HV HR ⊢
    have HF := Lib.hid hl.2.2
    have HSET0 : Hid (∀ W, Calls Tryz.prog 172 #[.int .u64 0, .int .i64 0, .int .i64 4, .int .u64 (N : Int)] W fun e w' => e = .returned (.int .u64 ((setW 0 0 4 N : Nat) : Int)) ∧ w' = W) := Lib.hid fun W => wordSet_calls W 0 N 0 4 (by omega) (by omega)
    have hx0 := setW_lt 0 0 4 N
    clear hm hv hs hR hl hN
    generalize setW 0 0 4 N = x0 at *
    go_enter Tryz.func157, Tryz.ntmps157
    go_wp2_with (first | (go_at_call 158; refine (HKM.out _ HA.out).mono ?_; rintro e w1 ⟨rfl, h1⟩; have z0 : w1.cell? ⟨w.heap.size, 0, none⟩ = some (.slice ao N c) := h1.cell 0 rfl; have H1 := Lib.hid h1; clear h1) | (go_at_call 172; refine (HSET0.out _).mono ?_; rintro e w2 ⟨rfl, rfl⟩))
    go_loopw [17, 3] (fun iv xv wr => ∃ (i x : Nat), i ≤ N ∧ iv = .int .i64 (i : Int) ∧ xv = .int .u64 (x : Int) ∧ x < 2 ^ 64 ∧ R = kwGo x i (fs.drop i) ∧ Sat E wr (pt w.heap.size (.cells #[.slice ao N c] 62) * F)) (fun iv _ _ => N - (RowKit.intOf iv).toNat)
    case atStart => exact ⟨0, x0, Nat.zero_le _, rfl, rfl, hx0, HR.out, H1.out⟩
    case round =>
      obtain ⟨i, x, hi, rfl, rfl, hx, hr, hW⟩ := hrel
      have HRR := Lib.hid hr
      have HW := Lib.hid hW
      clear hr z0 H1 HA
      by_cases hin : i = N
      · subst hin
        have e0 : R = x := by
          rw [HRR.out, HN.out, List.drop_length]
          rfl
        subst e0
        clear hW
        go_wp2_with fail
        go_ret
        exact ⟨rfl, HW.out.right⟩
      · have hi1 : (i : Int) < N := by omega
        have hiN : i < fs.length := by have := HN.out; omega
        have hst := kwGo_drop x fs i hiN
        obtain ⟨b, o, rfl, _⟩ := (HV.out wr hW.right).at (by omega)
        have cx : wr.cell? ⟨b, o + i, none⟩ = some (.int .i64 (fs.getD i 0)) := Rd.nthI (HV.out wr hW.right) i (by omega)
        have hf := HF.out (fs.getD i 0) (by rw [List.getD_eq_getElem?_getD, List.getElem?_eq_getElem hiN]; exact List.getElem_mem hiN)
        have hi15 : (i : Int) ≤ 15 := by omega
        generalize fs.getD i 0 = f at *
        have hf0 : 0 ≤ f ∧ f ≤ 3 := by omega
        have HS2 : Hid (∀ W, Calls Tryz.prog 172 #[.int .u64 (x : Int), .int .i64 (4 + 2 * (i : Int)), .int .i64 2, .int .u64 f] W fun e w' => e = .returned (.int .u64 ((setW x (4 + 2 * i) 2 f.toNat : Nat) : Int)) ∧ w' = W) := Lib.hid fun W => by
          have h := wordSet_calls W x f.toNat (4 + 2 * i) 2 hx (by omega)
          rw [Int.toNat_of_nonneg hf0.1] at h
          simpa using h
        have hx2 := setW_lt x (4 + 2 * i) 2 f.toNat
        have HST := Lib.hid hst
        clear hst hf hW hiN
        generalize setW x (4 + 2 * i) 2 f.toNat = x2 at *
        go_wp2_with (go_at_call 172; refine (HS2.out _).mono ?_; rintro e w2 ⟨rfl, rfl⟩)
        exact ⟨⟨i + 1, x2, by omega, by go_num, rfl, hx2, by rw [HRR.out, HST.out], HW.out⟩, by simp [RowKit.intOf]; omega⟩
end
end Scul
/- kind: Parse. -/
namespace Scul
open Go Go.Sl Go.RowKit Go.Proofs
theorem kwF_length (X : Nat) : (kwF X).length = getW X 0 4 := by simp [kwF]
theorem kwF_take (X i : Nat) (h : i < getW X 0 4) : (kwF X).take (i + 1) = (kwF X).take i ++ [((getW X (4 + 2 * i) 2 : Nat) : Int)] := by
  rw [List.take_succ_eq_append_getElem (by rw [kwF_length]; exact h)]
  simp [kwF]
section
variable {E : Env} {w : World} {F R : HP} {g : Nat}
theorem i64s_append (l m : List Int) : i64s (l ++ m) = i64s l ++ i64s m := by simp [i64s]
/-- append of one int, into a variable's cell. -/
theorem ints_push {v : Value} {l : List Int} {x : Int} {xs : Nat} {t tk : TypeId} {f : Nat × Nat} (ty : TypeId) (hn : l.length + 1 ≤ 1000000)
    (h : Sat E w (pt xs (.cells #[.int .i64 x] t f) * (ints v l * R))) :
    ∃ v' W2, (Builtin.append_ #[38, 38] ty #[v, .slice (some ⟨xs, 0, none⟩) 1 1]).run Tryz.prog w = .ok v' W2 ∧ (∃ a c, v' = .slice a (l.length + 1) c) ∧ Sat E W2 (ints v' (l ++ [x]) * (pt xs (.cells #[.int .i64 x] t f) * R)) := by
  obtain ⟨v', W2, hrun, h2, _⟩ := run_append_sl (P := Tryz.prog) stI ty v l.length (i64s l) (Sat.swap h) _ 1 _ (rd_one h) (by intro u hu; simp at hu; subst hu; rfl) (by simp only [maxLen]; omega) (by omega)
  have h3 : Sat E W2 (ints v' (l ++ [x]) * (pt xs (.cells #[.int .i64 x] t f) * R)) := by
    unfold ints
    rw [List.length_append, i64s_append]
    exact h2
  obtain ⟨a, c, hv, _⟩ := h2.row_val
  exact ⟨v', W2, hrun, ⟨a, c, hv⟩, h3⟩
theorem ints_push_at {v : Value} {l : List Int} {x : Int} {xs : Nat} {t tk : TypeId} {f : Nat × Nat} (ty : TypeId) (hn : l.length + 1 ≤ 1000000)
    (h : Sat E w (pt xs (.cells #[.int .i64 x] t f) * (pt g (.cells #[v] tk) * (ints v l * R)))) :
    ∃ v' W2, (Builtin.append_ #[38, 38] ty #[v, .slice (some ⟨xs, 0, none⟩) 1 1]).run Tryz.prog w = .ok v' W2 ∧ (∃ a c, v' = .slice a (l.length + 1) c) ∧ W2.cell? ⟨g, 0, none⟩ = some v ∧ W2.frozen? ⟨g, 0, none⟩ = false ∧ Sat E (W2.setCell ⟨g, 0, none⟩ v') (pt g (.cells #[v'] tk) * (ints v' (l ++ [x]) * R)) := by
  obtain ⟨v', W2, hrun, hv, h2⟩ := ints_push (tk := tk) ty hn (h.ac (B := pt xs (.cells #[.int .i64 x] t f) * (ints v l * (pt g (.cells #[v] tk) * R))) (by ac_rfl))
  have h3 : Sat E W2 (pt g (.cells #[v] tk) * (ints v' (l ++ [x]) * (pt xs (.cells #[.int .i64 x] t f) * R))) := h2.ac (by ac_rfl)
  refine ⟨v', W2, hrun, hv, h3.cell 0 rfl, h3.free 0, ?_⟩
  have h4 := h3.setCell (i := 0) (v := v')
  simp only [List.setIfInBounds_toArray, List.set_cons_zero] at h4
  exact Sat.right (h4.ac (B := pt xs (.cells #[.int .i64 x] t f) * (pt g (.cells #[v'] tk) * (ints v' (l ++ [x]) * R))) (by ac_rfl))
theorem ints_nil (h : Sat E w F) : Sat E w (ints (.slice none 0 0) [] * F) := h.row_nil _ _
theorem ints_rd {v : Value} {l : List Int} (h : Sat E w (ints v l * F)) : Rd w 1 v l.length (i64s l) := Sat.rd h
def KP (E : Env) (F : HP) (X : Nat) (e : Ending) (w' : World) : Prop := (kwP X = none ∧ e = .returned (.tuple #[.agg #[.slice none 0 0], .bool false]) ∧ Sat E w' F) ∨
  (∃ fs a c, kwP X = some fs ∧ e = .returned (.tuple #[.agg #[.slice a fs.length c], .bool true]) ∧ Sat E w' (ints (.slice a fs.length c) fs * F))
set_option maxHeartbeats 4000000 in
theorem kParse_calls (w : World) (X : Nat) (hX : X < 2 ^ 64) (hs : Sat E w F) :
    Calls Tryz.prog 119 #[.int .u64 (X : Int)] w fun e w' => KP E F X e w' := by
  have HS := Lib.hid (Sat.alloc2 hs (.cells #[.slice none 0 0] 62) (.cells #[.slice none 0 0] 62))
  have hn16 : getW X 0 4 < 16 := getW_lt X 0 4
  have HG0 : Hid (∀ W, Calls Tryz.prog 128 #[.int .u64 (X : Int), .int .i64 0, .int .i64 4] W fun e w' => e = .returned (.int .u64 ((getW X 0 4 : Nat) : Int)) ∧ w' = W) := Lib.hid fun W => wordGetN_calls W X 0 4 hX (by omega)
  have HG1 : Hid (∀ (i : Nat), i < 16 → ∀ W, Calls Tryz.prog 128 #[.int .u64 (X : Int), .int .i64 (4 + 2 * (i : Int)), .int .i64 2] W fun e w' => e = .returned (.int .u64 ((getW X (4 + 2 * i) 2 : Nat) : Int)) ∧ w' = W) := Lib.hid fun i hi W => by
    have := wordGetN_calls W X (4 + 2 * i) 2 hX (by omega)
    simpa using this
  have HT := Lib.hid (fun i h => kwF_take X i h)
  have HL := Lib.hid (kwF_length X)
  have HG4 : Hid (∀ i, getW X (4 + 2 * i) 2 < 4) := Lib.hid fun i => getW_lt X (4 + 2 * i) 2
  have HP1 : Hid (kwP X = if kindMay (kwF X) = true ∧ kwW (kwF X) = X then some (kwF X) else none) := Lib.hid rfl
  clear hs
  generalize getW X 0 4 = n at *
  generalize kwF X = K at *
  have hn15 : (n : Int) ≤ 15 := by omega
  go_enter Tryz.func119, Tryz.ntmps119
  go_upto_region 2 with fail
  refine atSat _ HS.out fun W hW => ?_
  generalize w.heap.size = g0 at *
  have HW := Lib.hid hW
  clear hW
  go_wp2_with (go_at_call 128; refine (HG0.out _).mono ?_; rintro e w2 ⟨rfl, rfl⟩)
  go_loopw [9] (fun iv wr => ∃ (i : Nat) (a : Option Addr) (c : Nat), i ≤ n ∧ iv = .int .i64 (i : Int) ∧ Sat E wr (pt (g0 + 1) (.cells #[.slice a i c] 62) * (ints (.slice a i c) (K.take i) * (pt g0 (.cells #[.slice none 0 0] 62) * F)))) (fun iv _ => n - (RowKit.intOf iv).toNat)
  case atStart => exact ⟨0, none, 0, Nat.zero_le _, rfl, Sat.swap (ints_nil HW.out)⟩
  case round =>
    obtain ⟨i, a, c, hi, rfl, hr⟩ := hrel
    by_cases hin : i = n
    · subst hin
      have hKl := HL.out
      have htk : K.take i = K := List.take_of_length_le (by omega)
      rw [htk] at hr
      have HR := Lib.hid hr
      obtain ⟨G, hG⟩ : ∃ G : HP, G = pt (g0 + 1) (.cells #[.slice a i c] 62) * (ints (.slice a i c) K * (pt g0 (.cells #[.slice none 0 0] 62) * F)) := ⟨_, rfl⟩
      rw [← hG] at HR
      have hrd : ∀ W, Sat E W G → Rd W 1 (.slice a i c) K.length (i64s K) := fun W hW => by
        rw [hG] at hW
        have := ints_rd (Sat.swap hW)
        rwa [hKl] at this ⊢
      have HKM := Lib.hid (fun W (hW : Sat E W G) => kMay_calls W K (.slice a i c) hrd hW)
      have HKW := Lib.hid (fun W (hW : Sat E W G) => kWord_calls W K (.slice a i c) hrd hW)
      have HF : Hid (∀ W, Sat E W G → W.cell? ⟨g0 + 1, 0, none⟩ = some (.slice a i c) ∧ W.cell? ⟨g0, 0, none⟩ = some (.slice none 0 0) ∧ W.frozen? ⟨g0, 0, none⟩ = false) := Lib.hid fun W hW => by
        rw [hG] at hW
        exact ⟨hW.cell 0 rfl, hW.right.right.cell 0 rfl, hW.right.right.free 0⟩
      have HSE : Hid (∀ W v, Sat E W G → Sat E (W.setCell ⟨g0, 0, none⟩ v) (pt g0 (.cells #[v] 62) * (ints (.slice a i c) K * F))) := Lib.hid fun W v hW => by
        rw [hG] at hW
        have h4 := (hW.ac (B := pt g0 (.cells #[.slice none 0 0] 62) * (pt (g0 + 1) (.cells #[.slice a i c] 62) * (ints (.slice a i c) K * F))) (by ac_rfl)).setCell (i := 0) (v := v)
        simp only [List.setIfInBounds_toArray, List.set_cons_zero] at h4
        exact Sat.right (h4.ac (B := pt (g0 + 1) (.cells #[.slice a i c] 62) * (pt g0 (.cells #[v] 62) * (ints (.slice a i c) K * F))) (by ac_rfl))
      have hc0 := (HF.out _ HR.out).1
      have HKL := Lib.hid hKl
      clear hr hKl htk hG hrd HG0 HG1 HT HG4 HW HS
      cases hm : kindMay K with
      | false =>
        rw [hm] at HKM HP1
        have hP : Hid (kwP X = none) := Lib.hid (by rw [HP1.out, if_neg (by simp)])
        clear hm HP1
        go_wp2_with (go_at_call 158; refine (HKM.out _ HR.out).mono ?_; rintro e w4 ⟨rfl, h4⟩; obtain ⟨z0, z1, z2⟩ := HF.out _ h4; have H4 := Lib.hid h4; clear h4)
        refine bodyPost_ret (results_cell_row_tmp rfl _ _ _ _ _ _ _ rfl (HSE.out _ _ H4.out).at Tryz.underlying62 (by rfl) (by kernel_rfl)) rfl ?_
        exact .inl ⟨hP.out, rfl, (HSE.out _ _ H4.out).right.right⟩
      | true =>
        rw [hm] at HKM HP1
        by_cases hx : kwW K = X
        · have hP : Hid (kwP X = some K) := Lib.hid (by rw [HP1.out, if_pos ⟨rfl, hx⟩])
          rw [hx] at HKW
          have hxx : ((X : Int) != (X : Int)) = false := by simp
          clear hm HP1 hx
          go_wp2_with (first | (go_at_call 158; refine (HKM.out _ HR.out).mono ?_; rintro e w4 ⟨rfl, h4⟩; obtain ⟨z0, z1, z2⟩ := HF.out _ h4; have H4 := Lib.hid h4; clear h4) | (go_at_call 157; refine (HKW.out _ H4.out).mono ?_; rintro e w5 ⟨rfl, h5⟩; obtain ⟨y0, y1, y2⟩ := HF.out _ h5; have H5 := Lib.hid h5; clear h5))
          refine bodyPost_ret (results_cell_row_tmp rfl _ _ _ _ _ _ _ rfl (HSE.out _ _ H5.out).at Tryz.underlying62 (by rfl) (by kernel_rfl)) rfl ?_
          refine .inr ⟨K, a, c, hP.out, by rw [HKL.out]; rfl, ?_⟩
          rw [HKL.out]
          exact (HSE.out _ _ H5.out).right
        · have hP : Hid (kwP X = none) := Lib.hid (by rw [HP1.out, if_neg (fun h => hx h.2)])
          have hxx : (((kwW K : Nat) : Int) != (X : Int)) = true := by simp; omega
          generalize kwW K = kk at *
          clear hm HP1 hx
          go_wp2_with (first | (go_at_call 158; refine (HKM.out _ HR.out).mono ?_; rintro e w4 ⟨rfl, h4⟩; obtain ⟨z0, z1, z2⟩ := HF.out _ h4; have H4 := Lib.hid h4; clear h4) | (go_at_call 157; refine (HKW.out _ H4.out).mono ?_; rintro e w5 ⟨rfl, h5⟩; obtain ⟨y0, y1, y2⟩ := HF.out _ h5; have H5 := Lib.hid h5; clear h5))
          refine bodyPost_ret (results_cell_row_tmp rfl _ _ _ _ _ _ _ rfl (HSE.out _ _ H5.out).at Tryz.underlying62 (by rfl) (by kernel_rfl)) rfl ?_
          exact .inl ⟨hP.out, rfl, (HSE.out _ _ H5.out).right.right⟩
    · have hi1 : (i : Int) < n := by omega
      have hc : ¬ n ≤ i := by omega
      have c0 : wr.cell? ⟨g0 + 1, 0, none⟩ = some (.slice a i c) := hr.cell 0 rfl
      have hxr := HG4.out i
      have HGI := Lib.hid (HG1.out i (by omega))
      have ht := HT.out i (by omega)
      have hlen : (K.take i).length = i := by rw [List.length_take, HL.out]; omega
      generalize getW X (4 + 2 * i) 2 = x at *
      have HAP : Hid (∀ (Wq : World) (xs : Nat) (ty : TypeId), Sat E Wq (pt xs (.cells #[.int .i64 (x : Int)] 3 (0, 0)) * (pt (g0 + 1) (.cells #[.slice a i c] 62) * (ints (.slice a i c) (K.take i) * (pt g0 (.cells #[.slice none 0 0] 62) * F)))) → ∃ v' W2, (Builtin.append_ #[38, 38] ty #[.slice a i c, .slice (some ⟨xs, 0, none⟩) 1 1]).run Tryz.prog Wq = .ok v' W2 ∧ (∃ a' c', v' = .slice a' (i + 1) c') ∧ W2.cell? ⟨g0 + 1, 0, none⟩ = some (.slice a i c) ∧ W2.frozen? ⟨g0 + 1, 0, none⟩ = false ∧ Sat E (W2.setCell ⟨g0 + 1, 0, none⟩ v') (pt (g0 + 1) (.cells #[v'] 62) * (ints v' (K.take (i + 1)) * (pt g0 (.cells #[.slice none 0 0] 62) * F)))) := Lib.hid fun Wq xs ty h => by
        have := ints_push_at (tk := 62) ty (by rw [hlen]; omega) h
        rw [hlen, ← ht] at this
        exact this
      have HR := Lib.hid hr
      have hi15 : (i : Int) ≤ 15 := by omega
      have q1 : ∀ o, (wr.alloc o).cell? ⟨g0 + 1, 0, none⟩ = some (.slice a i c) := fun o => cell_alloc c0
      have hx4 : (x : Int) ≤ 3 := by omega
      have e1 : IntKind.i64.wrap (2 * (i : Int)) = 2 * (i : Int) := wrap_id (by omega) (by omega)
      have e2 : IntKind.i64.wrap (4 + 2 * (i : Int)) = 4 + 2 * (i : Int) := wrap_id (by omega) (by omega)
      have e3 : IntKind.i64.wrap (x : Int) = x := wrap_id (by omega) (by omega)
      clear hr ht hlen hxr
      go_upto_region 5 with fail
      go_region_law (first
        | (go_simp; go_at_call 128; refine Calls.mono (HGI.out _) ?_; rintro e w4 ⟨rfl, rfl⟩)
        | (refine step_append_sl rfl _ _ rfl rfl rfl (by first | exact HAP.out _ wr.heap.size _ (Sat.drew (HR.out.alloc _)) | exact HAP.out _ _ _ (Sat.alloc (Sat.drew HR.out) _)) ?_; rintro lv' W2 ⟨⟨la, lc, rfl⟩, c5, f5, h5⟩))
      all_goals go_wp2_with fail
      all_goals exact ⟨⟨i + 1, la, lc, by omega, by go_num, h5⟩, by simp [RowKit.intOf]; omega⟩
end
end Scul
