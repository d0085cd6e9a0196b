/- Lemmas and contracts for scullion's HeapNil: HxE, HxF, HxG, HxH, HxI, HxJ, HxK. -/
import Derived.Test.YtcfbanfbldionaaGreatHeapNilQ18
import Derived.Test.YtcfbanfbldionaaGreatHeapNilQ9
/- heap: Lay. -/
namespace Scul
open Go Go.Sl Go.RowKit Go.Proofs
theorem Hp.stOpsAt_drop (a : Int) (l : List Int) (i : Nat) (h : i < l.length) : Hp.stOpsAt a (l.drop i) = .st a (l.getD i 0) :: Hp.stOpsAt (a + 1) (l.drop (i + 1)) := by
  rw [List.drop_eq_getElem_cons h, List.getD_eq_getElem?_getD, List.getElem?_eq_getElem h]
  rfl
theorem Hp.lineOps_step {a z : Nat} (h : a ≤ z) : Hp.lineOps a z = .fl ((8 * a : Nat) : Int) :: Hp.lineOps (a + 1) z := by
  unfold Hp.lineOps
  rw [show z + 1 - a = (z + 1 - (a + 1)) + 1 by omega, List.range_succ_eq_map, List.map_cons, List.map_map]
  congr 1
  refine List.map_congr_left fun i _ => ?_
  simp only [Function.comp]
  congr 2
  omega
theorem Hp.lineOps_done {a z : Nat} (h : z < a) : Hp.lineOps a z = [] := by
  unfold Hp.lineOps
  rw [show z + 1 - a = 0 by omega]
  rfl
section
variable {E : Env} {w : World} {F A : HP} {X : HX} {U R : List Bool} {d : Dev}
theorem hp_encode (k : Int) (vs : List Val) (fv : Value) (e : Nat) (hk64 : I64 k) (hwf : ∀ v ∈ vs, v.Wf) (hf : ∀ W, Sat E W F → RdV W fv vs) (h : Sat E w (hpR X U R * (A * F))) :
    Calls Tryz.prog 66 #[X.kv, .int .i64 k, fv, .int .u64 (e : Int)] w fun e' w' => ∃ s, e' = .returned (.tuple #[s, .int .i64 (objE X.c.kinds k vs e).1]) ∧ Sat E w' (words s (objE X.c.kinds k vs e).2 * (hpR X U R * (A * F))) := by
  have hfit := (hp_open h).1
  have h3 := encode_calls w X.ks X.kv fv k vs e hk64 hwf (fun W hW => hp_rdk hW) (fun W hW => hf W hW.right.right) h
  rw [hfit.1.1] at h3
  exact h3
set_option maxRecDepth 100000 in
set_option maxHeartbeats 4000000 in
theorem hLay_calls (w : World) (b k : Int) (vs : List Val) (fv : Value) (e : Nat) (hk64 : I64 k) (hwf : ∀ v ∈ vs, v.Wf) (hf : ∀ W, Sat E W F → RdV W fv vs) (h : Sat E w (hpR X U R * (dev X.db d * F))) :
    Calls Tryz.prog 14 #[.pointer (some ⟨X.h, 0, none⟩), .int .i64 b, .int .i64 k, fv, .int .u64 (e : Int)] w fun e' w' => e' = .returned (.int .i64 (Hp.lay X.c R d b k vs e).2) ∧ Sat E w' (hpR X U R * (dev X.db (Hp.lay X.c R d b k vs e).1 * F)) := by
  obtain ⟨Q, hQ⟩ : ∃ Q, Q = Hp.lay X.c R d b k vs e := ⟨_, rfl⟩
  rw [← hQ]
  unfold Hp.lay at hQ
  have hc := hp_cells (A := emp) (w := w) (X := X) (U := U) (R := R) (F := dev X.db d * F) (E := E) (by rw [emp_sep]; exact h)
  have HRV := Lib.hid (hpReserved_calls b (A := emp) (w := w) (X := X) (U := U) (R := R) (F := dev X.db d * F) (E := E) (by rw [emp_sep]; exact h))
  have H := Lib.hid h
  obtain ⟨fa, fc, rfl, hfc⟩ := Rd.val (hf w h.right.right)
  obtain ⟨c0, c1, c2, c3⟩ := hc
  cases hr : getB R b with
  | false =>
    rw [hr, if_pos rfl] at hQ
    rw [hr] at HRV
    subst hQ
    clear h hf hwf hr hfc
    go_enter Tryz.func14, Tryz.ntmps14
    go_wp2_with (go_at_call 65; refine HRV.out.mono ?_; rintro e w1 ⟨rfl, rfl⟩)
    go_ret
    exact ⟨rfl, H.out⟩
  | true =>
    rw [hr, if_neg (by simp)] at hQ
    rw [hr] at HRV
    have hul := hp_len h
    have hok := hp_ok h
    have hb : 0 ≤ b ∧ b < X.c.count := by have := getB_in hr; rw [hul.2] at this; have := hok.some; omega
    have HEN := Lib.hid (hp_encode (X := X) (U := U) (R := R) (A := dev X.db d) k vs _ e hk64 hwf hf h)
    have hkd : (objE X.c.kinds k vs e).1 = 0 → 2 ≤ (objE X.c.kinds k vs e).2.length ∧ ∀ x ∈ (objE X.c.kinds k vs e).2, U64 x := fun he => by
      unfold objE at he ⊢
      split at he
      · cases he
      rename_i fs hfs
      try simp only at he ⊢
      split at he
      · cases he
      rename_i hvl
      rw [if_neg hvl]
      cases hen : encF fs vs with
      | none => rw [hen] at he; cases he
      | some l =>
        simp only
        obtain ⟨h1, h2⟩ := encF_length hen
        obtain ⟨_, _, _, h3, _⟩ := kindAt_some hfs
        obtain ⟨h4, h5, h6⟩ := kindMay_w h3
        have h7 := (kindMay_len h3).1
        have h8 : 1 ≤ kwSum fs := by
          cases fs with
          | nil => simp at h7
          | cons f r =>
            have h9 := (kindMay_len h3).2.2 f (by simp)
            have h10 := kwSum_range r
            simp only [kwSum]
            have : 1 ≤ kw f := by unfold kw; split; omega; split <;> omega
            omega
        refine ⟨by simp only [List.length_cons]; omega, fun x hx => ?_⟩
        rcases List.mem_cons.1 hx with rfl | hx
        · have := hdrW_lt k (kindW fs) e
          unfold U64
          omega
        · exact encF_u64 hwf hen x hx
    obtain ⟨g1, g2, g3, g4⟩ := Cfg.at_range hok.toNear hb.1 hb.2
    have hpp := Hp.places hok
    have hlog := hok.toNear.log
    obtain ⟨A0, hA0⟩ := Int.eq_ofNat_of_zero_le (a := X.c.at_ b) (by omega)
    obtain ⟨n, hn⟩ := Int.eq_ofNat_of_zero_le (a := X.c.size b) (by omega)
    have hn16 : n ≤ 16 := by omega
    have hA65 : A0 + n ≤ 65536 := by omega
    obtain ⟨G, hG⟩ : ∃ G : Dev → HP, G = fun d => hpR X U R * (dev X.db d * F) := ⟨_, rfl⟩
    have hGd : hpR X U R * (dev X.db d * F) = G d := by rw [hG]
    have HGX : Hid (∀ d, G d = hpR X U R * (dev X.db d * F)) := Lib.hid fun d => by rw [hG]
    have HCE : Hid (∀ V (A : HP) d, Sat E V (A * G d) → V.cell? ⟨X.h, 0, none⟩ = some (.pointer (some ⟨X.db, 0, none⟩)) ∧ V.cell? ⟨X.h, 1, none⟩ = some (.pointer (some ⟨X.lb, 0, none⟩))) := Lib.hid fun V A d hV => by rw [hG] at hV; have := hp_cells hV; exact ⟨this.1, this.2.1⟩
    have HSZ : Hid (∀ V (A : HP), Sat E V (A * G d) → Calls Tryz.prog 67 #[.pointer (some ⟨X.lb, 0, none⟩), .int .i64 b] V fun e w' => e = .returned (.int .i64 (n : Int)) ∧ ∃ m, w' = V.drewN m) := Lib.hid fun V A hV => by
      rw [hG] at hV
      have := hpSize_calls b hV
      rwa [hn] at this
    have HAT : Hid (∀ V (A : HP), Sat E V (A * G d) → Calls Tryz.prog 68 #[.pointer (some ⟨X.lb, 0, none⟩), .int .i64 b] V fun e w' => e = .returned (.int .i64 (A0 : Int)) ∧ ∃ m, w' = V.drewN m) := Lib.hid fun V A hV => by
      rw [hG] at hV
      have := hpAt_calls b hV
      rwa [hA0] at this
    have HST : Hid (∀ V (A : HP) d a x, U64 x → Sat E V (A * G d) → Calls Tryz.prog 69 #[.pointer (some ⟨X.db, 0, none⟩), .int .i64 a, .int .u64 x] V fun e w' => e = .returned (.int .i64 (d.storeE a)) ∧ Sat E w' (A * G (d.store a x))) := Lib.hid fun V A d a x hx hV => by
      rw [HGX.out] at hV ⊢
      exact (store_calls V a x hx (hV.ac (B := dev X.db d * (A * (hpR X U R * F))) (by ac_rfl))).mono fun e w' ⟨he, h⟩ => ⟨he, h.ac (by ac_rfl)⟩
    have HFL : Hid (∀ V (A : HP) d a, Sat E V (A * G d) → Calls Tryz.prog 70 #[.pointer (some ⟨X.db, 0, none⟩), .int .i64 a] V fun e w' => e = .returned (.int .i64 (d.flushE a)) ∧ Sat E w' (A * G (d.flush a))) := Lib.hid fun V A d a hV => by
      rw [HGX.out] at hV ⊢
      exact (flush_calls V a (hV.ac (B := dev X.db d * (A * (hpR X U R * F))) (by ac_rfl))).mono fun e w' ⟨he, h⟩ => ⟨he, h.ac (by ac_rfl)⟩
    rw [hGd] at h HEN H
    rw [hA0, hn, Int.toNat_natCast] at hQ
    obtain ⟨Z, hZ⟩ : ∃ Z, Z = objE X.c.kinds k vs e := ⟨_, rfl⟩
    rw [← hZ] at hQ HEN hkd
    obtain ⟨ze, zw⟩ := Z
    simp only at hQ HEN hkd
    generalize vs.length = vl at *
    clear hGd hG hZ hf hwf hr hfc hul hok hb g1 g2 g3 g4 hpp hlog hA0 hn hk64
    show Calls _ _ _ _ fun e' w' => e' = .returned (.int .i64 Q.2) ∧ Sat E w' (hpR X U R * (dev X.db Q.1 * F))
    rw [← HGX.out]
    by_cases hze : ze = 0
    · subst hze
      rw [if_neg (by simp)] at hQ
      obtain ⟨hk2, hku⟩ := hkd rfl
      have HKU := Lib.hid hku
      clear hkd hku
      obtain ⟨m, hm⟩ : ∃ m, m = zw.length := ⟨_, rfl⟩
      have HM := Lib.hid hm
      by_cases hsz : (n : Int) < m
      · rw [if_pos (by rw [← hm]; exact hsz)] at hQ
        subst hQ
        have hsz2 : n < m := by omega
        clear hm hk2 h
        go_enter Tryz.func14, Tryz.ntmps14
        go_wp2_with (first
          | (go_at_call 65; refine HRV.out.mono ?_; rintro e w1 ⟨rfl, rfl⟩)
          | (go_at_call 66; refine HEN.out.mono ?_; rintro e w2 ⟨s, rfl, h2⟩; obtain ⟨sa, sc, rfl, _⟩ := words_val h2; rw [← HM.out] at h2 ⊢; obtain ⟨q0, q1⟩ := HCE.out _ _ _ h2; have H2 := Lib.hid h2; clear h2)
          | (go_at_call 67; refine (HSZ.out _ _ H2.out).mono ?_; rintro e w3 ⟨rfl, m3, rfl⟩))
        go_ret
        exact ⟨rfl, H2.out.right.drewN _⟩
      · rw [if_neg (by rw [← hm]; exact hsz)] at hQ
        have hm16 : m ≤ n := by omega
        obtain ⟨l0, hl0⟩ : ∃ l0, l0 = A0 / 8 := ⟨_, rfl⟩
        obtain ⟨z, hz⟩ : ∃ z, z = (A0 + m - 1) / 8 := ⟨_, rfl⟩
        obtain ⟨LO, hLO⟩ : ∃ LO, LO = Hp.lineOps l0 z := ⟨_, rfl⟩
        have HQ0 : Hid (d.run (Hp.stOpsAt ((A0 + 0 : Nat) : Int) (zw.drop 0) ++ LO) = Q) := Lib.hid (by
          rw [hQ, hLO, hl0, hz, hm]
          rfl)
        have HSTEP : Hid (∀ (i : Nat) (d1 : Dev), i < m → d1.run (Hp.stOpsAt ((A0 + i : Nat) : Int) (zw.drop i) ++ LO) = if d1.storeE ((A0 + i : Nat) : Int) = 0 then (d1.store ((A0 + i : Nat) : Int) (zw.getD i 0)).run (Hp.stOpsAt ((A0 + (i + 1) : Nat) : Int) (zw.drop (i + 1)) ++ LO) else (d1.store ((A0 + i : Nat) : Int) (zw.getD i 0), d1.storeE ((A0 + i : Nat) : Int))) := Lib.hid fun (i : Nat) (d1 : Dev) (hi : i < m) => by
          rw [Hp.stOpsAt_drop _ _ _ (by omega), List.cons_append, Dev.run_st, show ((A0 + i : Nat) : Int) + 1 = ((A0 + (i + 1) : Nat) : Int) by omega]
        have HEND : Hid (zw.drop m = []) := Lib.hid (List.drop_of_length_le (by omega))
        have HLO := Lib.hid hLO
        have hq1 : (A0 : Int).tdiv 8 = (l0 : Int) := by rw [Int.tdiv_eq_ediv_of_nonneg (by omega)]; omega
        have hlz : l0 ≤ z + 1 := by omega
        have hz65 : z ≤ 8192 := by omega
        have hl65 : l0 ≤ 8192 := by omega
        have hq2 : ((A0 : Int) + (m : Int) - 1).tdiv 8 = (z : Int) := by rw [Int.tdiv_eq_ediv_of_nonneg (by omega)]; omega
        have hmn : (m : Int) ≤ 16 := by omega
        have hA65' : (A0 : Int) ≤ 65536 := by omega
        have hszi : ¬ (n : Int) < (m : Int) := hsz
        have hM2 : 2 ≤ m := by omega
        clear hm hQ hLO hl0 hz h hsz hk2 hA65
        go_enter Tryz.func14, Tryz.ntmps14
        go_wp2_with (first
          | (go_at_call 65; refine HRV.out.mono ?_; rintro e w1 ⟨rfl, rfl⟩)
          | (go_at_call 66; refine HEN.out.mono ?_; rintro e w2 ⟨s, rfl, h2⟩; obtain ⟨sg, sc, rfl, _⟩ := words_at h2 0 (by have := HM.out; omega); rw [← HM.out] at h2 ⊢; obtain ⟨q0, q1⟩ := HCE.out _ _ _ h2; have H2 := Lib.hid h2; clear h2)
          | (go_at_call 67; refine (HSZ.out _ _ H2.out).mono ?_; rintro e w3 ⟨rfl, m3, rfl⟩)
          | (go_at_call 68; refine (HAT.out _ _ (H2.out.drewN _)).mono ?_; rintro e w4 ⟨rfl, m4, rfl⟩))
        go_loopw [63] (fun iv wr => ∃ (i : Nat) (d1 : Dev), i ≤ m ∧ iv = .int .i64 (i : Int) ∧ d1.run (Hp.stOpsAt ((A0 + i : Nat) : Int) (zw.drop i) ++ LO) = Q ∧ Sat E wr (words (.slice (some ⟨sg, 0, none⟩) m sc) zw * G d1)) (fun iv _ => m - (RowKit.intOf iv).toNat)
        case atStart => exact ⟨0, d, Nat.zero_le _, rfl, HQ0.out, (H2.out.drewN m3).drewN m4⟩
        case round =>
          obtain ⟨i, d1, hi, rfl, hrun, hr⟩ := hrel
          have HRUN := Lib.hid hrun
          have HR := Lib.hid hr
          clear hrun H2 q0 q1
          by_cases him : i = m
          · subst him
            have HR1 : Hid (d1.run LO = Q) := Lib.hid (by have := HRUN.out; rw [HEND.out] at this; exact this)
            clear hr
            go_wp2_with fail
            go_loopw [17] (fun iv wr => ∃ (j : Nat) (d2 : Dev), j ≤ z + 1 ∧ iv = .int .i64 (j : Int) ∧ d2.run (Hp.lineOps j z) = Q ∧ Sat E wr (words (.slice (some ⟨sg, 0, none⟩) i sc) zw * G d2)) (fun iv _ => z + 1 - (RowKit.intOf iv).toNat)
            case atStart => exact ⟨l0, d1, hlz, rfl, by rw [← HLO.out]; exact HR1.out, HR.out⟩
            case round =>
              obtain ⟨j, d2, hj, rfl, hrun, hr⟩ := hrel
              have HRUN2 := Lib.hid hrun
              have HR2 := Lib.hid hr
              obtain ⟨q0, q1⟩ := HCE.out _ _ _ hr
              clear hrun HR HRUN
              by_cases hjz : j ≤ z
              · have hst := Hp.lineOps_step hjz
                have hru := HRUN2.out
                rw [hst, Dev.run_fl] at hru
                have HFJ := Lib.hid (HFL.out _ _ _ ((8 * j : Nat) : Int) hr)
                have hjzi : (j : Int) ≤ (z : Int) := by omega
                have hj65 : (j : Int) ≤ 8192 := by omega
                have e8 : (8 * j : Nat) = (j : Int) * 8 := by omega
                clear hr hst
                by_cases he : d2.flushE ((8 * j : Nat) : Int) = 0
                · rw [if_pos he] at hru
                  rw [he] at HFJ
                  have HRU := Lib.hid hru
                  clear hru he
                  generalize d2.flush ((8 * j : Nat) : Int) = d3 at *
                  rw [e8] at HFJ
                  clear e8
                  go_wp2_with (go_at_call 70; refine HFJ.out.mono ?_; rintro e w5 ⟨rfl, h5⟩)
                  exact ⟨⟨j + 1, d3, by omega, by go_num, HRU.out, h5⟩, by simp [RowKit.intOf]; omega⟩
                · rw [if_neg he] at hru
                  have HRU := Lib.hid hru
                  have hb1 : (d2.flushE ((8 * j : Nat) : Int) != 0) = true := by simpa using he
                  clear hru he
                  generalize d2.flush ((8 * j : Nat) : Int) = d3 at *
                  generalize d2.flushE ((8 * j : Nat) : Int) = fe at *
                  rw [e8] at HFJ
                  clear e8
                  go_wp2_with (go_at_call 70; refine HFJ.out.mono ?_; rintro e w5 ⟨rfl, h5⟩)
                  go_ret
                  rw [← HRU.out]
                  exact ⟨rfl, h5.right⟩
              · have hjzi : ¬ (j : Int) ≤ (z : Int) := by omega
                have hd := Hp.lineOps_done (show z < j by omega)
                have HRU : Hid ((d2, 0) = Q) := Lib.hid (by have := HRUN2.out; rw [hd] at this; exact this)
                clear hr hd
                go_wp2_with fail
                go_ret
                rw [← HRU.out]
                exact ⟨rfl, HR2.out.right⟩
          · have him1 : (i : Int) < m := by omega
            have hi2 : i < m := by omega
            have hi16 : (i : Int) ≤ 16 := by omega
            have hru := HRUN.out
            rw [HSTEP.out i d1 hi2] at hru
            obtain ⟨q0, q1⟩ := HCE.out _ _ _ hr
            have hil : i < zw.length := by have := HM.out; omega
            have hr2 : Sat E wr (words (.slice (some ⟨sg, 0, none⟩) zw.length sc) zw * G d1) := by rw [← HM.out]; exact hr
            have cx := words_cell hr2 i hil
            have hxu : U64 (zw.getD i 0) := by
              rw [List.getD_eq_getElem?_getD, List.getElem?_eq_getElem hil]
              exact HKU.out _ (List.getElem_mem hil)
            have HSI := Lib.hid (HST.out _ _ _ ((A0 + i : Nat) : Int) _ hxu hr)
            have e8 : ((A0 + i : Nat) : Int) = (A0 : Int) + (i : Int) := by omega
            generalize zw.getD i 0 = x at *
            clear hr hr2 hxu hil
            by_cases he : d1.storeE ((A0 + i : Nat) : Int) = 0
            · rw [if_pos he] at hru
              rw [he] at HSI
              have HRU := Lib.hid hru
              clear hru he
              generalize d1.store ((A0 + i : Nat) : Int) x = d3 at *
              rw [e8] at HSI
              clear e8
              go_wp2_with (go_at_call 69; refine HSI.out.mono ?_; rintro e w5 ⟨rfl, h5⟩)
              exact ⟨⟨i + 1, d3, by omega, by go_num, HRU.out, h5⟩, by simp [RowKit.intOf]; omega⟩
            · rw [if_neg he] at hru
              have HRU := Lib.hid hru
              have hb1 : (d1.storeE ((A0 + i : Nat) : Int) != 0) = true := by simpa using he
              clear hru he
              generalize d1.store ((A0 + i : Nat) : Int) x = d3 at *
              generalize d1.storeE ((A0 + i : Nat) : Int) = fe at *
              rw [e8] at HSI
              clear e8
              go_wp2_with (go_at_call 69; refine HSI.out.mono ?_; rintro e w5 ⟨rfl, h5⟩)
              go_ret
              rw [← HRU.out]
              exact ⟨rfl, h5.right⟩
    · rw [if_pos hze] at hQ
      subst hQ
      have hb1 : (ze != 0) = true := by simpa using hze
      clear hze hkd h
      go_enter Tryz.func14, Tryz.ntmps14
      go_wp2_with (first
        | (go_at_call 65; refine HRV.out.mono ?_; rintro e w1 ⟨rfl, rfl⟩)
        | (go_at_call 66; refine HEN.out.mono ?_; rintro e w2 ⟨s, rfl, h2⟩; obtain ⟨sa, sc, rfl, _⟩ := words_val h2))
      go_ret
      exact ⟨rfl, h2.right⟩
end
end Scul
/- heap: write, there, place, index, rootAt, refers, typed, field. -/
namespace Scul
open Go Go.Sl Go.RowKit Go.Proofs
/-- A write, as cells. -/
def wcells (x : Wr) : Array Value := #[.int .i64 x.kind, .int .i64 x.obj, .int .i64 x.field, .int .i64 x.val.kind, .int .i64 x.val.int, .int .u64 x.val.re, .int .u64 x.val.im, .int .i64 x.val.ref]
def wagg (x : Wr) : Value := .agg (wcells x)
/-- A write that may lie in memory. -/
structure Wr.Wf (x : Wr) : Prop where
  val : x.val.Wf
  kind : I64 x.kind
  obj : I64 x.obj
  field : I64 x.field
section
variable {E : Env} {w : World} {F A : HP} {X : HX} {U R : List Bool} {d : Dev}
/-- A box that holds a write. -/
def wbox (g : Nat) (x : Wr) : HP := pt g (.cells (wcells x) 49)
theorem wbox_cells {g : Nat} {x : Wr} (h : Sat E w (wbox g x * F)) : (w.cell? ⟨g, 0, none⟩ = some (.int .i64 x.kind) ∧ w.cell? ⟨g, 1, none⟩ = some (.int .i64 x.obj) ∧ w.cell? ⟨g, 2, none⟩ = some (.int .i64 x.field)) ∧ w.cell? ⟨g, 3, none⟩ = some (.int .i64 x.val.kind) ∧ w.cell? ⟨g, 4, none⟩ = some (.int .i64 x.val.int) ∧ w.cell? ⟨g, 5, none⟩ = some (.int .u64 x.val.re) ∧ w.cell? ⟨g, 6, none⟩ = some (.int .u64 x.val.im) ∧ w.cell? ⟨g, 7, none⟩ = some (.int .i64 x.val.ref) := by
  unfold wbox at h
  exact ⟨⟨h.cell 0 rfl, h.cell 1 rfl, h.cell 2 rfl⟩, h.cell 3 rfl, h.cell 4 rfl, h.cell 5 rfl, h.cell 6 rfl, h.cell 7 rfl⟩
theorem wbox_alloc (h : Sat E w F) (x : Wr) : Sat E (w.alloc (.cells (wcells x) 49)) (wbox w.heap.size x * F) := h.alloc _
set_option maxHeartbeats 1000000 in
theorem htyped_calls (w : World) (x : Wr) (h : Sat E w F) :
    Calls Tryz.prog 108 #[wagg x] w fun e w' => e = .returned (.int .i64 (Hp.typedE x)) ∧ Sat E w' F := by
  obtain ⟨q, hq⟩ : ∃ q, q = Hp.typedE x := ⟨_, rfl⟩
  rw [← hq]
  have H := Lib.hid (wbox_alloc h x)
  obtain ⟨⟨c0, _, _⟩, c3, _⟩ := wbox_cells H.out
  unfold Hp.typedE at hq
  unfold wagg
  unfold wcells at *
  clear h
  generalize x.val.kind = vk at *
  generalize x.kind = k at *
  by_cases hk : k = 1
  · subst hk
    rw [if_neg (by simp)] at hq
    subst hq
    go_enter Tryz.func108, Tryz.ntmps108
    go_wp2_with fail
    go_ret
    exact ⟨rfl, H.out.right⟩
  · have hk1 : (k != 1) = true := by simpa using hk
    by_cases h0 : vk = 0
    · subst h0
      rw [if_neg (by simp)] at hq
      subst hq
      clear hk
      go_enter Tryz.func108, Tryz.ntmps108
      go_wp2_with fail
      go_ret
      exact ⟨rfl, H.out.right⟩
    · have h01 : (vk != 0) = true := by simpa using h0
      by_cases h3 : vk = 3
      · subst h3
        rw [if_neg (by simp)] at hq
        subst hq
        clear hk h0
        go_enter Tryz.func108, Tryz.ntmps108
        go_wp2_with fail
        go_ret
        exact ⟨rfl, H.out.right⟩
      · have h31 : (vk != 3) = true := by simpa using h3
        rw [if_pos ⟨hk, h0, h3⟩] at hq
        subst hq
        clear hk h0 h3
        go_enter Tryz.func108, Tryz.ntmps108
        go_wp2_with fail
        go_ret
        exact ⟨rfl, H.out.right⟩
set_option maxRecDepth 100000 in
set_option maxHeartbeats 1000000 in
theorem hrootAt_calls (w : World) (x : Wr) (h : Sat E w (hpR X U R * F)) :
    Calls Tryz.prog 143 #[.pointer (some ⟨X.h, 0, none⟩), wagg x] w fun e w' => e = .returned (.int .i64 (Hp.rootAt X.c x)) ∧ Sat E w' (hpR X U R * F) := by
  obtain ⟨q, hq⟩ : ∃ q, q = Hp.rootAt X.c x := ⟨_, rfl⟩
  rw [← hq]
  have H := Lib.hid (wbox_alloc h x)
  obtain ⟨⟨c0, _, c2⟩, _⟩ := wbox_cells H.out
  have HCE := Lib.hid (fun V (hV : Sat E V (wbox w.heap.size x * (hpR X U R * F))) => (hp_cells hV).2.1)
  have HC2 := Lib.hid (fun V (hV : Sat E V (wbox w.heap.size x * (hpR X U R * F))) => (wbox_cells hV).1.2.2)
  have HRT := Lib.hid (fun V (hV : Sat E V (wbox w.heap.size x * (hpR X U R * F))) => show Calls Tryz.prog 86 #[.pointer (some ⟨X.lb, 0, none⟩), .int .i64 x.field] V fun e w' => e = .returned (.int .i64 (X.c.rootOf x.field)) ∧ Sat E w' (wbox w.heap.size x * (hpR X U R * F)) from by
    obtain ⟨G, hG⟩ := hp_lay hV
    exact (layRoot_calls V x.field hG).mono fun e w' ⟨he, hw⟩ => ⟨he, by rw [hw]; exact hV⟩)
  have HWK := Lib.hid (fun V (hV : Sat E V (wbox w.heap.size x * (hpR X U R * F))) => show Calls Tryz.prog 99 #[.pointer (some ⟨X.lb, 0, none⟩), .int .i64 x.field] V fun e w' => e = .returned (.int .i64 (X.c.weakOf x.field)) ∧ Sat E w' (wbox w.heap.size x * (hpR X U R * F)) from by
    obtain ⟨G, hG⟩ := hp_lay hV
    exact (layWeak_calls V x.field hG).mono fun e w' ⟨he, m, hw⟩ => ⟨he, by rw [hw]; exact hV.drewN m⟩)
  unfold Hp.rootAt at hq
  obtain ⟨B, hB⟩ : ∃ B : HP, B = wbox w.heap.size x * (hpR X U R * F) := ⟨_, rfl⟩
  have HB : Hid (∀ V, Sat E V B → Sat E V (hpR X U R * F)) := Lib.hid fun V hV => by rw [hB] at hV; exact hV.right
  rw [← hB] at H HCE HC2 HRT HWK
  unfold wagg
  unfold wcells at *
  clear h hB
  generalize X.c.rootOf x.field = r1 at *
  generalize X.c.weakOf x.field = r2 at *
  generalize x.kind = k at *
  generalize x.field = f at *
  generalize x.obj = o at *
  generalize x.val.kind = v1 at *
  generalize x.val.int = v2 at *
  generalize x.val.re = v3 at *
  generalize x.val.im = v4 at *
  generalize x.val.ref = v5 at *
  by_cases hk : k = 2
  · subst hk
    rw [if_pos rfl] at hq
    subst hq
    go_enter Tryz.func143, Tryz.ntmps143
    go_upto_region 2 with fail
    go_cut [4] (fun s wx => s = .int .i64 q ∧ Sat E wx B)
    case first =>
      have x1 : ∀ y : At E B, y.W.cell? ⟨X.h, 1, none⟩ = some (.pointer (some ⟨X.lb, 0, none⟩)) := fun y => HCE.out _ y.ok
      have x2 : ∀ y : At E B, y.W.cell? ⟨w.heap.size, 2, none⟩ = some (.int .i64 f) := fun y => HC2.out _ y.ok
      refine wp_region_class H.out (by kernel_rfl) (by kernel_rfl) fun ne => ?_
      repeat (go_big_quiet_step ((go_at_call 86; exact At.call (HRT.out _ (At.ok _)))))
      refine wpQuiet_nil ?_
      rintro _ ⟨⟨w4, h4⟩, rfl⟩
      go_wp2_with fail
      go_meet
      exact ⟨rfl, h4⟩
    case rest =>
      obtain ⟨rfl, h5⟩ := hcut
      go_wp2_with fail
      go_ret
      exact ⟨rfl, HB.out _ h5⟩
  · have hk1 : (k == 2) = false := by simpa using hk
    rw [if_neg hk] at hq
    subst hq
    clear hk
    go_enter Tryz.func143, Tryz.ntmps143
    go_upto_region 3 with fail
    go_cut [4] (fun s wx => s = .int .i64 q ∧ Sat E wx B)
    case first =>
      have x1 : ∀ y : At E B, y.W.cell? ⟨X.h, 1, none⟩ = some (.pointer (some ⟨X.lb, 0, none⟩)) := fun y => HCE.out _ y.ok
      have x2 : ∀ y : At E B, y.W.cell? ⟨w.heap.size, 2, none⟩ = some (.int .i64 f) := fun y => HC2.out _ y.ok
      refine wp_region_class H.out (by kernel_rfl) (by kernel_rfl) fun ne => ?_
      repeat (go_big_quiet_step ((go_at_call 99; exact At.call (HWK.out _ (At.ok _)))))
      refine wpQuiet_nil ?_
      rintro _ ⟨⟨w4, h4⟩, rfl⟩
      go_wp2_with fail
      go_meet
      exact ⟨rfl, h4⟩
    case rest =>
      obtain ⟨rfl, h5⟩ := hcut
      go_wp2_with fail
      go_ret
      exact ⟨rfl, HB.out _ h5⟩
end
end Scul
/- heap: index, place, there, refers, write. -/
namespace Scul
open Go Go.Sl Go.RowKit Go.Proofs
section
variable {E : Env} {w : World} {F A : HP} {X : HX} {U R : List Bool} {d : Dev}
set_option maxRecDepth 100000 in
set_option maxHeartbeats 1000000 in
theorem hindex_calls (w : World) (x : Wr) (h : Sat E w (hpR X U R * F)) :
    Calls Tryz.prog 105 #[.pointer (some ⟨X.h, 0, none⟩), wagg x] w fun e w' => e = .returned (.int .i64 (Hp.indexE X.c x)) ∧ Sat E w' (hpR X U R * F) := by
  obtain ⟨q, hq⟩ : ∃ q, q = Hp.indexE X.c x := ⟨_, rfl⟩
  rw [← hq]
  have H := Lib.hid (wbox_alloc h x)
  obtain ⟨⟨c0, c1, c2⟩, c3, c4, c5, c6, c7⟩ := wbox_cells H.out
  have HRA := Lib.hid (fun V (hV : Sat E V (wbox w.heap.size x * (hpR X U R * F))) => show Calls Tryz.prog 143 #[.pointer (some ⟨X.h, 0, none⟩), wagg x] V fun e w' => e = .returned (.int .i64 (Hp.rootAt X.c x)) ∧ Sat E w' (hpR X U R * F) from
    (hrootAt_calls V x (F := wbox w.heap.size x * F) (Sat.swap hV)).mono fun e w' ⟨he, h2⟩ => ⟨he, Sat.mid h2⟩)
  unfold Hp.indexE at hq
  unfold wagg at *
  unfold wcells at *
  clear h
  obtain ⟨r, hr⟩ : ∃ r, r = Hp.rootAt X.c x := ⟨_, rfl⟩
  rw [← hr] at hq HRA
  clear hr
  obtain ⟨B, hB⟩ : ∃ B : HP, B = wbox w.heap.size x * (hpR X U R * F) := ⟨_, rfl⟩
  have HB : Hid (∀ V, Sat E V B → Sat E V (hpR X U R * F)) := Lib.hid fun V hV => by rw [hB] at hV; exact hV.right
  rw [← hB] at H HRA
  clear hB
  generalize x.kind = k at *
  generalize x.field = f at *
  generalize x.obj = o at *
  generalize x.val.kind = v1 at *
  generalize x.val.int = v2 at *
  generalize x.val.re = v3 at *
  generalize x.val.im = v4 at *
  generalize x.val.ref = v5 at *
  by_cases hk : k = 1
  · subst hk
    rw [if_neg (by simp)] at hq
    subst hq
    go_enter Tryz.func105, Tryz.ntmps105
    go_wp2_with fail
    go_ret
    exact ⟨rfl, HB.out _ H.out⟩
  · have hk1 : (k != 1) = true := by simpa using hk
    by_cases hr0 : r < 0
    · rw [if_pos ⟨hk, hr0⟩] at hq
      subst hq
      clear hk
      go_enter Tryz.func105, Tryz.ntmps105
      go_wp2_with (go_at_call 143; refine (HRA.out _ H.out).mono ?_; rintro e w2 ⟨rfl, h2⟩)
      go_ret
      exact ⟨rfl, h2⟩
    · rw [if_neg (fun h => hr0 h.2)] at hq
      subst hq
      clear hk
      go_enter Tryz.func105, Tryz.ntmps105
      go_wp2_with (go_at_call 143; refine (HRA.out _ H.out).mono ?_; rintro e w2 ⟨rfl, h2⟩)
      go_ret
      exact ⟨rfl, h2⟩
set_option maxRecDepth 100000 in
set_option maxHeartbeats 1000000 in
theorem hplace_calls (w : World) (x : Wr) (h : Sat E w (hpR X U R * F)) :
    Calls Tryz.prog 104 #[.pointer (some ⟨X.h, 0, none⟩), wagg x] w fun e w' => e = .returned (.int .i64 (Hp.placeE U x)) ∧ Sat E w' (hpR X U R * F) := by
  obtain ⟨q, hq⟩ : ∃ q, q = Hp.placeE U x := ⟨_, rfl⟩
  rw [← hq]
  have H := Lib.hid (wbox_alloc h x)
  obtain ⟨⟨c0, _, _⟩, _⟩ := wbox_cells H.out
  have HCE := Lib.hid (fun V (hV : Sat E V (wbox w.heap.size x * (hpR X U R * F))) => (hp_cells hV).2.2.2)
  have HC1 := Lib.hid (fun V (hV : Sat E V (wbox w.heap.size x * (hpR X U R * F))) => (wbox_cells hV).1.2.1)
  have HUS := Lib.hid (fun V (hV : Sat E V (wbox w.heap.size x * (hpR X U R * F))) => show Calls Tryz.prog 146 #[.pointer (some ⟨X.tb, 0, none⟩), .int .i64 x.obj] V fun e w' => e = .returned (.bool (getB U x.obj)) ∧ Sat E w' (wbox w.heap.size x * (hpR X U R * F)) from
    (hpUsed_calls x.obj hV).mono fun e w' ⟨he, hw⟩ => ⟨he, by rw [hw]; exact hV⟩)
  unfold Hp.placeE at hq
  unfold wagg at *
  unfold wcells at *
  clear h
  obtain ⟨B, hB⟩ : ∃ B : HP, B = wbox w.heap.size x * (hpR X U R * F) := ⟨_, rfl⟩
  have HB : Hid (∀ V, Sat E V B → Sat E V (hpR X U R * F)) := Lib.hid fun V hV => by rw [hB] at hV; exact hV.right
  rw [← hB] at H HCE HC1 HUS
  clear hB
  generalize getB U x.obj = ub at *
  generalize x.kind = k at *
  generalize x.field = f at *
  generalize x.obj = o at *
  generalize x.val.kind = v1 at *
  generalize x.val.int = v2 at *
  generalize x.val.re = v3 at *
  generalize x.val.im = v4 at *
  generalize x.val.ref = v5 at *
  by_cases hk : k = 1
  · subst hk
    rw [if_pos rfl] at hq
    go_enter Tryz.func104, Tryz.ntmps104
    go_upto_region 4 with fail
    go_cut [16] (fun s wx => s = .bool (!ub) ∧ Sat E wx B)
    case first =>
      have x1 : ∀ y : At E B, y.W.cell? ⟨X.h, 3, none⟩ = some (.pointer (some ⟨X.tb, 0, none⟩)) := fun y => HCE.out _ y.ok
      have x2 : ∀ y : At E B, y.W.cell? ⟨w.heap.size, 1, none⟩ = some (.int .i64 o) := fun y => HC1.out _ y.ok
      refine wp_region_class H.out (by kernel_rfl) (by kernel_rfl) fun ne => ?_
      repeat (go_big_quiet_step ((go_at_call 146; exact At.call (HUS.out _ (At.ok _)))))
      refine wpQuiet_nil ?_
      rintro _ ⟨⟨w4, h4⟩, rfl⟩
      go_wp2_with fail
      go_meet
      exact ⟨rfl, h4⟩
    case rest =>
      obtain ⟨rfl, h5⟩ := hcut
      cases ub with
      | true =>
        rw [if_pos rfl] at hq
        subst hq
        go_wp2_with fail
        go_ret
        exact ⟨rfl, HB.out _ h5⟩
      | false =>
        rw [if_neg (by simp)] at hq
        subst hq
        go_wp2_with fail
        go_ret
        exact ⟨rfl, HB.out _ h5⟩
  · have hk1 : (k == 1) = false := by simpa using hk
    rw [if_neg hk] at hq
    by_cases hk2 : k = 2
    · subst hk2
      rw [if_pos (.inl rfl)] at hq
      subst hq
      go_enter Tryz.func104, Tryz.ntmps104
      go_wp2_with fail
      go_ret
      exact ⟨rfl, HB.out _ H.out⟩
    · have hk21 : (k == 2) = false := by simpa using hk2
      by_cases hk3 : k = 3
      · subst hk3
        rw [if_pos (.inr rfl)] at hq
        subst hq
        go_enter Tryz.func104, Tryz.ntmps104
        go_wp2_with fail
        go_ret
        exact ⟨rfl, HB.out _ H.out⟩
      · have hk31 : (k == 3) = false := by simpa using hk3
        rw [if_neg (by omega)] at hq
        subst hq
        clear hk hk2 hk3
        go_enter Tryz.func104, Tryz.ntmps104
        go_wp2_with fail
        go_ret
        exact ⟨rfl, HB.out _ H.out⟩
set_option maxHeartbeats 1000000 in
theorem hthere_calls (w : World) (b : Int) (bl : List Int) (ba : Option Addr) (bc : Nat) (hbl : Rd w 1 (.slice ba bl.length bc) bl.length (i64s bl)) (h : Sat E w (hpR X U R * F)) :
    Calls Tryz.prog 154 #[.pointer (some ⟨X.h, 0, none⟩), .int .i64 b, .slice ba bl.length bc] w fun e w' => e = .returned (.bool (getB U b || bl.contains b)) ∧ w' = w := by
  have hc := hp_cells (A := emp) (w := w) (X := X) (U := U) (R := R) (F := F) (E := E) (by rw [emp_sep]; exact h)
  have HU := Lib.hid (hpUsed_calls b (A := emp) (w := w) (X := X) (U := U) (R := R) (F := F) (E := E) (by rw [emp_sep]; exact h))
  have HC := Lib.hid (containsI_calls w ba bc bl.length bl b (Nat.le_refl _) hbl)
  rw [List.take_length] at HC
  have c3 := hc.2.2.2
  clear hc hbl h
  generalize bl.contains b = cb at *
  generalize bl.length = n at *
  generalize getB U b = ub at *
  cases ub with
  | true =>
    go_enter Tryz.func154, Tryz.ntmps154
    go_wp2_with (first | (go_at_call 146; refine HU.out.mono ?_; rintro e w2 ⟨rfl, rfl⟩) | (go_at_call 153; refine HC.out.mono ?_; rintro e w3 ⟨rfl, rfl⟩))
    go_ret
    exact ⟨rfl, rfl⟩
  | false =>
    go_enter Tryz.func154, Tryz.ntmps154
    go_wp2_with (first | (go_at_call 146; refine HU.out.mono ?_; rintro e w2 ⟨rfl, rfl⟩) | (go_at_call 153; refine HC.out.mono ?_; rintro e w3 ⟨rfl, rfl⟩))
    go_ret
    exact ⟨by simp, rfl⟩
set_option maxRecDepth 100000 in
set_option maxHeartbeats 1000000 in
theorem hrefers_calls (w : World) (x : Wr) (bl : List Int) (ba : Option Addr) (bc : Nat) (hbl : ∀ W, Sat E W F → Rd W 1 (.slice ba bl.length bc) bl.length (i64s bl)) (h : Sat E w (hpR X U R * F)) :
    Calls Tryz.prog 107 #[.pointer (some ⟨X.h, 0, none⟩), wagg x, .slice ba bl.length bc] w fun e w' => e = .returned (.int .i64 (Hp.refersE U bl x)) ∧ Sat E w' (hpR X U R * F) := by
  obtain ⟨q, hq⟩ : ∃ q, q = Hp.refersE U bl x := ⟨_, rfl⟩
  rw [← hq]
  have H := Lib.hid (wbox_alloc h x)
  obtain ⟨_, c3, _, _, _, c7⟩ := wbox_cells H.out
  have HTH := Lib.hid (hthere_calls _ x.val.ref bl ba bc (hbl _ H.out.right.right) (F := wbox w.heap.size x * F) (Sat.swap H.out))
  unfold Hp.refersE at hq
  have hcb : (getB U x.val.ref = true ∨ x.val.ref ∈ bl) ↔ (getB U x.val.ref || bl.contains x.val.ref) = true := by
    cases getB U x.val.ref <;> simp
  simp only [hcb] at hq
  unfold wagg at *
  unfold wcells at *
  clear h hcb hbl
  generalize (getB U x.val.ref || bl.contains x.val.ref) = tb at *
  generalize bl.length = n at *
  have HB : Hid (∀ V, Sat E V (wbox w.heap.size x * (hpR X U R * F)) → Sat E V (hpR X U R * F)) := Lib.hid fun V hV => hV.right
  generalize wbox w.heap.size x * (hpR X U R * F) = B at *
  generalize x.kind = k at *
  generalize x.field = f at *
  generalize x.obj = o at *
  generalize x.val.kind = v1 at *
  generalize x.val.int = v2 at *
  generalize x.val.re = v3 at *
  generalize x.val.im = v4 at *
  generalize x.val.ref = v5 at *
  by_cases hk : v1 = 3
  · subst hk
    cases tb with
    | true =>
      rw [if_neg (by simp)] at hq
      subst hq
      go_enter Tryz.func107, Tryz.ntmps107
      go_wp2_with (go_at_call 154; refine HTH.out.mono ?_; rintro e w2 ⟨rfl, rfl⟩)
      go_ret
      exact ⟨rfl, HB.out _ H.out⟩
    | false =>
      rw [if_pos (by simp)] at hq
      subst hq
      go_enter Tryz.func107, Tryz.ntmps107
      go_wp2_with (go_at_call 154; refine HTH.out.mono ?_; rintro e w2 ⟨rfl, rfl⟩)
      go_ret
      exact ⟨rfl, HB.out _ H.out⟩
  · have hk1 : (v1 == 3) = false := by simpa using hk
    rw [if_neg (fun h => hk h.1)] at hq
    subst hq
    clear hk
    go_enter Tryz.func107, Tryz.ntmps107
    go_wp2_with fail
    go_ret
    exact ⟨rfl, HB.out _ H.out⟩
set_option maxRecDepth 100000 in
set_option maxHeartbeats 1000000 in
theorem hwrite_calls (w : World) (l : List Ent) (ao : Option Addr) (cc : Nat) (hl : l.length ≤ 1000000) (hE : ∀ W, Sat E W F → RdE W (.slice ao l.length cc) l) (h : Sat E w (hpR X U R * (dev X.db d * F))) :
    Calls Tryz.prog 77 #[.pointer (some ⟨X.h, 0, none⟩), .slice ao l.length cc] w fun e w' => e = .returned (.int .i64 (Hp.write X.c d l).2) ∧ Sat E w' (hpR X U R * (dev X.db (Hp.write X.c d l).1 * F)) := by
  obtain ⟨q, hq⟩ : ∃ q, q = Hp.write X.c d l := ⟨_, rfl⟩
  rw [← hq]
  unfold Hp.write at hq
  have hc := hp_cells (A := emp) (w := w) (X := X) (U := U) (R := R) (F := dev X.db d * F) (E := E) (by rw [emp_sep]; exact h)
  obtain ⟨c0, c1, _, _⟩ := hc
  obtain ⟨G, hG⟩ := hp_lay (A := emp) (w := w) (X := X) (U := U) (R := R) (F := dev X.db d * F) (E := E) (by rw [emp_sep]; exact h)
  have hok := hp_ok h
  have hpp := Hp.places hok
  have hlg := hok.toNear.log
  have HLG := Lib.hid (layLog_calls w hG)
  have HWR := Lib.hid (fun m => show Calls Tryz.prog 145 #[.pointer (some ⟨X.db, 0, none⟩), .int .i64 X.c.logAt, .int .i64 (X.c.logAt + X.c.log), .slice ao l.length cc] (w.drewN m) fun e w' => e = .returned (.int .i64 (Redo.write d X.c.logAt (X.c.logAt + X.c.log) l).2) ∧ Sat E w' (hpR X U R * (dev X.db (Redo.write d X.c.logAt (X.c.logAt + X.c.log) l).1 * F)) from
    (write_calls (w.drewN m) X.c.logAt (X.c.logAt + X.c.log) l ao cc ⟨by omega, by omega⟩ ⟨by omega, by omega⟩ (F := hpR X U R * F) (fun W hW => hE W hW.right) ((Sat.swap h).drewN m)).mono fun e w' ⟨he, h2⟩ => ⟨he, Sat.swap h2⟩)
  have H := Lib.hid h
  by_cases hl0 : l = []
  · subst hl0
    rw [if_pos rfl] at hq
    subst hq
    clear h hG hE
    go_enter Tryz.func77, Tryz.ntmps77
    go_wp2_with fail
    go_ret
    exact ⟨rfl, H.out⟩
  · rw [if_neg hl0] at hq
    rw [← hq] at HWR
    have hn : 0 < l.length := List.length_pos_iff.2 hl0
    obtain ⟨n, hn'⟩ : ∃ n, n = l.length := ⟨_, rfl⟩
    rw [← hn'] at HWR hn ⊢
    have hn0 : ((n : Int) == 0) = false := by simp; omega
    clear h hG hE hl0 hok hpp hq hn'
    generalize X.c.logAt + X.c.log = T at *
    generalize X.c.logAt = f at *
    go_enter Tryz.func77, Tryz.ntmps77
    go_wp2_with (first | (go_at_call 55; refine HLG.out.mono ?_; rintro e w2 ⟨rfl, m, rfl⟩) | (go_at_call 145; refine (HWR.out _).mono ?_; rintro e w3 ⟨rfl, h3⟩))
    go_ret
    exact ⟨rfl, h3⟩
end
end Scul
/- heap: field. -/
namespace Scul
open Go Go.Sl Go.RowKit Go.Proofs
theorem objF_range (ks : List (List Int)) (k i : Int) (v : Val) : 0 ≤ (objF ks k i v).1 ∧ (objF ks k i v).1 ≤ 31 := by
  unfold objF
  cases hk : kindAt ks k with
  | none => simp
  | some fs =>
    simp only
    split
    · simp
    · cases hv : valW (fs.getD i.toNat 0) v with
      | none => simp
      | some l =>
        simp only
        have h1 := kwSum_range (fs.take i.toNat)
        have h2 := (kindMay_len (kindAt_some hk).2.2.2.1).2.1
        have h3 : (fs.take i.toNat).length ≤ fs.length := by rw [List.length_take]; omega
        omega
section
variable {E : Env} {w : World} {F A : HP} {X : HX} {U R : List Bool} {d : Dev}
theorem hp_field (k i : Int) (v : Val) (hv : v.Wf) (hi : I64 i) (h : Sat E w (A * (hpR X U R * F))) :
    Calls Tryz.prog 144 #[X.kv, .int .i64 k, .int .i64 i, vagg v] w fun e w' => ∃ s, e = .returned (.tuple #[.int .i64 (objF X.c.kinds k i v).1, s, .int .i64 (objF X.c.kinds k i v).2.2]) ∧ Sat E w' (words s (objF X.c.kinds k i v).2.1 * (A * (hpR X U R * F))) := by
  have hfit := (hp_open (Sat.swap h)).1
  have h3 := objField_calls (F := A * (hpR X U R * F)) w X.ks X.kv k i v hv hi (fun W hW => hp_rdk (Sat.swap hW)) h
  rw [hfit.1.1] at h3
  exact h3
set_option maxRecDepth 100000 in
set_option maxHeartbeats 4000000 in
theorem hfield_calls (w : World) (x : Wr) (hx : x.Wf) (hlen : X.c.words ≤ d.read.length) (h : Sat E w (hpR X U R * (dev X.db d * F))) :
    Calls Tryz.prog 76 #[.pointer (some ⟨X.h, 0, none⟩), wagg x] w fun e w' => ∃ s, e = .returned (.tuple #[.int .i64 (Hp.fieldW X.c U d x).1, s, .int .i64 (Hp.fieldW X.c U d x).2.2]) ∧ Sat E w' (words s (Hp.fieldW X.c U d x).2.1 * (hpR X U R * (dev X.db d * F))) := by
  obtain ⟨q, hq⟩ : ∃ q, q = Hp.fieldW X.c U d x := ⟨_, rfl⟩
  rw [← hq]
  unfold Hp.fieldW at hq
  have hok := hp_ok h
  have hul := (hp_len h).1
  obtain ⟨g, hg⟩ : ∃ g, g = w.heap.size := ⟨_, rfl⟩
  obtain ⟨D, hD⟩ : ∃ D : HP, D = hpR X U R * (dev X.db d * F) := ⟨_, rfl⟩
  have H := Lib.hid (wbox_alloc h x)
  rw [← hg, ← hD] at H
  have HCE : Hid (∀ V (A : HP), Sat E V (A * (wbox g x * D)) → (V.cell? ⟨g, 0, none⟩ = some (.int .i64 x.kind) ∧ V.cell? ⟨g, 1, none⟩ = some (.int .i64 x.obj) ∧ V.cell? ⟨g, 2, none⟩ = some (.int .i64 x.field)) ∧ V.cell? ⟨g, 3, none⟩ = some (.int .i64 x.val.kind) ∧ V.cell? ⟨g, 4, none⟩ = some (.int .i64 x.val.int) ∧ V.cell? ⟨g, 5, none⟩ = some (.int .u64 x.val.re) ∧ V.cell? ⟨g, 6, none⟩ = some (.int .u64 x.val.im) ∧ V.cell? ⟨g, 7, none⟩ = some (.int .i64 x.val.ref)) := Lib.hid fun V A hV => wbox_cells hV.right
  have HCH : Hid (∀ V (A : HP), Sat E V (A * (wbox g x * D)) → V.cell? ⟨X.h, 1, none⟩ = some (.pointer (some ⟨X.lb, 0, none⟩)) ∧ V.cell? ⟨X.h, 2, none⟩ = some X.kv) := Lib.hid fun V A hV => by
    rw [hD] at hV
    have := hp_cells (hV.right)
    exact ⟨this.2.1, this.2.2.1⟩
  have HRA : Hid (∀ V (A : HP), Sat E V (A * (wbox g x * D)) → Calls Tryz.prog 143 #[.pointer (some ⟨X.h, 0, none⟩), wagg x] V fun e w' => e = .returned (.int .i64 (Hp.rootAt X.c x)) ∧ Sat E w' (A * (wbox g x * D))) := Lib.hid fun V A hV => by
    rw [hD] at hV ⊢
    exact (hrootAt_calls (X := X) (U := U) (R := R) V x (F := A * (wbox g x * (dev X.db d * F))) (hV.ac (by ac_rfl))).mono fun e w' ⟨he, h2⟩ => ⟨he, h2.ac (by ac_rfl)⟩
  have HKD : Hid (∀ V, Sat E V (wbox g x * D) → Calls Tryz.prog 21 #[.pointer (some ⟨X.h, 0, none⟩), .int .i64 x.obj] V fun e w' => e = .returned (.tuple #[.int .i64 (Hp.obj X.c U d x.obj).1, .int .i64 (Hp.obj X.c U d x.obj).2.2]) ∧ Sat E w' (wbox g x * D)) := Lib.hid fun V hV => by
    rw [hD] at hV ⊢
    exact (hkind_calls (X := X) (U := U) (R := R) (d := d) V x.obj hlen (F := wbox g x * F) (hV.ac (by ac_rfl))).mono fun e w' ⟨he, h2⟩ => ⟨he, h2.ac (by ac_rfl)⟩
  have HFD : Hid (∀ V, Sat E V (emp * (wbox g x * D)) → Calls Tryz.prog 144 #[X.kv, .int .i64 (Hp.obj X.c U d x.obj).1, .int .i64 x.field, vagg x.val] V fun e w' => ∃ s, e = .returned (.tuple #[.int .i64 (objF X.c.kinds (Hp.obj X.c U d x.obj).1 x.field x.val).1, s, .int .i64 (objF X.c.kinds (Hp.obj X.c U d x.obj).1 x.field x.val).2.2]) ∧ Sat E w' (words s (objF X.c.kinds (Hp.obj X.c U d x.obj).1 x.field x.val).2.1 * (wbox g x * D))) := Lib.hid fun V hV => by
    rw [emp_sep, hD] at hV
    rw [hD]
    exact hp_field _ _ _ hx.val hx.field hV
  have HAT : Hid (∀ V (A : HP), Sat E V (A * (wbox g x * D)) → Calls Tryz.prog 68 #[.pointer (some ⟨X.lb, 0, none⟩), .int .i64 x.obj] V fun e w' => e = .returned (.int .i64 (X.c.at_ x.obj)) ∧ Sat E w' (A * (wbox g x * D))) := Lib.hid fun V A hV => by
    have h1 : Sat E V ((A * wbox g x) * (hpR X U R * (dev X.db d * F))) := by rw [hD] at hV; exact hV.ac (by ac_rfl)
    exact (hpAt_calls x.obj h1).mono fun e w' ⟨he, m, hw⟩ => ⟨he, by rw [hw]; exact hV.drewN m⟩
  have hat : (Hp.obj X.c U d x.obj).2.2 = 0 → 0 ≤ X.c.at_ x.obj ∧ X.c.at_ x.obj ≤ 65536 := fun he => by
    have hu : getB U x.obj = true := by
      unfold Hp.obj at he
      split at he
      · cases he
      · rename_i h; simpa using h
    have hb : 0 ≤ x.obj ∧ x.obj < X.c.count := by have := getB_in hu; rw [hul] at this; have := hok.some; omega
    obtain ⟨g1, g2, g3, g4⟩ := Cfg.at_range hok.toNear hb.1 hb.2
    have hpp := Hp.places hok
    have hlg := hok.toNear.log
    omega
  have hfr := objF_range X.c.kinds (Hp.obj X.c U d x.obj).1 x.field x.val
  show Calls _ _ _ _ fun e w' => ∃ s, e = .returned (.tuple #[.int .i64 q.1, s, .int .i64 q.2.2]) ∧ Sat E w' (words s q.2.1 * (hpR X U R * (dev X.db d * F)))
  rw [← hD]
  have HBX : Hid (∀ V (A : HP), Sat E V (A * (wbox g x * D)) → Sat E V (A * D)) := Lib.hid fun V A hV => Sat.mid hV
  generalize wbox g x * D = B at *
  unfold vagg at HFD
  unfold vcells at HFD
  unfold wagg at *
  unfold wcells at *
  clear h hok hul hlen hD hx
  subst hg
  generalize Hp.rootAt X.c x = ra at *
  generalize Hp.obj X.c U d x.obj = ob at *
  obtain ⟨ok0, ovs, oe⟩ := ob
  simp only at *
  generalize objF X.c.kinds ok0 x.field x.val = of at *
  obtain ⟨fo, fl, fe⟩ := of
  simp only at *
  generalize X.c.at_ x.obj = A0 at *
  obtain ⟨⟨c0, c1, c2⟩, c3, c4, c5, c6, c7⟩ := HCE.out _ emp (by rw [emp_sep]; exact H.out)
  generalize x.kind = k at *
  generalize x.field = f at *
  generalize x.obj = o at *
  generalize x.val.kind = v1 at *
  generalize x.val.int = v2 at *
  generalize x.val.re = v3 at *
  generalize x.val.im = v4 at *
  generalize x.val.ref = v5 at *
  by_cases hk : k = 1
  · subst hk
    rw [if_neg (by simp)] at hq
    by_cases hoe : oe = 0
    · subst hoe
      rw [if_neg (by simp)] at hq
      subst hq
      obtain ⟨ha0, ha1⟩ := hat rfl
      have HA0 : Hid (0 ≤ A0 ∧ A0 ≤ 65536 ∧ 0 ≤ fo ∧ fo ≤ 31) := Lib.hid ⟨ha0, ha1, hfr.1, hfr.2⟩
      clear hat
      go_enter Tryz.func76, Tryz.ntmps76
      go_upto_region 8 with (go_at_call 21; refine (HKD.out _ H.out).mono ?_; rintro e w2 ⟨rfl, h2⟩)
      clear c0 c1 c2 c3 c4 c5 c6 c7 H HKD
      have H2 := Lib.hid (show Sat E w2 (emp * B) from by rw [emp_sep]; exact h2)
      clear h2
      obtain ⟨⟨c0, c1, c2⟩, c3, c4, c5, c6, c7⟩ := HCE.out _ _ H2.out
      obtain ⟨k1, k2⟩ := HCH.out _ _ H2.out
      go_cut [9, 10, 8] (fun s9 s10 s8 wx => s9 = .int .i64 fo ∧ s8 = .int .i64 fe ∧ Sat E wx (words s10 fl * B))
      case first =>
        go_region_held3 (fun V => V.cell? ⟨X.h, 2, none⟩ = some X.kv ∧ V.cell? ⟨w.heap.size, 2, none⟩ = some (.int .i64 f) ∧ V.cell? ⟨w.heap.size, 3, none⟩ = some (.int .i64 v1) ∧ V.cell? ⟨w.heap.size, 4, none⟩ = some (.int .i64 v2) ∧ V.cell? ⟨w.heap.size, 5, none⟩ = some (.int .u64 v3) ∧ V.cell? ⟨w.heap.size, 6, none⟩ = some (.int .u64 v4) ∧ V.cell? ⟨w.heap.size, 7, none⟩ = some (.int .i64 v5)) (first | exact ⟨k2, c2, c3, c4, c5, c6, c7⟩ | exact ⟨(HCH.out _ _ h3).2, (HCE.out _ _ h3).1.2.2, (HCE.out _ _ h3).2⟩) ((go_at_call 144; refine (HFD.out _ (by first | exact H2.out | exact H2.out.drew | exact H2.out.drewN _)).mono ?_; rintro e w3 ⟨s, rfl, h3⟩))
        all_goals
          go_wp2_with fail
          go_meet
          exact ⟨rfl, rfl, h3⟩
      case rest =>
        obtain ⟨rfl, rfl, h5⟩ := hcut
        rename World => W5
        have H5 := Lib.hid h5
        have hsum : IntKind.i64.wrap (A0 + fo) = A0 + fo := wrap_id (by omega) (by omega)
        have hsum2 : wrap64 (A0 + fo) = A0 + fo := by unfold wrap64; omega
        clear h5 c0 c1 c2 c3 c4 c5 c6 c7 k1 k2 H2 ha0 ha1 hfr
        go_upto_region 9 with fail
        go_cut [4, 5, 6] (fun s4 s5 s6 wx => s4 = .int .i64 (A0 + fo) ∧ s6 = .int .i64 fe ∧ Sat E wx (words s5 fl * B))
        case first =>
          have x1 : ∀ y : At E (words u10 fl * B), y.W.cell? ⟨X.h, 1, none⟩ = some (.pointer (some ⟨X.lb, 0, none⟩)) := fun y => (HCH.out _ _ y.ok).1
          have x2 : ∀ y : At E (words u10 fl * B), y.W.cell? ⟨w.heap.size, 1, none⟩ = some (.int .i64 o) := fun y => (HCE.out _ _ y.ok).1.2.1
          refine wp_region_class H5.out (by kernel_rfl) (by kernel_rfl) fun ne => ?_
          repeat (go_big_quiet_step ((go_at_call 68; exact At.call (HAT.out _ _ (At.ok _)))))
          refine wpQuiet_nil ?_
          rintro _ ⟨⟨w4, h4⟩, rfl⟩
          go_wp2_with fail
          go_meet
          exact ⟨rfl, rfl, h4⟩
        case rest =>
          obtain ⟨rfl, rfl, h6⟩ := hcut
          go_wp2_with fail
          go_ret3
          exact ⟨_, rfl, HBX.out _ _ h6⟩
    · rw [if_pos hoe] at hq
      subst hq
      have hoe1 : (oe != 0) = true := by simpa using hoe
      clear hoe hat hfr
      go_enter Tryz.func76, Tryz.ntmps76
      go_wp2_with (go_at_call 21; refine (HKD.out _ H.out).mono ?_; rintro e w2 ⟨rfl, h2⟩)
      go_ret3
      exact ⟨_, rfl, wrow_nil (by have := HBX.out _ emp (by rw [emp_sep]; exact h2); rwa [emp_sep] at this)⟩
  · have hk1 : (k != 1) = true := by simpa using hk
    rw [if_pos hk] at hq
    clear hk hat hfr
    have H0 := Lib.hid (show Sat E _ (emp * B) from by rw [emp_sep]; exact H.out)
    by_cases h3 : v1 = 3
    · subst h3
      rw [if_pos rfl] at hq
      subst hq
      have hwp : (IntKind.u64.wrap (IntKind.u64.wrap v5 + 1)) = (v5 % 18446744073709551616 + 1) % 18446744073709551616 := by rw [IntKind.wrap_u64, IntKind.wrap_u64]
      have hwp1 : IntKind.u64.wrap v5 = v5 % 18446744073709551616 := IntKind.wrap_u64 _
      have HWP := Lib.hid hwp
      clear hwp
      go_enter Tryz.func76, Tryz.ntmps76
      go_upto_region 3 with fail
      have HAL : Hid (∀ V (A : HP) o, Sat E V (A * B) → Sat E (V.alloc o) ((pt V.heap.size o * A) * B)) := Lib.hid fun V A o hV => by rw [sep_assoc]; exact hV.alloc o
      have HW0 : Hid (∀ V (A : HP) n y, Sat E V ((pt n (.cells #[.int .u64 y] 24) * A) * B) → Sat E V (words (.slice (some ⟨n, 0, none⟩) 1 1) [y] * B)) := Lib.hid fun V A n y hV => by
        rw [sep_assoc] at hV
        have h1 : Sat E V (words (.slice (some ⟨n, 0, none⟩) 1 1) [y] * (A * B)) := Sat.row_mk (n := 1) (cap := 1) (size := 1) (cs := [Value.int .u64 y]) hV (Nat.le_refl _) (by simp [maxLen]) rfl rfl
        exact Sat.mid h1
      go_cut [4, 5, 6] (fun s4 s5 s6 wx => s4 = .int .i64 ra ∧ s6 = .int .i64 0 ∧ Sat E wx (words s5 [(v5 % 18446744073709551616 + 1) % 18446744073709551616] * B))
      case first =>
        have HSS : Hid (∀ V (A : HP), Sat E V (A * B) → V.cell? ⟨w.heap.size, 0, none⟩ = some (.int .i64 k) ∧ V.cell? ⟨w.heap.size, 1, none⟩ = some (.int .i64 o) ∧ V.cell? ⟨w.heap.size, 2, none⟩ = some (.int .i64 f) ∧ V.cell? ⟨w.heap.size, 3, none⟩ = some (.int .i64 3) ∧ V.cell? ⟨w.heap.size, 4, none⟩ = some (.int .i64 v2) ∧ V.cell? ⟨w.heap.size, 5, none⟩ = some (.int .u64 v3) ∧ V.cell? ⟨w.heap.size, 6, none⟩ = some (.int .u64 v4) ∧ V.cell? ⟨w.heap.size, 7, none⟩ = some (.int .i64 v5)) := Lib.hid fun V A hV => ⟨(HCE.out _ _ hV).1.1, (HCE.out _ _ hV).1.2.1, (HCE.out _ _ hV).1.2.2, (HCE.out _ _ hV).2⟩
        go_region_held3 (fun V => V.cell? ⟨w.heap.size, 0, none⟩ = some (.int .i64 k) ∧ V.cell? ⟨w.heap.size, 1, none⟩ = some (.int .i64 o) ∧ V.cell? ⟨w.heap.size, 2, none⟩ = some (.int .i64 f) ∧ V.cell? ⟨w.heap.size, 3, none⟩ = some (.int .i64 3) ∧ V.cell? ⟨w.heap.size, 4, none⟩ = some (.int .i64 v2) ∧ V.cell? ⟨w.heap.size, 5, none⟩ = some (.int .u64 v3) ∧ V.cell? ⟨w.heap.size, 6, none⟩ = some (.int .u64 v4) ∧ V.cell? ⟨w.heap.size, 7, none⟩ = some (.int .i64 v5)) (first | exact ⟨c0, c1, c2, c3, c4, c5, c6, c7⟩ | exact HSS.out _ _ h3 | exact HSS.out _ _ (HAL.out _ _ _ h3) | exact HSS.out _ _ (HAL.out _ _ _ H0.out) | exact HSS.out _ _ (HAL.out _ _ _ H0.out.drew)) ((go_at_call 143; refine (HRA.out _ _ (by first | exact H0.out | exact H0.out.drew | exact HAL.out _ _ _ H0.out | exact HAL.out _ _ _ H0.out.drew)).mono ?_; rintro e w3 ⟨rfl, h3⟩))
        all_goals
          go_wp2_with fail
          go_meet
          first
            | exact ⟨rfl, rfl, words_new1 (by have := h3; rwa [emp_sep] at this) _⟩
            | exact ⟨rfl, rfl, HW0.out _ _ _ _ h3⟩
            | exact ⟨rfl, rfl, HW0.out _ _ _ _ (HAL.out _ _ _ h3)⟩
            | exact ⟨rfl, rfl, by have h7 := HW0.out _ _ _ _ h3; rw [IntKind.wrap_u64] at h7; simpa only [World.size_alloc] using h7⟩
      case rest =>
        obtain ⟨rfl, rfl, h6⟩ := hcut
        go_wp2_with fail
        go_ret3
        exact ⟨_, rfl, by have h7 := HBX.out _ (words u5 [(v5 % 18446744073709551616 + 1) % 18446744073709551616]) h6; exact h7⟩
    · rw [if_neg h3] at hq
      subst hq
      have h31 : (v1 == 3) = false := by simpa using h3
      clear h3
      go_enter Tryz.func76, Tryz.ntmps76
      go_wp2_with (go_at_call 143; refine (HRA.out _ _ H0.out).mono ?_; rintro e w2 ⟨rfl, h2⟩)
      go_ret3
      exact ⟨_, rfl, words_new1 (by have := HBX.out _ _ h2; rwa [emp_sep] at this) 0⟩
end
end Scul
/- heap: mayBlocks, each. -/
namespace Scul
open Go Go.Sl Go.RowKit Go.Proofs
def wrCells (l : List Wr) : List Value := l.flatMap fun v => (wcells v).toList
theorem wrCells_at (l : List Wr) (k j : Nat) (hk : k < l.length) (hj : j < 8) : (wrCells l)[8 * k + j]? = (wcells l[k])[j]? := by
  induction l generalizing k with
  | nil => simp at hk
  | cons c l ih =>
    show ((wcells c).toList ++ wrCells l)[8 * k + j]? = _
    cases k with
    | zero =>
      rw [Nat.mul_zero, Nat.zero_add, List.getElem?_append_left (by simpa [wcells] using hj)]
      simp
    | succ k =>
      rw [List.getElem?_append_right (by simp [wcells]; omega)]
      have e : 8 * (k + 1) + j - (wcells c).toList.length = 8 * k + j := by simp [wcells]; omega
      rw [e, ih k (by simpa using hk)]
      rfl
theorem wrCells_append (l m : List Wr) : wrCells (l ++ m) = wrCells l ++ wrCells m := by simp [wrCells]
/-- A slice that reads as writes. -/
def RdW (w : World) (v : Value) (l : List Wr) : Prop := Rd w 8 v l.length (wrCells l)
theorem RdW.nth {w : World} {ao : Option Addr} {c : Nat} {l : List Wr} (h : RdW w (.slice ao l.length c) l) (k : Nat) (hk : k < l.length) :
    ∃ bb o, ao = some ⟨bb, o, none⟩ ∧ (w.cell? ⟨bb, o + k * 8, none⟩ = some (.int .i64 l[k].kind) ∧ w.cell? ⟨bb, o + k * 8 + 1, none⟩ = some (.int .i64 l[k].obj) ∧ w.cell? ⟨bb, o + k * 8 + 2, none⟩ = some (.int .i64 l[k].field)) ∧ w.cell? ⟨bb, o + k * 8 + 3, none⟩ = some (.int .i64 l[k].val.kind) ∧ w.cell? ⟨bb, o + k * 8 + 4, none⟩ = some (.int .i64 l[k].val.int) ∧ w.cell? ⟨bb, o + k * 8 + 5, none⟩ = some (.int .u64 l[k].val.re) ∧ w.cell? ⟨bb, o + k * 8 + 6, none⟩ = some (.int .u64 l[k].val.im) ∧ w.cell? ⟨bb, o + k * 8 + 7, none⟩ = some (.int .i64 l[k].val.ref) := by
  obtain ⟨bb, o, rfl, hc⟩ := Rd.at h (by omega)
  have g : ∀ j u, j < 8 → (wcells l[k])[j]? = some u → w.cell? ⟨bb, o + (8 * k + j), none⟩ = some u := fun j u hj hu => hc (8 * k + j) _ (by rw [wrCells_at l k j hk hj]; exact hu)
  have e : ∀ j, o + (8 * k + j) = o + k * 8 + j := fun j => by omega
  refine ⟨bb, o, rfl, ⟨?_, ?_, ?_⟩, ?_, ?_, ?_, ?_, ?_⟩
  · have := g 0 _ (by omega) rfl; rwa [e 0] at this
  · have := g 1 _ (by omega) rfl; rwa [e 1] at this
  · have := g 2 _ (by omega) rfl; rwa [e 2] at this
  · have := g 3 _ (by omega) rfl; rwa [e 3] at this
  · have := g 4 _ (by omega) rfl; rwa [e 4] at this
  · have := g 5 _ (by omega) rfl; rwa [e 5] at this
  · have := g 6 _ (by omega) rfl; rwa [e 6] at this
  · have := g 7 _ (by omega) rfl; rwa [e 7] at this
section
variable {E : Env} {w : World} {F A : HP} {X : HX} {U R : List Bool} {d : Dev}
set_option maxRecDepth 100000 in
set_option maxHeartbeats 1000000 in
theorem hmayBlocks_calls (w : World) (l : List Int) (ao : Option Addr) (cc : Nat) (hv : Rd w 1 (.slice ao l.length cc) l.length (i64s l)) (h : Sat E w (hpR X U R * F)) :
    Calls Tryz.prog 103 #[.pointer (some ⟨X.h, 0, none⟩), .slice ao l.length cc] w fun e w' => e = .returned (.bool (mayB R [] l)) ∧ w' = w := by
  have hm := hv.most
  have hcl := hp_cells (A := emp) (w := w) (X := X) (U := U) (R := R) (F := F) (E := E) (by rw [emp_sep]; exact h)
  have c3 := hcl.2.2.2
  have HG : Hid (∀ i, Calls Tryz.prog 65 #[.pointer (some ⟨X.tb, 0, none⟩), .int .i64 i] w fun e w' => e = .returned (.bool (getB R i)) ∧ w' = w) := Lib.hid fun i => hpReserved_calls i (A := emp) (w := w) (X := X) (U := U) (R := R) (F := F) (E := E) (by rw [emp_sep]; exact h)
  have HC : Hid (∀ (n : Nat) x, n ≤ l.length → Calls Tryz.prog 153 #[.slice ao n cc, .int .i64 x] w fun e w' => e = .returned (.bool ((l.take n).contains x)) ∧ w' = w) := Lib.hid fun n x hn => containsI_calls w ao cc n l x hn hv
  obtain ⟨ao', cc', heq, hcc⟩ := hv.val
  simp only [Value.slice.injEq, true_and] at heq
  obtain ⟨rfl, rfl⟩ := heq
  obtain ⟨r, hr⟩ : ∃ r, r = mayB R [] l := ⟨_, rfl⟩
  rw [← hr]
  have HX := Lib.hid hr
  obtain ⟨n, hn⟩ : ∃ n, n = l.length := ⟨_, rfl⟩
  rw [← hn] at hv HC hm hcc ⊢
  have HN := Lib.hid hn
  have HV := Lib.hid hv
  clear hr hn hv h hcl
  go_enter Tryz.func103, Tryz.ntmps103
  go_wp2_with fail
  go_loopw [9] (fun iv wr => ∃ k : Nat, k ≤ n ∧ iv = .int .i64 k ∧ r = mayB R (l.take k) (l.drop k) ∧ wr = w) (fun iv _ => n - (RowKit.intOf iv).toNat)
  case atStart => exact ⟨0, Nat.zero_le _, rfl, by rw [HX.out]; rfl, rfl⟩
  case round =>
    obtain ⟨k, hk, rfl, he, rfl⟩ := hrel
    by_cases hlt : k < n
    · obtain ⟨b, o, rfl, hc⟩ := HV.out.at (by omega)
      have cx := Rd.nthI HV.out k hlt
      clear hc
      have hk2 : k < l.length := by rw [← HN.out]; exact hlt
      have hgd : l.getD k 0 = l[k] := by rw [List.getD_eq_getElem?_getD, List.getElem?_eq_getElem hk2]; rfl
      rw [hgd] at cx
      have hd : l.drop k = l[k] :: l.drop (k + 1) := List.drop_eq_getElem_cons hk2
      have ht : l.take k ++ [l[k]] = l.take (k + 1) := (List.take_succ_eq_append_getElem hk2).symm
      have HCk := Lib.hid (HC.out k l[k] (by omega))
      have HGk := Lib.hid (HG.out l[k])
      rw [hd] at he
      unfold mayB at he
      rw [ht] at he
      generalize l[k] = x at *
      clear hd ht hgd hk2
      cases hg : getB R x with
      | false =>
        rw [hg] at HGk he
        have hr : r = false := by simpa using he
        subst hr
        clear hg he
        go_wp2_with (go_at_call 65; refine HGk.out.mono ?_; rintro e w' ⟨rfl, rfl⟩)
        go_ret
        exact ⟨rfl, by first | rfl | trivial⟩
      | true =>
        cases hcn : (l.take k).contains x with
        | true =>
          rw [hg] at HGk he; rw [hcn] at HCk he
          have hr : r = false := by simpa using he
          subst hr
          clear hg he hcn
          go_wp2_with (first | (go_at_call 65; refine HGk.out.mono ?_; rintro e w' ⟨rfl, rfl⟩) | (go_at_call 153; refine HCk.out.mono ?_; rintro e w' ⟨rfl, rfl⟩))
          go_ret
          exact ⟨rfl, by first | rfl | trivial⟩
        | false =>
          rw [hg] at HGk he; rw [hcn] at HCk he
          have HE : Hid (r = mayB R (l.take (k + 1)) (l.drop (k + 1))) := Lib.hid (by simpa using he)
          clear hg he hcn
          go_wp2_with (first | (go_at_call 65; refine HGk.out.mono ?_; rintro e w' ⟨rfl, rfl⟩) | (go_at_call 153; refine HCk.out.mono ?_; rintro e w' ⟨rfl, rfl⟩))
          exact ⟨⟨k + 1, by omega, by go_num, HE.out, by first | rfl | trivial⟩, by simp [RowKit.intOf]; omega⟩
    · obtain rfl : k = n := by omega
      rw [HN.out, List.drop_length] at he
      have hr : r = true := he
      subst hr
      clear he
      go_wp2_with fail
      go_ret
      exact ⟨rfl, by first | rfl | trivial⟩
theorem firstE_drop (ask : Wr → Int) (l : List Wr) (k : Nat) (hk : k < l.length) : Hp.firstE ask (l.drop k) = if ask l[k] ≠ 0 then ask l[k] else Hp.firstE ask (l.drop (k + 1)) := by
  rw [List.drop_eq_getElem_cons hk]
  rfl
set_option maxRecDepth 100000 in
set_option maxHeartbeats 1000000 in
theorem heach_calls (w : World) (f : FuncId) (ra rb : Array Value) (ask : Wr → Int) (ws : List Wr) (wa : Option Addr) (wc : Nat) (P : Nat → HP) (hw : ∀ k W, Sat E W (P k * F) → RdW W (.slice wa ws.length wc) ws)
    (hcf : ∀ args W, (callFunc f args).run Tryz.prog W = .ok (.enter f args) W)
    (hf : ∀ k (hk : k < ws.length) W, Sat E W (P k * F) → Calls Tryz.prog f (ra.push (wagg ws[k]) ++ rb) W fun e w' => e = .returned (.int .i64 (ask ws[k])) ∧ Sat E w' (P (k + 1) * F)) (h : Sat E w (P 0 * F)) :
    Calls Tryz.prog 111 #[.slice wa ws.length wc, .func (.func f) ra rb] w fun e w' => e = .returned (.int .i64 (Hp.firstE ask ws)) ∧ ∃ k, (Hp.firstE ask ws = 0 → k = ws.length) ∧ Sat E w' (P k * F) := by
  obtain ⟨r, hr⟩ : ∃ r, r = Hp.firstE ask ws := ⟨_, rfl⟩
  rw [← hr]
  have HX := Lib.hid hr
  have hm := Rd.most (hw 0 w h)
  obtain ⟨_, _, heq, hcc⟩ := Rd.val (hw 0 w h)
  simp only [Value.slice.injEq, true_and] at heq
  obtain ⟨rfl, rfl⟩ := heq
  have HW := Lib.hid hw
  have HF : Hid (∀ k (hk : k < ws.length) W, Sat E W (P k * F) → Calls Tryz.prog f (ra.push (.agg #[.int .i64 ws[k].kind, .int .i64 ws[k].obj, .int .i64 ws[k].field, .int .i64 ws[k].val.kind, .int .i64 ws[k].val.int, .int .u64 ws[k].val.re, .int .u64 ws[k].val.im, .int .i64 ws[k].val.ref]) ++ rb) W fun e w' => e = .returned (.int .i64 (ask ws[k])) ∧ Sat E w' (P (k + 1) * F)) := Lib.hid hf
  have HS := Lib.hid h
  have HCF := Lib.hid hcf
  obtain ⟨n, hn⟩ : ∃ n, n = ws.length := ⟨_, rfl⟩
  have HN := Lib.hid hn
  rw [← hn] at hm hcc ⊢
  obtain ⟨Q, hQ⟩ : ∃ Q : Ending → World → Prop, Q = fun e w' => e = .returned (.int .i64 r) ∧ ∃ k, (r = 0 → k = n) ∧ Sat E w' (P k * F) := ⟨_, rfl⟩
  have HQ : Hid (∀ e w', Q e w' ↔ e = .returned (.int .i64 r) ∧ ∃ k, (r = 0 → k = n) ∧ Sat E w' (P k * F)) := Lib.hid fun e w' => by rw [hQ]
  refine Calls.mono (R := Q) ?_ fun e w' hp => (HQ.out e w').1 hp
  clear hQ
  clear hr hw hf h hn hcf
  go_enter Tryz.func111, Tryz.ntmps111
  go_wp2_with fail
  go_loopw [10] (fun iv wr => ∃ k : Nat, k ≤ n ∧ iv = .int .i64 (k : Int) ∧ r = Hp.firstE ask (ws.drop k) ∧ Sat E wr (P k * F)) (fun iv _ => n - (RowKit.intOf iv).toNat)
  case atStart => exact ⟨0, Nat.zero_le _, rfl, by rw [HX.out]; rfl, HS.out⟩
  case round =>
    obtain ⟨k, hk, rfl, he, hr⟩ := hrel
    have HR := Lib.hid hr
    clear HS
    by_cases hkn : k = n
    · subst hkn
      have hr0 : r = 0 := by rw [he, HN.out, List.drop_length]; rfl
      subst hr0
      clear he hr
      go_wp2_with fail
      exact (HQ.out _ _).2 ⟨rfl, k, fun _ => rfl, HR.out⟩
    · have hk1 : (k : Int) < n := by omega
      have hkc : ¬ n ≤ k := by omega
      have hkv : k < ws.length := by have := HN.out; omega
      have hrv := HW.out k wr hr
      obtain ⟨bb, oo, rfl, ⟨y0, y1, y2⟩, y3, y4, y5, y6, y7⟩ := RdW.nth hrv k hkv
      rw [firstE_drop ask ws k hkv] at he
      have HFk := Lib.hid (fun V hV => HF.out k hkv V hV)
      have HAL : Hid (∀ o, Sat E (wr.alloc o) (P k * F)) := Lib.hid fun o => Sat.right (HR.out.alloc o)
      generalize ws[k] = x at *
      clear hrv hr hkv
      by_cases ha : ask x = 0
      · rw [if_neg (by simpa using ha)] at he
        have HE := Lib.hid he
        rw [ha] at HFk
        clear he ha
        go_wp2_with fail
        rw [HCF.out]
        refine (HFk.out _ (HAL.out _)).mono ?_
        rintro e w2 ⟨rfl, h2⟩
        go_wp2_with fail
        exact ⟨⟨k + 1, by omega, by go_num, HE.out, h2⟩, by simp [RowKit.intOf]; omega⟩
      · rw [if_pos ha] at he
        have ha1 : (r != 0) = true := by rw [he]; simpa using ha
        have ha0 : r ≠ 0 := by rw [he]; exact ha
        rw [← he] at HFk
        clear he ha
        go_wp2_with fail
        rw [HCF.out]
        refine (HFk.out _ (HAL.out _)).mono ?_
        rintro e w2 ⟨rfl, h2⟩
        go_wp2_with fail
        exact (HQ.out _ _).2 ⟨rfl, k + 1, fun h0 => absurd h0 ha0, h2⟩
end
end Scul
/- heap: what Fits asks of each write. -/
namespace Scul
open Go Go.Sl Go.RowKit Go.Proofs
/-- The boxes that Fits keeps: the heap, the blocks, the count. -/
def fbox (X : HX) (hb bb cb : Nat) (bv : Value) (cnt : Int) : HP := pt hb (.cells #[.pointer (some ⟨X.h, 0, none⟩)] 35) * (pt bb (.cells #[bv] 38) * pt cb (.cells #[.int .i64 cnt] 3))
section
variable {E : Env} {w : World} {F A G : HP} {X : HX} {U R : List Bool} {d : Dev} {hb bb cb : Nat} {bv : Value} {cnt : Int}
theorem fbox_cells (h : Sat E w (fbox X hb bb cb bv cnt * F)) : w.cell? ⟨hb, 0, none⟩ = some (.pointer (some ⟨X.h, 0, none⟩)) ∧ w.cell? ⟨bb, 0, none⟩ = some bv ∧ w.cell? ⟨cb, 0, none⟩ = some (.int .i64 cnt) ∧ w.frozen? ⟨cb, 0, none⟩ = false := by
  unfold fbox at h
  rw [sep_assoc, sep_assoc] at h
  exact ⟨h.cell 0 rfl, h.right.cell 0 rfl, h.right.right.cell 0 rfl, h.right.right.free 0⟩
theorem fbox_set (h : Sat E w (fbox X hb bb cb bv cnt * F)) (y : Int) : Sat E (w.setCell ⟨cb, 0, none⟩ (.int .i64 y)) (fbox X hb bb cb bv y * F) := by
  unfold fbox at *
  have h1 : Sat E w (pt cb (.cells #[.int .i64 cnt] 3) * (pt hb (.cells #[.pointer (some ⟨X.h, 0, none⟩)] 35) * (pt bb (.cells #[bv] 38) * F))) := h.ac (by ac_rfl)
  have h2 := h1.setCell (i := 0) (v := .int .i64 y)
  simp only [List.setIfInBounds_toArray, List.set_cons_zero] at h2
  exact h2.ac (by ac_rfl)
set_option maxRecDepth 100000 in
set_option maxHeartbeats 1000000 in
theorem fits1_calls (w : World) (x : Wr) (bl : List Int) (ba : Option Addr) (bc : Nat) (hbl : ∀ W, Sat E W F → Rd W 1 (.slice ba bl.length bc) bl.length (i64s bl)) (h : Sat E w (fbox X hb bb cb (.slice ba bl.length bc) cnt * (hpR X U R * F))) :
    Calls Tryz.prog 106 #[wagg x, .pointer (some ⟨hb, 0, none⟩), .pointer (some ⟨bb, 0, none⟩)] w fun e w' => e = .returned (.int .i64 (Hp.refersE U bl x)) ∧ Sat E w' (fbox X hb bb cb (.slice ba bl.length bc) cnt * (hpR X U R * F)) := by
  have H := Lib.hid (wbox_alloc h x)
  have HRF := Lib.hid (hrefers_calls (X := X) (U := U) (R := R) (w.alloc (.cells (wcells x) 49)) x bl ba bc (F := (wbox w.heap.size x * fbox X hb bb cb (.slice ba bl.length bc) cnt) * F) (fun W hW => hbl W hW.right) (H.out.ac (by ac_rfl)))
  obtain ⟨b1, b2, _, _⟩ := fbox_cells H.out.right
  obtain ⟨⟨c0, c1, c2⟩, c3, c4, c5, c6, c7⟩ := wbox_cells H.out
  have HB : Hid (∀ V, Sat E V (hpR X U R * ((wbox w.heap.size x * fbox X hb bb cb (.slice ba bl.length bc) cnt) * F)) → Sat E V (fbox X hb bb cb (.slice ba bl.length bc) cnt * (hpR X U R * F))) := Lib.hid fun V hV => Sat.right (hV.ac (B := wbox w.heap.size x * (fbox X hb bb cb (.slice ba bl.length bc) cnt * (hpR X U R * F))) (by ac_rfl))
  generalize Hp.refersE U bl x = q at *
  generalize bl.length = n at *
  unfold wagg at *
  unfold wcells at *
  clear h hbl
  generalize x.kind = k at *
  generalize x.field = f at *
  generalize x.obj = o at *
  generalize x.val.kind = v1 at *
  generalize x.val.int = v2 at *
  generalize x.val.re = v3 at *
  generalize x.val.im = v4 at *
  generalize x.val.ref = v5 at *
  go_enter Tryz.func106, Tryz.ntmps106
  go_wp2_with (go_at_call 107; refine HRF.out.mono ?_; rintro e w2 ⟨rfl, h2⟩)
  go_ret
  exact ⟨rfl, HB.out _ h2⟩
set_option maxRecDepth 100000 in
set_option maxHeartbeats 1000000 in
theorem fits2_calls (w : World) (x : Wr) (hx : x.Wf) (hlen : X.c.words ≤ d.read.length) (h : Sat E w (fbox X hb bb cb bv cnt * (hpR X U R * (dev X.db d * F)))) :
    Calls Tryz.prog 109 #[wagg x, .pointer (some ⟨hb, 0, none⟩)] w fun e w' => e = .returned (.int .i64 (Hp.field5E X.c U d x)) ∧ Sat E w' (fbox X hb bb cb bv cnt * (hpR X U R * (dev X.db d * F))) := by
  obtain ⟨q, hq⟩ : ∃ q, q = Hp.field5E X.c U d x := ⟨_, rfl⟩
  rw [← hq]
  unfold Hp.field5E at hq
  have H := Lib.hid (wbox_alloc h x)
  have HFD := Lib.hid (hfield_calls (X := X) (U := U) (R := R) (d := d) (w.alloc (.cells (wcells x) 49)) x hx hlen (F := (wbox w.heap.size x * fbox X hb bb cb bv cnt) * F) (H.out.ac (by ac_rfl)))
  obtain ⟨b1, _, _, _⟩ := fbox_cells H.out.right
  obtain ⟨⟨c0, c1, c2⟩, c3, c4, c5, c6, c7⟩ := wbox_cells H.out
  have HB : Hid (∀ V (A : HP), Sat E V (A * (hpR X U R * (dev X.db d * ((wbox w.heap.size x * fbox X hb bb cb bv cnt) * F)))) → Sat E V (fbox X hb bb cb bv cnt * (hpR X U R * (dev X.db d * F)))) := Lib.hid fun V A hV => Sat.right (hV.ac (B := (A * wbox w.heap.size x) * (fbox X hb bb cb bv cnt * (hpR X U R * (dev X.db d * F)))) (by ac_rfl))
  generalize Hp.fieldW X.c U d x = fw at *
  obtain ⟨fa, fl, fe⟩ := fw
  simp only at *
  unfold wagg at *
  unfold wcells at *
  clear h hx hlen
  generalize x.kind = k at *
  generalize x.field = f at *
  generalize x.obj = o at *
  generalize x.val.kind = v1 at *
  generalize x.val.int = v2 at *
  generalize x.val.re = v3 at *
  generalize x.val.im = v4 at *
  generalize x.val.ref = v5 at *
  by_cases h3 : fe = 3
  · subst h3
    rw [if_neg (by simp)] at hq
    subst hq
    go_enter Tryz.func109, Tryz.ntmps109
    go_wp2_with (go_at_call 76; refine HFD.out.mono ?_; rintro e w2 ⟨s, rfl, h2⟩)
    go_ret
    exact ⟨rfl, HB.out _ _ h2⟩
  · have h31 : (fe != 3) = true := by simpa using h3
    rw [if_pos h3] at hq
    subst hq
    clear h3
    go_enter Tryz.func109, Tryz.ntmps109
    go_wp2_with (go_at_call 76; refine HFD.out.mono ?_; rintro e w2 ⟨s, rfl, h2⟩)
    go_ret
    exact ⟨rfl, HB.out _ _ h2⟩
set_option maxRecDepth 100000 in
set_option maxHeartbeats 1000000 in
theorem fits3_calls (w : World) (x : Wr) (hx : x.Wf) (hlen : X.c.words ≤ d.read.length) (hcnt : 0 ≤ cnt ∧ cnt ≤ 1000000) (hfl : (Hp.fieldW X.c U d x).2.1.length ≤ 2) (h : Sat E w (fbox X hb bb cb bv cnt * (hpR X U R * (dev X.db d * F)))) :
    Calls Tryz.prog 110 #[wagg x, .pointer (some ⟨hb, 0, none⟩), .pointer (some ⟨cb, 0, none⟩)] w fun e w' => e = .returned (.int .i64 (Hp.field6E X.c U d x)) ∧ Sat E w' (fbox X hb bb cb bv (cnt + (Hp.fieldW X.c U d x).2.1.length) * (hpR X U R * (dev X.db d * F))) := by
  have H := Lib.hid (wbox_alloc h x)
  have HFD := Lib.hid (hfield_calls (X := X) (U := U) (R := R) (d := d) (w.alloc (.cells (wcells x) 49)) x hx hlen (F := (wbox w.heap.size x * fbox X hb bb cb bv cnt) * F) (H.out.ac (by ac_rfl)))
  obtain ⟨b1, _, _, _⟩ := fbox_cells H.out.right
  obtain ⟨⟨c0, c1, c2⟩, c3, c4, c5, c6, c7⟩ := wbox_cells H.out
  have HB : Hid (∀ V (A : HP), Sat E V (A * (hpR X U R * (dev X.db d * ((wbox w.heap.size x * fbox X hb bb cb bv cnt) * F)))) → Sat E V (fbox X hb bb cb bv cnt * (hpR X U R * (dev X.db d * F)))) := Lib.hid fun V A hV => Sat.right (hV.ac (B := (A * wbox w.heap.size x) * (fbox X hb bb cb bv cnt * (hpR X U R * (dev X.db d * F)))) (by ac_rfl))
  have HCC : Hid (∀ V, Sat E V (fbox X hb bb cb bv cnt * (hpR X U R * (dev X.db d * F))) → V.cell? ⟨cb, 0, none⟩ = some (.int .i64 cnt) ∧ V.frozen? ⟨cb, 0, none⟩ = false) := Lib.hid fun V hV => ⟨(fbox_cells hV).2.2.1, (fbox_cells hV).2.2.2⟩
  have HST : Hid (∀ V y, Sat E V (fbox X hb bb cb bv cnt * (hpR X U R * (dev X.db d * F))) → Sat E (V.setCell ⟨cb, 0, none⟩ (.int .i64 y)) (fbox X hb bb cb bv y * (hpR X U R * (dev X.db d * F)))) := Lib.hid fun V y hV => fbox_set hV y
  unfold Hp.field6E
  generalize Hp.fieldW X.c U d x = fw at *
  obtain ⟨fa, fl, fe⟩ := fw
  simp only at *
  unfold wagg at *
  unfold wcells at *
  clear h hx hlen
  generalize x.kind = k at *
  generalize x.field = f at *
  generalize x.obj = o at *
  generalize x.val.kind = v1 at *
  generalize x.val.int = v2 at *
  generalize x.val.re = v3 at *
  generalize x.val.im = v4 at *
  generalize x.val.ref = v5 at *
  obtain ⟨n, hn⟩ : ∃ n, n = fl.length := ⟨_, rfl⟩
  have HN := Lib.hid hn
  rw [← hn] at hfl ⊢
  have hfl2 : (n : Int) ≤ 2 := by omega
  have hfl0 : (0 : Int) ≤ n := by omega
  clear hn
  go_enter Tryz.func110, Tryz.ntmps110
  go_wp2_with (go_at_call 76; refine HFD.out.mono ?_; rintro e w2 ⟨s, rfl, h2⟩; obtain ⟨sa, sc, rfl, _⟩ := words_val h2; rw [← HN.out] at *; obtain ⟨d1, d2⟩ := HCC.out _ (HB.out _ _ h2))
  go_ret
  exact ⟨rfl, HST.out _ _ (HB.out _ _ h2)⟩
end
end Scul
/- heap: each of Fits' questions, of all writes. -/
namespace Scul
open Go Go.Sl Go.RowKit Go.Proofs
theorem callFunc_enter {P : Program} {f : FuncId} {fn : Func} (hf : P.funcs[f]? = some fn) (hname : (fn.name == "runtime.NumGoroutine") = false) (hb : fn.body.isNone = false) (args : Array Value) (w : World) :
    (callFunc f args).run P w = .ok (.enter f args) w := by
  have h1 : fn.name ≠ "runtime.NumGoroutine" := by simpa using hname
  have h2 : ¬ fn.body = none := by intro h; rw [h] at hb; cases hb
  simp [callFunc, hf, h1, h2]
theorem fieldW_len (c : Cfg) (U : List Bool) (d : Dev) (x : Wr) : (Hp.fieldW c U d x).2.1.length ≤ 2 := by
  unfold Hp.fieldW
  split
  · simp only; split <;> simp
  · split
    · simp
    · unfold objF
      split
      · simp
      · split
        · simp
        · split
          · simp
          · rename_i h
            have h1 := valW_length h
            simp only
            have h3 := Int.le_trans (Int.le_of_eq h1) (kw_range _).2
            omega
theorem fieldN_append (c : Cfg) (U : List Bool) (d : Dev) (a b : List Wr) : Hp.fieldN c U d (a ++ b) = Hp.fieldN c U d a + Hp.fieldN c U d b := by
  induction a with
  | nil => simp [Hp.fieldN]
  | cons w a ih => simp only [List.cons_append, Hp.fieldN, ih]; omega
theorem fieldN_take (c : Cfg) (U : List Bool) (d : Dev) (ws : List Wr) (j : Nat) (hj : j < ws.length) : Hp.fieldN c U d (ws.take (j + 1)) = Hp.fieldN c U d (ws.take j) + (Hp.fieldW c U d ws[j]).2.1.length := by
  rw [List.take_succ_eq_append_getElem hj, fieldN_append]
  simp [Hp.fieldN]
theorem fieldN_range (c : Cfg) (U : List Bool) (d : Dev) (ws : List Wr) : 0 ≤ Hp.fieldN c U d ws ∧ Hp.fieldN c U d ws ≤ 2 * ws.length := by
  induction ws with
  | nil => simp [Hp.fieldN]
  | cons w a ih => have := fieldW_len c U d w; simp only [Hp.fieldN, List.length_cons]; omega
/-- The six questions. -/
def askE (c : Cfg) (U : List Bool) (d : Dev) (bl : List Int) (k : Nat) : Wr → Int :=
  if k = 0 then Hp.placeE U else if k = 1 then Hp.indexE c else if k = 2 then Hp.refersE U bl else if k = 3 then Hp.typedE else if k = 4 then Hp.field5E c U d else Hp.field6E c U d
def askV (X : HX) (hb bb cb : Nat) (k : Nat) : Value :=
  if k = 0 then .func (.func 104) #[.pointer (some ⟨X.h, 0, none⟩)] #[] else if k = 1 then .func (.func 105) #[.pointer (some ⟨X.h, 0, none⟩)] #[] else if k = 2 then .func (.func 106) #[] #[.pointer (some ⟨hb, 0, none⟩), .pointer (some ⟨bb, 0, none⟩)]
  else if k = 3 then .func (.func 108) #[] #[] else if k = 4 then .func (.func 109) #[] #[.pointer (some ⟨hb, 0, none⟩)] else .func (.func 110) #[] #[.pointer (some ⟨hb, 0, none⟩), .pointer (some ⟨cb, 0, none⟩)]
section
variable {E : Env} {w : World} {F A G : HP} {X : HX} {U R : List Bool} {d : Dev} {hb bb cb : Nat}
theorem hask_calls (w : World) (k : Nat) (hk : k < 6) (bl : List Int) (ba : Option Addr) (bc : Nat) (ws : List Wr) (wa : Option Addr) (wc : Nat) (hwf : ∀ x ∈ ws, x.Wf) (hwl : ws.length ≤ 100000) (hbl : ∀ W, Sat E W F → Rd W 1 (.slice ba bl.length bc) bl.length (i64s bl)) (hws : ∀ W, Sat E W F → RdW W (.slice wa ws.length wc) ws) (hlen : X.c.words ≤ d.read.length)
    (h : Sat E w (fbox X hb bb cb (.slice ba bl.length bc) 0 * (hpR X U R * (dev X.db d * F)))) :
    Calls Tryz.prog 111 #[.slice wa ws.length wc, askV X hb bb cb k] w fun e w' => e = .returned (.int .i64 (Hp.firstE (askE X.c U d bl k) ws)) ∧ ∃ cnt, (Hp.firstE (askE X.c U d bl k) ws = 0 → cnt = if k = 5 then Hp.fieldN X.c U d ws else 0) ∧ Sat E w' (fbox X hb bb cb (.slice ba bl.length bc) cnt * (hpR X U R * (dev X.db d * F))) := by
  have hk6 : k = 0 ∨ k = 1 ∨ k = 2 ∨ k = 3 ∨ k = 4 ∨ k = 5 := by omega
  have hw2 : ∀ (P : Nat → HP) (j : Nat) W, Sat E W (P j * (hpR X U R * (dev X.db d * F))) → RdW W (.slice wa ws.length wc) ws := fun P j W hW => hws W hW.right.right.right
  have hcon : ∀ (f : FuncId) (ra rb : Array Value) (ask : Wr → Int), k ≠ 5 → (∀ args W, (callFunc f args).run Tryz.prog W = .ok (.enter f args) W) →
      (∀ x ∈ ws, ∀ W, Sat E W (fbox X hb bb cb (.slice ba bl.length bc) 0 * (hpR X U R * (dev X.db d * F))) → Calls Tryz.prog f (ra.push (wagg x) ++ rb) W fun e w' => e = .returned (.int .i64 (ask x)) ∧ Sat E w' (fbox X hb bb cb (.slice ba bl.length bc) 0 * (hpR X U R * (dev X.db d * F)))) →
      Calls Tryz.prog 111 #[.slice wa ws.length wc, .func (.func f) ra rb] w fun e w' => e = .returned (.int .i64 (Hp.firstE ask ws)) ∧ ∃ cnt, (Hp.firstE ask ws = 0 → cnt = if k = 5 then Hp.fieldN X.c U d ws else 0) ∧ Sat E w' (fbox X hb bb cb (.slice ba bl.length bc) cnt * (hpR X U R * (dev X.db d * F))) := fun f ra rb ask hk5 hcf hf =>
    (heach_calls w f ra rb ask ws wa wc (fun _ => fbox X hb bb cb (.slice ba bl.length bc) 0) (hw2 _) hcf (fun j hj W hW => hf _ (List.getElem_mem hj) W hW) h).mono fun e w' ⟨he, _, _, h2⟩ => ⟨he, 0, fun _ => by rw [if_neg hk5], h2⟩
  rcases hk6 with rfl | rfl | rfl | rfl | rfl | rfl
  · exact hcon _ _ _ _ (by decide) (callFunc_enter Tryz.func104 (by kernel_rfl) (by kernel_rfl)) fun x hx W hW =>
      (hplace_calls (X := X) (U := U) (R := R) W x (F := fbox X hb bb cb (.slice ba bl.length bc) 0 * (dev X.db d * F)) (hW.ac (by ac_rfl))).mono fun e w' ⟨he, h2⟩ => ⟨he, h2.ac (by ac_rfl)⟩
  · exact hcon _ _ _ _ (by decide) (callFunc_enter Tryz.func105 (by kernel_rfl) (by kernel_rfl)) fun x hx W hW =>
      (hindex_calls (X := X) (U := U) (R := R) W x (F := fbox X hb bb cb (.slice ba bl.length bc) 0 * (dev X.db d * F)) (hW.ac (by ac_rfl))).mono fun e w' ⟨he, h2⟩ => ⟨he, h2.ac (by ac_rfl)⟩
  · exact hcon _ _ _ _ (by decide) (callFunc_enter Tryz.func106 (by kernel_rfl) (by kernel_rfl)) fun x hx W hW =>
      fits1_calls (X := X) (U := U) (R := R) W x bl ba bc (F := dev X.db d * F) (fun V hV => hbl V hV.right) hW
  · exact hcon _ _ _ _ (by decide) (callFunc_enter Tryz.func108 (by kernel_rfl) (by kernel_rfl)) fun x hx W hW => htyped_calls W x hW
  · exact hcon _ _ _ _ (by decide) (callFunc_enter Tryz.func109 (by kernel_rfl) (by kernel_rfl)) fun x hx W hW =>
      fits2_calls (X := X) (U := U) (R := R) (d := d) W x (hwf x hx) hlen hW
  · refine (heach_calls w _ _ _ (Hp.field6E X.c U d) ws wa wc (fun j => fbox X hb bb cb (.slice ba bl.length bc) (Hp.fieldN X.c U d (ws.take j))) (hw2 _) (callFunc_enter Tryz.func110 (by kernel_rfl) (by kernel_rfl)) (fun j hj W hW => ?_) (by simpa [Hp.fieldN] using h)).mono fun e w' ⟨he, j, hj, h2⟩ => ⟨he, _, fun h0 => ?_, h2⟩
    · have hr := fieldN_range X.c U d (ws.take j)
      have hl : (ws.take j).length ≤ ws.length := by rw [List.length_take]; omega
      have := fits3_calls (X := X) (U := U) (R := R) (d := d) W ws[j] (hwf _ (List.getElem_mem hj)) hlen ⟨hr.1, by omega⟩ (fieldW_len _ _ _ _) hW
      rw [← fieldN_take _ _ _ _ _ hj] at this
      exact this
    · rw [hj h0, List.take_length]
      rfl
end
end Scul
