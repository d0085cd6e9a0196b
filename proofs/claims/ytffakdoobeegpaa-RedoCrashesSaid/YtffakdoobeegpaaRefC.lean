/- The document's own device: Fence. -/
import Derived.Test.YtffakdoobeegpaaRefB
import Derived.BigRegion
namespace Scul
open Go Go.Sl Go.RowKit Go.Proofs
namespace Dev
theorem seg_fenced_some {sure ws : List Int} {fl : List (Int × List Int)} {k : Nat} (h : fl.lookup (k : Int) = some ws) (hl : ws.length = (seg sure k).length) : seg (fenced sure fl) k = ws := by
  refine List.ext_getElem? fun j => ?_
  have h1 := seg_length sure k
  have h2 := seg_length (fenced sure fl) k
  rw [fenced_len] at h2
  by_cases hj : j < 8
  · rw [seg_get _ _ _ hj]
    by_cases hi : 8 * k + j < sure.length
    · rw [fenced_get _ _ _ hi, show (8 * k + j) / 8 = k by omega, h]
      show some (ws.getD ((8 * k + j) % 8) 0) = _
      rw [show (8 * k + j) % 8 = j by omega, List.getD_eq_getElem?_getD, List.getElem?_eq_getElem (by omega)]
      rfl
    · rw [List.getElem?_eq_none (by rw [fenced_len]; omega), List.getElem?_eq_none (by omega)]
  · rw [List.getElem?_eq_none (by omega), List.getElem?_eq_none (by omega)]
theorem seg_fenced_none {sure : List Int} {fl : List (Int × List Int)} {k : Nat} (h : fl.lookup (k : Int) = none) : seg (fenced sure fl) k = seg sure k := by
  refine seg_of fun i hi => ?_
  by_cases hl : i < sure.length
  · rw [fenced_get _ _ _ hl, hi, h]
    show some (sure.getD i 0) = _
    rw [List.getD_eq_getElem?_getD, List.getElem?_eq_getElem hl]
    rfl
  · rw [List.getElem?_eq_none (by rw [fenced_len]; omega), List.getElem?_eq_none (by omega)]
end Dev
section
variable {E : Env} {w : World} {F : HP} {b : Nat} {d : Dev}
theorem rlCells_setG (l : List RL) (k : Nat) (L : RL) (v : Value) (h : l[k]? = some L) : rlCells (l.set k { L with sv := v, f := false }) = ((rlCells l).set (k * 4 + 1) v).set (k * 4 + 3) (.bool false) := by
  induction l generalizing k with
  | nil => simp at h
  | cons c l ih =>
    cases k with
    | zero =>
      simp at h
      subst h
      rfl
    | succ k =>
      show c.cells ++ rlCells (l.set k _) = ((c.cells ++ rlCells l).set ((k + 1) * 4 + 1) v).set ((k + 1) * 4 + 3) (.bool false)
      rw [ih k (by simpa using h), List.set_append_right _ _ (by simp [RL.cells]; omega), List.set_append_right _ _ (by simp [RL.cells]; omega)]
      have e2 : (k + 1) * 4 + 1 - c.cells.length = k * 4 + 1 := by simp [RL.cells]; omega
      have e3 : (k + 1) * 4 + 3 - c.cells.length = k * 4 + 3 := by simp [RL.cells]; omega
      rw [e2, e3]
/-- A line behind a fence. -/
def RL.fenced (L : RL) : RL := if L.f then { L with sv := L.av, f := false } else L
theorem rfence_ok {q : RAt} {Ls : List RL} (hq : q.Ok d.step) (hok : d.fence.Ok) (hd : d.step.down = false) (hlen : Ls.length = q.Ls.length) (hL : ∀ (k : Nat) (L : RL), q.Ls[k]? = some L → Ls[k]? = some (RL.fenced L)) :
    RAt.Ok ⟨q.lv, Ls, q.o⟩ d.fence := by
  obtain ⟨h1, hl, hls⟩ := hq
  have e2 : d.step.sure = d.sure := by unfold Dev.step; split; rfl; split <;> rfl
  have e3 : d.step.fl = d.fl := by unfold Dev.step; split; rfl; split <;> rfl
  have hst : d.fence = { d.step with sure := Dev.fenced d.sure d.fl, fl := [] } := by
    unfold Dev.fence
    rw [if_neg (by simp [hd])]
  refine ⟨hok, ?_, ?_⟩
  · rw [hst]
    show Ls.length = Dev.lines d.step.read.length
    rw [hlen, hl]
  · intro k L' hL'
    have hk : k < q.Ls.length := by rw [← hlen]; exact (List.getElem?_eq_some_iff.1 hL').1
    have hk2 := hL k q.Ls[k] (List.getElem?_eq_getElem hk)
    rw [hL'] at hk2
    cases hk2
    obtain ⟨a1, a2, a3, a4⟩ := hls k q.Ls[k] (List.getElem?_eq_getElem hk)
    rw [hst]
    unfold LineOk
    rw [e3] at a4
    rw [e2] at a2
    cases hlk : d.fl.lookup (k : Int) with
    | none =>
      rw [hlk] at a4
      have hf : q.Ls[k].f = false := a4
      have hfe : q.Ls[k].fenced = q.Ls[k] := by unfold RL.fenced; rw [hf]; rfl
      rw [hfe]
      refine ⟨a1, ?_, a3, hf⟩
      show (_, Dev.seg (Dev.fenced d.sure d.fl) k) ∈ _
      rw [Dev.seg_fenced_none hlk]
      exact a2
    | some ws =>
      rw [hlk] at a4
      obtain ⟨hf, hm⟩ := a4
      have hfe : q.Ls[k].fenced = { q.Ls[k] with sv := q.Ls[k].av, f := false } := by unfold RL.fenced; rw [hf]; rfl
      rw [hfe]
      refine ⟨a1, ?_, a3, rfl⟩
      show (_, Dev.seg (Dev.fenced d.sure d.fl) k) ∈ _
      rw [Dev.seg_fenced_some hlk]
      · exact hm
      · obtain ⟨k', hk1, hk2, hk3, _⟩ := h1.fl _ (Dev.lookup_mem (by rw [e3]; exact hlk))
        have hk1 : (k : Int) = k' := hk1
        have hk3 : ws.length = (Dev.seg d.step.read k').length := hk3
        have := h1.len
        rw [e2] at this
        rw [hk3, Dev.seg_length, Dev.seg_length, this, Int.ofNat_inj.1 hk1]
set_option maxRecDepth 100000 in
set_option maxHeartbeats 8000000 in
theorem rfence_calls (w : World) (hfo : d.Ok → d.fence.Ok) (h : Sat E w (rdev b d * F)) :
    Calls Try.prog 89 #[.pointer (some ⟨b, 0, none⟩)] w fun e w' => e = .returned (.int .i64 d.fenceE) ∧ Sat E w' (rdev b d.fence * F) := by
  have hok : d.Ok := by obtain ⟨q0, hq0, _⟩ := rdev_open h; exact hq0.1
  have HFO := Lib.hid (hfo hok)
  clear hfo hok
  cases hd : d.down with
  | true =>
    have HS := Lib.hid (rstep_down w hd h)
    have hs : d.step.down = true := by unfold Dev.step; rw [if_pos hd]; exact hd
    have e1 : d.fenceE = 7 := by unfold Dev.fenceE; rw [if_pos hs]
    have e2 : d.fence = d.step := by unfold Dev.fence; rw [if_pos hs]
    rw [e1, e2]
    clear h
    go_enter Try.func89, Try.ntmps89
    go_wp2_with fail
    refine HS.out.mono ?_
    rintro e w1 ⟨rfl, h1⟩
    go_wp2_with fail
    refine (rend_calls _ 7 false).mono ?_
    rintro e w2 ⟨rfl, rfl⟩
    rw [if_neg (by simp)]
    go_wp2_with fail
    go_ret
    exact ⟨rfl, h1⟩
  | false =>
    have HS := Lib.hid (rstep_up w hd h)
    cases hla : d.step.down with
    | true =>
      rw [hla] at HS
      have e1 : d.fenceE = 7 := by unfold Dev.fenceE; rw [if_pos hla]
      have e2 : d.fence = d.step := by unfold Dev.fence; rw [if_pos hla]
      rw [e1, e2]
      clear h hla
      go_enter Try.func89, Try.ntmps89
      go_wp2_with fail
      refine HS.out.mono ?_
      rintro e w1 ⟨rfl, h1⟩
      go_wp2_with fail
      refine (rend_calls _ 0 true).mono ?_
      rintro e w2 ⟨rfl, rfl⟩
      go_wp2_with fail
      go_ret
      exact ⟨rfl, h1⟩
    | false =>
      rw [hla] at HS
      have e1 : d.fenceE = 0 := by unfold Dev.fenceE; rw [hla]; rfl
      rw [e1]
      have HLA := Lib.hid hla
      clear h hla
      go_enter Try.func89, Try.ntmps89
      go_wp2_with fail
      refine HS.out.mono ?_
      rintro e w1 ⟨rfl, h1⟩
      obtain ⟨q, hq, hs⟩ := rdev_open h1
      have cb1 : w1.cell? ⟨b, 1, none⟩ = some q.lv := hs.cell 1 rfl
      obtain ⟨al, cl, hlv, hlc, _⟩ := (Sat.swap hs).row_val
      rw [hlv] at cb1
      have HQ := Lib.hid hq
      have hrow : Sat E w1 (row 152 4 (.slice al q.Ls.length cl) q.Ls.length (rlCells q.Ls) * (pt b (.cells (rcells (.slice al q.Ls.length cl) d.step) 90) * (bag q.o * F))) := by rw [← hlv]; exact Sat.swap hs
      have HLV := Lib.hid hlv
      have hlm : q.Ls.length ≤ 8192 := by rw [hq.2.1]; have := hq.1.most; unfold Dev.lines; omega
      clear hq hs hlv h1
      go_wp2_with fail
      go_loopw [24] (fun iv wr => ∃ (i : Nat) (Ls : List RL), i ≤ q.Ls.length ∧ iv = .int .i64 i ∧ Ls.length = q.Ls.length ∧ (∀ (t : Nat) (L : RL), q.Ls[t]? = some L → Ls[t]? = some (if t < i then RL.fenced L else L)) ∧ Sat E wr (row 152 4 (.slice al q.Ls.length cl) q.Ls.length (rlCells Ls) * (pt b (.cells (rcells (.slice al q.Ls.length cl) d.step) 90) * (bag q.o * F)))) (fun iv _ => q.Ls.length - (intOf iv).toNat)
      case atStart => exact ⟨0, q.Ls, Nat.zero_le _, rfl, rfl, fun t L h => by simpa using h, hrow⟩
      case round =>
        clear hrow cb1
        obtain ⟨i, Ls, hi, rfl, hll, hLs, hw⟩ := hrel
        have HLS := Lib.hid hLs
        have cb1 : wr.cell? ⟨b, 1, none⟩ = some (.slice al q.Ls.length cl) := (Sat.swap hw).cell 1 rfl
        by_cases hlt : i < q.Ls.length
        · obtain ⟨gl, cl', heq⟩ := row_at hw (by omega)
          simp only [Value.slice.injEq, true_and] at heq
          obtain ⟨rfl, rfl⟩ := heq
          obtain ⟨L, hL⟩ : ∃ L, q.Ls[i]? = some L := ⟨_, List.getElem?_eq_getElem hlt⟩
          have hLi : Ls[i]? = some L := by have := hLs i L hL; rwa [if_neg (by omega)] at this
          have c3 : wr.cell? ⟨gl, i * 4 + 3, none⟩ = some (.bool L.f) := hw.row_cell (i * 4 + 3) (rlCells_at Ls i 3 L hLi (by omega))
          have c2 : wr.cell? ⟨gl, i * 4 + 2, none⟩ = some L.av := hw.row_cell (i * 4 + 2) (rlCells_at Ls i 2 L hLi (by omega))
          have c1 : wr.cell? ⟨gl, i * 4 + 1, none⟩ = some L.sv := hw.row_cell (i * 4 + 1) (rlCells_at Ls i 1 L hLi (by omega))
          have f1 := hw.row_free (i * 4 + 1)
          have f3 := hw.row_free (i * 4 + 3)
          obtain ⟨pa, pn, pc, hav⟩ := (HQ.out.2.2 _ _ hL).2.2.1
          have HL := Lib.hid hL
          cases hf : L.f with
          | true =>
            rw [hf] at c3
            have r2 := (hw.row_set (i * 4 + 1) L.av (by omega)).row_set (i * 4 + 3) (.bool false) (by omega)
            rw [← rlCells_setG Ls i L L.av hLi] at r2
            rw [hav] at c2 r2
            have HR2 := Lib.hid r2
            have HLi := Lib.hid hLi
            have HW := Lib.hid hw
            clear hLs hL hLi r2 hw
            go_wp2_with fail
            go_region
            go_wp2_with fail
            have hfe : RL.fenced L = ⟨L.nv, .slice pa pn pc, .slice pa pn pc, false⟩ := by unfold RL.fenced; rw [hf, ← hav]; rfl
            refine ⟨⟨i + 1, Ls.set i (RL.fenced L), by omega, rfl, by rw [List.length_set]; exact hll, fun t L' ht => ?_, ?_⟩, by simp only [intOf]; omega⟩
            · by_cases hti2 : t = i
              · subst hti2
                rw [HL.out] at ht
                cases ht
                rw [if_pos (by omega), List.getElem?_set_self (by omega)]
              · rw [List.getElem?_set_ne (by omega), HLS.out t L' ht]
                by_cases hti : t < i
                · rw [if_pos hti, if_pos (by omega)]
                · rw [if_neg hti, if_neg (by omega)]
            · rw [hfe]
              exact HR2.out
          | false =>
            rw [hf] at c3
            have HF := Lib.hid hf
            clear hLs hL hLi hf
            go_wp2_with fail
            refine ⟨⟨i + 1, Ls, by omega, rfl, hll, fun t L' ht => ?_, hw⟩, by simp only [intOf]; omega⟩
            rw [HLS.out t L' ht]
            by_cases hti : t < i
            · rw [if_pos hti, if_pos (by omega)]
            · rw [if_neg hti]
              by_cases hti2 : t = i
              · subst hti2
                rw [HL.out] at ht
                cases ht
                rw [if_pos (by omega)]
                unfold RL.fenced
                rw [HF.out]
                rfl
              · rw [if_neg (by omega)]
        · obtain rfl : i = q.Ls.length := by omega
          have hfin : Sat E wr (rdev b d.fence * F) := by
            refine rdev_mk ⟨q.lv, Ls, q.o⟩ (rfence_ok HQ.out HFO.out HLA.out hll (fun k L hk => ?_)) ?_
            · rw [HLS.out k L hk, if_pos (List.getElem?_eq_some_iff.1 hk).1]
            · have hrc : rcells q.lv d.fence = rcells (.slice al q.Ls.length cl) d.step := by
                rw [HLV.out]
                unfold rcells Dev.fence
                split <;> rfl
              show Sat E _ (pt b (.cells (rcells q.lv d.fence) 90) * (row 152 4 q.lv Ls.length (rlCells Ls) * (bag q.o * F)))
              rw [hrc, HLV.out, hll]
              exact Sat.swap hw
          have HFIN := Lib.hid hfin
          clear hLs hw hfin cb1
          go_wp2_with fail
          go_ret
          exact ⟨rfl, HFIN.out⟩
end
end Scul
