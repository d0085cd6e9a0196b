/- redo: entries, Recover, Clean. -/
import Derived.Test.YtffakdoobeegpaaLawKit
namespace Scul
open Go Go.Sl Go.RowKit Go.Proofs
namespace Redo
/-- The entry that the log holds at a place. -/
def entAt (d : Dev) (f : Int) (i : Nat) : Ent := ⟨d.load (f + 8 + 2 * i), d.load (f + 8 + 2 * i + 1)⟩
def okAt (d : Dev) (f til : Int) (i : Nat) : Bool := decide ((entAt d f i).at_ ≤ 65536) && mayAt d f til (entAt d f i).at_
def entsOf (d : Dev) (f : Int) (n : Nat) : List Ent := (List.range n).map fun i => entAt d f i
def entE (d : Dev) (f til : Int) : Int :=
  if d.loadE f ≠ 0 then d.loadE f
  else if 1024 < d.load f then 8
  else if fits f til (d.load f) = false then 8
  else if ((List.range (d.load f).toNat).all fun i => okAt d f til i) = false then 8
  else 0
def entL (d : Dev) (f til : Int) : List Ent := if entE d f til = 0 then entsOf d f (d.load f).toNat else []
/-- What Recover leaves, how many entries it did, why it refused. -/
def recover (d : Dev) (f til : Int) : Dev × Int × Int :=
  if may d f til = false then (d, 0, 1)
  else if entE d f til ≠ 0 ∨ (entL d f til).length = 0 then (d, 0, entE d f til)
  else if (d.run (doOps f (entL d f til))).2 ≠ 0 then ((d.run (doOps f (entL d f til))).1, 0, (d.run (doOps f (entL d f til))).2)
  else ((d.run (doOps f (entL d f til))).1, (entL d f til).length, 0)
def cleanE (d : Dev) (f til : Int) : Int := if may d f til = false then 1 else d.loadE f
def cleanB (d : Dev) (f til : Int) : Bool := decide (cleanE d f til = 0) && decide (d.load f = 0)
theorem entsOf_succ (d : Dev) (f : Int) (i : Nat) : entsOf d f (i + 1) = entsOf d f i ++ [entAt d f i] := by simp [entsOf, List.range_succ]
theorem entsOf_len (d : Dev) (f : Int) (i : Nat) : (entsOf d f i).length = i := by simp [entsOf]
theorem may_fact {d : Dev} {f til : Int} (h : may d f til = true) : 0 ≤ f ∧ f < til ∧ til ≤ (d.read.length : Int) ∧ f % 8 = 0 := by
  unfold may at h
  simpa using h
theorem load_u64 {d : Dev} (h : d.Ok) (a : Int) : U64 (d.load a) := by
  unfold Dev.load
  split
  · unfold U64; omega
  · split
    · rename_i hb
      unfold Dev.isB at hb
      have hb : 0 ≤ a ∧ a < (d.read.length : Int) := by simpa using hb
      rw [List.getD_eq_getElem?_getD, List.getElem?_eq_getElem (by omega)]
      exact h.rd _ (List.getElem_mem _)
    · unfold U64; omega
theorem load_in {d : Dev} {f : Int} (h : d.loadE f = 0) {a : Int} (h0 : 0 ≤ a ∧ a < (d.read.length : Int)) : d.loadE a = 0 := by
  unfold Dev.loadE at *
  split at h
  · cases h
  · rename_i hd
    rw [if_neg hd, if_pos (by unfold Dev.isB; simpa using h0)]
theorem entsOf_facts {d : Dev} (h : d.Ok) {f til : Int} {n : Nat} (hall : ((List.range n).all fun i => okAt d f til i) = true) : (∀ x ∈ entsOf d f n, U64 x.word) ∧ (∀ x ∈ entsOf d f n, 0 ≤ x.at_ ∧ x.at_ ≤ 65536) := by
  refine ⟨fun x hx => ?_, fun x hx => ?_⟩
  · obtain ⟨i, _, rfl⟩ := List.mem_map.1 hx
    exact load_u64 h _
  · obtain ⟨i, hi, rfl⟩ := List.mem_map.1 hx
    have := List.all_eq_true.1 hall i hi
    unfold okAt at this
    simp only [Bool.and_eq_true, decide_eq_true_iff] at this
    exact ⟨(load_u64 h _).1, this.1⟩
theorem entL_facts {d : Dev} (h : d.Ok) (f til : Int) : (∀ x ∈ entL d f til, U64 x.word) ∧ (∀ x ∈ entL d f til, 0 ≤ x.at_ ∧ x.at_ ≤ 65536) ∧ (entL d f til).length ≤ 1024 := by
  unfold entL
  split
  · rename_i he
    unfold entE at he
    by_cases h1 : d.loadE f = 0
    · rw [if_neg (fun hh => hh h1)] at he
      by_cases h2 : 1024 < d.load f
      · rw [if_pos h2] at he; cases he
      · rw [if_neg h2] at he
        by_cases h3 : fits f til (d.load f) = false
        · rw [if_pos h3] at he; cases he
        · rw [if_neg h3] at he
          by_cases h4 : ((List.range (d.load f).toNat).all fun i => okAt d f til i) = false
          · rw [if_pos h4] at he; cases he
          · rw [Bool.not_eq_false] at h4
            have := entsOf_facts h h4
            refine ⟨this.1, this.2, ?_⟩
            rw [entsOf_len]
            have := (load_u64 h f).1
            omega
    · rw [if_pos h1] at he; exact (h1 he).elim
  · simp
theorem fits_fact {f til : Int} (hf : 0 ≤ f) (hft : f < til) (ht : til ≤ 65536) {n : Nat} (h : fits f til n = true) : f + 8 + 2 * (n : Int) ≤ til ∧ n ≤ 1024 := by
  unfold fits need at h
  simp only [decide_eq_true_iff] at h
  obtain ⟨h1, h2⟩ := h
  have hw : wrap64 (til - f) = til - f := by clear h2; unfold wrap64; omega
  rw [hw] at h2
  split at h2 <;> omega
end Redo
section
variable {E : Env} {w : World} {F : HP} {b : Nat} {d : Dev}
theorem entAt_word (f : Int) (i : Nat) : (Redo.entAt d f i).word = d.load (f + 8 + 2 * i + 1) := rfl

set_option maxRecDepth 100000 in
set_option maxHeartbeats 4000000 in
theorem entries_calls (w : World) (f : Nat) (til : Int) (hmay : Redo.may d f til = true) (h : Sat E w (dev b d * F)) :
    Calls Try.prog 105 #[glog b f til] w fun e w' => ∃ v, e = .returned (.tuple #[v, .int .i64 (Redo.entE d f til)]) ∧ Sat E w' (dev b d * (entRow v (Redo.entL d f til) * F)) := by
  have hok := dev_ok h
  have hmost := hok.most
  obtain ⟨hf0, hft, htl, hf8⟩ := Redo.may_fact hmay
  have hal : Sat E _ (logAt w.heap.size b f til * (dev b d * F)) := h.alloc _
  generalize hgb : w.heap.size = gb at hal
  have g0 := hal.cell 0 rfl
  have g1 := hal.cell 1 rfl
  obtain ⟨L, hL⟩ : ∃ L, L = Redo.entL d f til := ⟨_, rfl⟩
  obtain ⟨R, hR⟩ : ∃ R, R = Redo.entE d f til := ⟨_, rfl⟩
  have hL2 : R ≠ 0 → L = [] := fun h => by rw [hL]; unfold Redo.entL; rw [if_neg (by rw [← hR]; exact h)]
  have hL3 : R = 0 → L = Redo.entsOf d f (d.load f).toNat := fun h => by rw [hL]; unfold Redo.entL; rw [if_pos (by rw [← hR]; exact h)]
  rw [← hL, ← hR]
  have hX := Redo.load_u64 hok (f : Int)
  obtain ⟨X, hXX⟩ : ∃ X, X = d.load (f : Int) := ⟨_, rfl⟩
  obtain ⟨Y, hY⟩ : ∃ Y, Y = d.loadE (f : Int) := ⟨_, rfl⟩
  unfold Redo.entE at hR
  rw [← hXX, ← hY] at hR
  rw [← hXX] at hL3 hX
  have HR := Lib.hid hR; have HL2 := Lib.hid hL2; have HL3 := Lib.hid hL3
  have HOK := Lib.hid hok
  have HNIL : Hid (∀ W, R ≠ 0 → Sat E W (logAt gb b f til * (dev b d * F)) → Sat E W (dev b d * (entRow (.slice none 0 0) L * F))) := Lib.hid fun W hr hW => by
    rw [HL2.out hr]
    exact Sat.swap (entRow_nil hW.right)
  have HYY := Lib.hid hY
  have HT := Lib.hid (show til ≤ 65536 by omega)
  have HTL := Lib.hid htl
  clear hR hL2 hL3 h hL hmay hok
  unfold glog
  go_enter Try.func105, Try.ntmps105
  go_wp2_with fail
  refine (load_calls _ _ (Sat.swap hal)).mono ?_
  rintro e w1 ⟨rfl, n1, rfl⟩
  rw [← hXX, ← hY]
  have h1 := hal.drewN n1
  clear hal g0 g1 hXX hY
  by_cases hy : Y = 0
  · subst hy
    obtain ⟨n, rfl⟩ : ∃ n : Nat, X = n := ⟨X.toNat, by have := hX.1; omega⟩
    by_cases h2 : 1024 < (n : Int)
    · have hR8 : R = 8 := by rw [HR.out, if_neg (fun h => h rfl), if_pos h2]
      have HF := Lib.hid (HNIL.out _ (by rw [hR8]; decide) h1)
      have HR8 := Lib.hid hR8
      clear hX h1 hR8
      go_wp2_with fail
      go_ret2
      exact ⟨.slice none 0 0, by rw [HR8.out]; rfl, HF.out⟩
    · have hc : wrap64 (n : Int) = n := by unfold wrap64; omega
      have h3 : (n : Int) ≤ 1024 := by omega
      have g2 := h1.cell 0 rfl
      have g3 := h1.cell 1 rfl
      have g4 := h1.cell 2 rfl
      obtain ⟨ft, hft2⟩ : ∃ ft, ft = Redo.fits f til n := ⟨_, rfl⟩
      have HFT := Lib.hid hft2
      have HC := Lib.hid hc
      clear hX hft2 hc
      go_wp2_with fail
      refine (fits_calls _ _ _ _ (Sat.swap h1)).mono ?_
      rintro e w2 ⟨rfl, h2'⟩
      rw [← HFT.out]
      clear g2 g3 g4 h1
      cases ft with
      | false =>
        have hR8 : R = 8 := by rw [HR.out, if_neg (fun h => h rfl), if_neg (by omega), if_pos HFT.out.symm]
        have HF := Lib.hid (HNIL.out _ (by rw [hR8]; decide) (Sat.swap h2'))
        have HR8 := Lib.hid hR8
        clear h2' hR8
        go_wp2_with fail
        go_ret2
        exact ⟨.slice none 0 0, by rw [HR8.out]; rfl, HF.out⟩
      | true =>
        obtain ⟨hn1, _⟩ := Redo.fits_fact (n := n) (by omega) hft HT.out HFT.out.symm
        have hent := entRow_nil (Sat.swap h2')
        have HR' : Hid (R = if ((List.range n).all fun i => Redo.okAt d f til i) = false then 8 else 0) := Lib.hid (by
          rw [HR.out, if_neg (fun h => h rfl), if_neg (by omega), if_neg (by rw [← HFT.out]; simp)]
          rfl)
        clear h2' HR h2
        go_wp2_with fail
        go_loopw [33, 6] (fun iv ov wr => ∃ i : Nat, i ≤ n ∧ iv = .int .i64 i ∧ ((List.range i).all fun i => Redo.okAt d f til i) = true ∧ Sat E wr (entRow ov (Redo.entsOf d f i) * (logAt gb b f til * (dev b d * F)))) (fun iv _ _ => n - (intOf iv).toNat)
        case atStart => exact ⟨0, Nat.zero_le _, rfl, rfl, hent⟩
        case round =>
          clear hent
          obtain ⟨i, hi, rfl, hall, hw⟩ := hrel
          have HALL := Lib.hid hall
          clear hall
          by_cases hlt : i < n
          · have hll := HTL.out
            have hmay1 : d.loadE ((f : Int) + 8 + 2 * i) = 0 := Redo.load_in HYY.out.symm (by omega)
            have hmay2 : d.loadE ((f : Int) + 8 + 2 * i + 1) = 0 := Redo.load_in HYY.out.symm (by omega)
            have hX1 := Redo.load_u64 HOK.out ((f : Int) + 8 + 2 * i)
            have HNX : Hid (Redo.entAt d f i = ⟨d.load ((f : Int) + 8 + 2 * i), d.load ((f : Int) + 8 + 2 * i + 1)⟩) := Lib.hid rfl
            have HOKI : Hid (Redo.okAt d f til i = (decide ((Redo.entAt d f i).at_ ≤ 65536) && Redo.mayAt d f til (Redo.entAt d f i).at_)) := Lib.hid rfl
            have hd : Sat E wr (dev b d * (logAt gb b f til * (entRow u6 (Redo.entsOf d f i) * F))) := hw.ac (by ac_rfl)
            have g2 := (Sat.right hw).cell 0 rfl
            have g3 := (Sat.right hw).cell 1 rfl
            have g4 := (Sat.right hw).cell 2 rfl
            have hlti : (i : Int) < n := by omega
            clear hll
            go_wp2_with fail
            refine (load_calls _ _ hd).mono ?_
            rintro e w3 ⟨rfl, n3, rfl⟩
            rw [hmay1]
            obtain ⟨X1, hX1'⟩ : ∃ X, X = d.load ((f : Int) + 8 + 2 * i) := ⟨_, rfl⟩
            rw [← hX1'] at HNX hX1 ⊢
            have hd3 := hd.drewN n3
            clear hX1' hmay1 hw
            go_wp2_with fail
            refine (load_calls _ _ hd3).mono ?_
            rintro e w4 ⟨rfl, n4, rfl⟩
            rw [hmay2]
            obtain ⟨X2, hX2'⟩ : ∃ X, X = d.load ((f : Int) + 8 + 2 * i + 1) := ⟨_, rfl⟩
            rw [← hX2'] at HNX ⊢
            have hd4 := hd.drewN (n3 + n4)
            clear hX2' hmay2 hd3 hd
            rw [HNX.out] at HOKI
            have bad : Hid (Redo.okAt d f til i = false → R = 8) := Lib.hid fun hb => by
              have hnall : ((List.range n).all fun i => Redo.okAt d f til i) = false := by
                rw [← Bool.not_eq_true, List.all_eq_true]
                intro hall
                have := hall i (List.mem_range.2 hlt)
                rw [hb] at this
                cases this
              rw [HR'.out, if_pos hnall]
            by_cases h65 : 65536 < X1
            · have hR8 : R = 8 := bad.out (by rw [HOKI.out]; simp; omega)
              have HF := Lib.hid (HNIL.out _ (by rw [hR8]; decide) (Sat.swap (Sat.mid (Sat.swap2 hd4))))
              have HR8 := Lib.hid hR8
              clear hd4 hR8 hX1
              go_wp2_with fail
              go_ret2
              exact ⟨.slice none 0 0, by rw [HR8.out]; rfl, HF.out⟩
            · have hX0 : 0 ≤ X1 := hX1.1
              have hX6 : X1 ≤ 65536 := by omega
              clear hX1
              go_wp2_with fail
              refine (mayAt_calls _ _ _ _ hd4).mono ?_
              rintro e w5 ⟨rfl, h5⟩
              have HOKI2 : Hid (Redo.okAt d f til i = Redo.mayAt d f til X1) := Lib.hid (by rw [HOKI.out, decide_eq_true (show X1 ≤ 65536 from hX6), Bool.true_and])
              obtain ⟨B, hB⟩ : ∃ B, B = Redo.mayAt d f til X1 := ⟨_, rfl⟩
              rw [← hB] at HOKI2 ⊢
              clear hB hd4 HOKI
              cases B with
              | false =>
                have hR8 : R = 8 := bad.out HOKI2.out
                have HF := Lib.hid (HNIL.out _ (by rw [hR8]; decide) (Sat.swap (Sat.mid (Sat.swap2 h5))))
                have HR8 := Lib.hid hR8
                clear h5 hR8
                go_wp2_with fail
                go_ret2
                exact ⟨.slice none 0 0, by rw [HR8.out]; rfl, HF.out⟩
              | true =>
                have h6 : Sat E w5 (entRow u6 (Redo.entsOf d f i) * (logAt gb b f til * (dev b d * F))) := h5.ac (by ac_rfl)
                have H6 := Lib.hid h6
                have HB := Lib.hid (show (Redo.entsOf d f i).length + 1 ≤ 1000000 by rw [Redo.entsOf_len]; omega)
                clear h5 h6
                go_wp2_with (at_builtin; refine wpl_pushE rfl _ _ rfl (Sat.alloc H6.out _) rfl rfl HB.out ?_; intro g' e3 a5 c5 w7 h7)
                refine ⟨⟨i + 1, by omega, rfl, ?_, ?_⟩, by simp only [intOf]; omega⟩
                · rw [List.range_succ, List.all_append, HALL.out]
                  simp only [List.all_cons, List.all_nil, Bool.and_true, Bool.true_and]
                  exact HOKI2.out
                · rw [Redo.entsOf_succ, HNX.out, ← e3.out]
                  exact h7
          · obtain rfl : i = n := by omega
            have hR0 : R = 0 := by rw [HR'.out, HALL.out]; rfl
            have hLL : L = Redo.entsOf d f i := by rw [HL3.out hR0]; rfl
            have hfin : Sat E wr (dev b d * (entRow u6 L * F)) := by
              rw [hLL]
              have : Sat E wr (logAt gb b f til * (dev b d * (entRow u6 (Redo.entsOf d f i) * F))) := hw.ac (by ac_rfl)
              exact this.right
            have HF := Lib.hid hfin
            have HR8 := Lib.hid hR0
            obtain ⟨oa, oc, rfl⟩ := entRow_val (Sat.swap hfin)
            clear hfin hLL hR0 hw
            go_wp2_with fail
            go_ret2
            exact ⟨_, by rw [HR8.out]; rfl, HF.out⟩
  · have hRY : R = Y := by rw [HR.out, if_pos hy]
    have HF := Lib.hid (HNIL.out _ (by rw [hRY]; exact hy) h1)
    have HR8 := Lib.hid hRY
    have hb : (Y != 0) = true := by simpa using hy
    clear hX h1 hRY
    go_wp2_with fail
    go_ret2
    exact ⟨.slice none 0 0, by rw [HR8.out]; rfl, HF.out⟩
set_option maxRecDepth 100000 in
set_option maxHeartbeats 4000000 in
theorem clean_calls (w : World) (frm til : Int) (h : Sat E w (dev b d * F)) :
    Calls Try.prog 59 #[.pointer (some ⟨b, 0, none⟩), .int .i64 frm, .int .i64 til] w fun e w' => e = .returned (.tuple #[.bool (Redo.cleanB d frm til), .int .i64 (Redo.cleanE d frm til)]) ∧ Sat E w' (dev b d * F) := by
  have e1 : Redo.cleanE d frm til = if Redo.may d frm til = false then 1 else d.loadE frm := rfl
  have e2 : Redo.cleanB d frm til = (decide (Redo.cleanE d frm til = 0) && decide (d.load frm = 0)) := rfl
  obtain ⟨CE, hCE⟩ : ∃ C, C = Redo.cleanE d frm til := ⟨_, rfl⟩
  obtain ⟨CB, hCB⟩ : ∃ C, C = Redo.cleanB d frm til := ⟨_, rfl⟩
  rw [← hCE, ← hCB]
  rw [← hCE] at e1 e2; rw [← hCB] at e2
  have E1 := Lib.hid e1; have E2 := Lib.hid e2
  clear e1 e2 hCE hCB
  go_enter Try.func59, Try.ntmps59
  go_wp2_with fail
  refine (may_calls _ frm til h).mono ?_
  rintro e w1 ⟨rfl, h1⟩
  obtain ⟨B, hB⟩ : ∃ B, B = Redo.may d frm til := ⟨_, rfl⟩
  rw [← hB] at E1 ⊢
  clear hB h
  cases B with
  | false =>
    have hE : CE = 1 := by rw [E1.out]; rfl
    have hB : CB = false := by rw [E2.out, hE]; rfl
    have HE := Lib.hid hE; have HB := Lib.hid hB
    clear hE hB
    go_wp2_with fail
    go_ret2
    exact ⟨by rw [HE.out, HB.out]; rfl, h1⟩
  | true =>
    have hE : CE = d.loadE frm := by rw [E1.out]; rfl
    have HE := Lib.hid hE
    clear hE
    go_wp2_with fail
    refine (load_calls _ _ h1).mono ?_
    rintro e w2 ⟨rfl, n2, rfl⟩
    have h2 := h1.drewN n2
    obtain ⟨X, hX⟩ : ∃ X, X = d.load frm := ⟨_, rfl⟩
    obtain ⟨Y, hY⟩ : ∃ Y, Y = d.loadE frm := ⟨_, rfl⟩
    rw [← hX] at E2 ⊢; rw [← hY] at HE ⊢
    rw [HE.out] at E2
    clear hX hY h1
    by_cases hy : Y = 0
    · subst hy
      by_cases hx : X = 0
      · subst hx
        have HB := Lib.hid E2.out
        go_wp2_with fail
        go_ret2
        exact ⟨by rw [HE.out, HB.out]; rfl, h2⟩
      · have hx2 : (X == 0) = false := by rw [beq_eq_false_iff_ne]; exact hx
        have HB : Hid (CB = false) := Lib.hid (by rw [E2.out]; simp [hx])
        go_wp2_with fail
        go_ret2
        exact ⟨by rw [HE.out, HB.out]; rfl, h2⟩
    · have hy2 : (Y == 0) = false := by rw [beq_eq_false_iff_ne]; exact hy
      have HB : Hid (CB = false) := Lib.hid (by rw [E2.out]; simp [hy])
      go_wp2_with fail
      go_ret2
      exact ⟨by rw [HE.out, HB.out]; rfl, h2⟩
set_option maxRecDepth 100000 in
set_option maxHeartbeats 4000000 in
theorem recover_calls (w : World) (frm til : Int) (h : Sat E w (dev b d * F)) :
    Calls Try.prog 58 #[.pointer (some ⟨b, 0, none⟩), .int .i64 frm, .int .i64 til] w fun e w' => e = .returned (.tuple #[.int .i64 (Redo.recover d frm til).2.1, .int .i64 (Redo.recover d frm til).2.2]) ∧ Sat E w' (dev b (Redo.recover d frm til).1 * F) := by
  obtain ⟨R, hR⟩ : ∃ R, R = Redo.recover d frm til := ⟨_, rfl⟩
  rw [← hR]
  have hok := dev_ok h
  have hal : Sat E _ (logAt w.heap.size b frm til * (dev b d * F)) := h.alloc _
  have hfa := Redo.entL_facts hok frm til
  unfold Redo.recover at hR
  have HR := Lib.hid hR
  clear h hR
  generalize hgb : w.heap.size = gb at hal
  have g0 := hal.cell 0 rfl
  have g1 := hal.cell 1 rfl
  have g2 := hal.cell 2 rfl
  go_enter Try.func58, Try.ntmps58
  go_wp2_with fail
  refine (may_calls _ frm til (Sat.swap hal)).mono ?_
  rintro e w1 ⟨rfl, h1⟩
  obtain ⟨B, hB⟩ : ∃ B, B = Redo.may d frm til := ⟨_, rfl⟩
  rw [← hB] at HR ⊢
  clear hal g0 g1 g2
  cases B with
  | false =>
    have hR : R = (d, 0, 1) := by rw [HR.out]; rfl
    have HR2 := Lib.hid hR
    have HF := Lib.hid (Sat.mid h1)
    clear hR HR h1 hB hfa hok
    go_wp2_with fail
    go_ret2
    exact ⟨by rw [HR2.out]; rfl, by rw [HR2.out]; exact HF.out⟩
  | true =>
    obtain ⟨f, rfl⟩ : ∃ f : Nat, frm = f := ⟨frm.toNat, by have := Redo.may_fact hB.symm; omega⟩
    have hR : R = if Redo.entE d f til ≠ 0 ∨ (Redo.entL d f til).length = 0 then (d, 0, Redo.entE d f til)
      else if (d.run (Redo.doOps f (Redo.entL d f til))).2 ≠ 0 then ((d.run (Redo.doOps f (Redo.entL d f til))).1, 0, (d.run (Redo.doOps f (Redo.entL d f til))).2)
      else ((d.run (Redo.doOps f (Redo.entL d f til))).1, ((Redo.entL d f til).length : Int), 0) := by rw [HR.out]; rfl
    have g0 := (Sat.right h1).cell 0 rfl
    have g1 := (Sat.right h1).cell 1 rfl
    have g2 := (Sat.right h1).cell 2 rfl
    have HR2 := Lib.hid hR
    have HMAY := Lib.hid hB.symm
    have HFA := Lib.hid hfa
    clear hR HR hB hfa hok
    go_wp2_with fail
    refine (entries_calls _ f til HMAY.out h1).mono ?_
    rintro e w2 ⟨v, rfl, h2⟩
    obtain ⟨L, hL⟩ : ∃ L, L = Redo.entL d f til := ⟨_, rfl⟩
    obtain ⟨Y, hY⟩ : ∃ Y, Y = Redo.entE d f til := ⟨_, rfl⟩
    rw [← hL, ← hY] at HR2
    rw [← hL] at h2 HFA
    rw [← hY]
    clear hL hY g0 g1 g2 h1 HMAY
    obtain ⟨va, vc, rfl⟩ := entRow_val (Sat.swap h2)
    have h2' : Sat E w2 (dev b d * (logAt gb b f til * (entRow (.slice va L.length vc) L * F))) := h2.ac (by ac_rfl)
    have HDR : Hid (∀ W, Sat E W (dev b d * (logAt gb b f til * (entRow (.slice va L.length vc) L * F))) → Sat E W (dev b d * F)) := Lib.hid fun W hW => Sat.mid (Sat.mid hW)
    clear h2
    by_cases hy : Y = 0
    · subst hy
      by_cases hl : L.length = 0
      · have hl' : (L.length : Int) = 0 := by omega
        have hR : R = (d, 0, 0) := by rw [HR2.out, if_pos (.inr hl)]
        have HR3 := Lib.hid hR
        have HF := Lib.hid (HDR.out _ h2')
        clear hR HR2 h2' hl
        go_wp2_with fail
        go_ret2
        exact ⟨by rw [HR3.out]; rfl, by rw [HR3.out]; exact HF.out⟩
      · have hl' : ¬ (L.length : Int) = 0 := by omega
        have hl2 : ((L.length : Int) == 0) = false := by rw [beq_eq_false_iff_ne]; exact hl'
        have hR : R = if (d.run (Redo.doOps f L)).2 ≠ 0 then ((d.run (Redo.doOps f L)).1, 0, (d.run (Redo.doOps f L)).2) else ((d.run (Redo.doOps f L)).1, (L.length : Int), 0) := by rw [HR2.out, if_neg (by simp; exact fun h => hl (by rw [h]; rfl))]
        have HR3 := Lib.hid hR
        have g0 := (Sat.right h2').cell 0 rfl
        have g1 := (Sat.right h2').cell 1 rfl
        have g2 := (Sat.right h2').cell 2 rfl
        have HRE : Hid (∀ W, Sat E W (logAt gb b f til * (entRow (.slice va L.length vc) L * F)) → RdE W (.slice va L.length vc) L) := Lib.hid fun W hW => entRow_rd (F := F) hW.right HFA.out.1 (fun x hx => by have := HFA.out.2.1 x hx; unfold I64; omega)
        clear hR HR2
        go_wp2_with fail
        refine (do_calls _ f til L va vc HFA.out.2.2 (fun x hx => (HFA.out.2.1 x hx).1) HRE.out h2').mono ?_
        rintro e w3 ⟨rfl, h3⟩
        obtain ⟨⟨d2, e2⟩, hq⟩ : ∃ q, q = d.run (Redo.doOps f L) := ⟨_, rfl⟩
        rw [← hq] at h3 HR3 ⊢
        simp only at h3 HR3 ⊢
        have HF : Hid (Sat E w3 (dev b d2 * F)) := Lib.hid (Sat.mid (Sat.mid h3))
        clear hq HRE h2' h3 HDR
        by_cases he : e2 = 0
        · subst he
          have HR4 : Hid (R = (d2, (L.length : Int), 0)) := Lib.hid (by rw [HR3.out]; rfl)
          clear HR3
          go_wp2_with fail
          go_ret2
          exact ⟨by rw [HR4.out]; rfl, by rw [HR4.out]; exact HF.out⟩
        · have hb : (e2 != 0) = true := by simpa using he
          have HR4 : Hid (R = (d2, 0, e2)) := Lib.hid (by rw [HR3.out, if_pos he])
          clear HR3
          go_wp2_with fail
          go_ret2
          exact ⟨by rw [HR4.out]; rfl, by rw [HR4.out]; exact HF.out⟩
    · have hb : (Y != 0) = true := by simpa using hy
      have hR : R = (d, 0, Y) := by rw [HR2.out, if_pos (.inl hy)]
      have HR3 := Lib.hid hR
      have HF := Lib.hid (HDR.out _ h2')
      clear hR HR2 h2'
      go_wp2_with fail
      go_ret2
      exact ⟨by rw [HR3.out]; rfl, by rw [HR3.out]; exact HF.out⟩
end
end Scul
