/- Lemmas and contracts for scullion's HeapNil: RedoG, HpM, HpI, HpJ, HpK, ArrIn, BlkS, BlkZ. -/
import Derived.Test.YtcfbanfbldionaaGreatHeapNilQ6
import Derived.Test.YtcfbanfbldionaaGreatHeapNilQ4
import Derived.Test.YtcfbanfbldionaaGreatHeapNilQ5
import Derived.Test.YtcfbanfbldionaaGreatHeapNilQ11
import Derived.Laws.IdiomArrays
import Derived.WideShapes
import Derived.Test.YtcfbanfbldionaaGreatHeapNilQ3
import Derived.Deep.CutBlock
import Derived.Deep.DeepCutAuto
import Derived.Test.YtcfbanfbldionaaGreatHeapNilQ9
/- redo: entries, Recover, Clean. -/
namespace Scul
open Go Go.Sl Go.RowKit Go.Proofs
namespace Redo
/-- The entry that the log holds at a place. -/
def entAt (d : Dev) (f : Int) (i : Nat) : Ent := ⟨d.load (f + 8 + 2 * i), d.load (f + 8 + 2 * i + 1)⟩
def okAt (d : Dev) (f til : Int) (i : Nat) : Bool := decide ((entAt d f i).at_ ≤ 65536) && mayAt d f til (entAt d f i).at_
def entsOf (d : Dev) (f : Int) (n : Nat) : List Ent := (List.range n).map fun i => entAt d f i
def entE (d : Dev) (f til : Int) : Int :=
  if d.loadE f ≠ 0 then d.loadE f
  else if 1024 < d.load f then 8
  else if fits f til (d.load f) = false then 8
  else if ((List.range (d.load f).toNat).all fun i => okAt d f til i) = false then 8
  else 0
def entL (d : Dev) (f til : Int) : List Ent := if entE d f til = 0 then entsOf d f (d.load f).toNat else []
/-- What Recover leaves, how many entries it did, why it refused. -/
def recover (d : Dev) (f til : Int) : Dev × Int × Int :=
  if may d f til = false then (d, 0, 1)
  else if entE d f til ≠ 0 ∨ (entL d f til).length = 0 then (d, 0, entE d f til)
  else if (d.run (doOps f (entL d f til))).2 ≠ 0 then ((d.run (doOps f (entL d f til))).1, 0, (d.run (doOps f (entL d f til))).2)
  else ((d.run (doOps f (entL d f til))).1, (entL d f til).length, 0)
def cleanE (d : Dev) (f til : Int) : Int := if may d f til = false then 1 else d.loadE f
def cleanB (d : Dev) (f til : Int) : Bool := decide (cleanE d f til = 0) && decide (d.load f = 0)
theorem entsOf_succ (d : Dev) (f : Int) (i : Nat) : entsOf d f (i + 1) = entsOf d f i ++ [entAt d f i] := by simp [entsOf, List.range_succ]
theorem entsOf_len (d : Dev) (f : Int) (i : Nat) : (entsOf d f i).length = i := by simp [entsOf]
theorem may_fact {d : Dev} {f til : Int} (h : may d f til = true) : 0 ≤ f ∧ f < til ∧ til ≤ (d.read.length : Int) ∧ f % 8 = 0 := by
  unfold may at h
  simpa using h
theorem load_u64 {d : Dev} (h : d.Ok) (a : Int) : U64 (d.load a) := by
  unfold Dev.load
  split
  · unfold U64; omega
  · split
    · rename_i hb
      unfold Dev.isB at hb
      have hb : 0 ≤ a ∧ a < (d.read.length : Int) := by simpa using hb
      rw [List.getD_eq_getElem?_getD, List.getElem?_eq_getElem (by omega)]
      exact h.rd _ (List.getElem_mem _)
    · unfold U64; omega
theorem load_in {d : Dev} {f : Int} (h : d.loadE f = 0) {a : Int} (h0 : 0 ≤ a ∧ a < (d.read.length : Int)) : d.loadE a = 0 := by
  unfold Dev.loadE at *
  split at h
  · cases h
  · rename_i hd
    rw [if_neg hd, if_pos (by unfold Dev.isB; simpa using h0)]
theorem entsOf_facts {d : Dev} (h : d.Ok) {f til : Int} {n : Nat} (hall : ((List.range n).all fun i => okAt d f til i) = true) : (∀ x ∈ entsOf d f n, U64 x.word) ∧ (∀ x ∈ entsOf d f n, 0 ≤ x.at_ ∧ x.at_ ≤ 65536) := by
  refine ⟨fun x hx => ?_, fun x hx => ?_⟩
  · obtain ⟨i, _, rfl⟩ := List.mem_map.1 hx
    exact load_u64 h _
  · obtain ⟨i, hi, rfl⟩ := List.mem_map.1 hx
    have := List.all_eq_true.1 hall i hi
    unfold okAt at this
    simp only [Bool.and_eq_true, decide_eq_true_iff] at this
    exact ⟨(load_u64 h _).1, this.1⟩
theorem entL_facts {d : Dev} (h : d.Ok) (f til : Int) : (∀ x ∈ entL d f til, U64 x.word) ∧ (∀ x ∈ entL d f til, 0 ≤ x.at_ ∧ x.at_ ≤ 65536) ∧ (entL d f til).length ≤ 1024 := by
  unfold entL
  split
  · rename_i he
    unfold entE at he
    by_cases h1 : d.loadE f = 0
    · rw [if_neg (fun hh => hh h1)] at he
      by_cases h2 : 1024 < d.load f
      · rw [if_pos h2] at he; cases he
      · rw [if_neg h2] at he
        by_cases h3 : fits f til (d.load f) = false
        · rw [if_pos h3] at he; cases he
        · rw [if_neg h3] at he
          by_cases h4 : ((List.range (d.load f).toNat).all fun i => okAt d f til i) = false
          · rw [if_pos h4] at he; cases he
          · rw [Bool.not_eq_false] at h4
            have := entsOf_facts h h4
            refine ⟨this.1, this.2, ?_⟩
            rw [entsOf_len]
            have := (load_u64 h f).1
            omega
    · rw [if_pos h1] at he; exact (h1 he).elim
  · simp
theorem fits_fact {f til : Int} (hf : 0 ≤ f) (hft : f < til) (ht : til ≤ 65536) {n : Nat} (h : fits f til n = true) : f + 8 + 2 * (n : Int) ≤ til ∧ n ≤ 1024 := by
  unfold fits need at h
  simp only [decide_eq_true_iff] at h
  obtain ⟨h1, h2⟩ := h
  have hw : wrap64 (til - f) = til - f := by clear h2; unfold wrap64; omega
  rw [hw] at h2
  split at h2 <;> omega
end Redo
section
variable {E : Env} {w : World} {F : HP} {b : Nat} {d : Dev}
theorem entAt_word (f : Int) (i : Nat) : (Redo.entAt d f i).word = d.load (f + 8 + 2 * i + 1) := rfl

set_option maxRecDepth 100000 in
set_option maxHeartbeats 4000000 in
theorem entries_calls (w : World) (f : Nat) (til : Int) (hmay : Redo.may d f til = true) (h : Sat E w (dev b d * F)) :
    Calls Tryz.prog 124 #[glog b f til] w fun e w' => ∃ v, e = .returned (.tuple #[v, .int .i64 (Redo.entE d f til)]) ∧ Sat E w' (dev b d * (entRow v (Redo.entL d f til) * F)) := by
  have hok := dev_ok h
  have hmost := hok.most
  obtain ⟨hf0, hft, htl, hf8⟩ := Redo.may_fact hmay
  have hal : Sat E _ (logAt w.heap.size b f til * (dev b d * F)) := h.alloc _
  generalize hgb : w.heap.size = gb at hal
  have g0 := hal.cell 0 rfl
  have g1 := hal.cell 1 rfl
  obtain ⟨L, hL⟩ : ∃ L, L = Redo.entL d f til := ⟨_, rfl⟩
  obtain ⟨R, hR⟩ : ∃ R, R = Redo.entE d f til := ⟨_, rfl⟩
  have hL2 : R ≠ 0 → L = [] := fun h => by rw [hL]; unfold Redo.entL; rw [if_neg (by rw [← hR]; exact h)]
  have hL3 : R = 0 → L = Redo.entsOf d f (d.load f).toNat := fun h => by rw [hL]; unfold Redo.entL; rw [if_pos (by rw [← hR]; exact h)]
  rw [← hL, ← hR]
  have hX := Redo.load_u64 hok (f : Int)
  obtain ⟨X, hXX⟩ : ∃ X, X = d.load (f : Int) := ⟨_, rfl⟩
  obtain ⟨Y, hY⟩ : ∃ Y, Y = d.loadE (f : Int) := ⟨_, rfl⟩
  unfold Redo.entE at hR
  rw [← hXX, ← hY] at hR
  rw [← hXX] at hL3 hX
  have HR := Lib.hid hR; have HL2 := Lib.hid hL2; have HL3 := Lib.hid hL3
  have HOK := Lib.hid hok
  have HNIL : Hid (∀ W, R ≠ 0 → Sat E W (logAt gb b f til * (dev b d * F)) → Sat E W (dev b d * (entRow (.slice none 0 0) L * F))) := Lib.hid fun W hr hW => by
    rw [HL2.out hr]
    exact Sat.swap (entRow_nil hW.right)
  have HYY := Lib.hid hY
  have HT := Lib.hid (show til ≤ 65536 by omega)
  have HTL := Lib.hid htl
  clear hR hL2 hL3 h hL hmay hok
  unfold glog
  go_enter Tryz.func124, Tryz.ntmps124
  go_wp2_with fail
  refine (load_calls _ _ (Sat.swap hal)).mono ?_
  rintro e w1 ⟨rfl, n1, rfl⟩
  rw [← hXX, ← hY]
  have h1 := hal.drewN n1
  clear hal g0 g1 hXX hY
  by_cases hy : Y = 0
  · subst hy
    obtain ⟨n, rfl⟩ : ∃ n : Nat, X = n := ⟨X.toNat, by have := hX.1; omega⟩
    by_cases h2 : 1024 < (n : Int)
    · have hR8 : R = 8 := by rw [HR.out, if_neg (fun h => h rfl), if_pos h2]
      have HF := Lib.hid (HNIL.out _ (by rw [hR8]; decide) h1)
      have HR8 := Lib.hid hR8
      clear hX h1 hR8
      go_wp2_with fail
      go_ret2
      exact ⟨.slice none 0 0, by rw [HR8.out]; rfl, HF.out⟩
    · have hc : wrap64 (n : Int) = n := by unfold wrap64; omega
      have h3 : (n : Int) ≤ 1024 := by omega
      have g2 := h1.cell 0 rfl
      have g3 := h1.cell 1 rfl
      have g4 := h1.cell 2 rfl
      obtain ⟨ft, hft2⟩ : ∃ ft, ft = Redo.fits f til n := ⟨_, rfl⟩
      have HFT := Lib.hid hft2
      have HC := Lib.hid hc
      clear hX hft2 hc
      go_wp2_with fail
      refine (fits_calls _ _ _ _ (Sat.swap h1)).mono ?_
      rintro e w2 ⟨rfl, h2'⟩
      rw [← HFT.out]
      clear g2 g3 g4 h1
      cases ft with
      | false =>
        have hR8 : R = 8 := by rw [HR.out, if_neg (fun h => h rfl), if_neg (by omega), if_pos HFT.out.symm]
        have HF := Lib.hid (HNIL.out _ (by rw [hR8]; decide) (Sat.swap h2'))
        have HR8 := Lib.hid hR8
        clear h2' hR8
        go_wp2_with fail
        go_ret2
        exact ⟨.slice none 0 0, by rw [HR8.out]; rfl, HF.out⟩
      | true =>
        obtain ⟨hn1, _⟩ := Redo.fits_fact (n := n) (by omega) hft HT.out HFT.out.symm
        have hent := entRow_nil (Sat.swap h2')
        have HR' : Hid (R = if ((List.range n).all fun i => Redo.okAt d f til i) = false then 8 else 0) := Lib.hid (by
          rw [HR.out, if_neg (fun h => h rfl), if_neg (by omega), if_neg (by rw [← HFT.out]; simp)]
          rfl)
        clear h2' HR h2
        go_wp2_with fail
        go_loopw [33, 6] (fun iv ov wr => ∃ i : Nat, i ≤ n ∧ iv = .int .i64 i ∧ ((List.range i).all fun i => Redo.okAt d f til i) = true ∧ Sat E wr (entRow ov (Redo.entsOf d f i) * (logAt gb b f til * (dev b d * F)))) (fun iv _ _ => n - (intOf iv).toNat)
        case atStart => exact ⟨0, Nat.zero_le _, rfl, rfl, hent⟩
        case round =>
          clear hent
          obtain ⟨i, hi, rfl, hall, hw⟩ := hrel
          have HALL := Lib.hid hall
          clear hall
          by_cases hlt : i < n
          · have hll := HTL.out
            have hmay1 : d.loadE ((f : Int) + 8 + 2 * i) = 0 := Redo.load_in HYY.out.symm (by omega)
            have hmay2 : d.loadE ((f : Int) + 8 + 2 * i + 1) = 0 := Redo.load_in HYY.out.symm (by omega)
            have hX1 := Redo.load_u64 HOK.out ((f : Int) + 8 + 2 * i)
            have HNX : Hid (Redo.entAt d f i = ⟨d.load ((f : Int) + 8 + 2 * i), d.load ((f : Int) + 8 + 2 * i + 1)⟩) := Lib.hid rfl
            have HOKI : Hid (Redo.okAt d f til i = (decide ((Redo.entAt d f i).at_ ≤ 65536) && Redo.mayAt d f til (Redo.entAt d f i).at_)) := Lib.hid rfl
            have hd : Sat E wr (dev b d * (logAt gb b f til * (entRow u6 (Redo.entsOf d f i) * F))) := hw.ac (by ac_rfl)
            have g2 := (Sat.right hw).cell 0 rfl
            have g3 := (Sat.right hw).cell 1 rfl
            have g4 := (Sat.right hw).cell 2 rfl
            have hlti : (i : Int) < n := by omega
            clear hll
            go_wp2_with fail
            refine (load_calls _ _ hd).mono ?_
            rintro e w3 ⟨rfl, n3, rfl⟩
            rw [hmay1]
            obtain ⟨X1, hX1'⟩ : ∃ X, X = d.load ((f : Int) + 8 + 2 * i) := ⟨_, rfl⟩
            rw [← hX1'] at HNX hX1 ⊢
            have hd3 := hd.drewN n3
            clear hX1' hmay1 hw
            go_wp2_with fail
            refine (load_calls _ _ hd3).mono ?_
            rintro e w4 ⟨rfl, n4, rfl⟩
            rw [hmay2]
            obtain ⟨X2, hX2'⟩ : ∃ X, X = d.load ((f : Int) + 8 + 2 * i + 1) := ⟨_, rfl⟩
            rw [← hX2'] at HNX ⊢
            have hd4 := hd.drewN (n3 + n4)
            clear hX2' hmay2 hd3 hd
            rw [HNX.out] at HOKI
            have bad : Hid (Redo.okAt d f til i = false → R = 8) := Lib.hid fun hb => by
              have hnall : ((List.range n).all fun i => Redo.okAt d f til i) = false := by
                rw [← Bool.not_eq_true, List.all_eq_true]
                intro hall
                have := hall i (List.mem_range.2 hlt)
                rw [hb] at this
                cases this
              rw [HR'.out, if_pos hnall]
            by_cases h65 : 65536 < X1
            · have hR8 : R = 8 := bad.out (by rw [HOKI.out]; simp; omega)
              have HF := Lib.hid (HNIL.out _ (by rw [hR8]; decide) (Sat.swap (Sat.mid (Sat.swap2 hd4))))
              have HR8 := Lib.hid hR8
              clear hd4 hR8 hX1
              go_wp2_with fail
              go_ret2
              exact ⟨.slice none 0 0, by rw [HR8.out]; rfl, HF.out⟩
            · have hX0 : 0 ≤ X1 := hX1.1
              have hX6 : X1 ≤ 65536 := by omega
              clear hX1
              go_wp2_with fail
              refine (mayAt_calls _ _ _ _ hd4).mono ?_
              rintro e w5 ⟨rfl, h5⟩
              have HOKI2 : Hid (Redo.okAt d f til i = Redo.mayAt d f til X1) := Lib.hid (by rw [HOKI.out, decide_eq_true (show X1 ≤ 65536 from hX6), Bool.true_and])
              obtain ⟨B, hB⟩ : ∃ B, B = Redo.mayAt d f til X1 := ⟨_, rfl⟩
              rw [← hB] at HOKI2 ⊢
              clear hB hd4 HOKI
              cases B with
              | false =>
                have hR8 : R = 8 := bad.out HOKI2.out
                have HF := Lib.hid (HNIL.out _ (by rw [hR8]; decide) (Sat.swap (Sat.mid (Sat.swap2 h5))))
                have HR8 := Lib.hid hR8
                clear h5 hR8
                go_wp2_with fail
                go_ret2
                exact ⟨.slice none 0 0, by rw [HR8.out]; rfl, HF.out⟩
              | true =>
                have h6 : Sat E w5 (entRow u6 (Redo.entsOf d f i) * (logAt gb b f til * (dev b d * F))) := h5.ac (by ac_rfl)
                have H6 := Lib.hid h6
                have HB := Lib.hid (show (Redo.entsOf d f i).length + 1 ≤ 1000000 by rw [Redo.entsOf_len]; omega)
                clear h5 h6
                go_wp2_with (at_builtin; refine wpl_pushE rfl _ _ rfl (Sat.alloc H6.out _) rfl rfl HB.out ?_; intro g' e3 a5 c5 w7 h7)
                refine ⟨⟨i + 1, by omega, rfl, ?_, ?_⟩, by simp only [intOf]; omega⟩
                · rw [List.range_succ, List.all_append, HALL.out]
                  simp only [List.all_cons, List.all_nil, Bool.and_true, Bool.true_and]
                  exact HOKI2.out
                · rw [Redo.entsOf_succ, HNX.out, ← e3.out]
                  exact h7
          · obtain rfl : i = n := by omega
            have hR0 : R = 0 := by rw [HR'.out, HALL.out]; rfl
            have hLL : L = Redo.entsOf d f i := by rw [HL3.out hR0]; rfl
            have hfin : Sat E wr (dev b d * (entRow u6 L * F)) := by
              rw [hLL]
              have : Sat E wr (logAt gb b f til * (dev b d * (entRow u6 (Redo.entsOf d f i) * F))) := hw.ac (by ac_rfl)
              exact this.right
            have HF := Lib.hid hfin
            have HR8 := Lib.hid hR0
            obtain ⟨oa, oc, rfl⟩ := entRow_val (Sat.swap hfin)
            clear hfin hLL hR0 hw
            go_wp2_with fail
            go_ret2
            exact ⟨_, by rw [HR8.out]; rfl, HF.out⟩
  · have hRY : R = Y := by rw [HR.out, if_pos hy]
    have HF := Lib.hid (HNIL.out _ (by rw [hRY]; exact hy) h1)
    have HR8 := Lib.hid hRY
    have hb : (Y != 0) = true := by simpa using hy
    clear hX h1 hRY
    go_wp2_with fail
    go_ret2
    exact ⟨.slice none 0 0, by rw [HR8.out]; rfl, HF.out⟩
set_option maxRecDepth 100000 in
set_option maxHeartbeats 4000000 in
theorem recover_calls (w : World) (frm til : Int) (h : Sat E w (dev b d * F)) :
    Calls Tryz.prog 56 #[.pointer (some ⟨b, 0, none⟩), .int .i64 frm, .int .i64 til] w fun e w' => e = .returned (.tuple #[.int .i64 (Redo.recover d frm til).2.1, .int .i64 (Redo.recover d frm til).2.2]) ∧ Sat E w' (dev b (Redo.recover d frm til).1 * F) := by
  obtain ⟨R, hR⟩ : ∃ R, R = Redo.recover d frm til := ⟨_, rfl⟩
  rw [← hR]
  have hok := dev_ok h
  have hal : Sat E _ (logAt w.heap.size b frm til * (dev b d * F)) := h.alloc _
  have hfa := Redo.entL_facts hok frm til
  unfold Redo.recover at hR
  have HR := Lib.hid hR
  clear h hR
  generalize hgb : w.heap.size = gb at hal
  have g0 := hal.cell 0 rfl
  have g1 := hal.cell 1 rfl
  have g2 := hal.cell 2 rfl
  go_enter Tryz.func56, Tryz.ntmps56
  go_wp2_with fail
  refine (may_calls _ frm til (Sat.swap hal)).mono ?_
  rintro e w1 ⟨rfl, h1⟩
  obtain ⟨B, hB⟩ : ∃ B, B = Redo.may d frm til := ⟨_, rfl⟩
  rw [← hB] at HR ⊢
  clear hal g0 g1 g2
  cases B with
  | false =>
    have hR : R = (d, 0, 1) := by rw [HR.out]; rfl
    have HR2 := Lib.hid hR
    have HF := Lib.hid (Sat.mid h1)
    clear hR HR h1 hB hfa hok
    go_wp2_with fail
    go_ret2
    exact ⟨by rw [HR2.out]; rfl, by rw [HR2.out]; exact HF.out⟩
  | true =>
    obtain ⟨f, rfl⟩ : ∃ f : Nat, frm = f := ⟨frm.toNat, by have := Redo.may_fact hB.symm; omega⟩
    have hR : R = if Redo.entE d f til ≠ 0 ∨ (Redo.entL d f til).length = 0 then (d, 0, Redo.entE d f til)
      else if (d.run (Redo.doOps f (Redo.entL d f til))).2 ≠ 0 then ((d.run (Redo.doOps f (Redo.entL d f til))).1, 0, (d.run (Redo.doOps f (Redo.entL d f til))).2)
      else ((d.run (Redo.doOps f (Redo.entL d f til))).1, ((Redo.entL d f til).length : Int), 0) := by rw [HR.out]; rfl
    have g0 := (Sat.right h1).cell 0 rfl
    have g1 := (Sat.right h1).cell 1 rfl
    have g2 := (Sat.right h1).cell 2 rfl
    have HR2 := Lib.hid hR
    have HMAY := Lib.hid hB.symm
    have HFA := Lib.hid hfa
    clear hR HR hB hfa hok
    go_wp2_with fail
    refine (entries_calls _ f til HMAY.out h1).mono ?_
    rintro e w2 ⟨v, rfl, h2⟩
    obtain ⟨L, hL⟩ : ∃ L, L = Redo.entL d f til := ⟨_, rfl⟩
    obtain ⟨Y, hY⟩ : ∃ Y, Y = Redo.entE d f til := ⟨_, rfl⟩
    rw [← hL, ← hY] at HR2
    rw [← hL] at h2 HFA
    rw [← hY]
    clear hL hY g0 g1 g2 h1 HMAY
    obtain ⟨va, vc, rfl⟩ := entRow_val (Sat.swap h2)
    have h2' : Sat E w2 (dev b d * (logAt gb b f til * (entRow (.slice va L.length vc) L * F))) := h2.ac (by ac_rfl)
    have HDR : Hid (∀ W, Sat E W (dev b d * (logAt gb b f til * (entRow (.slice va L.length vc) L * F))) → Sat E W (dev b d * F)) := Lib.hid fun W hW => Sat.mid (Sat.mid hW)
    clear h2
    by_cases hy : Y = 0
    · subst hy
      by_cases hl : L.length = 0
      · have hl' : (L.length : Int) = 0 := by omega
        have hR : R = (d, 0, 0) := by rw [HR2.out, if_pos (.inr hl)]
        have HR3 := Lib.hid hR
        have HF := Lib.hid (HDR.out _ h2')
        clear hR HR2 h2' hl
        go_wp2_with fail
        go_ret2
        exact ⟨by rw [HR3.out]; rfl, by rw [HR3.out]; exact HF.out⟩
      · have hl' : ¬ (L.length : Int) = 0 := by omega
        have hl2 : ((L.length : Int) == 0) = false := by rw [beq_eq_false_iff_ne]; exact hl'
        have hR : R = if (d.run (Redo.doOps f L)).2 ≠ 0 then ((d.run (Redo.doOps f L)).1, 0, (d.run (Redo.doOps f L)).2) else ((d.run (Redo.doOps f L)).1, (L.length : Int), 0) := by rw [HR2.out, if_neg (by simp; exact fun h => hl (by rw [h]; rfl))]
        have HR3 := Lib.hid hR
        have g0 := (Sat.right h2').cell 0 rfl
        have g1 := (Sat.right h2').cell 1 rfl
        have g2 := (Sat.right h2').cell 2 rfl
        have HRE : Hid (∀ W, Sat E W (logAt gb b f til * (entRow (.slice va L.length vc) L * F)) → RdE W (.slice va L.length vc) L) := Lib.hid fun W hW => entRow_rd (F := F) hW.right HFA.out.1 (fun x hx => by have := HFA.out.2.1 x hx; unfold I64; omega)
        clear hR HR2
        go_wp2_with fail
        refine (do_calls _ f til L va vc HFA.out.2.2 (fun x hx => (HFA.out.2.1 x hx).1) HRE.out h2').mono ?_
        rintro e w3 ⟨rfl, h3⟩
        obtain ⟨⟨d2, e2⟩, hq⟩ : ∃ q, q = d.run (Redo.doOps f L) := ⟨_, rfl⟩
        rw [← hq] at h3 HR3 ⊢
        simp only at h3 HR3 ⊢
        have HF : Hid (Sat E w3 (dev b d2 * F)) := Lib.hid (Sat.mid (Sat.mid h3))
        clear hq HRE h2' h3 HDR
        by_cases he : e2 = 0
        · subst he
          have HR4 : Hid (R = (d2, (L.length : Int), 0)) := Lib.hid (by rw [HR3.out]; rfl)
          clear HR3
          go_wp2_with fail
          go_ret2
          exact ⟨by rw [HR4.out]; rfl, by rw [HR4.out]; exact HF.out⟩
        · have hb : (e2 != 0) = true := by simpa using he
          have HR4 : Hid (R = (d2, 0, e2)) := Lib.hid (by rw [HR3.out, if_pos he])
          clear HR3
          go_wp2_with fail
          go_ret2
          exact ⟨by rw [HR4.out]; rfl, by rw [HR4.out]; exact HF.out⟩
    · have hb : (Y != 0) = true := by simpa using hy
      have hR : R = (d, 0, Y) := by rw [HR2.out, if_pos (.inl hy)]
      have HR3 := Lib.hid hR
      have HF := Lib.hid (HDR.out _ h2')
      clear hR HR2 h2'
      go_wp2_with fail
      go_ret2
      exact ⟨by rw [HR3.out]; rfl, by rw [HR3.out]; exact HF.out⟩
end
end Scul
/- Heaps: what calls answer and leave: plain. -/
namespace Scul
open Go Go.Sl Go.RowKit
structure Wr where
  kind : Int
  obj : Int
  field : Int
  val : Val
/-- Words from a place on, as entries. -/
def entsAt (a : Int) : List Int → List Ent
  | [] => []
  | x :: r => ⟨a, x⟩ :: entsAt (a + 1) r
theorem entsAt_length (a : Int) (l : List Int) : (entsAt a l).length = l.length := by
  induction l generalizing a with
  | nil => rfl
  | cons x r ih => simp [entsAt, ih]
theorem entsAt_append (a : Int) (l m : List Int) : entsAt a (l ++ m) = entsAt a l ++ entsAt (a + l.length) m := by
  induction l generalizing a with
  | nil => simp [entsAt]
  | cons x r ih =>
    simp only [List.cons_append, entsAt, ih, List.length_cons]
    congr 3
    omega
namespace Hp
/-- What read tells of a block: its type, its values, an error. -/
def obj (c : Cfg) (U : List Bool) (d : Dev) (b : Int) : Int × List Val × Int :=
  if getB U b = false then (0, [], 2)
  else if d.down = true then (0, [], 7)
  else ((objDA (objD c.kinds (blockW c d.read b))).1, (objDA (objD c.kinds (blockW c d.read b))).2.1, (objDA (objD c.kinds (blockW c d.read b))).2.2.2)
def load (o : Int × List Val × Int) (i : Int) : Val × Int :=
  if o.2.2 ≠ 0 then (Val.nil, o.2.2) else if i < 0 ∨ (o.2.1.length : Int) ≤ i then (Val.nil, 4) else (o.2.1.getD i.toNat Val.nil, 0)
def refs (o : Int × List Val × Int) : List Int := (o.2.1.filter fun v => decide (v.kind = 3)).map (·.ref)
/-- What a root's word names. -/
def rootV (d : Dev) (a : Int) : Int × Int :=
  if a < 0 then (0, 4) else if d.loadE a ≠ 0 then (0, d.loadE a) else (wrap64 (wrap64 (d.load a) - 1), 0)
def rootAt (c : Cfg) (w : Wr) : Int := if w.kind = 2 then c.rootOf w.field else c.weakOf w.field
/-- Where a write's words go, what they are, an error. -/
def fieldW (c : Cfg) (U : List Bool) (d : Dev) (w : Wr) : Int × List Int × Int :=
  if w.kind ≠ 1 then (rootAt c w, if w.val.kind = 3 then [(w.val.ref % 18446744073709551616 + 1) % 18446744073709551616] else [0], 0)
  else if (obj c U d w.obj).2.2 ≠ 0 then (0, [], (obj c U d w.obj).2.2)
  else (c.at_ w.obj + (objF c.kinds (obj c U d w.obj).1 w.field w.val).1, (objF c.kinds (obj c U d w.obj).1 w.field w.val).2.1, (objF c.kinds (obj c U d w.obj).1 w.field w.val).2.2)
def placeE (U : List Bool) (w : Wr) : Int := if w.kind = 1 then (if getB U w.obj = true then 0 else 1) else if w.kind = 2 ∨ w.kind = 3 then 0 else 1
def indexE (c : Cfg) (w : Wr) : Int := if w.kind ≠ 1 ∧ rootAt c w < 0 then 4 else 0
def refersE (U : List Bool) (bl : List Int) (w : Wr) : Int := if w.val.kind = 3 ∧ ¬ (getB U w.val.ref = true ∨ w.val.ref ∈ bl) then 1 else 0
def typedE (w : Wr) : Int := if w.kind ≠ 1 ∧ w.val.kind ≠ 0 ∧ w.val.kind ≠ 3 then 3 else 0
def field5E (c : Cfg) (U : List Bool) (d : Dev) (w : Wr) : Int := if (fieldW c U d w).2.2 ≠ 3 then (fieldW c U d w).2.2 else 0
def field6E (c : Cfg) (U : List Bool) (d : Dev) (w : Wr) : Int := (fieldW c U d w).2.2
/-- The first refusal. -/
def firstE (f : Wr → Int) : List Wr → Int
  | [] => 0
  | w :: r => if f w ≠ 0 then f w else firstE f r
def fieldN (c : Cfg) (U : List Bool) (d : Dev) : List Wr → Int
  | [] => 0
  | w :: r => (fieldW c U d w).2.1.length + fieldN c U d r
/-- How many entries a commit writes. -/
def countN (c : Cfg) (U : List Bool) (d : Dev) (bl : List Int) (ws : List Wr) : Int := fieldN c U d ws + (compB (sortB (bl.map c.bitsOf))).length
/-- What a commit would refuse. -/
def fits (c : Cfg) (U R : List Bool) (d : Dev) (bl : List Int) (ws : List Wr) : Int :=
  if mayB R [] bl = false then 1
  else if firstE (placeE U) ws ≠ 0 then firstE (placeE U) ws
  else if firstE (indexE c) ws ≠ 0 then firstE (indexE c) ws
  else if firstE (refersE U bl) ws ≠ 0 then firstE (refersE U bl) ws
  else if firstE typedE ws ≠ 0 then firstE typedE ws
  else if firstE (field5E c U d) ws ≠ 0 then firstE (field5E c U d) ws
  else if firstE (field6E c U d) ws ≠ 0 then firstE (field6E c U d) ws
  else if 1024 < countN c U d bl ws ∨ c.log < Redo.need (countN c U d bl ws) then 9 else 0
def write (c : Cfg) (d : Dev) (l : List Ent) : Dev × Int := if l = [] then (d, 0) else Redo.write d c.logAt (c.logAt + c.log) l
def wents (c : Cfg) (U : List Bool) (d : Dev) (ws : List Wr) : List Ent := ws.flatMap fun w => entsAt (fieldW c U d w).1 (fieldW c U d w).2.1
structure St where
  d : Dev
  U : List Bool
  R : List Bool
def commit (c : Cfg) (s : St) (bl : List Int) (ws : List Wr) : St × Int :=
  if fits c s.U s.R s.d bl ws ≠ 0 ∨ (bl = [] ∧ ws = []) then (s, fits c s.U s.R s.d bl ws)
  else if s.d.fenceE ≠ 0 then ({ s with d := s.d.fence }, s.d.fenceE)
  else (⟨(write c s.d.fence (turnE c (setAll s.U bl true) (wordsOf bl) ++ wents c (setAll s.U bl true) s.d.fence ws)).1, setAll s.U bl true, setAll s.R bl false⟩,
    (write c s.d.fence (turnE c (setAll s.U bl true) (wordsOf bl) ++ wents c (setAll s.U bl true) s.d.fence ws)).2)
def release (c : Cfg) (s : St) (bl : List Int) : St × Int :=
  if mayB s.U [] bl = false then (s, 1)
  else (⟨(write c s.d (turnE c (setAll s.U bl false) (wordsOf bl))).1, setAll s.U bl false, setAll s.R bl false⟩, (write c s.d (turnE c (setAll s.U bl false) (wordsOf bl))).2)
def weakenB (c : Cfg) (l : List Int) : Bool := l.any fun i => decide (c.weakOf i < 0)
def weaken (c : Cfg) (d : Dev) (l : List Int) : Dev × Int :=
  if weakenB c l = true then (d, 4) else write c d (l.map fun i => ⟨c.weakOf i, 0⟩)
/-- Stores of words, flushes of their lines. -/
def stOpsAt (a : Int) : List Int → List DOp
  | [] => []
  | x :: r => .st a x :: stOpsAt (a + 1) r
def lineOps (a z : Nat) : List DOp := (List.range (z + 1 - a)).map fun i => DOp.fl (8 * (a + i : Nat) : Nat)
def layOps (a : Nat) (w : List Int) : List DOp := stOpsAt a w ++ lineOps (a / 8) ((a + w.length - 1) / 8)
def lay (c : Cfg) (R : List Bool) (d : Dev) (b k : Int) (vs : List Val) (e : Nat) : Dev × Int :=
  if getB R b = false then (d, 1)
  else if (objE c.kinds k vs e).1 ≠ 0 then (d, (objE c.kinds k vs e).1)
  else if c.size b < (objE c.kinds k vs e).2.length then (d, 1)
  else d.run (layOps (c.at_ b).toNat (objE c.kinds k vs e).2)
def reserveA (c : Cfg) (U R : List Bool) (k : Int) : Int := if k < 0 ∨ (c.kinds.length : Int) ≤ k then 0 else c.reserveA U R (kindW (c.kinds.getD k.toNat []))
def reserveE (c : Cfg) (U R : List Bool) (k : Int) : Int := if k < 0 ∨ (c.kinds.length : Int) ≤ k then 3 else c.reserveE U R (kindW (c.kinds.getD k.toNat []))
def reserveR (c : Cfg) (U R : List Bool) (k : Int) : List Bool := if k < 0 ∨ (c.kinds.length : Int) ≤ k then R else c.reserveR U R (kindW (c.kinds.getD k.toNat []))
/-- What Open does to a device, and tells; the heap that it makes. -/
def openE (d : Dev) : Dev × Int × Option (Cfg × List Bool) :=
  match cfgP d.read with
  | none => (d, 8, none)
  | some c => if (d.read.length : Int) < c.words then (d, 8, none)
    else if (Redo.recover d c.logAt (c.logAt + c.log)).2.2 ≠ 0 then ((Redo.recover d c.logAt (c.logAt + c.log)).1, (Redo.recover d c.logAt (c.logAt + c.log)).2.2, none)
    else if (readP (Redo.recover d c.logAt (c.logAt + c.log)).1.read).isSome = true then ((Redo.recover d c.logAt (c.logAt + c.log)).1, 0, some (c, usedW c (Redo.recover d c.logAt (c.logAt + c.log)).1.read))
    else ((Redo.recover d c.logAt (c.logAt + c.log)).1, 8, none)
end Hp
end Scul
/- Heaps: the words of a heap, an invariant: plain. -/
namespace Scul
open Go Go.Sl Go.RowKit Redo Dev
theorem getD_of {l m : List Int} {i : Nat} (h : l[i]? = m[i]?) : l.getD i 0 = m.getD i 0 := by rw [List.getD_eq_getElem?_getD, List.getD_eq_getElem?_getD, h]
/-- A part of words, by its words. -/
theorem part_congr {s m : List Int} {a n : Nat} (h : ∀ i, a ≤ i → i < a + n → s[i]? = m[i]?) : (s.drop a).take n = (m.drop a).take n := by
  refine List.ext_getElem? fun i => ?_
  by_cases hi : i < n
  · rw [List.getElem?_take_of_lt hi, List.getElem?_take_of_lt hi, List.getElem?_drop, List.getElem?_drop]
    exact h _ (by omega) (by omega)
  · rw [List.getElem?_eq_none (by rw [List.length_take]; omega), List.getElem?_eq_none (by rw [List.length_take]; omega)]
theorem part_get {s : List Int} {a n i : Nat} (h : i < n) : ((s.drop a).take n)[i]? = s[a + i]? := by
  rw [List.getElem?_take_of_lt h, List.getElem?_drop]
theorem part_length {s : List Int} {a n : Nat} (h : a + n ≤ s.length) : ((s.drop a).take n).length = n := by
  rw [List.length_take, List.length_drop]; omega
theorem mem_part {s : List Int} {a n : Nat} {x : Int} (h : x ∈ (s.drop a).take n) : ∃ i, i < n ∧ s[a + i]? = some x := by
  obtain ⟨i, hi, rfl⟩ := List.getElem_of_mem h
  have hl := hi
  rw [List.length_take] at hl
  have hn : i < n := by omega
  exact ⟨i, hn, by rw [← part_get hn]; exact List.getElem?_eq_getElem hi⟩
namespace Hp
/-- Is a block used? -/
def isU (U : List Bool) (b : Int) : Prop := getB U b = true
/-- A block's words are an object, whose references are all used. -/
def Good (c : Cfg) (s : List Int) (U : List Bool) (b : Int) : Prop := ∃ k vs e, objD c.kinds (blockW c s b) = some (k, vs, e) ∧ ∀ v ∈ vs, v.kind = 3 → getB U v.ref = true
/-- The words of a heap, of which U are used. -/
structure WInv (c : Cfg) (s : List Int) (U : List Bool) : Prop where
  ok : c.Ok
  len : (s.length : Int) = c.words
  u64 : ∀ x ∈ s, U64 x
  sup : s.take (9 + c.kinds.length) = c.super
  used : usedW c s = U
  clos : ∀ b, getB U b = true → Good c s U b
  rts : ∀ i : Nat, (i : Int) < c.roots → RootWord (isU U) c.count (s.getD (c.rootsAt.toNat + i) 0)
  wks : ∀ i : Nat, (i : Int) < c.weaks → RootWord (isU U) c.count (s.getD ((c.rootsAt + c.roots).toNat + i) 0)
variable {c : Cfg} {s s' : List Int} {U U' : List Bool}
/-- Where the parts lie. -/
theorem places (h : c.Ok) : (9 + c.kinds.length : Int) ≤ c.rootsAt ∧ c.rootsAt + c.roots + c.weaks ≤ c.bitsAt ∧ c.bitsAt + (c.count + 63) / 64 ≤ c.logAt ∧ c.logAt + c.log = c.blocksAt ∧ c.blocksAt ≤ c.words ∧ 0 ≤ c.rootsAt ∧ 0 ≤ c.bitsAt ∧ 0 < c.logAt ∧ c.logAt ≤ 130 ∧ c.logAt % 8 = 0 ∧ c.words ≤ 65536 := by
  have hp := Cfg.near_places h.toNear
  have h1 := h.toNear.roots; have h2 := h.toNear.weaks; have h3 := h.toNear.log; have h4 := h.some; have h5 := h.words
  have e1 : c.rootsAt = Cfg.lineOf (9 + c.kinds.length) := rfl
  have e2 : c.bitsAt = Cfg.lineOf (c.rootsAt + c.roots + c.weaks) := rfl
  have e3 : c.logAt = Cfg.lineOf (c.bitsAt + (c.count + 63) / 64) := rfl
  have e4 : c.blocksAt = c.logAt + c.log := rfl
  have e5 : c.words = Cfg.lineOf (c.blocksAt + c.all) := rfl
  unfold Cfg.lineOf at e1 e2 e3 e5
  omega
theorem WInv.ulen (h : WInv c s U) : U.length = c.count.toNat := by rw [← h.used]; simp [usedW, unpackW]
theorem WInv.bit (h : WInv c s U) {b : Int} (hb : getB U b = true) : 0 ≤ b ∧ b < c.count := by
  have h1 := getB_in hb
  rw [h.ulen] at h1
  have := h.ok.some
  omega
theorem WInv.cfg (h : WInv c s U) : cfgP s = some c := by
  have h1 : s = c.super ++ s.drop (9 + c.kinds.length) := by
    conv => lhs; rw [← List.take_append_drop (9 + c.kinds.length) s, h.sup]
  rw [h1]
  exact cfgP_super h.ok _
/-- Words whose log is clear are an image. -/
theorem WInv.read (h : WInv c s U) (hlog : s.getD c.logAt.toNat 0 = 0) : (readP s).isSome = true := by
  obtain ⟨g, bs, hr, _⟩ := readP_some (S := isU U) h.cfg (by rw [h.len]; exact Int.le_refl _) hlog (by
      intro b hb
      rw [h.used]
      obtain ⟨k, vs, e, h1, h2⟩ := h.clos b hb
      exact ⟨hb, k, vs, e, h1, h2⟩) (by
      intro x hx
      obtain ⟨i, hi, he⟩ := mem_part hx
      have := h.rts i (by omega)
      rw [List.getD_eq_getElem?_getD, he] at this
      exact this) (by
      intro x hx
      obtain ⟨i, hi, he⟩ := mem_part hx
      have := h.wks i (by omega)
      rw [List.getD_eq_getElem?_getD, he] at this
      exact this)
  rw [hr]
  rfl
/-- Words that changed. -/
theorem WInv.step (h : WInv c s U) (hl : s'.length = s.length) (hu : ∀ x ∈ s', U64 x) (hsup : ∀ i : Nat, (i : Int) < 9 + c.kinds.length → s'[i]? = s[i]?)
    (hused : usedW c s' = U') (hU : ∀ b, getB U b = true → getB U' b = true)
    (hb : ∀ b, getB U' b = true → Good c s' U' b ∨ (getB U b = true ∧ blockW c s' b = blockW c s b))
    (hr : ∀ i : Nat, (i : Int) < c.roots → s'[c.rootsAt.toNat + i]? = s[c.rootsAt.toNat + i]? ∨ RootWord (isU U') c.count (s'.getD (c.rootsAt.toNat + i) 0))
    (hw : ∀ i : Nat, (i : Int) < c.weaks → s'[(c.rootsAt + c.roots).toNat + i]? = s[(c.rootsAt + c.roots).toNat + i]? ∨ RootWord (isU U') c.count (s'.getD ((c.rootsAt + c.roots).toNat + i) 0)) : WInv c s' U' := by
  have hmono : ∀ x, RootWord (isU U) c.count x → RootWord (isU U') c.count x := fun x hx => hx.imp id fun ⟨a, b, d⟩ => ⟨a, b, hU _ d⟩
  refine ⟨h.ok, by rw [hl, h.len], hu, ?_, hused, ?_, ?_, ?_⟩
  · rw [← h.sup]
    have := part_congr (s := s') (m := s) (a := 0) (n := 9 + c.kinds.length) fun i _ hi => hsup i (by omega)
    simpa using this
  · intro b hb'
    rcases hb b hb' with hg | ⟨h1, h2⟩
    · exact hg
    · obtain ⟨k, vs, e, h3, h4⟩ := h.clos b h1
      exact ⟨k, vs, e, by rw [h2]; exact h3, fun v hv h5 => hU _ (h4 v hv h5)⟩
  · intro i hi
    rcases hr i hi with h1 | h1
    · rw [getD_of h1]; exact hmono _ (h.rts i hi)
    · exact h1
  · intro i hi
    rcases hw i hi with h1 | h1
    · rw [getD_of h1]; exact hmono _ (h.wks i hi)
    · exact h1
theorem blockW_length (h : c.Ok) (hl : (s.length : Int) = c.words) {b : Int} (hb : 0 ≤ b ∧ b < c.count) : (blockW c s b).length = (c.size b).toNat := by
  obtain ⟨h1, h2, h3, h4⟩ := Cfg.at_range h.toNear hb.1 hb.2
  have hp := places h
  have n3 := h.toNear.log
  unfold blockW
  exact part_length (by omega)
theorem blockW_congr (h : c.Ok) {b : Int} (hb : 0 ≤ b ∧ b < c.count) (hs : ∀ i : Nat, c.at_ b ≤ i → (i : Int) < c.at_ b + c.size b → s'[i]? = s[i]?) : blockW c s' b = blockW c s b := by
  obtain ⟨h1, h2, h3, h4⟩ := Cfg.at_range h.toNear hb.1 hb.2
  have hp := places h
  have n3 := h.toNear.log
  unfold blockW
  refine part_congr fun i h5 h6 => ?_
  exact hs i (by omega) (by omega)
/-- Bits that are as they were. -/
theorem usedW_congr (h : c.Ok) (hs : ∀ i : Nat, c.bitsAt ≤ i → (i : Int) < c.bitsAt + (c.count + 63) / 64 → s'[i]? = s[i]?) : usedW c s' = usedW c s := by
  have hp := places h
  have h4 := h.some
  unfold usedW
  rw [part_congr fun i h5 h6 => hs i (by omega) (by omega)]
end Hp
/-- Fields that are written over. -/
def putF (w : List Int) (o : Nat) (l : List Int) : List Int := w.take o ++ l ++ w.drop (o + l.length)
theorem kw_val {k : Int} {w : List Int} {v : Val} (h : valO k w = some v) : (w.length : Int) = kw k := by
  unfold valO at h
  unfold kw
  split at h
  · rename_i e; rw [if_pos (.inl e.1)]; omega
  split at h
  · rename_i e; rw [if_neg (by omega), if_pos e.1]; omega
  split at h
  · rename_i e; rw [if_pos (.inr e.1)]; omega
  split at h
  · rename_i e; rw [if_pos (.inr e.1)]; omega
  · cases h
theorem decF_len {fs w : List Int} {vs : List Val} (h : decF fs w = some vs) : kwSum fs ≤ w.length := by
  induction fs generalizing vs w with
  | nil => simp [kwSum]
  | cons f r ih =>
    unfold decF at h
    cases hv : valO f (w.take (kw f).toNat) with
    | none => rw [hv] at h; cases h
    | some x =>
      rw [hv] at h
      obtain ⟨y, hy, rfl⟩ := Option.map_eq_some_iff.1 h
      have h1 := ih hy
      have h2 := kw_val hv
      have h3 := kw_range f
      rw [List.length_take] at h2
      rw [List.length_drop] at h1
      unfold kwSum
      omega
/-- One field that is written over changes one value. -/
theorem decF_put {fs w : List Int} {vs : List Val} (h : decF fs w = some vs) {i : Nat} (hi : i < fs.length) {v : Val} (hv : v.Wf) {l : List Int} (hl : valW (fs.getD i 0) v = some l) :
    decF fs (putF w (kwSum (fs.take i)).toNat l) = some (vs.set i v.told) := by
  induction fs generalizing vs w i with
  | nil => simp at hi
  | cons f r ih =>
    have h0 := h
    unfold decF at h
    cases hx : valO f (w.take (kw f).toNat) with
    | none => rw [hx] at h; cases h
    | some x =>
      rw [hx] at h
      obtain ⟨y, hy, rfl⟩ := Option.map_eq_some_iff.1 h
      have h3 := kw_range f
      have h2 := kw_val hx
      rw [List.length_take] at h2
      cases i with
      | zero =>
        simp only [List.getD_cons_zero] at hl
        have hll := valW_length hl
        have e : (kw f).toNat = l.length := by omega
        have hp : putF w (kwSum ((f :: r).take 0)).toNat l = l ++ w.drop l.length := by simp [putF, kwSum]
        rw [hp]
        unfold decF
        rw [e, List.take_left, List.drop_left, valO_valW hv hl]
        simp only
        rw [← e, hy]
        rfl
      | succ i =>
        simp only [List.getD_cons_succ] at hl
        have hi' : i < r.length := by simpa using hi
        have hll := valW_length hl
        have hs := kwSum_range (r.take i)
        have e1 : (kwSum ((f :: r).take (i + 1))).toNat = (kw f).toNat + (kwSum (r.take i)).toNat := by
          simp only [List.take_succ_cons, kwSum]
          omega
        have e2 : putF w (kwSum ((f :: r).take (i + 1))).toNat l = w.take (kw f).toNat ++ putF (w.drop (kw f).toNat) (kwSum (r.take i)).toNat l := by
          rw [e1]
          unfold putF
          rw [List.take_add, List.drop_drop]
          simp [List.append_assoc, Nat.add_assoc]
        have e3 : (w.take (kw f).toNat).length = (kw f).toNat := by rw [List.length_take]; omega
        rw [e2]
        unfold decF
        rw [List.take_left' e3, List.drop_left' e3, hx]
        simp only
        rw [ih hy hi' hl]
        rfl
/-- An object one of whose fields is written over. -/
theorem objD_put {ks : List (List Int)} {w : List Int} {k : Int} {vs : List Val} {e : Nat} (h : objD ks w = some (k, vs, e)) {i : Int} {v : Val} (hv : v.Wf) {o : Int} {l : List Int} (hf : objF ks k i v = (o, l, 0)) :
    objD ks (putF w o.toNat l) = some (k, vs.set i.toNat v.told, e) ∧ 0 ≤ i ∧ i < vs.length ∧ 1 ≤ o ∧ o + l.length ≤ w.length := by
  unfold objF at hf
  cases hk : kindAt ks k with
  | none => rw [hk] at hf; simp at hf
  | some fs =>
    rw [hk] at hf
    simp only at hf
    split at hf
    · simp at hf
    rename_i hi
    cases hw : valW (fs.getD i.toNat 0) v with
    | none => rw [hw] at hf; simp at hf
    | some l' =>
      rw [hw] at hf
      simp only [Prod.mk.injEq, and_true] at hf
      obtain ⟨rfl, rfl⟩ := hf
      unfold objD at h
      cases w with
      | nil => cases h
      | cons x r =>
        simp only at h
        cases hh : hdrP x.toNat with
        | none => rw [hh] at h; cases h
        | some p =>
          obtain ⟨k', n, e'⟩ := p
          rw [hh] at h
          simp only at h
          cases hk' : kindAt ks k' with
          | none => rw [hk'] at h; cases h
          | some fs' =>
            rw [hk'] at h
            simp only at h
            split at h
            · cases h
            rename_i hn
            obtain ⟨y, hy, he⟩ := Option.map_eq_some_iff.1 h
            simp only [Prod.mk.injEq] at he
            obtain ⟨rfl, rfl, rfl⟩ := he
            rw [hk] at hk'
            simp only [Option.some.injEq] at hk'
            subst hk'
            have hil : i.toNat < fs.length := by omega
            have hs := kwSum_range (fs.take i.toNat)
            have hd := decF_put hy hil hv hw
            have e1 : (1 + kwSum (fs.take i.toNat)).toNat = 1 + (kwSum (fs.take i.toNat)).toNat := by omega
            have hyl := decF_length hy
            have hdl := decF_len hy
            have hsum : kwSum (fs.take i.toNat) + l'.length ≤ kwSum fs := by
              have h5 := valW_length hw
              have h6 := kwSum_append (fs.take i.toNat) (fs.drop i.toNat)
              rw [List.take_append_drop] at h6
              have h7 : fs.drop i.toNat = fs.getD i.toNat 0 :: fs.drop (i.toNat + 1) := by
                rw [List.drop_eq_getElem_cons hil, List.getD_eq_getElem?_getD, List.getElem?_eq_getElem hil]
                rfl
              rw [h7] at h6
              simp only [kwSum] at h6
              have h8 := kwSum_range (fs.drop (i.toNat + 1))
              omega
            have e2 : putF (x :: r) (1 + kwSum (fs.take i.toNat)).toNat l' = x :: putF r (kwSum (fs.take i.toNat)).toNat l' := by
              rw [e1]
              unfold putF
              rw [Nat.add_comm 1, List.take_succ_cons, show (kwSum (fs.take i.toNat)).toNat + 1 + l'.length = (kwSum (fs.take i.toNat)).toNat + l'.length + 1 by omega, List.drop_succ_cons]
              rfl
            refine ⟨?_, by omega, by omega, by omega, by simp only [List.length_cons]; omega⟩
            rw [e2]
            simp only [objD]
            rw [hh]
            simp only
            rw [hk]
            simp only
            have hpl : (putF r (kwSum (fs.take i.toNat)).toNat l').length = r.length := by
              unfold putF
              simp only [List.length_append, List.length_take, List.length_drop]
              omega
            rw [if_neg (by simp only [List.length_cons, hpl] at hn ⊢; exact hn), hd]
            rfl
end Scul
/- Heaps: what entries do to the words: plain. -/
namespace Scul
open Go Go.Sl Go.RowKit Redo Dev
namespace Hp
variable {c : Cfg} {s s' : List Int} {U U' : List Bool}
/-- A class's blocks' parts lie apart from the roots, the bits and the log. -/
theorem at_places (h : c.Ok) {b : Int} (hb : 0 ≤ b ∧ b < c.count) : c.blocksAt ≤ c.at_ b ∧ c.at_ b + c.size b ≤ c.words ∧ 2 ≤ c.size b ∧ c.size b ≤ 16 := Cfg.at_range h.toNear hb.1 hb.2
/-- Words that changed within the log. -/
theorem WInv.log (h : WInv c s U) (hl : s'.length = s.length) (hu : ∀ x ∈ s', U64 x) (hs : ∀ i : Nat, (i : Int) < c.logAt ∨ c.blocksAt ≤ i → s'[i]? = s[i]?) : WInv c s' U := by
  have hp := places h.ok
  have n1 := h.ok.toNear.roots; have n2 := h.ok.toNear.weaks; have n4 := h.ok.some
  refine h.step hl hu (fun i hi => hs i (by omega)) ?_ (fun b hb => hb) ?_ (fun i hi => .inl (hs _ (by omega))) (fun i hi => .inl (hs _ (by omega)))
  · rw [usedW_congr h.ok fun i h1 h2 => hs i (by omega)]; exact h.used
  · intro b hb
    have hb' := h.bit hb
    have := at_places h.ok hb'
    exact .inr ⟨hb, blockW_congr h.ok hb' fun i h1 h2 => hs i (by omega)⟩
theorem bitsOf_mul (h : c.Ok) {j : Int} (h0 : 0 ≤ j) (h1 : j < (c.count + 63) / 64) : c.bitsOf (j * 64) = c.bitsAt + j := by
  have h2 : ¬ c.cls (j * 64) < 0 := by
    have h3 := Cfg.cls_range c (j * 64)
    have h4 := Cfg.cls_neg h.toNear (j * 64)
    intro h5
    have : c.cls (j * 64) = -1 := by omega
    rw [h4] at this
    omega
  unfold Cfg.bitsOf
  rw [if_neg h2]
  omega
theorem turn_mem {V : List Bool} {ws : List Int} {p : Int × Int} (hp : p ∈ Redo.ents (turnE c V ws)) : ∃ j ∈ ws, p = (c.bitsOf (j * 64), wordB V j) := by
  unfold Redo.ents turnE at hp
  rw [List.map_map] at hp
  obtain ⟨j, hj, rfl⟩ := List.mem_map.1 hp
  exact ⟨j, hj, rfl⟩
/-- The bits behind a turn. -/
theorem turn_used (h : c.Ok) (hl : (s.length : Int) = c.words) (hU : usedW c s = U) {bl : List Int} (hbl : ∀ b ∈ bl, 0 ≤ b ∧ b < c.count) (x : Bool) :
    usedW c (sets s (Redo.ents (turnE c (setAll U bl x) (wordsOf bl)))) = setAll U bl x := by
  have hp := places h
  have n4 := h.some
  have n3 := h.toNear.log
  have hul : U.length = c.count.toNat := by rw [← hU]; simp [usedW, unpackW]
  obtain ⟨V, hV⟩ : ∃ V, V = setAll U bl x := ⟨_, rfl⟩
  rw [← hV]
  have hvl : V.length = c.count.toNat := by rw [hV, setAll_length, hul]
  have hws : ∀ j ∈ wordsOf bl, 0 ≤ j ∧ j < (c.count + 63) / 64 := fun j hj => by
    obtain ⟨b, hb, rfl⟩ := (mem_wordsOf bl j).1 hj
    have := hbl b hb
    omega
  refine List.ext_getElem (by rw [hvl]; simp [usedW, unpackW]) fun i hi hi2 => ?_
  have hgd : ∀ (l : List Bool) (hl : i < l.length), l[i] = l.getD i false := fun l hl => by rw [List.getD_eq_getElem?_getD, List.getElem?_eq_getElem hl]; rfl
  rw [hgd _ hi, hgd _ hi2]
  have hic : i < c.count.toNat := by rw [hvl] at hi2; exact hi2
  have hiw : i / 64 < (c.count.toNat + 63) / 64 := by omega
  unfold usedW
  rw [unpackW_getD, decide_eq_true hic, Bool.true_and]
  have hwd : ((List.drop c.bitsAt.toNat (sets s (Redo.ents (turnE c V (wordsOf bl))))).take ((c.count.toNat + 63) / 64)).getD (i / 64) 0 = (sets s (Redo.ents (turnE c V (wordsOf bl)))).getD (c.bitsAt.toNat + i / 64) 0 := by
    rw [List.getD_eq_getElem?_getD, part_get hiw, ← List.getD_eq_getElem?_getD]
  rw [hwd]
  by_cases hj : ((i / 64 : Nat) : Int) ∈ wordsOf bl
  · have hin : ∃ p ∈ Redo.ents (turnE c V (wordsOf bl)), p.1.toNat = c.bitsAt.toNat + i / 64 := by
      refine ⟨(c.bitsOf (((i / 64 : Nat) : Int) * 64), wordB V ((i / 64 : Nat) : Int)), ?_, ?_⟩
      · unfold Redo.ents turnE
        rw [List.map_map]
        exact List.mem_map.2 ⟨_, hj, rfl⟩
      · show (c.bitsOf (((i / 64 : Nat) : Int) * 64)).toNat = _
        rw [bitsOf_mul h (by omega) (by omega)]
        omega
    have hval : (sets s (Redo.ents (turnE c V (wordsOf bl)))).getD (c.bitsAt.toNat + i / 64) 0 = wordB V ((i / 64 : Nat) : Int) := by
      rw [List.getD_eq_getElem?_getD]
      rcases sets_get s (Redo.ents (turnE c V (wordsOf bl))) (c.bitsAt.toNat + i / 64) with h1 | ⟨p, hp1, hp2, h1⟩
      · -- it is in an entry: read it off the entries of a list of another content
        have h3 := sets_in s (Redo.ents (turnE c V (wordsOf bl))) (c.bitsAt.toNat + i / 64) (by omega) hin (List.replicate s.length (wordB V ((i / 64 : Nat) : Int))) (by simp)
        rcases sets_get (List.replicate s.length (wordB V ((i / 64 : Nat) : Int))) (Redo.ents (turnE c V (wordsOf bl))) (c.bitsAt.toNat + i / 64) with h4 | ⟨p, hp1, hp2, h4⟩
        · rw [h3, h4, List.getElem?_replicate, if_pos (by omega)]
          rfl
        · rw [h3, h4]
          obtain ⟨j, hj1, rfl⟩ := turn_mem hp1
          have hj2 := hws j hj1
          simp only at hp2
          rw [bitsOf_mul h hj2.1 hj2.2] at hp2
          have : j = ((i / 64 : Nat) : Int) := by omega
          rw [this]
          rfl
      · rw [h1]
        obtain ⟨j, hj1, rfl⟩ := turn_mem hp1
        have hj2 := hws j hj1
        simp only at hp2
        rw [bitsOf_mul h hj2.1 hj2.2] at hp2
        have : j = ((i / 64 : Nat) : Int) := by omega
        rw [this]
        rfl
    rw [hval, wordB_at V (i / 64) (by rw [hvl]; exact hiw), Int.toNat_natCast, wordAt_bit, decide_eq_true (show i % 64 < 64 by omega), Bool.true_and]
    congr 1
    omega
  · have hne : (sets s (Redo.ents (turnE c V (wordsOf bl))))[c.bitsAt.toNat + i / 64]? = s[c.bitsAt.toNat + i / 64]? := by
      refine sets_ne _ _ _ fun p hp1 hp2 => ?_
      obtain ⟨j, hj1, rfl⟩ := turn_mem hp1
      have hj2 := hws j hj1
      simp only at hp2
      rw [bitsOf_mul h hj2.1 hj2.2] at hp2
      have : j = ((i / 64 : Nat) : Int) := by omega
      exact hj (this ▸ hj1)
    rw [getD_of hne]
    have hv1 : V.getD i false = U.getD i false := by
      have := getB_setAll U bl x (i : Int)
      rw [← hV, getB_nat, getB_nat, if_neg] at this
      · exact this
      · rintro ⟨h1, _⟩
        exact hj ((mem_wordsOf bl _).2 ⟨_, h1, by omega⟩)
    rw [hv1, ← hU]
    unfold usedW
    rw [unpackW_getD, decide_eq_true hic, Bool.true_and]
    have hwd2 : ((List.drop c.bitsAt.toNat s).take ((c.count.toNat + 63) / 64)).getD (i / 64) 0 = s.getD (c.bitsAt.toNat + i / 64) 0 := by
      rw [List.getD_eq_getElem?_getD, part_get hiw, ← List.getD_eq_getElem?_getD]
    rw [hwd2]
/-- What a turn leaves alone. -/
theorem turn_ne (h : c.Ok) {V : List Bool} {bl : List Int} (hbl : ∀ b ∈ bl, 0 ≤ b ∧ b < c.count) {i : Nat} (hi : (i : Int) < c.bitsAt ∨ c.bitsAt + (c.count + 63) / 64 ≤ i) : (sets s (Redo.ents (turnE c V (wordsOf bl))))[i]? = s[i]? := by
  have hp := places h
  refine sets_ne _ _ _ fun p hp1 hp2 => ?_
  obtain ⟨j, hj1, rfl⟩ := turn_mem hp1
  obtain ⟨b, hb, hj⟩ := (mem_wordsOf bl j).1 hj1
  have hb' := hbl b hb
  simp only at hp2
  rw [bitsOf_mul h (by omega) (by omega)] at hp2
  omega
theorem sets_u64 (hs : ∀ x ∈ s, U64 x) {S : List (Int × Int)} (hS : ∀ p ∈ S, U64 p.2) : ∀ x ∈ sets s S, U64 x := by
  induction S generalizing s with
  | nil => exact hs
  | cons p S ih =>
    rw [sets_cons]
    refine ih (fun x hx => ?_) fun q hq => hS q (List.mem_cons_of_mem _ hq)
    rcases List.mem_or_eq_of_mem_set hx with hx | rfl
    · exact hs x hx
    · exact hS p (by simp)
theorem wordB_u64 (V : List Bool) (i : Int) : U64 (wordB V i) := by
  unfold wordB
  split
  · have := wordAt_lt V i.toNat
    unfold U64
    omega
  · exact ⟨by decide, by decide⟩
/-- A turn of blocks that were laid makes them used. -/
theorem WInv.turn (h : WInv c s U) {bl : List Int} (hbl : ∀ b ∈ bl, 0 ≤ b ∧ b < c.count) (hg : ∀ b ∈ bl, Good c s (setAll U bl true) b) :
    WInv c (sets s (Redo.ents (turnE c (setAll U bl true) (wordsOf bl)))) (setAll U bl true) := by
  have hp := places h.ok
  have n1 := h.ok.toNear.roots; have n2 := h.ok.toNear.weaks; have n3 := h.ok.toNear.log; have n4 := h.ok.some
  have hmono : ∀ b, getB U b = true → getB (setAll U bl true) b = true := fun b hb => by
    rw [getB_setAll]; split
    · rfl
    · exact hb
  refine h.step (sets_len _ _) (sets_u64 h.u64 ?_) (fun i hi => turn_ne h.ok hbl (by omega)) (turn_used h.ok h.len h.used hbl true) hmono ?_ (fun i hi => .inl (turn_ne h.ok hbl (by omega))) (fun i hi => .inl (turn_ne h.ok hbl (by omega)))
  · intro p hp
    obtain ⟨j, _, rfl⟩ := turn_mem hp
    exact wordB_u64 _ _
  · intro b hb
    have hb0 : 0 ≤ b ∧ b < c.count := by
      have := getB_in hb
      rw [setAll_length, h.ulen] at this
      omega
    have hsame : blockW c (sets s (Redo.ents (turnE c (setAll U bl true) (wordsOf bl)))) b = blockW c s b := by
      have := at_places h.ok hb0
      exact blockW_congr h.ok hb0 fun i h1 h2 => turn_ne h.ok hbl (by omega)
    rw [getB_setAll] at hb
    by_cases hm : b ∈ bl ∧ 0 ≤ b ∧ b < U.length
    · obtain ⟨k, vs, e, h1, h2⟩ := hg b hm.1
      exact .inl ⟨k, vs, e, by rw [hsame]; exact h1, h2⟩
    · rw [if_neg hm] at hb
      exact .inr ⟨hb, hsame⟩
/-- One word of the roots is written. -/
theorem WInv.root (h : WInv c s U) {a : Int} (h0 : c.rootsAt ≤ a) (h1 : a < c.rootsAt + c.roots + c.weaks) {x : Int} (hx : RootWord (isU U) c.count x) : WInv c (s.set a.toNat x) U := by
  have hp := places h.ok
  have n1 := h.ok.toNear.roots; have n2 := h.ok.toNear.weaks; have n3 := h.ok.toNear.log; have n4 := h.ok.some
  have hc : c.count ≤ 2048 := (Cfg.near_places h.ok.toNear).2.2.2.2.2.2.2.2.2.2.1
  have hxu : U64 x := by rcases hx with hx | ⟨hx1, hx2, _⟩ <;> unfold U64 <;> omega
  have hne : ∀ i : Nat, i ≠ a.toNat → (s.set a.toNat x)[i]? = s[i]? := fun i hi => List.getElem?_set_ne (Ne.symm hi)
  have hat : a.toNat < s.length := by have := h.len; omega
  refine h.step (List.length_set ..) (fun y hy => ?_) (fun i hi => hne i (by omega)) ?_ (fun b hb => hb) ?_ ?_ ?_
  · rcases List.mem_or_eq_of_mem_set hy with hy | rfl
    · exact h.u64 y hy
    · exact hxu
  · rw [usedW_congr h.ok fun i h2 h3 => hne i (by omega)]; exact h.used
  · intro b hb
    have hb' := h.bit hb
    have := at_places h.ok hb'
    exact .inr ⟨hb, blockW_congr h.ok hb' fun i h2 h3 => hne i (by omega)⟩
  · intro i hi
    by_cases e : c.rootsAt.toNat + i = a.toNat
    · right
      rw [e, List.getD_eq_getElem?_getD, List.getElem?_set_self hat]
      exact hx
    · exact .inl (hne _ e)
  · intro i hi
    by_cases e : (c.rootsAt + c.roots).toNat + i = a.toNat
    · right
      rw [e, List.getD_eq_getElem?_getD, List.getElem?_set_self hat]
      exact hx
    · exact .inl (hne _ e)
theorem entsAt_mem {a : Int} {l : List Int} {x : Ent} (hx : x ∈ entsAt a l) : a ≤ x.at_ ∧ x.at_ < a + l.length ∧ x.word ∈ l := by
  induction l generalizing a with
  | nil => cases hx
  | cons y r ih =>
    rcases List.mem_cons.1 hx with rfl | hx
    · exact ⟨Int.le_refl _, by simp only [List.length_cons]; omega, by simp⟩
    · obtain ⟨h1, h2, h3⟩ := ih hx
      exact ⟨by omega, by simp only [List.length_cons]; omega, List.mem_cons_of_mem _ h3⟩
/-- Entries of words from a place on. -/
theorem sets_entsAt {a : Nat} {l : List Int} (h : a + l.length ≤ s.length) : sets s (Redo.ents (entsAt (a : Int) l)) = s.take a ++ l ++ s.drop (a + l.length) := by
  induction l generalizing s a with
  | nil => simp [entsAt, Redo.ents, sets_nil]
  | cons x r ih =>
    simp only [List.length_cons] at h
    have e : ((a : Int) + 1) = ((a + 1 : Nat) : Int) := by omega
    have e2 : Redo.ents (entsAt (a : Int) (x :: r)) = ((a : Int), x) :: Redo.ents (entsAt ((a + 1 : Nat) : Int) r) := by
      show ((a : Int), x) :: Redo.ents (entsAt ((a : Int) + 1) r) = _
      rw [e]
    rw [e2, sets_cons, Int.toNat_natCast, ih (by rw [List.length_set]; omega)]
    have h1 : (s.set a x).take (a + 1) = s.take a ++ [x] := by
      rw [List.take_succ_eq_append_getElem (by rw [List.length_set]; omega), List.getElem_set_self, List.take_set_of_le (by omega)]
    have h2 : (s.set a x).drop (a + 1 + r.length) = s.drop (a + (x :: r).length) := by
      rw [List.drop_set_of_lt (by omega)]
      congr 1
      simp only [List.length_cons]
      omega
    rw [h1, h2]
    simp
/-- Words within a block are written over. -/
theorem block_put (h : c.Ok) (hl : (s.length : Int) = c.words) {b : Int} (hb : 0 ≤ b ∧ b < c.count) {o : Nat} {l : List Int} (ho : (o : Int) + l.length ≤ c.size b) :
    blockW c (sets s (Redo.ents (entsAt (c.at_ b + o) l))) b = putF (blockW c s b) o l ∧ ∀ i : Nat, (i : Int) < c.at_ b ∨ c.at_ b + c.size b ≤ i → (sets s (Redo.ents (entsAt (c.at_ b + o) l)))[i]? = s[i]? := by
  obtain ⟨h1, h2, h3, h4⟩ := at_places h hb
  have hp := places h
  have n3 := h.toNear.log
  constructor
  · have e : c.at_ b + (o : Int) = (((c.at_ b).toNat + o : Nat) : Int) := by omega
    rw [e, sets_entsAt (by omega)]
    unfold blockW putF
    generalize ha : (c.at_ b).toNat = a
    generalize hz : (c.size b).toNat = z
    have hoz : o + l.length ≤ z := by omega
    have haz : a + z ≤ s.length := by omega
    refine List.ext_getElem? fun i => ?_
    by_cases hi : i < z
    · rw [part_get hi]
      have hlt : (s.take (a + o)).length = a + o := by rw [List.length_take]; omega
      have hlt2 : (((s.drop a).take z).take o).length = o := by rw [List.length_take, part_length haz]; omega
      by_cases e1 : i < o
      · rw [List.append_assoc, List.append_assoc, List.getElem?_append_left (by omega), List.getElem?_append_left (by omega), List.getElem?_take_of_lt (by omega), List.getElem?_take_of_lt e1, part_get hi]
      · by_cases e2 : i < o + l.length
        · have e3 : (s.take (a + o) ++ l ++ s.drop (a + o + l.length))[a + i]? = l[i - o]? := by
            rw [List.append_assoc, List.getElem?_append_right (by omega), hlt, List.getElem?_append_left (by omega)]
            congr 1
            omega
          have e4 : (((s.drop a).take z).take o ++ l ++ ((s.drop a).take z).drop (o + l.length))[i]? = l[i - o]? := by
            rw [List.append_assoc, List.getElem?_append_right (by omega), hlt2, List.getElem?_append_left (by omega)]
          rw [e3, e4]
        · have e3 : (s.take (a + o) ++ l ++ s.drop (a + o + l.length))[a + i]? = s[a + i]? := by
            rw [List.getElem?_append_right (by rw [List.length_append]; omega), List.length_append, hlt, List.getElem?_drop]
            congr 1
            omega
          have e4 : (((s.drop a).take z).take o ++ l ++ ((s.drop a).take z).drop (o + l.length))[i]? = s[a + i]? := by
            rw [List.getElem?_append_right (by rw [List.length_append]; omega), List.length_append, hlt2, List.getElem?_drop, part_get (by omega)]
            congr 1
            omega
          rw [e3, e4]
    · have hlen : (s.take (a + o) ++ l ++ s.drop (a + o + l.length)).length = s.length := by
        simp only [List.length_append, List.length_take, List.length_drop]
        omega
      rw [List.getElem?_eq_none (by rw [part_length (by omega)]; omega), List.getElem?_eq_none]
      simp only [List.length_append, List.length_take, List.length_drop]
      omega
  · intro i hi
    refine sets_ne _ _ _ fun p hp1 hp2 => ?_
    obtain ⟨x, hx, rfl⟩ := List.mem_map.1 hp1
    have := entsAt_mem hx
    simp only at hp2
    omega
/-- Blocks lie apart. -/
theorem block_other (h : c.Ok) {a b : Int} (ha : 0 ≤ a ∧ a < c.count) (hb : 0 ≤ b ∧ b < c.count) (hab : a ≠ b) (hs : ∀ i : Nat, (i : Int) < c.at_ b ∨ c.at_ b + c.size b ≤ i → s'[i]? = s[i]?) : blockW c s' a = blockW c s a := by
  refine blockW_congr h ha fun i h1 h2 => hs i ?_
  rcases Int.lt_or_gt_of_ne hab with h3 | h3
  · have := Cfg.at_apart h.toNear ha.1 h3 hb.2; omega
  · have := Cfg.at_apart h.toNear hb.1 h3 ha.2; omega
/-- One field of a used object is written. -/
theorem WInv.field (h : WInv c s U) {b : Int} (hb : getB U b = true) {k : Int} {vs : List Val} {e : Nat} (ho : objD c.kinds (blockW c s b) = some (k, vs, e)) {f : Int} {v : Val} (hv : v.Wf) {o : Int} {l : List Int} (hf : objF c.kinds k f v = (o, l, 0)) (hr : v.kind = 3 → getB U v.ref = true) :
    WInv c (sets s (Redo.ents (entsAt (c.at_ b + o) l))) U ∧ objD c.kinds (blockW c (sets s (Redo.ents (entsAt (c.at_ b + o) l))) b) = some (k, vs.set f.toNat v.told, e) ∧ ∀ i : Nat, (i : Int) < c.at_ b ∨ c.at_ b + c.size b ≤ i → (sets s (Redo.ents (entsAt (c.at_ b + o) l)))[i]? = s[i]? := by
  have hb' := h.bit hb
  obtain ⟨h1, h2, h3, h4⟩ := at_places h.ok hb'
  have hp := places h.ok
  have n1 := h.ok.toNear.roots; have n2 := h.ok.toNear.weaks; have n3 := h.ok.toNear.log; have n4 := h.ok.some
  obtain ⟨g1, g2, g3, g4, g5⟩ := objD_put ho hv hf
  have hbl := blockW_length h.ok h.len hb'
  have eo : o = ((o.toNat : Nat) : Int) := by omega
  obtain ⟨p1, p2⟩ := block_put (s := s) h.ok h.len hb' (o := o.toNat) (l := l) (by omega)
  rw [← eo] at p1 p2
  have hD : objD c.kinds (blockW c (sets s (Redo.ents (entsAt (c.at_ b + o) l))) b) = some (k, vs.set f.toNat v.told, e) := by rw [p1]; exact g1
  refine ⟨h.step (sets_len _ _) (sets_u64 h.u64 ?_) (fun i hi => p2 i (by omega)) ?_ (fun b hb => hb) ?_ (fun i hi => .inl (p2 _ (by omega))) (fun i hi => .inl (p2 _ (by omega))), hD, p2⟩
  · intro p hp1
    obtain ⟨x, hx, rfl⟩ := List.mem_map.1 hp1
    have hxl := (entsAt_mem hx).2.2
    unfold objF at hf
    split at hf
    · cases hf
    split at hf
    · cases hf
    split at hf
    · cases hf
    · rename_i hw
      simp only [Prod.mk.injEq, and_true] at hf
      obtain ⟨_, rfl⟩ := hf
      exact valW_u64 hv hw _ hxl
  · rw [usedW_congr h.ok fun i h5 h6 => p2 i (by omega)]; exact h.used
  · intro a ha
    by_cases e1 : a = b
    · subst e1
      left
      refine ⟨k, _, e, hD, fun y hy hy3 => ?_⟩
      rcases List.mem_or_eq_of_mem_set hy with hy | rfl
      · obtain ⟨k', vs', e', q1, q2⟩ := h.clos a ha
        rw [ho] at q1
        simp only [Option.some.injEq, Prod.mk.injEq] at q1
        obtain ⟨_, rfl, _⟩ := q1
        exact q2 y hy hy3
      · unfold Val.told at hy3 ⊢
        by_cases k1 : v.kind = 1
        · rw [if_pos k1] at hy3; cases hy3
        rw [if_neg k1] at hy3 ⊢
        by_cases k2 : v.kind = 2
        · rw [if_pos k2] at hy3; cases hy3
        rw [if_neg k2] at hy3 ⊢
        by_cases k3 : v.kind = 3
        · rw [if_pos k3]; exact hr k3
        · rw [if_neg k3] at hy3; cases hy3
    · exact .inr ⟨ha, block_other h.ok (h.bit ha) hb' e1 p2⟩
end Hp
end Scul
/- Heaps: laying, committing while the power is there: plain. -/
namespace Scul
open Go Go.Sl Go.RowKit
namespace Dev
/-- With the power there and no fuse set, calls to words that are there are all done. -/
theorem run_upE {d : Dev} (h : d.Up) (ops : List DOp) (hv : ∀ o ∈ ops, validOp d.read.length o) : (d.run ops).2 = 0 ∧ (d.run ops).1.Up := by
  induction ops generalizing d with
  | nil => exact ⟨rfl, h⟩
  | cons o r ih =>
    have ho := hv o List.mem_cons_self
    have he : d.opE o = 0 ∧ (d.opD o).Up := by
      cases o with
      | st a x => exact ⟨by show d.storeE a = 0; rw [store_upE h, isB_of ho]; rfl, up_store h a x⟩
      | fl a => exact ⟨by show d.flushE a = 0; rw [flush_upE h, isB_of ho]; rfl, up_flush h a⟩
      | fe => exact ⟨fence_upE h, up_fence h⟩
    rw [run_cons, if_pos he.1]
    exact ih he.2 fun o' ho' => by rw [op_len]; exact hv o' (List.mem_cons_of_mem _ ho')
end Dev
namespace Redo
open Dev
theorem writeOps_validF {f T n : Nat} {l : List Ent} (h : FitF f T n l) : ∀ o ∈ writeOps f l, validOp n o := by
  intro o ho
  have hlog := h.log
  have htop := h.top
  have e : writeOps f l = segOps (entSets ((f + 8 : Nat) : Int) l) (flA (f + 8) (f + 8 + 2 * l.length)) ++ (segOps [((f : Int), (l.length : Int))] [(f : Int)] ++ (segOps (ents l) (onceA [] l) ++ segOps [((f : Int), 0)] [(f : Int)])) := by
    unfold writeOps
    rw [putOpsF, doOpsF]
    rfl
  rw [e] at ho
  have seg : ∀ (S : List (Int × Int)) (A : List Int), (∀ p ∈ S, 0 ≤ p.1 ∧ p.1 < (n : Int)) → (∀ a ∈ A, 0 ≤ a ∧ a < (n : Int)) → o ∈ segOps S A → validOp n o := by
    intro S A hS hA ho
    unfold segOps at ho
    rcases List.mem_append.1 ho with ho | ho
    · obtain ⟨p, hp, rfl⟩ := List.mem_map.1 ho
      exact hS p hp
    · rcases List.mem_append.1 ho with ho | ho
      · obtain ⟨p, hp, rfl⟩ := List.mem_map.1 ho
        exact hA p hp
      · rw [List.mem_singleton] at ho; subst ho; trivial
  rcases List.mem_append.1 ho with ho | ho
  · refine seg _ _ (fun p hp => ?_) (fun a ha => ?_) ho
    · have := entSets_mem _ _ _ hp; omega
    · have := flA_mem ha; omega
  · rcases List.mem_append.1 ho with ho | ho
    · exact seg _ _ (by simp; omega) (by simp; omega) ho
    · rcases List.mem_append.1 ho with ho | ho
      · refine seg _ _ (fun p hp => ?_) (fun a ha => ?_) ho
        · obtain ⟨x, hx, rfl⟩ := List.mem_map.1 hp
          have := h.at_ x hx
          simp only; omega
        · obtain ⟨x, hx, rfl⟩ := onceA_mem ha
          have := h.at_ x hx
          omega
      · exact seg _ _ (by simp; omega) (by simp; omega) ho
theorem write_upF {f T n : Nat} {l : List Ent} (h : FitF f T n l) (d : Dev) (hu : d.Up) (hc : Clean d) (hn : d.read.length = n) (hT : T ≤ 10000) (hm : d.read.getD f 0 = 0) (hl0 : l ≠ []) (hll : l.length ≤ 1024) :
    (write d f T l).2 = 0 ∧ (write d f T l).1.Up ∧ Clean (write d f T l).1 ∧ (write d f T l).1.read = pf4 f (pf2 f d.read l) l := by
  obtain ⟨h1, h2⟩ := run_upE hu (writeOps f l) (by rw [hn]; exact writeOps_validF h)
  have hw := writeF h d hu.1 hn hT hm hl0 hll
  rw [← hw] at h1 h2
  obtain ⟨_, h4, h5⟩ := writeF_up h d hu hc hn hT hm hl0 hll (by rw [h1]; decide)
  exact ⟨h1, h2, h4, h5⟩
end Redo
namespace Hp
open Redo Dev
variable {c : Cfg} {d : Dev} {U R : List Bool}
/-- A device that is a heap's. -/
structure HInv (c : Cfg) (d : Dev) (U : List Bool) : Prop where
  w : WInv c d.read U
  up : d.Up
  mark : d.read.getD c.logAt.toNat 0 = 0
  st : Settled d
  dok : d.Ok
theorem firstE_zero {f : Wr → Int} {l : List Wr} : firstE f l = 0 ↔ ∀ w ∈ l, f w = 0 := by
  induction l with
  | nil => simp [firstE]
  | cons w r ih =>
    unfold firstE
    by_cases h : f w = 0
    · rw [if_neg (by simpa using h), ih]
      simp [h]
    · rw [if_pos h]
      exact ⟨fun h' => absurd h' h, fun h' => absurd (h' w (by simp)) h⟩
theorem obj_ok (hd : d.down = false) (hw : WInv c d.read U) {b : Int} (hb : getB U b = true) : ∃ k vs e, objD c.kinds (blockW c d.read b) = some (k, vs, e) ∧ obj c U d b = (k, vs, 0) ∧ (∀ v ∈ vs, v.kind = 3 → getB U v.ref = true) := by
  obtain ⟨k, vs, e, h1, h2⟩ := hw.clos b hb
  refine ⟨k, vs, e, h1, ?_, h2⟩
  unfold obj
  rw [hb, hd, h1]
  rfl
/-- What a write needs. -/
structure WrOk (c : Cfg) (U : List Bool) (d : Dev) (w : Wr) : Prop where
  wf : w.val.Wf
  fld : I64 w.field
  obj : w.kind = 1 → getB U w.obj = true
  kind : w.kind = 1 ∨ w.kind = 2 ∨ w.kind = 3
  root : w.kind ≠ 1 → 0 ≤ rootAt c w
  typ : w.kind ≠ 1 → w.val.kind = 0 ∨ w.val.kind = 3
  field : (fieldW c U d w).2.2 = 0
/-- What Fits lets through. -/
theorem fits_ok {bl : List Int} {ws : List Wr} (hf : fits c U R d bl ws = 0) (hwf : ∀ w ∈ ws, w.val.Wf ∧ I64 w.field) :
    mayB R [] bl = true ∧ (∀ w ∈ ws, WrOk c U d w ∧ (w.val.kind = 3 → getB U w.val.ref = true ∨ w.val.ref ∈ bl)) ∧ countN c U d bl ws ≤ 1024 ∧ Redo.need (countN c U d bl ws) ≤ c.log := by
  unfold fits at hf
  split at hf
  · cases hf
  rename_i h1
  split at hf
  · rename_i h; exact absurd hf h
  rename_i h2
  split at hf
  · rename_i h; exact absurd hf h
  rename_i h3
  split at hf
  · rename_i h; exact absurd hf h
  rename_i h4
  split at hf
  · rename_i h; exact absurd hf h
  rename_i h5
  split at hf
  · rename_i h; exact absurd hf h
  rename_i h6
  split at hf
  · rename_i h; exact absurd hf h
  rename_i h7
  split at hf
  · cases hf
  rename_i h8
  simp only [Classical.not_not] at h2 h3 h4 h5 h6 h7
  rw [firstE_zero] at h2 h3 h4 h5 h6 h7
  refine ⟨by simpa using h1, fun w hw => ⟨⟨(hwf w hw).1, (hwf w hw).2, fun hk => ?_, ?_, fun hk => ?_, fun hk => ?_, h7 w hw⟩, fun h3' => ?_⟩, by omega, by omega⟩
  · have := h2 w hw
    unfold placeE at this
    rw [if_pos hk] at this
    split at this
    · assumption
    · cases this
  · have := h2 w hw
    unfold placeE at this
    by_cases hk : w.kind = 1
    · exact .inl hk
    · rw [if_neg hk] at this
      split at this
      · rename_i h; exact .inr h
      · cases this
  · have := h3 w hw
    unfold indexE at this
    split at this
    · cases this
    · rename_i h; omega
  · have := h5 w hw
    unfold typedE at this
    split at this
    · cases this
    · rename_i h; omega
  · have := h4 w hw
    unfold refersE at this
    split at this
    · cases this
    · rename_i h
      by_cases hu : getB U w.val.ref = true ∨ w.val.ref ∈ bl
      · exact hu
      · exact absurd ⟨h3', hu⟩ h
theorem rootAt_in (h : c.Ok) {w : Wr} (h0 : 0 ≤ rootAt c w) : c.rootsAt ≤ rootAt c w ∧ rootAt c w < c.rootsAt + c.roots + c.weaks := by
  have n1 := h.toNear.roots; have n2 := h.toNear.weaks
  unfold rootAt Cfg.rootOf Cfg.weakOf at *
  split
  · rename_i e
    rw [if_pos e] at h0
    split
    · rename_i e2; rw [if_pos e2] at h0; omega
    · omega
  · rename_i e
    rw [if_neg e] at h0
    split
    · rename_i e2; rw [if_pos e2] at h0; omega
    · omega
/-- Where a write's words go. -/
theorem field_in (hd : d.down = false) (hw : WInv c d.read U) {w : Wr} (hk : WrOk c U d w) :
    ∀ x ∈ entsAt (fieldW c U d w).1 (fieldW c U d w).2.1, 0 ≤ x.at_ ∧ x.at_ < c.words ∧ (x.at_ < c.logAt ∨ c.blocksAt ≤ x.at_) := by
  intro x hx
  have hp := places hw.ok
  have n3 := hw.ok.toNear.log; have n4 := hw.ok.some
  by_cases h1 : w.kind = 1
  · obtain ⟨k, vs, e, ho, hob, _⟩ := obj_ok hd hw (hk.obj h1)
    have hb := hw.bit (hk.obj h1)
    obtain ⟨g1, g2, g3, g4⟩ := at_places hw.ok hb
    have hf := hk.field
    unfold fieldW at hx hf
    rw [if_neg (by simpa using h1), hob] at hx hf
    simp only [ne_eq, not_true_eq_false, if_false] at hx hf
    have hfo : objF c.kinds k w.field w.val = ((objF c.kinds k w.field w.val).1, (objF c.kinds k w.field w.val).2.1, 0) := by rw [← hf]
    obtain ⟨_, q2, q3, q4, q5⟩ := objD_put ho hk.wf hfo
    rw [blockW_length hw.ok hw.len hb] at q5
    have := entsAt_mem hx
    omega
  · have h0 := hk.root h1
    have hr := rootAt_in hw.ok h0
    unfold fieldW at hx
    rw [if_pos h1] at hx
    have := entsAt_mem hx
    simp only at this
    have hlen : (if w.val.kind = 3 then [(w.val.ref % 18446744073709551616 + 1) % 18446744073709551616] else [(0 : Int)]).length = 1 := by split <;> rfl
    omega
/-- A write keeps a heap's words one. -/
theorem WInv.wr {V : List Bool} (hd : d.down = false) (hw : WInv c d.read U) (hUV : ∀ b, getB U b = true → getB V b = true) {s : List Int} (hs : WInv c s V) (hsame : ∀ b, getB U b = true → ∃ k vs vs' e, objD c.kinds (blockW c d.read b) = some (k, vs, e) ∧ objD c.kinds (blockW c s b) = some (k, vs', e) ∧ vs'.length = vs.length)
    {w : Wr} (hk : WrOk c U d w) (hr : w.val.kind = 3 → getB V w.val.ref = true) :
    WInv c (sets s (Redo.ents (entsAt (fieldW c U d w).1 (fieldW c U d w).2.1))) V ∧ ∀ b, getB U b = true → ∃ k vs vs' e, objD c.kinds (blockW c d.read b) = some (k, vs, e) ∧ objD c.kinds (blockW c (sets s (Redo.ents (entsAt (fieldW c U d w).1 (fieldW c U d w).2.1))) b) = some (k, vs', e) ∧ vs'.length = vs.length := by
  have hp := places hw.ok
  have n1 := hw.ok.toNear.roots; have n2 := hw.ok.toNear.weaks; have n3 := hw.ok.toNear.log; have n4 := hw.ok.some
  by_cases h1 : w.kind = 1
  · have hb1 := hk.obj h1
    obtain ⟨k, vs, e, ho, hob, _⟩ := obj_ok hd hw hb1
    have hb := hw.bit hb1
    have hf := hk.field
    unfold fieldW at hf ⊢
    rw [if_neg (by simpa using h1), hob] at hf ⊢
    simp only [ne_eq, not_true_eq_false, if_false] at hf ⊢
    have hfo : objF c.kinds k w.field w.val = ((objF c.kinds k w.field w.val).1, (objF c.kinds k w.field w.val).2.1, 0) := by rw [← hf]
    obtain ⟨k', vs1, vs2, e', q1, q2, q3⟩ := hsame w.obj hb1
    rw [ho] at q1
    simp only [Option.some.injEq, Prod.mk.injEq] at q1
    obtain ⟨rfl, rfl, rfl⟩ := q1
    obtain ⟨r1, r2, r3⟩ := hs.field (hUV _ hb1) q2 hk.wf hfo hr
    refine ⟨r1, fun b hb2 => ?_⟩
    obtain ⟨k', vs1, vs3, e', q4, q5, q6⟩ := hsame b hb2
    by_cases eb : b = w.obj
    · subst eb
      exact ⟨k, vs, _, e, ho, r2, by rw [List.length_set, q3]⟩
    · exact ⟨k', vs1, vs3, e', q4, by rw [block_other hw.ok (hw.bit hb2) hb eb r3]; exact q5, q6⟩
  · have h0 := hk.root h1
    have hin := rootAt_in hw.ok h0
    unfold fieldW
    rw [if_pos h1]
    have hrw : RootWord (isU V) c.count (if w.val.kind = 3 then (w.val.ref % 18446744073709551616 + 1) % 18446744073709551616 else 0) := by
      split
      · rename_i h3
        have h4 := hr h3
        have h5 := hs.bit h4
        have hc : c.count ≤ 2048 := (Cfg.near_places hw.ok.toNear).2.2.2.2.2.2.2.2.2.2.1
        have e : (w.val.ref % 18446744073709551616 + 1) % 18446744073709551616 = w.val.ref + 1 := by omega
        rw [e]
        exact .inr ⟨by omega, by omega, by show getB V _ = true; rw [show w.val.ref + 1 - 1 = w.val.ref by omega]; exact h4⟩
      · exact .inl rfl
    have es : sets s (Redo.ents (entsAt (rootAt c w) (if w.val.kind = 3 then [(w.val.ref % 18446744073709551616 + 1) % 18446744073709551616] else [0]))) = s.set (rootAt c w).toNat (if w.val.kind = 3 then (w.val.ref % 18446744073709551616 + 1) % 18446744073709551616 else 0) := by
      split <;> rfl
    simp only
    rw [es]
    refine ⟨hs.root hin.1 hin.2 hrw, fun b hb2 => ?_⟩
    obtain ⟨k', vs1, vs3, e', q4, q5, q6⟩ := hsame b hb2
    refine ⟨k', vs1, vs3, e', q4, ?_, q6⟩
    have hb := hw.bit hb2
    have := at_places hw.ok hb
    rw [blockW_congr hw.ok hb fun i h2 h3 => List.getElem?_set_ne (by omega)]
    exact q5
theorem wents_cons (c : Cfg) (U : List Bool) (d : Dev) (w : Wr) (ws : List Wr) : wents c U d (w :: ws) = entsAt (fieldW c U d w).1 (fieldW c U d w).2.1 ++ wents c U d ws := rfl
theorem ents_append (a b : List Ent) : Redo.ents (a ++ b) = Redo.ents a ++ Redo.ents b := List.map_append
theorem WInv.wrs {V : List Bool} (hd : d.down = false) (hw : WInv c d.read U) (hUV : ∀ b, getB U b = true → getB V b = true) {ws : List Wr} (hk : ∀ w ∈ ws, WrOk c U d w ∧ (w.val.kind = 3 → getB V w.val.ref = true)) : ∀ {s : List Int} (_ : WInv c s V) (_ : ∀ b, getB U b = true → ∃ k vs vs' e, objD c.kinds (blockW c d.read b) = some (k, vs, e) ∧ objD c.kinds (blockW c s b) = some (k, vs', e) ∧ vs'.length = vs.length),
    WInv c (sets s (Redo.ents (wents c U d ws))) V := by
  induction ws with
  | nil => intro s hs _; exact hs
  | cons w ws ih =>
    intro s hs hsame
    rw [wents_cons, ents_append, sets_append]
    obtain ⟨h1, h2⟩ := WInv.wr hd hw hUV hs hsame (hk w (by simp)).1 (hk w (by simp)).2
    exact ih (fun w' hw' => hk w' (by simp [hw'])) h1 h2
/-- The same words at another moment. -/
theorem field_same {V : List Bool} {d1 : Dev} (hd : d.down = false) (hd1 : d1.down = false) (hr : d1.read = d.read) (hUV : ∀ b, getB U b = true → getB V b = true) {w : Wr} (hk : w.kind = 1 → getB U w.obj = true) : fieldW c V d1 w = fieldW c U d w := by
  unfold fieldW
  by_cases h1 : w.kind = 1
  · have h2 := hk h1
    have e : obj c V d1 w.obj = obj c U d w.obj := by
      unfold obj
      rw [hd, hd1, hr, h2, hUV _ h2]
    rw [e]
  · rw [if_pos h1, if_pos h1]
theorem wents_same {V : List Bool} {d1 : Dev} (hd : d.down = false) (hd1 : d1.down = false) (hr : d1.read = d.read) (hUV : ∀ b, getB U b = true → getB V b = true) {ws : List Wr} (hk : ∀ w ∈ ws, w.kind = 1 → getB U w.obj = true) : wents c V d1 ws = wents c U d ws := by
  induction ws with
  | nil => rfl
  | cons w ws ih =>
    rw [wents_cons, wents_cons, field_same hd hd1 hr hUV (hk w (by simp)), ih fun w' hw' => hk w' (by simp [hw'])]
theorem wents_length (c : Cfg) (U : List Bool) (d : Dev) (ws : List Wr) : ((wents c U d ws).length : Int) = fieldN c U d ws := by
  induction ws with
  | nil => rfl
  | cons w ws ih =>
    rw [wents_cons, List.length_append, entsAt_length]
    unfold fieldN
    omega
theorem wents_in (hd : d.down = false) (hw : WInv c d.read U) {ws : List Wr} (hk : ∀ w ∈ ws, WrOk c U d w) : ∀ x ∈ wents c U d ws, 0 ≤ x.at_ ∧ x.at_ < c.words ∧ (x.at_ < c.logAt ∨ c.blocksAt ≤ x.at_) := by
  intro x hx
  obtain ⟨w, hw', hx⟩ := List.mem_flatMap.1 hx
  exact field_in hd hw (hk w hw') x hx
/-- As many bits' words as the entries of a turn. -/
theorem bits_length (h : c.Ok) {bl : List Int} (hbl : ∀ b ∈ bl, 0 ≤ b ∧ b < c.count) : (compB (sortB (bl.map c.bitsOf))).length = (wordsOf bl).length := by
  have e : bl.map c.bitsOf = (bl.map fun b => b / 64).map fun x => c.bitsAt + x := by
    rw [List.map_map]
    refine List.map_congr_left fun b hb => ?_
    have := hbl b hb
    have h3 := Cfg.cls_range c b
    have h4 := Cfg.cls_neg h.toNear b
    unfold Cfg.bitsOf
    rw [if_neg (by omega)]
    rfl
  rw [e]
  unfold wordsOf
  have hp1 := (compB_spec (sortB_pairwise ((bl.map fun b => b / 64).map fun x => c.bitsAt + x)))
  have hp2 := (compB_spec (sortB_pairwise (bl.map fun b => b / 64)))
  have ha : ∀ (l m : List Int), l.Nodup → (∀ x ∈ l, ∃ y ∈ m, x = c.bitsAt + y) → l.length ≤ m.length := fun l m hn hs => by
    have : (l.map fun x => x - c.bitsAt).Nodup := by
      rw [List.nodup_iff_pairwise_ne, List.pairwise_map]
      exact (List.nodup_iff_pairwise_ne.1 hn).imp fun h1 h2 => h1 (by omega)
    have h2 := this.length_le_of_subset (l₂ := m) (fun y hy => by
      obtain ⟨x, hx, rfl⟩ := List.mem_map.1 hy
      obtain ⟨z, hz, rfl⟩ := hs x hx
      rw [show c.bitsAt + z - c.bitsAt = z by omega]
      exact hz)
    simpa using h2
  have hb : ∀ (l m : List Int), l.Nodup → (∀ x ∈ l, c.bitsAt + x ∈ m) → l.length ≤ m.length := fun l m hn hs => by
    have : (l.map fun x => c.bitsAt + x).Nodup := by
      rw [List.nodup_iff_pairwise_ne, List.pairwise_map]
      exact (List.nodup_iff_pairwise_ne.1 hn).imp fun h1 h2 => h1 (by omega)
    have h2 := this.length_le_of_subset (l₂ := m) (fun y hy => by
      obtain ⟨x, hx, rfl⟩ := List.mem_map.1 hy
      exact hs x hx)
    simpa using h2
  refine Nat.le_antisymm (ha _ _ (hp1.1.imp fun h => by omega) fun x hx => ?_) (hb _ _ (hp2.1.imp fun h => by omega) fun x hx => ?_)
  · rw [hp1.2, mem_sortB] at hx
    obtain ⟨y, hy, rfl⟩ := List.mem_map.1 hx
    exact ⟨y, by rw [hp2.2, mem_sortB]; exact hy, rfl⟩
  · rw [hp2.2, mem_sortB] at hx
    rw [hp1.2, mem_sortB]
    exact List.mem_map.2 ⟨x, hx, rfl⟩
end Hp
end Scul
/- An array of four ints that comes in. -/
namespace Scul
open Go Go.Sl Go.RowKit Go.Proofs Go.ChangeShapes
set_option maxRecDepth 20000 in
theorem open_a4 {H : Type} {enc : TypeId × Value → H} {w : World} {r : Reach} {b0 base : Nat} {spare : Nat → Bool} {held : Bool} {v : Value} {d : DataW H} {ps : List MemPlace}
    (hv : Value.okWide Tryz.prog w r b0 22 v) (h : DataW.Trod enc Tryz.prog w base spare held 22 v d ps) :
    ∃ a b c e : Int, v = .agg #[.int .i64 a, .int .i64 b, .int .i64 c, .int .i64 e] := by
  simp only [Value.okWide, Tryz.underlying22] at hv
  obtain ⟨cs, rfl, hsz, _⟩ := hv
  have h4 : cs.toList.length = 4 := by rw [Array.length_toList, hsz]; kernel_rfl
  obtain ⟨c0, c1, c2, c3, hcs⟩ := list4 h4
  obtain ⟨fuel, hf⟩ := h
  have hcell : (Value.agg cs).cells.toList = [c0, c1, c2, c3] := hcs
  rw [hcell] at hf
  obtain ⟨y0, y1, y2, y3, n, _, t0, t1, t2, t3⟩ := trod_array4 Tryz.underlying22 (by kernel_rfl) hf
  obtain ⟨z0, e0, _, _⟩ := DataW.trod_int Tryz.underlying3 t0
  obtain ⟨z1, e1, _, _⟩ := DataW.trod_int Tryz.underlying3 t1
  obtain ⟨z2, e2, _, _⟩ := DataW.trod_int Tryz.underlying3 t2
  obtain ⟨z3, e3, _, _⟩ := DataW.trod_int Tryz.underlying3 t3
  simp only [List.cons.injEq, and_true] at e0 e1 e2 e3
  subst e0 e1 e2 e3
  refine ⟨z0, z1, z2, z3, ?_⟩
  congr 1
  exact Array.ext' hcs
end Scul
/- What the block laws lay first: steps with the new memory that is no more of use dropped. -/
namespace Scul
open Go Go.Sl Go.RowKit Go.Proofs
theorem u16_go (n : Int) : wrap64 (wrap64 ((IntKind.u64.wrap n).tmod 16) + 1) = u16 n := by
  rw [IntKind.wrap_u64, tmod_of_emod]
  unfold wrap64 u16
  omega
/-- Reserve's answers, of numbers that may be. -/
theorem reserve_in (c : Cfg) (U R : List Bool) (x : Int) (h1 : 1 ≤ x) (h2 : x ≤ 16) : c.reserveA U R x = (if c.reserve U R x < 0 then 0 else c.reserve U R x) ∧ c.reserveE U R x = if c.reserve U R x < 0 then 5 else 0 := by
  unfold Cfg.reserveA Cfg.reserveE
  have e : ¬ (x < 1 ∨ 16 < x) := by omega
  constructor
  · by_cases h : c.reserve U R x < 0
    · rw [if_pos (.inr (.inr h)), if_pos h]
    · rw [if_neg (by omega), if_neg h]
  · rw [if_neg e]
section
variable {E : Env} {w : World} {F : HP} {lb : Nat} {c : Cfg}
theorem r6size_calls (w : World) (i : Int) (h0 : 0 ≤ i) (h1 : i < 4) : Calls Tryz.prog 42 #[.int .i64 i] w fun e w' => e = .returned (.int .i64 (2 * 2 ^ i.toNat)) ∧ w' = w := by
  have : i = 0 ∨ i = 1 ∨ i = 2 ∨ i = 3 := by omega
  rcases this with rfl | rfl | rfl | rfl <;>
  · go_enter Tryz.func42, Tryz.ntmps42
    go_wp2_with fail
    go_ret
    exact ⟨rfl, rfl⟩
theorem layNewD_calls (w : World) (c : Cfg) (ks : List (Value × List Int)) (kv : Value) (hk : ks.map (·.2) = c.kinds) (hs : Sat E w (kindsR kv ks * F)) (hm : c.may = 0) :
    Calls Tryz.prog 52 #[.agg (cfgCells kv c)] w fun e w' => ∃ b, e = .returned (.tuple #[.pointer (some ⟨b, 0, none⟩), .int .i64 0]) ∧ Sat E w' (lay b c * F) :=
  (layNew_calls w c ks kv (fun W' hW' => kindsR_rd hW') hk hs hm).mono fun e w' ⟨b, he, h⟩ => ⟨b, he, by
    have h3 := h.ac (B := kindsR kv ks * (lay b c * F)) (by ac_rfl)
    exact h3.right⟩
theorem blkNewD_calls (w : World) (ub0 : Nat) (bs : List Bool) (h : Sat E w (lay lb c * (bm ub0 bs * F))) :
    Calls Tryz.prog 62 #[.pointer (some ⟨lb, 0, none⟩), .pointer (some ⟨ub0, 0, none⟩)] w fun e w' => ∃ t, e = .returned (.pointer (some ⟨t, 0, none⟩)) ∧ Sat E w' (tab t lb (fitB c.count.toNat bs) (List.replicate c.count.toNat false) * (lay lb c * F)) :=
  (blkNew_calls w ub0 bs h).mono fun e w' ⟨t, he, h⟩ => ⟨t, he, by
    have h6 := h.ac (B := bm ub0 bs * (tab t lb (fitB c.count.toNat bs) (List.replicate c.count.toNat false) * (lay lb c * F))) (by ac_rfl)
    exact h6.right⟩
end
end Scul
/- Blocks: what a law has got, plain; steps that block laws share. -/
namespace Scul
open Go Go.Sl Go.RowKit Go.Proofs
/-- What a law has got: blocks that are reserved and not used, each once. -/
def Got (U R : List Bool) (g : List Int) : Prop := g.Nodup ∧ ∀ b ∈ g, getB R b = true ∧ getB U b = false
theorem Got.nil (U R : List Bool) : Got U R [] := ⟨List.nodup_nil, fun b hb => by cases hb⟩
theorem freeB_parts {U R : List Bool} {r : Int} (h : freeB U R r = true) : getB U r = false ∧ getB R r = false := by
  unfold freeB at h
  cases hu : getB U r <;> cases hr : getB R r <;> simp_all
theorem Got.more {U R : List Bool} {g : List Int} {r : Int} (h : Got U R g) : Got U (setB R r true) g := by
  refine ⟨h.1, fun b hb => ⟨?_, (h.2 b hb).2⟩⟩
  rw [getB_setB]
  split
  · rfl
  · exact (h.2 b hb).1
theorem Got.fresh {U R : List Bool} {g : List Int} {r : Int} (h : Got U R g) (hf : freeB U R r = true) : r ∉ g := fun hr => by
  have h1 := (freeB_parts hf).2
  rw [(h.2 r hr).1] at h1
  cases h1
theorem Got.push {U R : List Bool} {g : List Int} {r : Int} (h : Got U R g) (hf : freeB U R r = true) (hr : 0 ≤ r ∧ r < R.length) : Got U (setB R r true) (g ++ [r]) := by
  refine ⟨?_, fun b hb => ?_⟩
  · rw [List.nodup_append]
    refine ⟨h.1, by simp, fun x hx y hy => ?_⟩
    simp only [List.mem_singleton] at hy
    subst hy
    exact fun e => h.fresh hf (e ▸ hx)
  · rcases List.mem_append.1 hb with hb | hb
    · exact (Got.more h).2 b hb
    · simp only [List.mem_singleton] at hb
      subst hb
      refine ⟨?_, (freeB_parts hf).1⟩
      rw [getB_setB, if_pos ⟨rfl, hr⟩]
theorem Got.may {U R : List Bool} {g : List Int} (h : Got U R g) : mayB R [] g = true := (mayB_spec R g).2 ⟨fun b hb => (h.2 b hb).1, h.1⟩
theorem Got.changes {U R : List Bool} {g : List Int} (h : Got U R g) (hl : R.length = U.length) : ∀ b ∈ g, 0 ≤ b ∧ b < U.length ∧ getB U b = !true := fun b hb => by
  obtain ⟨h1, h2⟩ := h.2 b hb
  have := getB_in h1
  rw [hl] at this
  exact ⟨this.1, this.2, h2⟩
section
variable {E : Env} {w : World} {F : HP} {t lb : Nat} {U R : List Bool} {c : Cfg}
theorem Rd.nthE {w : World} {ao : Option Addr} {n c : Nat} {l : List Ent} (hn : n = l.length) (h : Rd w 2 (.slice ao n c) n (entCells l)) (k : Nat) (hk : k < l.length) :
    ∃ bb o, ao = some ⟨bb, o, none⟩ ∧ w.cell? ⟨bb, o + k * 2, none⟩ = some (.int .i64 l[k].at_) ∧ w.cell? ⟨bb, o + k * 2 + 1, none⟩ = some (.int .u64 l[k].word) := by
  subst hn
  obtain ⟨bb, o, rfl, hc⟩ := Rd.at h (by omega)
  refine ⟨bb, o, rfl, ?_, ?_⟩
  · have := hc (2 * k + 0) _ (by rw [entCells_at l k 0 hk (by omega)]; rfl)
    rwa [show o + (2 * k + 0) = o + k * 2 by omega] at this
  · have := hc (2 * k + 1) _ (by rw [entCells_at l k 1 hk (by omega)]; rfl)
    rwa [show o + (2 * k + 1) = o + k * 2 + 1 by omega] at this
theorem Rd.nthE' {w : World} {bb o n c : Nat} {l : List Ent} (hn : n = l.length) (h : Rd w 2 (.slice (some ⟨bb, o, none⟩) n c) n (entCells l)) (k : Nat) (hk : k < l.length) :
    w.cell? ⟨bb, o + k * 2, none⟩ = some (.int .i64 l[k].at_) ∧ w.cell? ⟨bb, o + k * 2 + 1, none⟩ = some (.int .u64 l[k].word) := by
  obtain ⟨b2, o2, he, h2, h3⟩ := Rd.nthE hn h k hk
  simp only [Option.some.injEq, Addr.mk.injEq, and_true] at he
  obtain ⟨rfl, rfl⟩ := he
  exact ⟨h2, h3⟩
theorem packW_nth' {w : World} {bb o n c : Nat} {U : List Bool} (hn : n = (U.length + 63) / 64) (h : Rd w 1 (.slice (some ⟨bb, o, none⟩) n c) n (u64s (packW U))) (k : Nat) (hk : k < n) :
    w.cell? ⟨bb, o + k, none⟩ = some (.int .u64 (wordAt U k : Int)) := by
  have := Rd.nth h k hk
  rwa [packW_getD U k (by omega)] at this
/-- Word i of the words of bits. -/
theorem packW_nth {w : World} {ao : Option Addr} {n c : Nat} {U : List Bool} (hn : n = (U.length + 63) / 64) (h : Rd w 1 (.slice ao n c) n (u64s (packW U))) (k : Nat) (hk : k < n) :
    ∃ bb o, ao = some ⟨bb, o, none⟩ ∧ w.cell? ⟨bb, o + k, none⟩ = some (.int .u64 (wordAt U k : Int)) := by
  obtain ⟨bb, o, rfl, _⟩ := Rd.at h (by omega)
  have := Rd.nth h k hk
  rw [packW_getD U k (by omega)] at this
  exact ⟨bb, o, rfl, this⟩
/-- The words of a table's bits. -/
theorem bitWords_calls (w : World) (b : Nat) (U : List Bool) (h : Sat E w (bm b U * F)) :
    Calls Tryz.prog 36 #[.pointer (some ⟨b, 0, none⟩)] w fun e w' => ∃ a cc, e = .returned (.slice a ((U.length + 63) / 64) cc) ∧ Sat E w' (words (.slice a ((U.length + 63) / 64) cc) (packW U) * F) :=
  (mWords_calls w h).mono fun e w' ⟨v, he, h⟩ => by
    obtain ⟨a, cc, rfl, _⟩ := words_val h
    rw [packW_length] at he h
    exact ⟨a, cc, he, Sat.mid h⟩
end
end Scul
