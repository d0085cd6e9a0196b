/- scullionlaw4.RedoRefused: whatever words, entries and mark: a row that is refused changes nothing and takes no step; one that is not stands. No condition. -/
import Derived.Test.YtffakdoobeegpaaLawKit
import Derived.Test.YtffakdoobeegpaaRedoQ
import Derived.Deep.CutBlock
import Derived.Deep.DeepCutAuto
namespace Scul
open Go Go.Sl Go.RowKit Go.Proofs
section
variable {E : Env} {w : World} {F : HP} {b : Nat} {d : Dev}
theorem RdE.take {w : World} {ao : Option Addr} {c : Nat} {l : List Ent} (h : RdE w (.slice ao l.length c) l) (k : Nat) (hk : k ≤ l.length) : RdE w (.slice ao (l.take k).length c) (l.take k) := by
  have h1 := Rd.take h.1 k hk
  have e : (entCells l).take (k * 2) = entCells (l.take k) := by
    clear h h1
    induction l generalizing k with
    | nil => simp [entCells]
    | cons x r ih =>
      cases k with
      | zero => simp [entCells]
      | succ k =>
        show (x.cells ++ entCells r).take ((k + 1) * 2) = x.cells ++ entCells (r.take k)
        rw [← ih k (by simpa using hk), show (k + 1) * 2 = x.cells.length + k * 2 by simp [Ent.cells]; omega, List.take_length_add_append]
  rw [e] at h1
  have e2 : (l.take k).length = k := by simp; omega
  refine ⟨?_, ?_⟩
  · rw [e2]; exact h1
  exact ⟨fun x hx => h.2.1 x (List.mem_of_mem_take hx), fun x hx => h.2.2 x (List.mem_of_mem_take hx)⟩
/-- Is the row refused for its entries? -/
def badE (n : Nat) (l : List Ent) (i : Nat) : Bool := decide (16 < l.length) || (l.take i).any fun x => decide (x.at_ < 40) || decide ((n : Int) ≤ x.at_)
theorem badE_zero (n : Nat) (l : List Ent) : badE n l 0 = decide (16 < l.length) := by simp [badE]
theorem badE_succ (n : Nat) (l : List Ent) (i : Nat) (hi : i < l.length) : badE n l (i + 1) = (badE n l i || decide (l[i].at_ < 40) || decide ((n : Int) ≤ l[i].at_)) := by
  unfold badE
  rw [List.take_succ_eq_append_getElem hi, List.any_append, List.any_cons, List.any_nil, Bool.or_false]
  simp only [Bool.or_assoc]
theorem refused_law (all : List Int) (l : List Ent) (h40 : 40 ≤ all.length) (hall : all.length ≤ 1000) (R : Dev × Int) (hR : R = Redo.write (Dev.laid all) 0 40 l) :
    (badE all.length l l.length = true → R.1 = Dev.laid all ∧ R.2 ≠ 0) ∧ (all.getD 0 0 ≠ 0 → R.1 = Dev.laid all ∧ R.2 ≠ 0) ∧
    (badE all.length l l.length = false → all.getD 0 0 = 0 → R.2 = 0 ∧ (l.length = 0 → R.1 = Dev.laid all)) := by
  have e := Redo.write0 (T := 40) (n := all.length) (Dev.laid all) rfl rfl (by omega) (by omega) h40 l
  have e' : R = if 40 < 8 + 2 * l.length then (Dev.laid all, 9) else if ¬ (∀ x ∈ l, (40 : Int) ≤ x.at_ ∧ x.at_ < all.length) then (Dev.laid all, 1) else if all.getD 0 0 ≠ 0 then (Dev.laid all, 10) else if l = [] then (Dev.laid all, 0) else (Dev.laid all).run (Redo.writeOps 0 l) := hR.trans e
  have hb : badE all.length l l.length = decide (16 < l.length ∨ ¬ ∀ x ∈ l, (40 : Int) ≤ x.at_ ∧ x.at_ < all.length) := by
    unfold badE
    rw [List.take_length, Bool.eq_iff_iff, decide_eq_true_iff, Bool.or_eq_true, decide_eq_true_iff, List.any_eq_true]
    refine or_congr Iff.rfl ?_
    constructor
    · rintro ⟨x, hx, h⟩ hh
      have := hh x hx
      rw [Bool.or_eq_true, decide_eq_true_iff, decide_eq_true_iff] at h
      omega
    · intro h
      rcases Classical.em (∃ x ∈ l, (decide (x.at_ < 40) || decide ((all.length : Int) ≤ x.at_)) = true) with h1 | h1
      · exact h1
      · refine (h fun x hx => ?_).elim
        have h2 : ¬ (decide (x.at_ < 40) || decide ((all.length : Int) ≤ x.at_)) = true := fun h3 => h1 ⟨x, hx, h3⟩
        rw [Bool.or_eq_true, decide_eq_true_iff, decide_eq_true_iff] at h2
        omega
  rw [hb]
  subst e'
  by_cases h1 : 40 < 8 + 2 * l.length
  · rw [if_pos h1]
    refine ⟨fun _ => ⟨rfl, by simp⟩, fun _ => ⟨rfl, by simp⟩, fun h => ?_⟩
    rw [decide_eq_false_iff_not] at h
    exact (h (.inl (by omega))).elim
  · rw [if_neg h1]
    by_cases h2 : ∀ x ∈ l, (40 : Int) ≤ x.at_ ∧ x.at_ < all.length
    · rw [if_neg (fun h => h h2)]
      refine ⟨fun h => ?_, fun h => ?_, fun _ h0 => ?_⟩
      · rw [decide_eq_true_iff] at h
        rcases h with h | h
        · omega
        · exact (h h2).elim
      · rw [if_pos h]; exact ⟨rfl, by simp⟩
      · rw [if_neg (fun h => h h0)]
        by_cases hn : l = []
        · rw [if_pos hn]; exact ⟨rfl, fun _ => rfl⟩
        · rw [if_neg hn]
          have hl : 0 < l.length := by
            rcases Nat.eq_zero_or_pos l.length with h | h
            · exact (hn (List.eq_nil_of_length_eq_zero h)).elim
            · exact h
          refine ⟨(Redo.write_up (T := 40) (n := all.length) ⟨by omega, h40, fun x hx => by have := h2 x hx; omega⟩ (Dev.laid all) (Dev.laid_up all) (Redo.laid_clean all) rfl (all.length + Dev.lines all.length + 1) rfl (by unfold Dev.lines; omega)).1, fun h => by omega⟩
    · rw [if_pos h2]
      refine ⟨fun _ => ⟨rfl, by simp⟩, fun _ => ⟨rfl, by simp⟩, fun h => ?_⟩
      rw [decide_eq_false_iff_not] at h
      exact (h (.inr h2)).elim

set_option maxRecDepth 100000 in
set_option maxHeartbeats 4000000 in
theorem redoRefused_walk (w : World) (lw : List Int) (ao : Option Addr) (c : Nat) (l : List Ent) (bo : Option Addr) (bc : Nat) (mark : Int) (hrw : Rd w 1 (.slice ao lw.length c) lw.length (u64s lw)) (hU : ∀ x ∈ lw, U64 x) (hrl : RdE w (.slice bo l.length bc) l) (hM : U64 mark) :
    Calls Try.prog 12 #[.slice ao lw.length c, .slice bo l.length bc, .int .u64 mark] w fun e w' => e = .returned (.bool true) ∧ Sat w.env w' (old w) := by
  have hs := Sat.init w
  have hmw := hrw.most
  have hml := hrl.1.most
  obtain ⟨k, hk⟩ : ∃ k, k = min 40 lw.length := ⟨_, rfl⟩
  have hk2 := rd_min hrw k (by omega)
  obtain ⟨x, hx⟩ : ∃ x, x = lw.take k := ⟨_, rfl⟩
  have hxl : x.length = k := by rw [hx, List.length_take]; omega
  rw [← hx] at hk2
  have hUx : ∀ y ∈ x, U64 y := fun y hy => hU y (List.mem_of_mem_take (by rw [← hx]; exact hy))
  have hmk := run_make64 40 40 rfl (by omega)
  have HM := Lib.hid hM
  clear hM
  go_enter Try.func12, Try.ntmps12
  go_upto_if 17 with fail
  go_cut [0] (fun s0 wx => s0 = .slice ao k c ∧ wx = w)
  case first =>
    by_cases h60 : 40 < lw.length
    · obtain ⟨bb, o, rfl, _⟩ := Rd.at hrw (by omega)
      obtain ⟨_, c', hv, hc⟩ := hrw.val
      simp only [Value.slice.injEq, true_and] at hv
      obtain ⟨rfl, rfl⟩ := hv
      have h1 : (40 : Int) < lw.length := by omega
      have h2 : (40 : Int) ≤ c := by omega
      have h3 : k = 40 := by omega
      clear hk hk2 hrl hrw hs h60 hc
      go_wp2_with fail
      go_meet
      exact ⟨by rw [h3], rfl⟩
    · have h1 : ¬ (40 : Int) < lw.length := by omega
      have h3 : k = lw.length := by omega
      clear hk hk2 hrl hrw hs h60
      go_wp2_with fail
      go_meet
      exact ⟨by rw [h3], rfl⟩
  case rest =>
    obtain ⟨rfl, rfl⟩ := hcut
    rename World => w
    obtain ⟨z, hz⟩ : ∃ z, z = List.replicate 40 (0 : Int) := ⟨_, rfl⟩
    have hzl : z.length = 40 := by rw [hz]; exact List.length_replicate
    have h0 := words_zeros (k := 40) (by omega) (hs.alloc (.cells (zeros 40) 27))
    rw [← hz] at h0
    have H0 := Lib.hid h0
    have HR := Lib.hid (hk2.alloc (.cells (zeros 40) 27))
    have B1 := Lib.hid (show z.length + x.length ≤ 1000000 by omega)
    have HXL := Lib.hid (show x.length ≤ 40 by omega)
    have HZ := Lib.hid hz
    have HZL := Lib.hid hzl
    have HRL := Lib.hid hrl
    clear hk2 hrw hs hk hx hxl hU hz hzl h0 hrl
    go_upto_region 4 with (at_builtin; first | (refine wpl_app64 rfl _ _ rfl H0.out rfl HR.out rfl B1.out ?_; intro r1 e1 a1 c1 w1 h1))
    have hr1 : 40 ≤ r1.length ∧ r1.length ≤ 80 := by rw [e1.out, List.length_append]; have := HZL.out; have := HXL.out; omega
    obtain ⟨g1, c1', heq, _⟩ := words_at h1 0 (by omega)
    simp only [Value.slice.injEq, true_and] at heq
    obtain ⟨rfl, rfl⟩ := heq
    have cc := words_cell h1 0 (by omega)
    have ff := words_free h1 0
    have h2 := words_set h1 0 mark (by omega)
    have hlt0 : (0 : Int) < r1.length := by omega
    obtain ⟨all, hall⟩ : ∃ all, all = r1.set 0 mark := ⟨_, rfl⟩
    have hal : all.length = r1.length := by rw [hall, List.length_set]
    have ha0 : all.getD 0 0 = mark := by rw [hall, List.getD_eq_getElem?_getD, List.getElem?_set_self (by omega)]; rfl
    have haU : ∀ y ∈ all, U64 y := by
      rw [hall]
      intro y hy
      rcases List.mem_or_eq_of_mem_set hy with hy | rfl
      · rw [e1.out, HZ.out] at hy
        rcases List.mem_append.1 hy with hy | hy
        · rw [List.eq_of_mem_replicate hy]; unfold U64; omega
        · exact hUx y hy
      · exact HM.out
    rw [← hall] at h2
    rw [← hal] at h2 ⊢
    have hr2 : 40 ≤ all.length ∧ all.length ≤ 80 := by omega
    rw [← hal] at hlt0
    have HA := Lib.hid h2; have HA0 := Lib.hid ha0; have HAU := Lib.hid haU; have HR1 := Lib.hid hr2
    clear h1 h2 hall ha0 haU hUx H0 HR B1 HXL HZ HZL e1 HM hr1 hal hr2
    have HRD : Hid (∀ W, Sat w.env W (words (.slice (some ⟨g1, 0, none⟩) all.length c1) all * old w) → Rd W 1 (.slice (some ⟨g1, 0, none⟩) all.length c1) all.length (u64s all)) := Lib.hid (fun W hW => Sat.rd hW)
    go_wp2_with fail
    refine (laid_calls _ all (some ⟨g1, 0, none⟩) c1 (by have := HR1.out; omega) HAU.out HRD.out HA.out).mono ?_
    rintro e w5 ⟨b, r, rfl, h5⟩
    clear HA cc ff
    go_wp2_with fail
    refine (steps_calls _ h5).mono ?_
    rintro e w6 ⟨rfl, rfl⟩
    obtain ⟨S, hS⟩ : ∃ S, S = (Dev.laid all).steps := ⟨_, rfl⟩
    rw [← hS]
    have HS := Lib.hid hS
    clear hS hlt0
    go_upto_if 35 with fail
    obtain ⟨m, hm⟩ : ∃ m, m = min 60 l.length := ⟨_, rfl⟩
    go_cut [1] (fun s1 wx => s1 = .slice bo m bc ∧ wx = w6)
    case first =>
      have hle := HRL.out.1
      by_cases h60 : 60 < l.length
      · obtain ⟨bb, o, rfl, _⟩ := Rd.at hle (by omega)
        obtain ⟨_, c', hv, hc⟩ := hle.val
        simp only [Value.slice.injEq, true_and] at hv
        obtain ⟨rfl, rfl⟩ := hv
        have h1 : (60 : Int) < l.length := by omega
        have h2 : (60 : Int) ≤ bc := by omega
        have h3 : m = 60 := by omega
        clear hm hle h60 hc h5
        go_wp2_with fail
        go_meet
        exact ⟨by rw [h3], rfl⟩
      · have h1 : ¬ (60 : Int) < l.length := by omega
        have h3 : m = l.length := by omega
        clear hm hle h60 h5
        go_wp2_with fail
        go_meet
        exact ⟨by rw [h3], rfl⟩
    case rest =>
      obtain ⟨rfl, rfl⟩ := hcut
      have hle := RdE.take HRL.out m (by omega)
      obtain ⟨l', hl'⟩ : ∃ l', l' = l.take m := ⟨_, rfl⟩
      have hll : l'.length = m := by rw [hl', List.length_take]; omega
      rw [← hl'] at hle
      have hm60 : l'.length ≤ 60 := by omega
      rw [← hll]
      have HLE := Lib.hid hle
      clear hle hl' hm hll HRL
      have hb0 := badE_zero all.length l'
      have HB0 : Hid (Value.bool (decide ((16 : Int) < l'.length)) = .bool (badE all.length l' 0)) := by
        refine Lib.hid ?_
        rw [badE_zero]
        congr 1
        rw [Bool.eq_iff_iff, decide_eq_true_iff, decide_eq_true_iff]
        omega
      have H5 := Lib.hid h5
      clear hb0 h5
      go_upto_block 0 with fail
      go_cut [11] (fun s11 wx => s11 = .bool (badE all.length l' l'.length) ∧ Sat w.env wx (dev b (Dev.laid all) * (rdev r (Dev.laid all) * (words (.slice (some ⟨g1, 0, none⟩) all.length c1) all * old w))))
      case first =>
        go_wp2_with fail
        go_loopw [43, 11] (fun iv bv wr => ∃ i : Nat, i ≤ l'.length ∧ iv = .int .i64 i ∧ bv = .bool (badE all.length l' i) ∧ Sat w.env wr (dev b (Dev.laid all) * (rdev r (Dev.laid all) * (words (.slice (some ⟨g1, 0, none⟩) all.length c1) all * old w)))) (fun iv _ _ => l'.length - (intOf iv).toNat)
        case atStart => exact ⟨0, Nat.zero_le _, rfl, HB0.out, H5.out⟩
        case round =>
          clear HB0 H5
          obtain ⟨i, hi, rfl, rfl, hw⟩ := hrel
          by_cases hlt : i < l'.length
          · obtain ⟨bb, o, rfl, c0, c1'⟩ := RdE.nth (HLE.out.old hw.right.right.right) i hlt
            have HNX := Lib.hid (badE_succ all.length l' i hlt)
            obtain ⟨cat, hcat⟩ : ∃ x, x = l'[i].at_ := ⟨_, rfl⟩
            obtain ⟨cw, hcw⟩ : ∃ x, x = l'[i].word := ⟨_, rfl⟩
            rw [← hcat] at c0 HNX; rw [← hcw] at c1'
            clear hcat hcw
            have ha := hw.alloc (.cells #[.int .i64 cat, .int .u64 cw] 58)
            have HA := Lib.hid ha.right
            clear ha hw
            have fin : Hid (∀ (W : World) (bv : Value), bv = .bool (badE all.length l' (i + 1)) → Sat w.env W (dev b (Dev.laid all) * (rdev r (Dev.laid all) * (words (.slice (some ⟨g1, 0, none⟩) all.length c1) all * old w))) → (∃ i_1 : Nat, i_1 ≤ l'.length ∧ Value.int IntKind.i64 (↑i + 1) = .int .i64 i_1 ∧ bv = .bool (badE all.length l' i_1) ∧ Sat w.env W (dev b (Dev.laid all) * (rdev r (Dev.laid all) * (words (.slice (some ⟨g1, 0, none⟩) all.length c1) all * old w)))) ∧
                l'.length - (intOf (Value.int IntKind.i64 (↑i + 1))).toNat < l'.length - (intOf (Value.int IntKind.i64 ↑i)).toNat) :=
              Lib.hid fun W bv hb hs => ⟨⟨i + 1, by omega, rfl, hb, hs⟩, by simp only [intOf]; omega⟩
            generalize badE all.length l' i = B at HNX
            cases B with
            | true =>
              go_wp2_with fail
              exact fin.out _ _ (by rw [HNX.out]; rfl) HA.out
            | false =>
              by_cases h1 : cat < 40
              · go_wp2_with fail
                exact fin.out _ _ (by rw [HNX.out]; simp [h1]) HA.out
              · by_cases h2 : (all.length : Int) ≤ cat
                · go_wp2_with fail
                  exact fin.out _ _ (by rw [HNX.out]; simp [h2]) HA.out
                · go_wp2_with fail
                  exact fin.out _ _ (by rw [HNX.out]; simp [h1, h2]) HA.out
          · obtain rfl : i = l'.length := by omega
            go_wp2_with fail
            go_meet
            exact ⟨rfl, hw⟩
      case rest =>
        obtain ⟨rfl, hw⟩ := hcut
        have hlaw := refused_law all l' HR1.out.1 (by have := HR1.out; omega) _ rfl
        rw [HA0.out] at hlaw
        generalize badE all.length l' l'.length = B at hlaw
        have HRE : Hid (∀ W, Sat w.env W (rdev r (Dev.laid all) * (words (.slice (some ⟨g1, 0, none⟩) all.length c1) all * old w)) → RdE W (.slice bo l'.length bc) l') := Lib.hid (fun W hW => HLE.out.old hW.right.right)
        have HLAW := Lib.hid hlaw
        clear hlaw HB0 H5
        go_wp2_with fail
        refine (write_calls _ 0 40 l' bo bc (by unfold I64; omega) (by unfold I64; omega) HRE.out hw).mono ?_
        rintro e w7 ⟨rfl, h7⟩
        have hlaw := HLAW.out
        generalize Redo.write (Dev.laid all) 0 40 l' = R at h7 hlaw ⊢
        obtain ⟨d2, e2⟩ := R
        simp only at h7 hlaw ⊢
        obtain ⟨hl1, hl2, hl3⟩ := hlaw
        have done : Hid (∀ W, Sat w.env W (dev b (Dev.laid all) * (rdev r (Dev.laid all) * (words (.slice (some ⟨g1, 0, none⟩) all.length c1) all * old w))) → ∀ (Φ : World → Prop), (∀ W, Sat w.env W (old w) → Φ W) → True) := Lib.hid fun _ _ _ _ => trivial
        have refused : B = true ∨ mark ≠ 0 → d2 = Dev.laid all ∧ e2 ≠ 0 := fun h => h.elim hl1 hl2
        have HREF := Lib.hid refused; have HL3 := Lib.hid hl3
        clear hl1 hl2 hl3 refused HLAW done hw
        by_cases hbm : B = true ∨ mark ≠ 0
        · obtain ⟨rfl, he⟩ := HREF.out hbm
          have he' : (e2 == 0) = false := by rw [beq_eq_false_iff_ne]; exact he
          have he2 : (e2 != 0) = true := by simpa using he
          clear HREF HL3 he
          have hstep : Hid (∀ W, Sat w.env W (dev b (Dev.laid all) * (rdev r (Dev.laid all) * (words (.slice (some ⟨g1, 0, none⟩) all.length c1) all * old w))) → Calls Try.prog 34 #[.pointer (some ⟨b, 0, none⟩)] W fun e w' => e = .returned (.int .i64 S) ∧ w' = W) := Lib.hid fun W hW => by rw [HS.out]; exact steps_calls W hW
          cases B with
          | true =>
            go_wp2_with fail
            refine (hstep.out _ h7).mono ?_
            rintro e w8 ⟨rfl, rfl⟩
            go_wp2_with fail
            refine (wordsD_calls _ h7).mono ?_
            rintro e w9 ⟨v9, rfl, h9⟩
            go_wp2_with fail
            have r9 : Rd w9 1 v9 all.length (u64s all) := h9.rd
            have r10 : Rd w9 1 (.slice (some ⟨g1, 0, none⟩) all.length c1) all.length (u64s all) := h9.right.right.right.rd
            refine (same_calls _ all all _ _ r9 r10).mono ?_
            rintro e w10 ⟨rfl, n10, rfl⟩
            rw [decide_eq_true rfl]
            go_wp2_with fail
            refine (awake4_calls _ ((h9.right.right.right.right).drewN n10)).mono ?_
            rintro e w11 ⟨rfl, h11⟩
            go_wp2_with fail
            go_ret
            exact ⟨rfl, h11⟩
          | false =>
            have hm0 : (mark == 0) = false := by rw [beq_eq_false_iff_ne]; exact hbm.resolve_left (by simp)
            go_wp2_with fail
            refine (hstep.out _ h7).mono ?_
            rintro e w8 ⟨rfl, rfl⟩
            go_wp2_with fail
            refine (wordsD_calls _ h7).mono ?_
            rintro e w9 ⟨v9, rfl, h9⟩
            go_wp2_with fail
            have r9 : Rd w9 1 v9 all.length (u64s all) := h9.rd
            have r10 : Rd w9 1 (.slice (some ⟨g1, 0, none⟩) all.length c1) all.length (u64s all) := h9.right.right.right.rd
            refine (same_calls _ all all _ _ r9 r10).mono ?_
            rintro e w10 ⟨rfl, n10, rfl⟩
            rw [decide_eq_true rfl]
            go_wp2_with fail
            refine (awake4_calls _ ((h9.right.right.right.right).drewN n10)).mono ?_
            rintro e w11 ⟨rfl, h11⟩
            go_wp2_with fail
            go_ret
            exact ⟨rfl, h11⟩
        · obtain ⟨hB, hm⟩ : B = false ∧ mark = 0 := by
            cases B with
            | true => exact (hbm (.inl rfl)).elim
            | false => exact ⟨rfl, Classical.byContradiction fun h => hbm (.inr h)⟩
          subst hB hm
          obtain ⟨rfl, hl0⟩ := HL3.out rfl rfl
          have HL0 := Lib.hid hl0
          clear HREF HL3 hl0 hbm
          rcases Nat.eq_zero_or_pos l'.length with hl | hl
          · obtain rfl := HL0.out hl
            have hl' : (l'.length : Int) = 0 := by omega
            have hstep : Hid (∀ W, Sat w.env W (dev b (Dev.laid all) * (rdev r (Dev.laid all) * (words (.slice (some ⟨g1, 0, none⟩) all.length c1) all * old w))) → Calls Try.prog 34 #[.pointer (some ⟨b, 0, none⟩)] W fun e w' => e = .returned (.int .i64 S) ∧ w' = W) := Lib.hid fun W hW => by rw [HS.out]; exact steps_calls W hW
            clear hl
            go_wp2_with fail
            refine (hstep.out _ h7).mono ?_
            rintro e w8 ⟨rfl, rfl⟩
            go_wp2_with fail
            refine (awake4_calls _ h7.right.right.right).mono ?_
            rintro e w11 ⟨rfl, h11⟩
            go_wp2_with fail
            go_ret
            exact ⟨rfl, h11⟩
          · have hl' : 0 < (l'.length : Int) := by omega
            have hl2 : ¬ l'.length = 0 := by omega
            go_wp2_with fail
            refine (awake4_calls _ h7.right.right.right).mono ?_
            rintro e w11 ⟨rfl, h11⟩
            go_wp2_with fail
            go_ret
            exact ⟨rfl, h11⟩
end
end Scul
