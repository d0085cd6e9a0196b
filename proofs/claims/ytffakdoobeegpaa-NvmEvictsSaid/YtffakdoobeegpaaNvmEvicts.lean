/- scullionlaw3.NvmEvicts: whatever calls, line and further calls: a line that was evicted is kept as it read then by a crash that picks nothing. No condition. -/
import Derived.Test.YtffakdoobeegpaaNvmK
import Derived.Test.YtffakdoobeegpaaNvmL
import Derived.Deep.CutBlock
import Derived.Deep.DeepCutAuto
namespace Scul
open Go Go.Sl Go.RowKit Go.Proofs
section
variable {E : Env} {F : HP}
set_option maxRecDepth 100000 in
set_option maxHeartbeats 4000000 in
theorem nvmEvicts_walk (w : World) (l : List CallA) (ao : Option Addr) (c : Nat) (n0 : Int) (m : List CallA) (mo : Option Addr) (mc : Nat) (hl : RdC w (.slice ao l.length c) l) (_ : I64 n0) (hm : RdC w (.slice mo m.length mc) m) :
    Calls Try.prog 6 #[.slice ao l.length c, .int .i64 n0, .slice mo m.length mc] w fun e w' => e = .returned (.bool true) ∧ Sat w.env w' (old w) := by
  have hs := Sat.init w
  have HL := Lib.hid hl
  have HM := Lib.hid hm
  clear hl hm
  go_enter Try.func6, Try.ntmps6
  go_upto_block 0 with fail
  refine (new_nat _ 32 (by omega) hs).mono ?_
  rintro e w1 ⟨b, rfl, h1⟩
  go_upto_block 0 with fail
  go_cut [8] (fun _ wx => ∃ d : Dev, (d.Up ∧ d.read.length = 32) ∧ Sat w.env wx (dev b d * old w))
  case first =>
    go_wp2_with fail
    go_loopw [8] (fun i wr => ∃ (k : Nat) (d : Dev), k ≤ 30 ∧ i = .int .i64 k ∧ (d.Up ∧ d.read.length = 32) ∧ Sat w.env wr (dev b d * old w)) (fun i _ => 30 - (intOf i).toNat)
    case atStart => exact ⟨0, _, Nat.zero_le _, rfl, ⟨Dev.up_new 32, by simp [Dev.new]⟩, h1⟩
    case round =>
      obtain ⟨k, d, hk, rfl, hg, hw⟩ := hrel
      have HG := Lib.hid hg
      clear hg
      by_cases hlt : k < l.length ∧ k < 30
      · obtain ⟨hlt, hlt2⟩ := hlt
        obtain ⟨bb, o, rfl, c0, c1, c2, c3⟩ := RdC.nth (HL.out.old hw.right) k hlt
        have hx : U64 l[k].word := HL.out.2.1 _ (List.getElem_mem hlt)
        obtain ⟨cc, hcc⟩ : ∃ cc, cc = l[k] := ⟨_, rfl⟩
        rw [← hcc] at c0 c1 c2 c3 hx
        clear hcc
        have hme : 30 - (intOf (Value.int IntKind.i64 (k + 1))).toNat < 30 - (intOf (Value.int IntKind.i64 k)).toNat := by simp only [intOf]; omega
        have HME := Lib.hid hme
        clear hme
        go_wp2_with fail
        case roundEnd => exact ⟨⟨k + 1, d, by omega, rfl, HG.out, hw⟩, HME.out⟩
        refine (do2_calls _ cc hx hw).mono ?_
        rintro e w2 ⟨rfl, h2⟩
        go_wp2_with fail
        have hg2 : (d.do2 cc).Up ∧ (d.do2 cc).read.length = 32 := by
          unfold Dev.do2
          split
          · exact ⟨Dev.up_store HG.out.1 _ _, by rw [Dev.store_len]; exact HG.out.2⟩
          · exact ⟨Dev.up_flush HG.out.1 _, by rw [Dev.flush_read]; exact HG.out.2⟩
        exact ⟨⟨k + 1, _, by omega, rfl, hg2, h2⟩, HME.out⟩
      rcases (show (l.length : Int) ≤ k ∨ ((k : Int) < l.length ∧ 30 ≤ k) from by omega) with q | ⟨q, q2⟩
      all_goals
        clear hk HL hlt
        go_wp2_with fail
        go_meet
        exact ⟨d, HG.out, hw⟩
  case rest =>
    obtain ⟨d, hg, hw⟩ := hcut
    clear h1
    go_wp2_with fail
    obtain ⟨j, hj, hj4⟩ := Dev.pick_idx n0 4 (by omega) (by omega)
    replace hj : wrap64 ((IntKind.u64.wrap n0).tmod 4) = (j : Int) := hj
    rw [hj]
    clear hj
    have hw2 := hw.alloc (.cells (u64s [0, 0, 0, 0, 0, 0, 0, 0]).toArray 47)
    obtain ⟨wb, hwb⟩ : ∃ wb, wb = wc.heap.size := ⟨_, rfl⟩
    rw [← hwb] at hw2 ⊢
    refine atSat _ hw2 fun W hW => ?_
    clear hw hw2 hwb
    have HG := Lib.hid hg
    clear hg
    go_loopw [42] (fun i wr => ∃ (k : Nat) (L : List Int), k ≤ 8 ∧ i = .int .i64 k ∧ L.length = 8 ∧ (∀ t, t < k → L[t]? = d.read[8 * j + t]?) ∧ Sat w.env wr (pt wb (.cells (u64s L).toArray 47) * (dev b d * old w))) (fun i _ => 8 - (intOf i).toNat)
    case atStart => exact ⟨0, [0, 0, 0, 0, 0, 0, 0, 0], Nat.zero_le _, rfl, rfl, fun t ht => by omega, hW⟩
    case round =>
      clear hW W
      obtain ⟨k, L, hk, rfl, hL8, hL, hw⟩ := hrel
      have HLL := Lib.hid hL
      clear hL
      by_cases hlt : k < 8
      · go_wp2_with fail
        have hq : (8 * (j : Int) + k) = ((8 * j + k : Nat) : Int) := by omega
        rw [hq]
        refine (load_calls _ _ hw.right).mono ?_
        rintro e w3 ⟨rfl, n3, rfl⟩
        have hX : d.load ((8 * j + k : Nat) : Int) = d.read.getD (8 * j + k) 0 := Dev.load_up HG.out.1 _ (by have := HG.out.2; omega)
        rw [hX]
        generalize d.loadE ((8 * j + k : Nat) : Int) = Y
        obtain ⟨X, hXe⟩ : ∃ X, X = d.read.getD (8 * j + k) 0 := ⟨_, rfl⟩
        rw [← hXe]
        have HX := Lib.hid hXe
        have HW := Lib.hid (hw.drewN n3)
        have cw : (wr.drewN n3).cell? ⟨wb, k, none⟩ = some (.int .u64 (L.getD k 0)) := (hw.drewN n3).cell k (by simp [u64s, hL8, hlt])
        have fw : (wr.drewN n3).frozen? ⟨wb, k, none⟩ = false := (hw.drewN n3).free k
        clear hX hXe hw hq
        go_wp2_with fail
        refine ⟨⟨k + 1, L.set k X, by omega, rfl, by simpa using hL8, fun t ht => ?_, ?_⟩, by simp only [intOf]; omega⟩
        · by_cases htk : t = k
          · subst htk
            rw [List.getElem?_set_self (by omega), HX.out, List.getD_eq_getElem?_getD]
            have : 8 * j + t < d.read.length := by have := HG.out.2; omega
            rw [List.getElem?_eq_getElem this]
            rfl
          · rw [List.getElem?_set_ne (by omega)]
            exact HLL.out t (by omega)
        · have := HW.out.setCell (i := k) (v := .int .u64 X)
          simpa [u64s] using this
      · obtain rfl : k = 8 := by omega
        have hw' := Sat.swap hw
        have hok := dev_ok hw'
        have hd1 := Dev.up_evict HG.out.1 (j : Int)
        have hr1 : (d.evict j).read = d.read := Dev.evict_read _
        have hj8 : 8 * j < d.read.length := by have := HG.out.2; omega
        have hcl := Dev.evict_clean HG.out.1 hok.len j hj8
        refine atSat _ hw' fun W2 hW2 => ?_
        go_wp2_with fail
        refine (evict_calls _ _ hW2).mono ?_
        rintro e w4 ⟨rfl, h4⟩
        generalize (d.evictB ↑j && d.dirtyB (↑j : Int).toNat) = B1
        have hok2 := dev_ok h4
        go_wp2_with fail
        refine (evict_calls _ _ h4).mono ?_
        rintro e w5 ⟨rfl, h5⟩
        rw [Int.toNat_natCast, hcl, Bool.and_false]
        have hfin : ((d.evict j).evict j).Up ∧ ((d.evict j).evict j).read.length = 32 ∧ ∀ t, t < 8 → ((d.evict j).evict j).sure[8 * j + t]? = L[t]? := by
          refine ⟨Dev.up_evict hd1 _, by rw [Dev.evict_read, hr1]; exact HG.out.2, fun t ht => ?_⟩
          rw [Dev.evict_line hd1 hok2.len j (by rw [hr1]; exact hj8) _ (by omega), hr1, HLL.out t ht]
        generalize (d.evict j).evict j = d2 at *
        have HF := Lib.hid hfin
        clear hfin hok2 h4 hcl hj8 hr1 hd1 hok hw' hw hW2 HG HLL
        go_upto_block 4 with fail
        go_cut [11] (fun _ wx => ∃ d3 : Dev, (d3.Up ∧ d3.read.length = 32 ∧ ∀ t, t < 8 → d3.sure[8 * j + t]? = L[t]?) ∧ Sat w.env wx (dev b d3 * (pt wb (.cells (u64s L).toArray 47) * old w)))
        case first =>
          go_wp2_with fail
          go_loopw [11] (fun i wr => ∃ (k : Nat) (d3 : Dev), k ≤ 20 ∧ i = .int .i64 k ∧ (d3.Up ∧ d3.read.length = 32 ∧ ∀ t, t < 8 → d3.sure[8 * j + t]? = L[t]?) ∧ Sat w.env wr (dev b d3 * (pt wb (.cells (u64s L).toArray 47) * old w))) (fun i _ => 20 - (intOf i).toNat)
          case atStart => exact ⟨0, _, Nat.zero_le _, rfl, HF.out, h5⟩
          case round =>
            clear HF h5 d2
            obtain ⟨k, d3, hk, rfl, hg, hw⟩ := hrel
            have HG := Lib.hid hg
            clear hg
            by_cases hlt : k < m.length ∧ k < 20
            · obtain ⟨hlt, hlt2⟩ := hlt
              obtain ⟨bb, o, rfl, c0, c1, c2, c3⟩ := RdC.nth (HM.out.old hw.right.right) k hlt
              have hx : U64 m[k].word := HM.out.2.1 _ (List.getElem_mem hlt)
              obtain ⟨pa, pn, pk, hpp⟩ := HM.out.2.2 _ (List.getElem_mem hlt)
              rw [hpp] at c3
              obtain ⟨ca, hca⟩ : ∃ x, x = m[k].act := ⟨_, rfl⟩
              obtain ⟨cat, hcat⟩ : ∃ x, x = m[k].at_ := ⟨_, rfl⟩
              obtain ⟨cw, hcw⟩ : ∃ x, x = m[k].word := ⟨_, rfl⟩
              rw [← hca] at c0; rw [← hcat] at c1; rw [← hcw] at c2 hx
              clear hca hcat hcw hpp
              have hme : 20 - (intOf (Value.int IntKind.i64 (k + 1))).toNat < 20 - (intOf (Value.int IntKind.i64 k)).toNat := by simp only [intOf]; omega
              have HME := Lib.hid hme
              clear hme
              have ha := hw.alloc (.cells #[.int .i64 ca, .int .i64 cat, .int .u64 cw, .slice pa pn pk] 29)
              go_wp2_with fail
              all_goals first
                | exact ⟨⟨k + 1, d3, by omega, rfl, HG.out, ha.right⟩, HME.out⟩
                | (refine (do2_calls _ ⟨ca, cat, cw, .slice pa pn pk⟩ hx ha.right).mono ?_
                   rintro e w2 ⟨rfl, h2⟩
                   go_wp2_with fail
                   refine ⟨⟨k + 1, _, by omega, rfl, ?_, h2⟩, HME.out⟩
                   unfold Dev.do2
                   split
                   · exact ⟨Dev.up_store HG.out.1 _ _, by rw [Dev.store_len]; exact HG.out.2.1, fun t ht => by rw [Dev.store_sure]; exact HG.out.2.2 t ht⟩
                   · exact ⟨Dev.up_flush HG.out.1 _, by rw [Dev.flush_read]; exact HG.out.2.1, fun t ht => by rw [Dev.flush_sure]; exact HG.out.2.2 t ht⟩)
            rcases (show (m.length : Int) ≤ k ∨ ((k : Int) < m.length ∧ 20 ≤ k) from by omega) with q | ⟨q, q2⟩
            all_goals
              clear hk HM hlt
              go_wp2_with fail
              go_meet
              exact ⟨d3, HG.out, hw⟩
        case rest =>
          clear HF h5 d2
          obtain ⟨d3, hg, hw⟩ := hcut
          have HG := Lib.hid hg
          clear hg
          refine atSat _ hw fun W hW => ?_
          clear hw
          go_wp2_with fail
          refine (crash_calls _ _ [] (by simp) (fun W _ => Rd.empty W 1) hW).mono ?_
          rintro e w6 ⟨rfl, h6⟩
          have hc : (d3.crash []).sure = d3.sure := Dev.crash_nil d3 (dev_ok hW).len
          generalize d3.crash [] = d4 at *
          go_wp2_with fail
          refine (wordsD_calls _ h6).mono ?_
          rintro e w7 ⟨v7, rfl, h7⟩
          rw [hc] at h7
          have hl3 : d3.sure.length = 32 := by rw [(dev_ok hW).len]; exact HG.out.2.1
          obtain ⟨S, hS⟩ : ∃ S, S = d3.sure := ⟨_, rfl⟩
          rw [← hS] at h7 hl3
          have hSL : ∀ t, t < 8 → S[8 * j + t]? = L[t]? := by rw [hS]; exact HG.out.2.2
          have HSL := Lib.hid hSL
          obtain ⟨g, cg, rfl, _⟩ := words_at h7 0 (by omega)
          clear hS hSL hc h6 HG hW W
          have hl3' : (S.length : Int) = 32 := by omega
          go_wp2_with fail
          have H7 := Lib.hid h7
          clear h7
          go_loopw [105] (fun i wr => ∃ k n : Nat, k ≤ 8 ∧ i = .int .i64 k ∧ wr = w7.drewN n) (fun i _ => 8 - (intOf i).toNat)
          case atStart => exact ⟨0, 0, Nat.zero_le _, rfl, rfl⟩
          case round =>
            obtain ⟨k, n, hk, rfl, rfl⟩ := hrel
            by_cases hlt : k < 8
            · have hj8 : 8 * j + k < S.length := by omega
              have e1 := words_cell H7.out (8 * j + k) hj8
              have hpt := ((H7.out.right).right)
              have e2 := hpt.cell k (v := .int .u64 (L.getD k 0)) (by
                have hkl : k < L.length := by
                  have := HSL.out k hlt
                  rw [List.getElem?_eq_getElem hj8] at this
                  exact (List.getElem?_eq_some_iff.1 this.symm).1
                simp [u64s, hkl])
              have e3 : S.getD (8 * j + k) 0 = L.getD k 0 := by
                rw [List.getD_eq_getElem?_getD, List.getD_eq_getElem?_getD, HSL.out k hlt]
              rw [e3] at e1
              have hjk : ((8 * j + k : Nat) : Int) = 8 * (j : Int) + k := by omega
              have hb1 : 8 * (j : Int) + k < 32 := by omega
              have hb0 : 0 ≤ 8 * (j : Int) + k := by omega
              have hjt : (8 * (j : Int) + k).toNat = 8 * j + k := by omega
              clear hpt e3
              generalize L.getD k 0 = X at *
              go_wp2_with fail
              go_quiet (fail)
              go_wp2_with fail
              exact ⟨⟨k + 1, n + _, by omega, rfl, rfl⟩, by simp only [intOf]; omega⟩
            · go_wp2_with fail
              refine (awake3_calls _ (H7.out.drewN n)).mono ?_
              rintro e w8 ⟨rfl, h8⟩
              go_wp2_with fail
              go_ret
              exact ⟨rfl, h8.right.right.right⟩
end
end Scul
