/- scullionlaw3.NvmAll: whatever calls and picks: behind a crash that picks all lines the words are as they read; a second crash, whatever it picks, changes nothing. No condition. -/
import Derived.Test.YtffakdoobeegpaaNvmK
import Derived.Test.YtffakdoobeegpaaNvmL
namespace Scul
open Go Go.Sl Go.RowKit Go.Proofs
section
variable {E : Env} {F : HP}
set_option maxRecDepth 100000 in
set_option maxHeartbeats 4000000 in
theorem nvmAll_walk (w : World) (l : List CallA) (ao : Option Addr) (c : Nat) (p : List Int) (pv : Value) (hl : RdC w (.slice ao l.length c) l) (hp : Rd w 1 pv p.length (u8s p)) (hp8 : ∀ x ∈ p, U8 x) :
    Calls Try.prog 4 #[.slice ao l.length c, pv] w fun e w' => e = .returned (.bool true) ∧ Sat w.env w' (old w) := by
  have hs := Sat.init w
  go_enter Try.func4, Try.ntmps4
  go_wp2_with fail
  refine (new_nat _ 40 (by omega) hs).mono ?_
  rintro e w1 ⟨b, rfl, h1⟩
  go_wp2_with fail
  have HL := Lib.hid hl
  have HP := Lib.hid hp
  have HP8 := Lib.hid hp8
  clear hl hp hp8
  go_loopw [6] (fun i wr => ∃ (k : Nat) (d : Dev), k ≤ 40 ∧ i = .int .i64 k ∧ (d.Up ∧ d.read.length = 40) ∧ Sat w.env wr (dev b d * old w)) (fun i _ => 40 - (intOf i).toNat)
  case atStart => exact ⟨0, _, Nat.zero_le _, rfl, ⟨Dev.up_new 40, by simp [Dev.new]⟩, h1⟩
  case round =>
    obtain ⟨k, d, hk, rfl, hg, hw⟩ := hrel
    have HG := Lib.hid hg
    clear hg
    by_cases hlt : k < l.length ∧ k < 40
    · obtain ⟨hlt, hlt2⟩ := hlt
      obtain ⟨bb, o, rfl, c0, c1, c2, c3⟩ := RdC.nth (HL.out.old hw.right) k hlt
      have hx : U64 l[k].word := HL.out.2 _ (List.getElem_mem hlt)
      obtain ⟨cc, hcc⟩ : ∃ cc, cc = l[k] := ⟨_, rfl⟩
      rw [← hcc] at c0 c1 c2 c3 hx
      clear hcc
      have hme : 40 - (intOf (Value.int IntKind.i64 (k + 1))).toNat < 40 - (intOf (Value.int IntKind.i64 k)).toNat := by simp only [intOf]; omega
      have HME := Lib.hid hme
      clear hme
      go_wp2_with fail
      case roundEnd => exact ⟨⟨k + 1, d, by omega, rfl, HG.out, hw⟩, HME.out⟩
      refine (do2_calls _ cc hx hw).mono ?_
      rintro e w2 ⟨rfl, h2⟩
      go_wp2_with fail
      have hg2 : (d.do2 cc).Up ∧ (d.do2 cc).read.length = 40 := by
        unfold Dev.do2
        split
        · exact ⟨Dev.up_store HG.out.1 _ _, by rw [Dev.store_len]; exact HG.out.2⟩
        · exact ⟨Dev.up_flush HG.out.1 _, by rw [Dev.flush_read]; exact HG.out.2⟩
      exact ⟨⟨k + 1, _, by omega, rfl, hg2, h2⟩, HME.out⟩
    rcases (show (l.length : Int) ≤ k ∨ ((k : Int) < l.length ∧ 40 ≤ k) from by omega) with q | ⟨q, q2⟩
    all_goals
      clear hk HL hlt
      go_wp2_with fail
      go_loopw [34, 7] (fun i v wr => ∃ (k' : Nat) (nw : List Int), k' ≤ 40 ∧ i = .int .i64 k' ∧ nw = d.read.take k' ∧ Sat w.env wr (words v nw * (dev b d * old w))) (fun i _ _ => 40 - (intOf i).toNat)
      case atStart => exact ⟨0, [], Nat.zero_le _, rfl, rfl, hw.row_nil _ _⟩
      case round =>
        obtain ⟨k', nw, hk', rfl, hnw, hw'⟩ := hrel
        obtain ⟨av, cv, rfl, _, _⟩ := words_val hw'
        by_cases hlt : k' < 40
        · go_wp2_with fail
          refine (load_calls _ _ hw'.right).mono ?_
          rintro e w3 ⟨rfl, n3, rfl⟩
          generalize hX : d.load (k' : Int) = X
          generalize d.loadE (k' : Int) = Y
          have hA : Sat w.env ((wr.drewN n3).alloc (.cells #[.int .u64 X] 27)) (words _ nw * (pt (wr.drewN n3).heap.size (.cells #[.int .u64 X] 27) * (dev b d * old w))) :=
            ((hw'.drewN n3).alloc (.cells #[.int .u64 X] 27)).ac (by ac_rfl)
          have hR : Rd ((wr.drewN n3).alloc (.cells #[.int .u64 X] 27)) 1 (.slice (some ⟨wr.heap.size, 0, none⟩) 1 1) 1 [.int .u64 X] :=
            ⟨rfl, by simp only [maxLen]; omega, .inr ⟨wr.heap.size, 0, 1, rfl, Nat.le_refl _, fun j u hu => by
              match j, hu with
              | 0, hu => cases hu; exact (hA.ac (B := pt (wr.drewN n3).heap.size (.cells #[.int .u64 X] 27) * (words _ nw * (dev b d * old w))) (by ac_rfl)).cell 0 rfl⟩⟩
          have hlen : nw.length = k' := by rw [hnw]; have := HG.out.2; simp; omega
          have b1 : nw.length + 1 ≤ maxLen := by simp only [maxLen]; omega
          have b2 : (nw.length + 1) * 8 ≤ 140737488355328 := by omega
          have HA := Lib.hid hA; have HR := Lib.hid hR; have B1 := Lib.hid b1; have B2 := Lib.hid b2; have HLEN := Lib.hid hlen; have HW' := Lib.hid hw'; have HX := Lib.hid hX; have HNW := Lib.hid hnw
          clear hnw hA hR b1 b2 hlen hw' hX
          go_wp2_with (at_builtin; refine wpl_append rfl _ _ st64 rfl _ _ _ HA.out rfl _ _ _ HR.out rfl (by intro u hu; simp at hu; subst hu; rfl) B1.out B2.out ?_; intro v' w' hs')
          have hst : nw ++ [X] = d.read.take (k' + 1) := by
            have hlt3 : k' < d.read.length := by have := HG.out.2; omega
            rw [HNW.out, List.take_add_one, ← HX.out, Dev.load_up HG.out.1 _ hlt3, List.getElem?_eq_getElem hlt3]
            simp [List.getD_eq_getElem?_getD, hlt3]
          exact ⟨⟨k' + 1, nw ++ [X], by omega, rfl, hst, words_push (Sat.mid hs')⟩, by simp only [intOf]; omega⟩
        · obtain rfl : k' = 40 := by omega
          have hnw2 : nw = d.read := by rw [hnw, List.take_of_length_le]; have := HG.out.2; omega
          have HNW := Lib.hid hnw2
          clear hnw hnw2
          go_wp2_with fail
          have hA : Sat w.env (wr.alloc (.cells #[.int .u8 1, .int .u8 1, .int .u8 1, .int .u8 1, .int .u8 1] 5)) (dev b d * (pt wr.heap.size (.cells #[.int .u8 1, .int .u8 1, .int .u8 1, .int .u8 1, .int .u8 1] 5) * (words (.slice av nw.length cv) nw * old w))) :=
            (hw'.alloc (.cells #[.int .u8 1, .int .u8 1, .int .u8 1, .int .u8 1, .int .u8 1] 5)).ac (by ac_rfl)
          have hok := dev_ok hA
          refine (crash_calls _ _ [1, 1, 1, 1, 1] (by simp [U8]) (fun W hW => ⟨rfl, by simp [maxLen], .inr ⟨_, 0, 5, rfl, by simp, fun j u hu => ?_⟩⟩) hA).mono ?_
          · rw [Nat.zero_add]
            exact hW.cell j (by simpa [u8s] using hu)
          rintro e w4 ⟨rfl, h4⟩
          have hcs : d.crashSure [1, 1, 1, 1, 1] = nw := by
            rw [HNW.out]
            exact Dev.crash_all d hok _ (by simp) (by have := HG.out.2; simp [Dev.lines]; omega)
          obtain ⟨d1, hd1⟩ : ∃ d1, d1 = d.crash [1, 1, 1, 1, 1] := ⟨_, rfl⟩
          have hsure : d1.sure = nw := by rw [hd1]; exact hcs
          have hread : d1.read = nw := by rw [hd1]; exact hcs
          have hfl : d1.fl = [] := by rw [hd1]; rfl
          rw [← hd1] at h4
          have HS := Lib.hid hsure; have HR := Lib.hid hread; have HF := Lib.hid hfl
          clear hd1 hcs hok hA hsure hread hfl
          go_wp2_with fail
          refine (wordsD_calls _ h4).mono ?_
          rintro e w5 ⟨v5, rfl, h5⟩
          rw [HS.out] at h5
          go_wp2_with fail
          have r5 : Rd w5 1 v5 nw.length (u64s nw) := h5.rd
          have r6 : Rd w5 1 (.slice av nw.length cv) nw.length (u64s nw) := h5.right.right.right.rd
          refine (same_calls _ nw nw _ _ r5 r6).mono ?_
          rintro e w6 ⟨rfl, n6, rfl⟩
          rw [decide_eq_true rfl]
          go_wp2_with fail
          refine (crash_calls _ _ p HP8.out (fun W hW => Rd.old HP.out hW.right.right) (h5.right.drewN n6)).mono ?_
          rintro e w7 ⟨rfl, h7⟩
          go_wp2_with fail
          refine (wordsD_calls _ h7).mono ?_
          rintro e w8 ⟨v8, rfl, h8⟩
          have hs8 : (d1.crash p).sure = nw := by
            show d1.crashSure p = nw
            rw [Dev.crash_none d1 HF.out (by rw [HR.out, HS.out]), HS.out]
          rw [hs8] at h8
          go_wp2_with fail
          have r8 : Rd w8 1 v8 nw.length (u64s nw) := h8.rd
          have r9 : Rd w8 1 (.slice av nw.length cv) nw.length (u64s nw) := h8.right.right.right.rd
          refine (same_calls _ nw nw _ _ r8 r9).mono ?_
          rintro e w9 ⟨rfl, n9, rfl⟩
          rw [decide_eq_true rfl]
          go_wp2_with fail
          refine (awake3_calls _ (h8.drewN n9)).mono ?_
          rintro e w10 ⟨rfl, h10⟩
          go_wp2_with fail
          go_ret
          exact ⟨rfl, h10.right.right.right.right⟩
end
end Scul
