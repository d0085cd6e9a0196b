/- Lemmas and contracts for scullion's BlockCancels: BlkB, BlkC, BlkD, BlkE, BlkF, BlkG, ArrIn, BlkS, BlockCancels. -/
import Derived.Test.YtffakdoobeegpaaBlockCancelsQ6
import Derived.Test.YtffakdoobeegpaaBlockCancelsQ2
import Derived.Laws.IdiomArrays
import Derived.WideShapes
import Derived.Test.YtffakdoobeegpaaBlockCancelsQ3
import Derived.Test.YtffakdoobeegpaaBlockCancelsQ4
import Derived.Deep.CutBlock
import Derived.Deep.DeepCutAuto
/- block: Free, Cancel, Bits, Reserve, New. -/
namespace Scul
open Go Go.Sl Go.RowKit Go.Proofs
section
variable {E : Env} {w : World} {F : HP} {t lb : Nat} {U R : List Bool} {c : Cfg}
set_option maxRecDepth 100000 in
set_option maxHeartbeats 1000000 in
theorem free_calls (w : World) (i : Int) (h : Sat E w (tab t lb U R * (lay lb c * F))) :
    Calls Try.prog 56 #[.pointer (some ⟨t, 0, none⟩), .int .i64 i] w fun e w' => e = .returned (.int .i64 (c.free U R i)) ∧ ∃ m, w' = w.drewN m := by
  have hn := (lay_ok h.right).toNear
  have hp := Cfg.near_places hn
  have hr := Cfg.upto_from hn i
  have hc2 : c.count ≤ 2048 := hp.2.2.2.2.2.2.2.2.2.2.1
  obtain ⟨ub, rb, hs⟩ := tab_open h
  have c0 : w.cell? ⟨t, 0, none⟩ = some (.pointer (some ⟨lb, 0, none⟩)) := hs.cell 0 rfl
  have HR := Lib.hid (range_calls w i h.right)
  have HU : Hid (∀ m b, Calls Try.prog 53 #[.pointer (some ⟨t, 0, none⟩), .int .i64 b] (w.drewN m) fun e w' => e = .returned (.bool (getB U b)) ∧ w' = w.drewN m) := Lib.hid fun m b => used_calls _ b (h.drewN m)
  have HV : Hid (∀ m b, Calls Try.prog 54 #[.pointer (some ⟨t, 0, none⟩), .int .i64 b] (w.drewN m) fun e w' => e = .returned (.bool (getB R b)) ∧ w' = w.drewN m) := Lib.hid fun m b => reserved_calls _ b (h.drewN m)
  obtain ⟨r, hr2⟩ : ∃ r, r = c.free U R i := ⟨_, rfl⟩
  rw [← hr2]
  have HX : Hid (r = freeFrom U R (c.from_ i) (c.upto i - c.from_ i).toNat) := Lib.hid hr2
  clear hs h hn hp hr2
  generalize c.from_ i = f at *
  generalize c.upto i = u at *
  go_enter Try.func56, Try.ntmps56
  go_wp2_with fail
  refine HR.out.mono ?_
  rintro e w1 ⟨rfl, m1, rfl⟩
  go_wp2_with fail
  go_loopw [8, 5] (fun iv nv wr => ∃ (b s : Int) (m : Nat), f ≤ b ∧ b ≤ u ∧ iv = .int .i64 b ∧ nv = .int .i64 s ∧ s = freeFrom U R f (b - f).toNat ∧ wr = w.drewN m) (fun iv _ _ => u.toNat - (intOf iv).toNat)
  case atStart => exact ⟨f, 0, m1, by omega, by omega, rfl, rfl, by simp [freeFrom], rfl⟩
  case round =>
    obtain ⟨b, s, m, hb1, hb2, rfl, rfl, he, rfl⟩ := hrel
    have hsr := freeFrom_range U R f (b - f).toNat
    rw [← he] at hsr
    by_cases hlt : b < u
    · have e1 : (b + 1 - f).toNat = (b - f).toNat + 1 := by omega
      have e2 : f + ((b - f).toNat : Int) = b := by omega
      have hst : freeFrom U R f (b + 1 - f).toNat = s + if freeB U R b then 1 else 0 := by rw [e1]; show freeFrom U R f (b - f).toNat + _ = _; rw [← he, e2]
      unfold freeB at hst
      have HUb := HU.out m b; have HVb := HV.out m b
      clear e1 e2 he
      cases hu : getB U b with
      | true =>
        rw [hu] at hst HUb
        have HE : Hid (s = freeFrom U R f (b + 1 - f).toNat) := Lib.hid (by rw [hst]; simp)
        have HU2 := Lib.hid HUb
        clear hst hu HUb HVb
        go_wp2_with (go_at_call 53; refine HU2.out.mono ?_; rintro e w' ⟨rfl, rfl⟩)
        exact ⟨⟨b + 1, s, m, by omega, by omega, rfl, rfl, HE.out, by first | rfl | trivial⟩, by simp [intOf]; omega⟩
      | false =>
        cases hv : getB R b with
        | true =>
          rw [hu, hv] at hst; rw [hu] at HUb; rw [hv] at HVb
          have HE : Hid (s = freeFrom U R f (b + 1 - f).toNat) := Lib.hid (by rw [hst]; simp)
          have HU2 := Lib.hid HUb; have HV2 := Lib.hid HVb
          clear hst hu hv HUb HVb
          go_wp2_with (first | (go_at_call 53; refine HU2.out.mono ?_; rintro e w' ⟨rfl, rfl⟩) | (go_at_call 54; refine HV2.out.mono ?_; rintro e w' ⟨rfl, rfl⟩))
          exact ⟨⟨b + 1, s, m, by omega, by omega, rfl, rfl, HE.out, by first | rfl | trivial⟩, by simp [intOf]; omega⟩
        | false =>
          rw [hu, hv] at hst; rw [hu] at HUb; rw [hv] at HVb
          have HE : Hid (s + 1 = freeFrom U R f (b + 1 - f).toNat) := Lib.hid (by rw [hst]; simp)
          have HU2 := Lib.hid HUb; have HV2 := Lib.hid HVb
          clear hst hu hv HUb HVb
          go_wp2_with (first | (go_at_call 53; refine HU2.out.mono ?_; rintro e w' ⟨rfl, rfl⟩) | (go_at_call 54; refine HV2.out.mono ?_; rintro e w' ⟨rfl, rfl⟩))
          exact ⟨⟨b + 1, s + 1, m, by omega, by omega, rfl, rfl, HE.out, by first | rfl | trivial⟩, by simp [intOf]; omega⟩
    · obtain rfl : b = u := by omega
      have he2 : s = r := by rw [he, HX.out]
      subst he2
      clear he
      go_wp2_with fail
      go_ret
      exact ⟨rfl, m, rfl⟩
theorem cancel_calls (w : World) (i : Int) (h : Sat E w (tab t lb U R * F)) :
    Calls Try.prog 57 #[.pointer (some ⟨t, 0, none⟩), .int .i64 i] w fun e w' => e = .returned (.bool (setsB R i false)) ∧ Sat E w' (tab t lb U (setB R i false) * F) := by
  obtain ⟨ub, rb, hs⟩ := tab_open h
  have c1 : w.cell? ⟨t, 2, none⟩ = some (.pointer (some ⟨rb, 0, none⟩)) := hs.cell 2 rfl
  have hs2 := hs.ac (B := bm rb R * (pt t (.cells #[.pointer (some ⟨lb, 0, none⟩), .pointer (some ⟨ub, 0, none⟩), .pointer (some ⟨rb, 0, none⟩)] 136) * (bm ub U * F))) (by ac_rfl)
  have HC := Lib.hid (mSet_calls w i false hs2)
  have hm : ∀ W, Sat E W (bm rb (setB R i false) * (pt t (.cells #[.pointer (some ⟨lb, 0, none⟩), .pointer (some ⟨ub, 0, none⟩), .pointer (some ⟨rb, 0, none⟩)] 136) * (bm ub U * F))) → Sat E W (tab t lb U (setB R i false) * F) := fun W hW => tab_mk (hW.ac (by ac_rfl))
  have HM := Lib.hid hm
  clear hs hs2 h hm
  go_enter Try.func57, Try.ntmps57
  go_wp2_with (go_at_call 104; refine HC.out.mono ?_; rintro e w' ⟨rfl, h1⟩)
  go_ret
  exact ⟨rfl, HM.out _ h1⟩
theorem bits_calls (w : World) (h : Sat E w (tab t lb U R * F)) :
    Calls Try.prog 65 #[.pointer (some ⟨t, 0, none⟩)] w fun e w' => ∃ b, e = .returned (.pointer (some ⟨b, 0, none⟩)) ∧ Sat E w' (bm b U * (tab t lb U R * F)) := by
  obtain ⟨ub, rb, hs⟩ := tab_open h
  have c1 : w.cell? ⟨t, 1, none⟩ = some (.pointer (some ⟨ub, 0, none⟩)) := hs.cell 1 rfl
  have hs2 := hs.ac (B := bm ub U * (pt t (.cells #[.pointer (some ⟨lb, 0, none⟩), .pointer (some ⟨ub, 0, none⟩), .pointer (some ⟨rb, 0, none⟩)] 136) * (bm rb R * F))) (by ac_rfl)
  have HC := Lib.hid (mCopy_calls w hs2)
  have hm : ∀ b W, Sat E W (bm b U * (bm ub U * (pt t (.cells #[.pointer (some ⟨lb, 0, none⟩), .pointer (some ⟨ub, 0, none⟩), .pointer (some ⟨rb, 0, none⟩)] 136) * (bm rb R * F)))) → Sat E W (bm b U * (tab t lb U R * F)) := fun b W hW =>
    (tab_mk (t := t) (lb := lb) (ub := ub) (rb := rb) (U := U) (R := R) (F := bm b U * F) (hW.ac (by ac_rfl))).ac (by ac_rfl)
  have HM := Lib.hid hm
  clear hs hs2 h hm
  go_enter Try.func65, Try.ntmps65
  go_wp2_with (go_at_call 114; refine HC.out.mono ?_; rintro e w' ⟨b, rfl, h1⟩)
  go_ret
  exact ⟨_, rfl, HM.out _ _ h1⟩
/-- The first n bits of a map. -/
def fitB (n : Nat) (bs : List Bool) : List Bool := (List.range n).map fun i => bs.getD i false
theorem unpack_fit (n : Nat) (bs : List Bool) : unpackW n (packW bs) = fitB n bs := by
  unfold unpackW fitB
  refine List.map_congr_left fun i _ => ?_
  by_cases hi : i < bs.length
  · rw [packW_getD _ _ (by omega), Int.toNat_natCast, wordAt_bit]
    have e : 64 * (i / 64) + i % 64 = i := by omega
    have e2 : i % 64 < 64 := by omega
    rw [e]; simp [e2]
  · have e0 : bs.getD i false = false := by rw [List.getD_eq_getElem?_getD, List.getElem?_eq_none (by omega)]; rfl
    rw [e0]
    by_cases hj : i / 64 < (bs.length + 63) / 64
    · rw [packW_getD _ _ hj, Int.toNat_natCast, wordAt_bit]
      have e : 64 * (i / 64) + i % 64 = i := by omega
      rw [e, e0]; simp
    · rw [List.getD_eq_getElem?_getD, List.getElem?_eq_none (by rw [packW_length]; omega)]
      simp
theorem unpack_nil (n : Nat) : unpackW n [] = List.replicate n false := by
  refine List.ext_getElem? fun i => ?_
  by_cases hi : i < n
  · simp [unpackW, hi]
  · rw [List.getElem?_eq_none (by simp [unpackW]; omega), List.getElem?_eq_none (by simp; omega)]
set_option maxHeartbeats 1000000 in
theorem blkNew_calls (w : World) (ub0 : Nat) (bs : List Bool) (h : Sat E w (lay lb c * (bm ub0 bs * F))) :
    Calls Try.prog 47 #[.pointer (some ⟨lb, 0, none⟩), .pointer (some ⟨ub0, 0, none⟩)] w fun e w' => ∃ t, e = .returned (.pointer (some ⟨t, 0, none⟩)) ∧ Sat E w' (tab t lb (fitB c.count.toNat bs) (List.replicate c.count.toNat false) * (lay lb c * (bm ub0 bs * F))) := by
  have hn := (lay_ok h).toNear
  have hp := Cfg.near_places hn
  have hc2 : 0 ≤ c.count ∧ c.count ≤ 2048 := hp.2.2.2.2.2.2.2.2.2
    |> fun h => ⟨h.1, h.2.1⟩
  have HB := Lib.hid (fun W (hW : Sat E W (lay lb c * (bm ub0 bs * F))) => blocks_calls W hW)
  have HB2 : Hid (∀ W b2, Sat E W (bm b2 (fitB c.count.toNat bs) * (lay lb c * (bm ub0 bs * F))) → Calls Try.prog 50 #[.pointer (some ⟨lb, 0, none⟩)] W fun e w' => e = .returned (.int .i64 c.count) ∧ ∃ m, w' = W.drewN m) := Lib.hid fun W b2 hW => blocks_calls W hW.right
  have HW1 : Hid (∀ W, Sat E W (lay lb c * (bm ub0 bs * F)) → Calls Try.prog 66 #[.pointer (some ⟨ub0, 0, none⟩)] W fun e w' => ∃ v, e = .returned v ∧ Sat E w' (words v (packW bs) * (lay lb c * (bm ub0 bs * F)))) := Lib.hid fun W hW =>
    (mWords_calls W (hW.ac (B := bm ub0 bs * (lay lb c * F)) (by ac_rfl))).mono fun e w' ⟨v, he, h⟩ => ⟨v, he, h.ac (by ac_rfl)⟩
  have hcl : clampB c.count = c.count.toNat := by unfold clampB; omega
  have HO : Hid (∀ W v, Sat E W (words v (packW bs) * (lay lb c * (bm ub0 bs * F))) → Calls Try.prog 48 #[.int .i64 c.count, v] W fun e w' => ∃ b, e = .returned (.pointer (some ⟨b, 0, none⟩)) ∧ Sat E w' (bm b (fitB c.count.toNat bs) * (lay lb c * (bm ub0 bs * F)))) := Lib.hid fun W v hW =>
    (mOf_calls W c.count (packW bs) v (packW_u64 bs) (fun W' hW' => Sat.rd hW') hW).mono fun e w' ⟨b, he, h⟩ => ⟨b, he, by
      rw [hcl, unpack_fit] at h
      have h2 : Sat E w' (words v (packW bs) * (bm b (fitB c.count.toNat bs) * (lay lb c * (bm ub0 bs * F)))) := h.ac (by ac_rfl)
      exact h2.right⟩
  have HN : Hid (∀ W b2, Sat E W (bm b2 (fitB c.count.toNat bs) * (lay lb c * (bm ub0 bs * F))) → Calls Try.prog 99 #[.int .i64 c.count] W fun e w' => ∃ b, e = .returned (.pointer (some ⟨b, 0, none⟩)) ∧ Sat E w' (bm b (List.replicate c.count.toNat false) * (bm b2 (fitB c.count.toNat bs) * (lay lb c * (bm ub0 bs * F))))) := Lib.hid fun W b2 hW => by
    have := mNew_calls W c.count hW
    rwa [hcl] at this
  have H := Lib.hid h
  clear h hn hp hcl
  go_enter Try.func47, Try.ntmps47
  go_wp2_with fail
  refine (HB.out _ H.out).mono ?_
  rintro e w1 ⟨rfl, m1, rfl⟩
  go_wp2_with fail
  refine (HW1.out _ (H.out.drewN m1)).mono ?_
  rintro e w2 ⟨v, rfl, h2⟩
  obtain ⟨a2, c2, rfl, _⟩ := words_val h2
  go_wp2_with fail
  refine (HO.out _ _ h2).mono ?_
  rintro e w3 ⟨b3, rfl, h3⟩
  go_wp2_with fail
  refine (HB2.out _ _ h3).mono ?_
  rintro e w4 ⟨rfl, m4, rfl⟩
  go_wp2_with fail
  refine (HN.out _ _ (h3.drewN m4)).mono ?_
  rintro e w5 ⟨b5, rfl, h5⟩
  have h6 := h5.alloc (.cells #[.pointer (some ⟨lb, 0, none⟩), .pointer (some ⟨b3, 0, none⟩), .pointer (some ⟨b5, 0, none⟩)] 136)
  have H7 := Lib.hid (tab_mk (lb := lb) (ub := b3) (rb := b5) (U := fitB c.count.toNat bs) (R := List.replicate c.count.toNat false) (F := lay lb c * (bm ub0 bs * F)) (h6.ac (by ac_rfl)))
  clear h5 h6 h3 h2
  go_wp2_with fail
  go_ret
  exact ⟨_, rfl, H7.out⟩
end
end Scul
/- block: Reserve. -/
namespace Scul
open Go Go.Sl Go.RowKit Go.Proofs
section
variable {E : Env} {w : World} {F : HP} {t lb : Nat} {U R : List Bool} {c : Cfg}
/-- The frame of Reserve at its label. -/
def Rsv.arr (t : Nat) (words : Int) (k : Nat) (u : Nat → Value) : Array Value := #[.pointer (some ⟨t, 0, none⟩), .int .i64 words, u 2, u 3, u 4, u 5, .int .i64 (k : Int), .int .i64 (-1), u 8, u 9, u 10, u 11, u 12, u 13, u 14, u 15, u 16, u 17, u 18, u 19, u 20, u 21, u 22, u 23, u 24, u 25, u 26, u 27, u 28, u 29, u 30, u 31, u 32, u 33, u 34, u 35, u 36, u 37]
def Rsv.fr (t : Nat) (words : Int) (k : Nat) (a : Act) : Prop := a = ⟨Rsv.arr t words k (fun k => a.tmps.getD k undef), []⟩
def Rsv.J (E : Env) (t lb : Nat) (c : Cfg) (U R : List Bool) (words : Int) (r : Int) (F : HP) (n : Nat) (a : Act) (w : World) : Prop :=
  ∃ k : Nat, 4 - k = n ∧ k ≤ 4 ∧ c.resFrom U R words k (4 - k) = r ∧ Sat E w (tab t lb U R * (lay lb c * F)) ∧ Rsv.fr t words k a
set_option maxRecDepth 100000 in
set_option maxHeartbeats 1000000 in
theorem reserve_calls (w : World) (words : Int) (hU : U.length = c.count.toNat) (hR : R.length = c.count.toNat) (h : Sat E w (tab t lb U R * (lay lb c * F))) :
    Calls Try.prog 55 #[.pointer (some ⟨t, 0, none⟩), .int .i64 words] w fun e w' => e = .returned (.tuple #[.int .i64 (c.reserveA U R words), .int .i64 (c.reserveE U R words)]) ∧ Sat E w' (tab t lb U (c.reserveR U R words) * (lay lb c * F)) := by
  by_cases h1 : words < 1
  · have e1 : c.reserveA U R words = 0 := if_pos (.inl h1)
    have e2 : c.reserveE U R words = 1 := if_pos (.inl h1)
    have e3 : c.reserveR U R words = R := if_pos (.inl h1)
    rw [e1, e2, e3]
    clear e1 e2 e3 hU hR
    have H := Lib.hid h
    clear h
    go_enter Try.func55, Try.ntmps55
    go_wp2_with fail
    refine wp_scope_ghost 0 (fun _ _ _ => False) rfl (fun _ _ _ h => h.elim) fun _ => ?_
    go_wp2_with fail
    simp only [Exit.jump]
    go_ret2
    exact ⟨rfl, H.out⟩
  by_cases h16 : 16 < words
  · have e1 : c.reserveA U R words = 0 := if_pos (.inr (.inl h16))
    have e2 : c.reserveE U R words = 1 := if_pos (.inr h16)
    have e3 : c.reserveR U R words = R := if_pos (.inr (.inl h16))
    rw [e1, e2, e3]
    clear e1 e2 e3 hU hR
    have H := Lib.hid h
    clear h
    go_enter Try.func55, Try.ntmps55
    go_wp2_with fail
    refine wp_scope_ghost 0 (fun _ _ _ => False) rfl (fun _ _ _ h => h.elim) fun _ => ?_
    go_wp2_with fail
    simp only [Exit.jump]
    go_ret2
    exact ⟨rfl, H.out⟩
  have hn := (lay_ok h.right).toNear
  have hp := Cfg.near_places hn
  have hc2 : 0 ≤ c.count ∧ c.count ≤ 2048 := ⟨hp.2.2.2.2.2.2.2.2.2.1, hp.2.2.2.2.2.2.2.2.2.2.1⟩
  obtain ⟨r, hr⟩ : ∃ r, r = c.reserve U R words := ⟨_, rfl⟩
  have hrr := Cfg.resFrom_range hn U R words 4 0
  have eA : c.reserveA U R words = if r < 0 then 0 else r := by unfold Cfg.reserveA; rw [← hr]; by_cases hh : r < 0 <;> simp [hh, h1, h16]
  have eE : c.reserveE U R words = if r < 0 then 5 else 0 := by unfold Cfg.reserveE; rw [← hr]; simp [h1, h16]
  have eR : c.reserveR U R words = if r < 0 then R else setB R r true := by unfold Cfg.reserveR; rw [← hr]; by_cases hh : r < 0 <;> simp [hh, h1, h16]
  rw [eA, eE, eR]
  have HR0 : Hid (c.resFrom U R words 0 4 = r) := Lib.hid hr.symm
  have HLR := Lib.hid (fun i => Cfg.least_range hn U R i)
  have H := Lib.hid h
  clear h hn hp hr hrr eA eE eR hU hR
  go_enter Try.func55, Try.ntmps55
  go_wp2_with fail
  refine wp_scope_ghost 0 (Rsv.J E t lb c U R words r F) rfl ?_ ?_
  · rintro n a w ⟨k, hn, hk, he, hW, ha⟩
    obtain ⟨u, hu⟩ : ∃ u : Nat → Value, u = fun k => a.tmps.getD k undef := ⟨_, rfl⟩
    unfold Rsv.fr at ha
    rw [← hu] at ha
    clear hu
    unfold Rsv.arr at ha
    subst ha
    by_cases hk4 : k = 4
    · subst hk4
      have hr : r = -1 := he.symm
      subst hr
      have HW := Lib.hid hW
      clear he hW
      go_wp2_with fail
      simp only [Exit.jump]
      go_ret2
      exact ⟨rfl, HW.out⟩
    · have e4 : 4 - k = (4 - (k + 1)) + 1 := by omega
      rw [e4] at he
      unfold Cfg.resFrom at he
      have hle := HLR.out (k : Int)
      have HC := Lib.hid (least_calls w k hW)
      have hkk : ((k : Int) == 4) = false := by simp; omega
      have hsh : IntKind.i64.wrap (2 * 2 ^ k) = 2 * 2 ^ k := by
        have : k = 0 ∨ k = 1 ∨ k = 2 ∨ k = 3 := by omega
        rcases this with rfl | rfl | rfl | rfl <;> rfl
      have HW := Lib.hid hW
      clear hW
      have NXT : Hid (c.resFrom U R words (k + 1) (4 - (k + 1)) = r → ∀ a W, Sat E W (tab t lb U R * (lay lb c * F)) → Rsv.fr t words (k + 1) a → ∃ n', n' < n ∧ Rsv.J E t lb c U R words r F n' a W) := Lib.hid fun hh a W hW ha =>
        ⟨4 - (k + 1), by omega, k + 1, rfl, by omega, hh, hW, ha⟩
      have hk3 : k ≤ 3 := by omega
      generalize hL : c.least U R k = L at *
      have hLd : L = -1 ∨ (0 ≤ L ∧ L < c.count ∧ freeB U R L = true) := by
        rcases hle with h | ⟨h1, h2, h3, _⟩
        · exact .inl h
        · exact .inr ⟨h1, h2, h3⟩
      clear hle
      by_cases hsz : words ≤ 2 * 2 ^ k
      · rcases hLd with rfl | ⟨hL0, hL1, hL2⟩
        · have he2 : c.resFrom U R words (k + 1) (4 - (k + 1)) = r := by simpa using he
          have HE := Lib.hid (NXT.out he2)
          clear he he2 NXT e4 hL hn
          go_wp2_with (go_at_call 103; refine HC.out.mono ?_; rintro e w2 ⟨rfl, m2, rfl⟩)
          refine wp_goto ?_
          show (0 : Nat) = 0 ∧ _
          exact ⟨rfl, HE.out _ _ (HW.out.drewN m2) rfl⟩
        · have he2 : r = L := by rw [← he, if_pos ⟨hsz, hL0⟩]
          subst he2
          have hneg : ¬ r < 0 := by omega
          have HNEG := Lib.hid hneg
          obtain ⟨ub, rb, hs⟩ := tab_open HW.out
          have c2 : w.cell? ⟨t, 2, none⟩ = some (.pointer (some ⟨rb, 0, none⟩)) := hs.cell 2 rfl
          have hs2 := hs.ac (B := bm rb R * (pt t (.cells #[.pointer (some ⟨lb, 0, none⟩), .pointer (some ⟨ub, 0, none⟩), .pointer (some ⟨rb, 0, none⟩)] 136) * (bm ub U * (lay lb c * F)))) (by ac_rfl)
          have HS : Hid (∀ m, Calls Try.prog 104 #[.pointer (some ⟨rb, 0, none⟩), .int .i64 r, .bool true] (w.drewN m) fun e w' => e = .returned (.bool (setsB R r true)) ∧ Sat E w' (bm rb (setB R r true) * (pt t (.cells #[.pointer (some ⟨lb, 0, none⟩), .pointer (some ⟨ub, 0, none⟩), .pointer (some ⟨rb, 0, none⟩)] 136) * (bm ub U * (lay lb c * F))))) := Lib.hid fun m => mSet_calls _ r true (hs2.drewN m)
          have HM : Hid (∀ W, Sat E W (bm rb (setB R r true) * (pt t (.cells #[.pointer (some ⟨lb, 0, none⟩), .pointer (some ⟨ub, 0, none⟩), .pointer (some ⟨rb, 0, none⟩)] 136) * (bm ub U * (lay lb c * F)))) → Sat E W (tab t lb U (setB R r true) * (lay lb c * F))) := Lib.hid fun W hW => tab_mk (hW.ac (by ac_rfl))
          clear he e4 hL hs hs2 hn NXT hneg
          go_wp2_with (first | (go_at_call 103; refine HC.out.mono ?_; rintro e w2 ⟨rfl, m2, rfl⟩) | (go_at_call 104; refine (HS.out _).mono ?_; rintro e w2 ⟨rfl, h2⟩))
          simp only [Exit.jump]
          go_ret2
          rw [if_neg (Int.not_lt.2 HNEG.out), if_neg (Int.not_lt.2 HNEG.out), if_neg (Int.not_lt.2 HNEG.out)]
          exact ⟨rfl, HM.out _ h2⟩
      · have he2 : c.resFrom U R words (k + 1) (4 - (k + 1)) = r := by rw [← he, if_neg (fun h => hsz h.1)]
        have HE := Lib.hid (NXT.out he2)
        clear he he2 NXT e4 hL hn hLd
        go_wp2_with fail
        refine wp_goto ?_
        show (0 : Nat) = 0 ∧ _
        exact ⟨rfl, HE.out _ _ HW.out rfl⟩
  · intro pass
    have h16' : words ≤ 16 := by omega
    have HJ0 : Hid (∀ a, Rsv.fr t words 0 a → Rsv.J E t lb c U R words r F 4 a w) := Lib.hid fun a ha => ⟨0, rfl, by omega, HR0.out, H.out, ha⟩
    go_wp2_with fail
    refine wp_label ?_
    simp only [Exit.then]
    go_step
    exact pass _ _ _ (HJ0.out _ rfl)
end
end Scul
/- scullionlaw7: config. -/
namespace Scul
open Go Go.Sl Go.RowKit Go.Proofs
/-- A number of blocks, as the law takes it. -/
def u90 (n : Int) : Int := n % 18446744073709551616 % 90
def cfg7 (n0 n1 n2 n3 : Int) : Cfg := ⟨[[1]], if u90 n0 = 0 ∧ u90 n1 = 0 ∧ u90 n2 = 0 ∧ u90 n3 = 0 then 1 else u90 n0, u90 n1, u90 n2, u90 n3, 1, 0, 40⟩
theorem u90_go (n : Int) : wrap64 ((IntKind.u64.wrap n).tmod 90) = u90 n := by
  rw [IntKind.wrap_u64, tmod_of_emod]
  unfold wrap64 u90
  omega
theorem u90_range (n : Int) : 0 ≤ u90 n ∧ u90 n < 90 := by unfold u90; omega
theorem cfg7_may (n0 n1 n2 n3 : Int) : (cfg7 n0 n1 n2 n3).may = 0 := by
  have h0 := u90_range n0; have h1 := u90_range n1; have h2 := u90_range n2; have h3 := u90_range n3
  unfold cfg7
  generalize u90 n0 = a at *
  generalize u90 n1 = b at *
  generalize u90 n2 = c at *
  generalize u90 n3 = d at *
  refine Cfg.may_of_ok ?_
  have hx : ∃ x : Int, x = (if a = 0 ∧ b = 0 ∧ c = 0 ∧ d = 0 then 1 else a) ∧ 0 ≤ x ∧ x < 90 ∧ 0 < x + b + c + d := by
    refine ⟨_, rfl, ?_⟩
    split <;> omega
  obtain ⟨x, hx1, hx2, hx3, hx4⟩ := hx
  rw [← hx1]
  refine { k := by simp, n0 := ⟨hx2, by simp; omega⟩, n1 := ⟨h1.1, by simp; omega⟩, n2 := ⟨h2.1, by simp; omega⟩, n3 := ⟨h3.1, by simp; omega⟩, roots := by simp, weaks := by simp, log := by simp, kinds := ?_, k1 := by simp, some := ?_, roots1 := by simp, log40 := by simp, log8 := by simp, words := ?_ }
  · intro k hk
    simp at hk
    subst hk
    decide +kernel
  · show 0 < x + b + c + d
    exact hx4
  · have e6 : (Cfg.mk [[1]] x b c d 1 0 40).words = Cfg.lineOf (Cfg.lineOf (Cfg.lineOf (Cfg.lineOf 10 + 1 + 0) + (x + b + c + d + 63) / 64) + 40 + (2 * x + 4 * b + 8 * c + 16 * d)) := rfl
    rw [e6]
    unfold Cfg.lineOf
    omega
theorem eq4 (a b c d : Nat) (w : World) : (Op.equalIn 10000 65 (.agg #[.int .i64 (a : Int), .int .i64 (b : Int), .int .i64 (c : Int), .int .i64 (d : Int)]) (.agg #[.int .i64 0, .int .i64 0, .int .i64 0, .int .i64 0])).run Try.prog w = .ok (decide (a = 0 ∧ b = 0 ∧ c = 0 ∧ d = 0)) w := by
  rcases a with _ | a
  · rcases b with _ | b
    · rcases c with _ | c
      · rcases d with _ | d
        · kernel_rfl
        · rw [decide_eq_false (by omega)]; kernel_rfl
      · rw [decide_eq_false (by omega)]; kernel_rfl
    · rw [decide_eq_false (by omega)]; kernel_rfl
  · rw [decide_eq_false (by omega)]; kernel_rfl
theorem eq4i {a b c d : Int} (h0 : 0 ≤ a) (h1 : 0 ≤ b) (h2 : 0 ≤ c) (h3 : 0 ≤ d) (w : World) : (Op.equalIn 10000 65 (.agg #[.int .i64 a, .int .i64 b, .int .i64 c, .int .i64 d]) (.agg #[.int .i64 0, .int .i64 0, .int .i64 0, .int .i64 0])).run Try.prog w = .ok (decide (a = 0 ∧ b = 0 ∧ c = 0 ∧ d = 0)) w := by
  obtain ⟨a, rfl⟩ := Int.eq_ofNat_of_zero_le h0
  obtain ⟨b, rfl⟩ := Int.eq_ofNat_of_zero_le h1
  obtain ⟨c, rfl⟩ := Int.eq_ofNat_of_zero_le h2
  obtain ⟨d, rfl⟩ := Int.eq_ofNat_of_zero_le h3
  rw [eq4]
  congr 1
  rw [decide_eq_decide]
  omega
section
variable {E : Env} {w : World} {F : HP}
theorem Sat.alloc5 (h : Sat E w F) (A B C D G : Obj) : Sat E (((((w.alloc A).alloc B).alloc C).alloc D).alloc G) (pt (w.heap.size + 1 + 1 + 1 + 1) G * (pt (w.heap.size + 1 + 1 + 1) D * (pt (w.heap.size + 1 + 1) C * (pt (w.heap.size + 1) B * (pt w.heap.size A * F))))) := by
  have h4 := ((((h.alloc A).alloc B).alloc C).alloc D).alloc G
  simpa only [World.size_alloc] using h4
set_option maxRecDepth 100000 in
set_option maxHeartbeats 2000000 in
theorem config7_calls (w : World) (n0 n1 n2 n3 : Int) (hs : Sat E w F) :
    Calls Try.prog 46 #[.agg #[.int .i64 n0, .int .i64 n1, .int .i64 n2, .int .i64 n3]] w fun e w' => ∃ kv ks, e = .returned (.agg (cfgCells kv (cfg7 n0 n1 n2 n3))) ∧ ks.map (·.2) = (cfg7 n0 n1 n2 n3).kinds ∧ (∃ a cc, kv = .slice a ks.length cc) ∧ Sat E w' (kindsR kv ks * F) := by
  obtain ⟨g, hg⟩ : ∃ g, g = w.heap.size := ⟨_, rfl⟩
  obtain ⟨R, hR⟩ : ∃ R : Int → Int → Int → Int → HP, R = fun b0 b1 b2 b3 => pt (g + 1 + 1 + 1 + 1) (.cells #[.slice (some ⟨g + 1 + 1 + 1, 0, none⟩) 1 1, .int .i64 b0, .int .i64 b1, .int .i64 b2, .int .i64 b3, .int .i64 1, .int .i64 0, .int .i64 40] 72) * (pt (g + 1 + 1 + 1) (.cells #[.slice (some ⟨g + 1 + 1, 0, none⟩) 1 1] 133) * (pt (g + 1 + 1) (.cells #[.int .i64 1] 3) * (pt (g + 1) (.cells #[.slice none 0 0, .int .i64 0, .int .i64 0, .int .i64 0, .int .i64 0, .int .i64 0, .int .i64 0, .int .i64 0] 72) * (pt g (.cells #[.int .i64 n0, .int .i64 n1, .int .i64 n2, .int .i64 n3] 65) * F)))) := ⟨_, rfl⟩
  have HS : Hid (Sat E _ (R 0 0 0 0)) := Lib.hid (by rw [hR, hg]; exact Sat.alloc5 hs (.cells #[.int .i64 n0, .int .i64 n1, .int .i64 n2, .int .i64 n3] 65) (.cells #[.slice none 0 0, .int .i64 0, .int .i64 0, .int .i64 0, .int .i64 0, .int .i64 0, .int .i64 0, .int .i64 0] 72) (.cells #[.int .i64 1] 3) (.cells #[.slice (some ⟨w.heap.size + 1 + 1, 0, none⟩) 1 1] 133) (.cells #[.slice (some ⟨w.heap.size + 1 + 1 + 1, 0, none⟩) 1 1, .int .i64 0, .int .i64 0, .int .i64 0, .int .i64 0, .int .i64 1, .int .i64 0, .int .i64 40] 72))
  have HR := Lib.hid hR
  have HG := Lib.hid hg
  have HN : Hid (∀ b0 b1 b2 b3 W, Sat E W (R b0 b1 b2 b3) → (W.cell? ⟨w.heap.size, 0, none⟩ = some (.int .i64 n0) ∧ W.cell? ⟨w.heap.size, 1, none⟩ = some (.int .i64 n1) ∧ W.cell? ⟨w.heap.size, 2, none⟩ = some (.int .i64 n2) ∧ W.cell? ⟨w.heap.size, 3, none⟩ = some (.int .i64 n3)) ∧ CfgAt W (w.heap.size + 1 + 1 + 1 + 1) (.slice (some ⟨w.heap.size + 1 + 1 + 1, 0, none⟩) 1 1) ⟨[[1]], b0, b1, b2, b3, 1, 0, 40⟩ ∧ ∀ i, W.frozen? ⟨w.heap.size + 1 + 1 + 1 + 1, i, none⟩ = false) := Lib.hid fun b0 b1 b2 b3 W hW => by
    rw [hR, hg] at hW
    have h5 := hW.right.right.right.right
    exact ⟨⟨h5.cell 0 rfl, h5.cell 1 rfl, h5.cell 2 rfl, h5.cell 3 rfl⟩, cfg_at hW, fun i => hW.free i⟩
  have HW0 : Hid (∀ b0 b1 b2 b3 x W, Sat E W (R b0 b1 b2 b3) → Sat E (W.setCell ⟨w.heap.size + 1 + 1 + 1 + 1, 1, none⟩ (.int .i64 x)) (R x b1 b2 b3)) := Lib.hid fun b0 b1 b2 b3 x W hW => by rw [hR, hg] at hW ⊢; exact hW.setCell
  have HW1 : Hid (∀ b0 b1 b2 b3 x W, Sat E W (R b0 b1 b2 b3) → Sat E (W.setCell ⟨w.heap.size + 1 + 1 + 1 + 1, 2, none⟩ (.int .i64 x)) (R b0 x b2 b3)) := Lib.hid fun b0 b1 b2 b3 x W hW => by rw [hR, hg] at hW ⊢; exact hW.setCell
  have HW2 : Hid (∀ b0 b1 b2 b3 x W, Sat E W (R b0 b1 b2 b3) → Sat E (W.setCell ⟨w.heap.size + 1 + 1 + 1 + 1, 3, none⟩ (.int .i64 x)) (R b0 b1 x b3)) := Lib.hid fun b0 b1 b2 b3 x W hW => by rw [hR, hg] at hW ⊢; exact hW.setCell
  have HW3 : Hid (∀ b0 b1 b2 b3 x W, Sat E W (R b0 b1 b2 b3) → Sat E (W.setCell ⟨w.heap.size + 1 + 1 + 1 + 1, 4, none⟩ (.int .i64 x)) (R b0 b1 b2 x)) := Lib.hid fun b0 b1 b2 b3 x W hW => by rw [hR, hg] at hW ⊢; exact hW.setCell
  clear hs hg hR
  go_enter Try.func46, Try.ntmps46
  go_wp2_with fail
  go_loopw [9] (fun iv wr => ∃ (k b0 b1 b2 b3 : Int), iv = .int .i64 k ∧ ((k = 0 ∧ b0 = 0 ∧ b1 = 0 ∧ b2 = 0 ∧ b3 = 0) ∨ (k = 1 ∧ b0 = u90 n0 ∧ b1 = 0 ∧ b2 = 0 ∧ b3 = 0) ∨ (k = 2 ∧ b0 = u90 n0 ∧ b1 = u90 n1 ∧ b2 = 0 ∧ b3 = 0) ∨ (k = 3 ∧ b0 = u90 n0 ∧ b1 = u90 n1 ∧ b2 = u90 n2 ∧ b3 = 0) ∨ (k = 4 ∧ b0 = u90 n0 ∧ b1 = u90 n1 ∧ b2 = u90 n2 ∧ b3 = u90 n3)) ∧ Sat E wr (R b0 b1 b2 b3)) (fun iv _ => 4 - (intOf iv).toNat)
  case atStart => exact ⟨0, 0, 0, 0, 0, rfl, .inl ⟨rfl, rfl, rfl, rfl, rfl⟩, HS.out⟩
  case round =>
    obtain ⟨k, b0, b1, b2, b3, rfl, hc, hw⟩ := hrel
    have HW := Lib.hid hw
    obtain ⟨⟨a0, a1, a2, a3⟩, ⟨k0, k1, k2, k3, k4, k5, k6, k7⟩, fz⟩ := HN.out _ _ _ _ _ hw
    simp only at k1 k2 k3 k4 k5 k6 k7
    have f1 := fz 1; have f2 := fz 2; have f3 := fz 3; have f4 := fz 4
    clear hw HS fz
    rcases hc with ⟨rfl, rfl, rfl, rfl, rfl⟩ | ⟨rfl, rfl, rfl, rfl, rfl⟩ | ⟨rfl, rfl, rfl, rfl, rfl⟩ | ⟨rfl, rfl, rfl, rfl, rfl⟩ | ⟨rfl, rfl, rfl, rfl, rfl⟩
    · go_wp2_with fail
      rw [u90_go]
      exact ⟨⟨1, _, _, _, _, rfl, .inr (.inl ⟨rfl, rfl, rfl, rfl, rfl⟩), HW0.out _ _ _ _ _ _ HW.out⟩, by simp [intOf]⟩
    · go_wp2_with fail
      rw [u90_go]
      exact ⟨⟨2, _, _, _, _, rfl, .inr (.inr (.inl ⟨rfl, rfl, rfl, rfl, rfl⟩)), HW1.out _ _ _ _ _ _ HW.out⟩, by simp [intOf]⟩
    · go_wp2_with fail
      rw [u90_go]
      exact ⟨⟨3, _, _, _, _, rfl, .inr (.inr (.inr (.inl ⟨rfl, rfl, rfl, rfl, rfl⟩))), HW2.out _ _ _ _ _ _ HW.out⟩, by simp [intOf]⟩
    · go_wp2_with fail
      rw [u90_go]
      exact ⟨⟨4, _, _, _, _, rfl, .inr (.inr (.inr (.inr ⟨rfl, rfl, rfl, rfl, rfl⟩))), HW3.out _ _ _ _ _ _ HW.out⟩, by simp [intOf]⟩
    · have r0 := u90_range n0; have r1 := u90_range n1; have r2 := u90_range n2; have r3 := u90_range n3
      have heq := eq4i r0.1 r1.1 r2.1 r3.1
      obtain ⟨C0, hC0⟩ : ∃ C0 : Int, C0 = if u90 n0 = 0 ∧ u90 n1 = 0 ∧ u90 n2 = 0 ∧ u90 n3 = 0 then 1 else u90 n0 := ⟨_, rfl⟩
      have HC0 := Lib.hid hC0
      obtain ⟨Z, hZ⟩ : ∃ Z, Z = decide (u90 n0 = 0 ∧ u90 n1 = 0 ∧ u90 n2 = 0 ∧ u90 n3 = 0) := ⟨_, rfl⟩
      rw [← hZ] at heq
      have HZ := Lib.hid hZ
      clear r0 r1 r2 r3 hC0 hZ
      go_upto_if 25 with fail
      go_cut [] (fun wx => Sat E wx (R C0 (u90 n1) (u90 n2) (u90 n3)))
      case first =>
        cases Z with
        | true =>
          have e : C0 = 1 := by rw [HC0.out, if_pos (of_decide_eq_true HZ.out.symm)]
          subst e
          go_wp2_with fail
          go_meet
          exact HW0.out _ _ _ _ _ _ HW.out
        | false =>
          have e : C0 = u90 n0 := by rw [HC0.out, if_neg (of_decide_eq_false HZ.out.symm)]
          subst e
          go_wp2_with fail
          go_meet
          exact HW.out
      case rest =>
        clear heq HW k0 k1 k2 k3 k4 k5 k6 k7 f1 f2 f3 f4 a0 a1 a2 a3
        rename World => W
        obtain ⟨_, ⟨k0, k1, k2, k3, k4, k5, k6, k7⟩, _⟩ := HN.out _ _ _ _ _ hcut
        simp only at k1 k2 k3 k4 k5 k6 k7
        have h2 := hcut
        rw [HR.out, HG.out] at h2
        have h3 : Sat E W (pt (w.heap.size + 1) (.cells #[.slice none 0 0, .int .i64 0, .int .i64 0, .int .i64 0, .int .i64 0, .int .i64 0, .int .i64 0, .int .i64 0] 72) * (pt (w.heap.size + 1 + 1 + 1) (.cells #[.slice (some ⟨w.heap.size + 1 + 1, 0, none⟩) 1 1] 133) * (pt (w.heap.size + 1 + 1) (.cells #[.int .i64 1] 3) * (pt (w.heap.size + 1 + 1 + 1 + 1) (.cells #[.slice (some ⟨w.heap.size + 1 + 1 + 1, 0, none⟩) 1 1, .int .i64 C0, .int .i64 (u90 n1), .int .i64 (u90 n2), .int .i64 (u90 n3), .int .i64 1, .int .i64 0, .int .i64 40] 72) * (pt w.heap.size (.cells #[.int .i64 n0, .int .i64 n1, .int .i64 n2, .int .i64 n3] 65) * F))))) := h2.ac (by ac_rfl)
        clear h2 hcut
        have d0 := h3.cell 0 rfl; have d1 := h3.cell 1 rfl; have d2 := h3.cell 2 rfl; have d3 := h3.cell 3 rfl
        have d4 := h3.cell 4 rfl; have d5 := h3.cell 5 rfl; have d6 := h3.cell 6 rfl; have d7 := h3.cell 7 rfl
        have f0 := h3.free 0; have f1 := h3.free 1; have f2 := h3.free 2; have f3 := h3.free 3
        have f4 := h3.free 4; have f5 := h3.free 5; have f6 := h3.free 6; have f7 := h3.free 7
        have h14 := (((((((h3.setCell (i := 0) (v := .slice (some ⟨w.heap.size + 1 + 1 + 1, 0, none⟩) 1 1)).setCell (i := 1) (v := .int .i64 C0)).setCell (i := 2) (v := .int .i64 (u90 n1))).setCell (i := 3) (v := .int .i64 (u90 n2))).setCell (i := 4) (v := .int .i64 (u90 n3))).setCell (i := 5) (v := .int .i64 1)).setCell (i := 6) (v := .int .i64 0)).setCell (i := 7) (v := .int .i64 40)
        have H14 := Lib.hid h14
        clear h3 h14
        go_wp2_with fail
        have h14 := H14.out
        simp only [List.setIfInBounds_toArray, List.set_cons_zero, List.set_cons_succ] at h14
        refine bodyPost_ret (results_cell_row rfl _ _ (w.heap.size + 1) _ _ _ _ rfl h14.at Try.underlying72 (by rfl) (by kernel_rfl)) rfl ?_
        refine ⟨.slice (some ⟨w.heap.size + 1 + 1 + 1, 0, none⟩) 1 1, [(.slice (some ⟨w.heap.size + 1 + 1, 0, none⟩) 1 1, [1])], ?_, rfl, ⟨some ⟨w.heap.size + 1 + 1 + 1, 0, none⟩, 1, rfl⟩, ?_⟩
        · rw [HC0.out]; rfl
        · have h2 := h14.right
          have h3 := Sat.row_mk (n := 1) (cap := 1) (size := 1) (cs := [Value.slice (some ⟨w.heap.size + 1 + 1, 0, none⟩) 1 1]) h2 (Nat.le_refl _) (by simp [maxLen]) rfl rfl
          have h5 := Sat.row_mk (n := 1) (cap := 1) (size := 1) (cs := [Value.int .i64 1]) (Sat.swap h3) (Nat.le_refl _) (by simp [maxLen]) rfl rfl
          have h6 : Sat E _ (pt (w.heap.size + 1 + 1 + 1 + 1) (.cells #[.slice (some ⟨w.heap.size + 1 + 1 + 1, 0, none⟩) 1 1, .int .i64 C0, .int .i64 (u90 n1), .int .i64 (u90 n2), .int .i64 (u90 n3), .int .i64 1, .int .i64 0, .int .i64 40] 72) * (pt w.heap.size (.cells #[.int .i64 n0, .int .i64 n1, .int .i64 n2, .int .i64 n3] 65) * (row 133 1 (.slice (some ⟨w.heap.size + 1 + 1 + 1, 0, none⟩) 1 1) 1 [Value.slice (some ⟨w.heap.size + 1 + 1, 0, none⟩) 1 1] * (row 3 1 (.slice (some ⟨w.heap.size + 1 + 1, 0, none⟩) 1 1) 1 [Value.int .i64 1] * F)))) := h5.ac (by ac_rfl)
          show Sat E _ (row 133 1 _ 1 _ * (row 3 1 _ 1 _ * emp) * F)
          rw [sep_emp, sep_assoc]
          exact h6.right.right
end
end Scul
/- scullionlaw7: awake; what the laws lay first. -/
namespace Scul
open Go Go.Sl Go.RowKit Go.Proofs
section
variable {E : Env} {w : World} {F : HP} {lb : Nat} {c : Cfg}
set_option maxHeartbeats 1000000 in
theorem blkNewNil_calls (w : World) (h : Sat E w (lay lb c * F)) :
    Calls Try.prog 47 #[.pointer (some ⟨lb, 0, none⟩), .pointer none] w fun e w' => ∃ t, e = .returned (.pointer (some ⟨t, 0, none⟩)) ∧ Sat E w' (tab t lb (List.replicate c.count.toNat false) (List.replicate c.count.toNat false) * (lay lb c * F)) := by
  have hn := (lay_ok h).toNear
  have hp := Cfg.near_places hn
  have hc2 : 0 ≤ c.count ∧ c.count ≤ 2048 := hp.2.2.2.2.2.2.2.2.2
    |> fun h => ⟨h.1, h.2.1⟩
  have HB := Lib.hid (fun W (hW : Sat E W (lay lb c * F)) => blocks_calls W hW)
  have HB2 : Hid (∀ W b2, Sat E W (bm b2 (List.replicate c.count.toNat false) * (lay lb c * F)) → Calls Try.prog 50 #[.pointer (some ⟨lb, 0, none⟩)] W fun e w' => e = .returned (.int .i64 c.count) ∧ ∃ m, w' = W.drewN m) := Lib.hid fun W b2 hW => blocks_calls W hW.right
  have HW1 := Lib.hid mWordsNil_calls
  have hcl : clampB c.count = c.count.toNat := by unfold clampB; omega
  have HO : Hid (∀ W, Sat E W (lay lb c * F) → Calls Try.prog 48 #[.int .i64 c.count, .slice none 0 0] W fun e w' => ∃ b, e = .returned (.pointer (some ⟨b, 0, none⟩)) ∧ Sat E w' (bm b (List.replicate c.count.toNat false) * (lay lb c * F))) := Lib.hid fun W hW =>
    (mOf_calls W c.count [] (.slice none 0 0) (by simp) (fun W' hW' => ⟨rfl, Nat.zero_le _, .inl ⟨rfl, none, 0, rfl, fun _ => rfl⟩⟩) hW).mono fun e w' ⟨b, he, h⟩ => ⟨b, he, by rw [hcl, unpack_nil] at h; exact h⟩
  have HN : Hid (∀ W b2, Sat E W (bm b2 (List.replicate c.count.toNat false) * (lay lb c * F)) → Calls Try.prog 99 #[.int .i64 c.count] W fun e w' => ∃ b, e = .returned (.pointer (some ⟨b, 0, none⟩)) ∧ Sat E w' (bm b (List.replicate c.count.toNat false) * (bm b2 (List.replicate c.count.toNat false) * (lay lb c * F)))) := Lib.hid fun W b2 hW => by
    have := mNew_calls W c.count hW
    rwa [hcl] at this
  have H := Lib.hid h
  clear h hn hp hcl
  go_enter Try.func47, Try.ntmps47
  go_wp2_with fail
  refine (HB.out _ H.out).mono ?_
  rintro e w1 ⟨rfl, m1, rfl⟩
  go_wp2_with fail
  refine (HW1.out _).mono ?_
  rintro e w2 ⟨rfl, rfl⟩
  go_wp2_with fail
  refine (HO.out _ (H.out.drewN m1)).mono ?_
  rintro e w3 ⟨b3, rfl, h3⟩
  go_wp2_with fail
  refine (HB2.out _ _ h3).mono ?_
  rintro e w4 ⟨rfl, m4, rfl⟩
  go_wp2_with fail
  refine (HN.out _ _ (h3.drewN m4)).mono ?_
  rintro e w5 ⟨b5, rfl, h5⟩
  have h6 := h5.alloc (.cells #[.pointer (some ⟨lb, 0, none⟩), .pointer (some ⟨b3, 0, none⟩), .pointer (some ⟨b5, 0, none⟩)] 136)
  have H7 := Lib.hid (tab_mk (lb := lb) (ub := b3) (rb := b5) (U := List.replicate c.count.toNat false) (R := List.replicate c.count.toNat false) (F := lay lb c * F) (h6.ac (by ac_rfl)))
  clear h5 h6 h3
  go_wp2_with fail
  go_ret
  exact ⟨_, rfl, H7.out⟩
set_option maxRecDepth 100000 in
set_option maxHeartbeats 1000000 in
theorem awake7_calls (w : World) (hs : Sat E w F) :
    Calls Try.prog 49 #[] w fun e w' => e = .returned (.bool true) ∧ Sat E w' F := by
  have e1 : cfg7 1 1 0 0 = ⟨[[1]], 1, 1, 0, 0, 1, 0, 40⟩ := by kernel_rfl
  obtain ⟨c, hc⟩ : ∃ c, c = cfg7 1 1 0 0 := ⟨_, rfl⟩
  have hm := cfg7_may 1 1 0 0
  rw [← hc] at hm
  have HCF := Lib.hid (fun W (hW : Sat E W F) => config7_calls W 1 1 0 0 hW)
  rw [← hc] at HCF
  have HNW : Hid (∀ W kv ks, ks.map (·.2) = c.kinds → Sat E W (kindsR kv ks * F) → Calls Try.prog 45 #[.agg (cfgCells kv c)] W fun e w' => ∃ b, e = .returned (.tuple #[.pointer (some ⟨b, 0, none⟩), .int .i64 0]) ∧ Sat E w' (lay b c * (kindsR kv ks * F))) := Lib.hid fun W kv ks hk hW => layNew_calls W c ks kv (fun W' hW' => kindsR_rd hW') hk hW hm
  obtain ⟨Z, hZ⟩ : ∃ Z : List Bool, Z = List.replicate c.count.toNat false := ⟨_, rfl⟩
  have hZ2 : Z = [false, false] := by rw [hZ, hc, e1]; decide +kernel
  have hZl : Z.length = c.count.toNat := by rw [hZ, List.length_replicate]
  obtain ⟨R1, hR1⟩ : ∃ R1, R1 = c.reserveR Z Z 2 := ⟨_, rfl⟩
  obtain ⟨R2, hR2⟩ : ∃ R2, R2 = c.reserveR Z R1 2 := ⟨_, rfl⟩
  have hl1 : R1.length = c.count.toNat := by rw [hR1, hZ2, hc, e1]; decide +kernel
  have hl2 : R2.length = c.count.toNat := by rw [hR2, hR1, hZ2, hc, e1]; decide +kernel
  have v1 : c.reserveA Z Z 2 = 0 ∧ c.reserveE Z Z 2 = 0 := by rw [hZ2, hc, e1]; decide +kernel
  have v2 : c.reserveA Z R1 2 = 1 ∧ c.reserveE Z R1 2 = 0 := by rw [hR1, hZ2, hc, e1]; decide +kernel
  have v3 : c.reserveE Z R2 1 = 5 := by rw [hR2, hR1, hZ2, hc, e1]; decide +kernel
  have HRS : Hid (∀ t lb R words (G : HP) W, R.length = c.count.toNat → Sat E W (tab t lb Z R * (lay lb c * G)) → Calls Try.prog 55 #[.pointer (some ⟨t, 0, none⟩), .int .i64 words] W fun e w' => e = .returned (.tuple #[.int .i64 (c.reserveA Z R words), .int .i64 (c.reserveE Z R words)]) ∧ Sat E w' (tab t lb Z (c.reserveR Z R words) * (lay lb c * G))) := Lib.hid fun t lb R words G W hl hW => reserve_calls W words hZl hl hW
  have HBN : Hid (∀ lb (G : HP) W, Sat E W (lay lb c * G) → Calls Try.prog 47 #[.pointer (some ⟨lb, 0, none⟩), .pointer none] W fun e w' => ∃ t, e = .returned (.pointer (some ⟨t, 0, none⟩)) ∧ Sat E w' (tab t lb Z Z * (lay lb c * G))) := Lib.hid fun lb G W hW => by rw [hZ]; exact blkNewNil_calls W hW
  have HS := Lib.hid hs
  clear hs hZ2 hZ hc e1 hm
  go_enter Try.func49, Try.ntmps49
  go_wp2_with fail
  refine (HCF.out _ HS.out).mono ?_
  rintro e w1 ⟨kv, ks, rfl, hk, ⟨ka, kc, rfl⟩, h1⟩
  go_wp2_with fail
  refine (HNW.out _ _ _ hk h1).mono ?_
  rintro e w2 ⟨lb, rfl, h2⟩
  clear h1
  go_wp2_with fail
  refine (HBN.out _ _ _ h2).mono ?_
  rintro e w3 ⟨t, rfl, h3⟩
  clear h2
  go_wp2_with fail
  refine (HRS.out _ _ _ 2 _ _ hZl h3).mono ?_
  rintro e w4 ⟨rfl, h4⟩
  rw [v1.1, v1.2]
  rw [← hR1] at h4
  clear h3
  go_wp2_with fail
  refine (HRS.out _ _ _ 2 _ _ hl1 h4).mono ?_
  rintro e w5 ⟨rfl, h5⟩
  rw [v2.1, v2.2]
  rw [← hR2] at h5
  clear h4
  go_wp2_with fail
  refine (HRS.out _ _ _ 1 _ _ hl2 h5).mono ?_
  rintro e w6 ⟨rfl, h6⟩
  rw [v3]
  generalize c.reserveA Z R2 1 = a6
  have H6 := Lib.hid h6.right.right.right
  clear h5 h6 v1 v2 v3
  go_wp2_with fail
  go_ret
  exact ⟨rfl, H6.out⟩
end
end Scul
/- Blocks: what Reserve tells, plain. -/
namespace Scul
namespace Cfg
variable (c : Cfg)
/-- Is block b free, and big enough? -/
def fitsB (U R : List Bool) (words b : Int) : Bool := decide (words ≤ 2 * 2 ^ (c.cls b).toNat) && freeB U R b
theorem cls_first {c : Cfg} (h : c.Near) (k : Nat) (hk : k < 4) (b : Int) (h1 : c.first k ≤ b) (h2 : b < c.first (k + 1)) : c.cls b = k := by
  rw [cls_in h b k (by omega), from_first c k hk, upto_first c k hk]
  exact ⟨by omega, h1, h2⟩
theorem first_four : c.first 4 = c.count := by simp [first, count]
theorem resFrom_spec {c : Cfg} (h : c.Near) (U R : List Bool) (words : Int) (n k : Nat) (hk : k + n = 4) :
    (c.resFrom U R words k n = -1 ∧ ∀ b, c.first k ≤ b → b < c.count → c.fitsB U R words b = false) ∨
    (c.first k ≤ c.resFrom U R words k n ∧ c.resFrom U R words k n < c.count ∧ c.fitsB U R words (c.resFrom U R words k n) = true ∧ ∀ b, c.first k ≤ b → b < c.resFrom U R words k n → c.fitsB U R words b = false) := by
  induction n generalizing k with
  | zero =>
    left
    obtain rfl : k = 4 := by omega
    refine ⟨rfl, fun b h1 h2 => ?_⟩
    rw [first_four] at h1
    omega
  | succ n ih =>
    have hk4 : k < 4 := by omega
    have hfr := first_range h k
    have hfs := first_succ c k hk4
    have hbr := blk_range h k
    have hup : c.first (k + 1) ≤ c.count := by
      have := (upto_from h k).2.2
      rwa [upto_first c k hk4] at this
    have hl := leastFrom_spec U R (c.from_ k) (c.upto k - c.from_ k).toNat (upto_from h k).1
    have hle : leastFrom U R (c.from_ k) (c.upto k - c.from_ k).toNat = c.least U R k := rfl
    rw [hle, from_first c k hk4] at hl
    rw [upto_first c k hk4] at hl
    have ih' := ih (k + 1) (by omega)
    unfold resFrom
    by_cases hc : words ≤ 2 * 2 ^ k ∧ 0 ≤ c.least U R k
    · rw [if_pos hc]
      right
      rcases hl with ⟨h1, _⟩ | ⟨h1, h2, h3, h4⟩
      · omega
      · have hcls := cls_first h k hk4 (c.least U R k) h1 (by omega)
        refine ⟨h1, by omega, ?_, fun b hb1 hb2 => ?_⟩
        · unfold fitsB
          rw [hcls, h3, Int.toNat_natCast, decide_eq_true hc.1]; rfl
        · unfold fitsB
          rw [h4 b hb1 hb2, Bool.and_false]
    · rw [if_neg hc]
      have hno : ∀ b, c.first k ≤ b → b < c.first (k + 1) → c.fitsB U R words b = false := by
        intro b hb1 hb2
        have hcls := cls_first h k hk4 b hb1 hb2
        unfold fitsB
        rw [hcls, Int.toNat_natCast]
        by_cases hw : words ≤ 2 * 2 ^ k
        · rcases hl with ⟨h1, h2⟩ | ⟨h1, _, _, _⟩
          · rw [h2 b hb1 (by omega), Bool.and_false]
          · exact (hc ⟨hw, by omega⟩).elim
        · rw [decide_eq_false hw, Bool.false_and]
      rcases ih' with ⟨h1, h2⟩ | ⟨h1, h2, h3, h4⟩
      · left
        refine ⟨h1, fun b hb1 hb2 => ?_⟩
        by_cases hb : b < c.first (k + 1)
        · exact hno b hb1 hb
        · exact h2 b (by omega) hb2
      · right
        refine ⟨by omega, h2, h3, fun b hb1 hb2 => ?_⟩
        by_cases hb : b < c.first (k + 1)
        · exact hno b hb1 hb
        · exact h4 b (by omega) hb2
theorem reserve_spec {c : Cfg} (h : c.Near) (U R : List Bool) (words : Int) :
    (c.reserve U R words = -1 ∧ ∀ b, 0 ≤ b → b < c.count → c.fitsB U R words b = false) ∨
    (0 ≤ c.reserve U R words ∧ c.reserve U R words < c.count ∧ c.fitsB U R words (c.reserve U R words) = true ∧ ∀ b, 0 ≤ b → b < c.reserve U R words → c.fitsB U R words b = false) :=
  resFrom_spec h U R words 4 0 rfl
theorem reserveR_length (U R : List Bool) (words : Int) : (c.reserveR U R words).length = R.length := by
  unfold reserveR
  split
  · rfl
  · exact setB_length _ _ _
end Cfg
/-- A number of words, as the law takes it. -/
def u16 (n : Int) : Int := n % 18446744073709551616 % 16 + 1
theorem u16_range (n : Int) : 1 ≤ u16 n ∧ u16 n ≤ 16 := by unfold u16; omega
end Scul
/- Blocks: what a reservation changes, plain. -/
namespace Scul
theorem setB_back {R : List Bool} {r : Int} (h : getB R r = false) : setB (setB R r true) r false = R := by
  unfold setB
  by_cases hr : 0 ≤ r ∧ r < R.length
  · rw [if_pos hr, if_pos (by simpa using hr), List.set_set]
    obtain ⟨k, rfl⟩ := Int.eq_ofNat_of_zero_le hr.1
    rw [getB_nat] at h
    rw [Int.toNat_natCast]
    refine List.ext_getElem? fun j => ?_
    rw [List.getElem?_set]
    split
    · rename_i e
      subst e
      rw [if_pos (by omega), List.getElem?_eq_getElem (by omega)]
      rw [List.getD_eq_getElem?_getD, List.getElem?_eq_getElem (by omega)] at h
      simp only [Option.getD_some] at h
      rw [h]
    · rfl
  · rw [if_neg hr, if_neg hr]
theorem freeB_set {U R : List Bool} {r b : Int} (hr : 0 ≤ r ∧ r < R.length) : freeB U (setB R r true) b = (freeB U R b && decide (b ≠ r)) := by
  unfold freeB
  rw [getB_setB]
  by_cases e : r = b
  · subst e; rw [if_pos ⟨rfl, hr⟩]; simp
  · rw [if_neg (fun h => e h.1)]
    have : decide (b ≠ r) = true := by simpa using fun h : b = r => e h.symm
    rw [this, Bool.and_true]
theorem freeFrom_set {U R : List Bool} {r : Int} (hr : 0 ≤ r ∧ r < R.length) (hf : freeB U R r = true) (f : Int) (n : Nat) : freeFrom U (setB R r true) f n = freeFrom U R f n - if f ≤ r ∧ r < f + n then 1 else 0 := by
  induction n with
  | zero => simp only [freeFrom]; rw [if_neg (by omega)]; rfl
  | succ n ih =>
    simp only [freeFrom]
    rw [ih, freeB_set hr]
    by_cases e : f + (n : Int) = r
    · rw [e, hf]
      have e1 : ¬ (f ≤ r ∧ r < r) := by omega
      have e2 : f ≤ r ∧ r < f + ((n + 1 : Nat) : Int) := by omega
      rw [if_neg e1, if_pos e2]
      simp
    · have e3 : decide (f + (n : Int) ≠ r) = true := by simpa using e
      rw [e3, Bool.and_true]
      generalize (if freeB U R (f + (n : Int)) = true then (1 : Int) else 0) = y
      by_cases e4 : f ≤ r ∧ r < f + n
      · rw [if_pos e4, if_pos (by omega)]; omega
      · rw [if_neg e4, if_neg (by omega)]; omega
namespace Cfg
/-- A block reserved: its class has one free block less. -/
theorem free_reserved {c : Cfg} (h : c.Near) {U R : List Bool} {r : Int} (hl : R.length = c.count.toNat) (hr : 0 ≤ r ∧ r < c.count) (hf : freeB U R r = true) : c.free U (setB R r true) (c.cls r) = c.free U R (c.cls r) - 1 := by
  have hc := cls_range c r
  have hc0 : 0 ≤ c.cls r := by
    have := cls_neg h r
    omega
  obtain ⟨_, h1, h2⟩ := (cls_in h r (c.cls r) hc0).1 rfl
  have hu := upto_from h (c.cls r)
  unfold free
  rw [freeFrom_set ⟨hr.1, by omega⟩ hf, if_pos (by omega)]
theorem reserve_R {c : Cfg} {U R : List Bool} {x : Int} (h1 : 1 ≤ x) (h2 : x ≤ 16) : c.reserveR U R x = if c.reserve U R x < 0 then R else setB R (c.reserve U R x) true := by
  unfold reserveR
  by_cases h : c.reserve U R x < 0
  · rw [if_pos (.inr (.inr h)), if_pos h]
  · rw [if_neg (by omega), if_neg h]
end Cfg
end Scul
/- An array of four ints that comes in. -/
namespace Scul
open Go Go.Sl Go.RowKit Go.Proofs Go.ChangeShapes
set_option maxRecDepth 20000 in
theorem open_a4 {H : Type} {enc : TypeId × Value → H} {w : World} {r : Reach} {b0 base : Nat} {spare : Nat → Bool} {held : Bool} {v : Value} {d : DataW H} {ps : List MemPlace}
    (hv : Value.okWide Try.prog w r b0 65 v) (h : DataW.Trod enc Try.prog w base spare held 65 v d ps) :
    ∃ a b c e : Int, v = .agg #[.int .i64 a, .int .i64 b, .int .i64 c, .int .i64 e] := by
  simp only [Value.okWide, Try.underlying65] at hv
  obtain ⟨cs, rfl, hsz, _⟩ := hv
  have h4 : cs.toList.length = 4 := by rw [Array.length_toList, hsz]; kernel_rfl
  obtain ⟨c0, c1, c2, c3, hcs⟩ := list4 h4
  obtain ⟨fuel, hf⟩ := h
  have hcell : (Value.agg cs).cells.toList = [c0, c1, c2, c3] := hcs
  rw [hcell] at hf
  obtain ⟨y0, y1, y2, y3, n, _, t0, t1, t2, t3⟩ := trod_array4 Try.underlying65 (by kernel_rfl) hf
  obtain ⟨z0, e0, _, _⟩ := DataW.trod_int Try.underlying3 t0
  obtain ⟨z1, e1, _, _⟩ := DataW.trod_int Try.underlying3 t1
  obtain ⟨z2, e2, _, _⟩ := DataW.trod_int Try.underlying3 t2
  obtain ⟨z3, e3, _, _⟩ := DataW.trod_int Try.underlying3 t3
  simp only [List.cons.injEq, and_true] at e0 e1 e2 e3
  subst e0 e1 e2 e3
  refine ⟨z0, z1, z2, z3, ?_⟩
  congr 1
  exact Array.ext' hcs
end Scul
/- What the block laws lay first: steps with the new memory that is no more of use dropped. -/
namespace Scul
open Go Go.Sl Go.RowKit Go.Proofs
theorem u16_go (n : Int) : wrap64 (wrap64 ((IntKind.u64.wrap n).tmod 16) + 1) = u16 n := by
  rw [IntKind.wrap_u64, tmod_of_emod]
  unfold wrap64 u16
  omega
/-- Reserve's answers, of numbers that may be. -/
theorem reserve_in (c : Cfg) (U R : List Bool) (x : Int) (h1 : 1 ≤ x) (h2 : x ≤ 16) : c.reserveA U R x = (if c.reserve U R x < 0 then 0 else c.reserve U R x) ∧ c.reserveE U R x = if c.reserve U R x < 0 then 5 else 0 := by
  unfold Cfg.reserveA Cfg.reserveE
  have e : ¬ (x < 1 ∨ 16 < x) := by omega
  constructor
  · by_cases h : c.reserve U R x < 0
    · rw [if_pos (.inr (.inr h)), if_pos h]
    · rw [if_neg (by omega), if_neg h]
  · rw [if_neg e]
section
variable {E : Env} {w : World} {F : HP} {lb : Nat} {c : Cfg}
theorem r6size_calls (w : World) (i : Int) (h0 : 0 ≤ i) (h1 : i < 4) : Calls Try.prog 51 #[.int .i64 i] w fun e w' => e = .returned (.int .i64 (2 * 2 ^ i.toNat)) ∧ w' = w := by
  have : i = 0 ∨ i = 1 ∨ i = 2 ∨ i = 3 := by omega
  rcases this with rfl | rfl | rfl | rfl <;>
  · go_enter Try.func51, Try.ntmps51
    go_wp2_with fail
    go_ret
    exact ⟨rfl, rfl⟩
theorem layNewD_calls (w : World) (c : Cfg) (ks : List (Value × List Int)) (kv : Value) (hk : ks.map (·.2) = c.kinds) (hs : Sat E w (kindsR kv ks * F)) (hm : c.may = 0) :
    Calls Try.prog 45 #[.agg (cfgCells kv c)] w fun e w' => ∃ b, e = .returned (.tuple #[.pointer (some ⟨b, 0, none⟩), .int .i64 0]) ∧ Sat E w' (lay b c * F) :=
  (layNew_calls w c ks kv (fun W' hW' => kindsR_rd hW') hk hs hm).mono fun e w' ⟨b, he, h⟩ => ⟨b, he, by
    have h3 := h.ac (B := kindsR kv ks * (lay b c * F)) (by ac_rfl)
    exact h3.right⟩
theorem blkNewD_calls (w : World) (ub0 : Nat) (bs : List Bool) (h : Sat E w (lay lb c * (bm ub0 bs * F))) :
    Calls Try.prog 47 #[.pointer (some ⟨lb, 0, none⟩), .pointer (some ⟨ub0, 0, none⟩)] w fun e w' => ∃ t, e = .returned (.pointer (some ⟨t, 0, none⟩)) ∧ Sat E w' (tab t lb (fitB c.count.toNat bs) (List.replicate c.count.toNat false) * (lay lb c * F)) :=
  (blkNew_calls w ub0 bs h).mono fun e w' ⟨t, he, h⟩ => ⟨t, he, by
    have h6 := h.ac (B := bm ub0 bs * (tab t lb (fitB c.count.toNat bs) (List.replicate c.count.toNat false) * (lay lb c * F))) (by ac_rfl)
    exact h6.right⟩
end
end Scul
/- scullionlaw7.BlockCancels: whatever config, used blocks and number of words: what is reserved and cancelled is as it was; the same is reserved again. No condition. -/
namespace Scul
open Go Go.Sl Go.RowKit Go.Proofs
section
variable {E : Env} {w : World} {F : HP}
/-- The law's array of how many are free, filled below k. -/
def freeArr (f : Nat → Int) (k : Nat) : Array Value := #[.int .i64 (if 0 < k then f 0 else 0), .int .i64 (if 1 < k then f 1 else 0), .int .i64 (if 2 < k then f 2 else 0), .int .i64 (if 3 < k then f 3 else 0)]
theorem freeArr_set (f : Nat → Int) (k : Nat) (hk : k < 4) : (freeArr f k).setIfInBounds k (.int .i64 (f k)) = freeArr f (k + 1) := by
  have : k = 0 ∨ k = 1 ∨ k = 2 ∨ k = 3 := by omega
  rcases this with rfl | rfl | rfl | rfl <;> simp [freeArr]
theorem freeArr_at (f : Nat → Int) (j : Nat) (hj : j < 4) : (freeArr f 4)[j]? = some (.int .i64 (f j)) := by
  have : j = 0 ∨ j = 1 ∨ j = 2 ∨ j = 3 := by omega
  rcases this with rfl | rfl | rfl | rfl <;> rfl
theorem freeArr_some (f : Nat → Int) (k j : Nat) (hj : j < 4) : ∃ v, (freeArr f k)[j]? = some v := by
  have : j = 0 ∨ j = 1 ∨ j = 2 ∨ j = 3 := by omega
  rcases this with rfl | rfl | rfl | rfl <;> exact ⟨_, rfl⟩
set_option maxRecDepth 100000 in
set_option maxHeartbeats 4000000 in
theorem blockCancels_walk (w : World) (n0 n1 n2 n3 : Int) (lu : List Int) (uo : Option Addr) (uc : Nat) (words : Int)
    (hru : Rd w 1 (.slice uo lu.length uc) lu.length (u64s lu)) (hU : ∀ x ∈ lu, U64 x) (_ : I64 words) :
    Calls Try.prog 14 #[.agg #[.int .i64 n0, .int .i64 n1, .int .i64 n2, .int .i64 n3], .slice uo lu.length uc, .int .i64 words] w fun e w' => e = .returned (.bool true) ∧ Sat w.env w' (old w) := by
  have hs := Sat.init w
  have hmu := hru.most
  have H0 := Lib.hid (hs.alloc (.cells #[.int .i64 n0, .int .i64 n1, .int .i64 n2, .int .i64 n3] 65))
  obtain ⟨c, hc⟩ : ∃ c, c = cfg7 n0 n1 n2 n3 := ⟨_, rfl⟩
  have hm := cfg7_may n0 n1 n2 n3
  rw [← hc] at hm
  have HM := Lib.hid hm
  have HNR := Lib.hid (Cfg.ok_of_may hm).toNear
  have HCF : Hid (∀ W, Sat w.env W (old w) → Calls Try.prog 46 #[.agg #[.int .i64 n0, .int .i64 n1, .int .i64 n2, .int .i64 n3]] W fun e w' => ∃ kv ks, e = .returned (.agg (cfgCells kv c)) ∧ ks.map (·.2) = c.kinds ∧ (∃ a cc, kv = .slice a ks.length cc) ∧ Sat w.env w' (kindsR kv ks * old w)) := Lib.hid fun W hW => by rw [hc]; exact config7_calls W n0 n1 n2 n3 hW
  have HRU := Lib.hid hru; have HUU := Lib.hid hU
  clear hs hc hm hru hU
  go_enter Try.func14, Try.ntmps14
  go_wp2_with fail
  refine (HCF.out _ H0.out.right).mono ?_
  rintro e w1 ⟨kv, ks, rfl, hk, ⟨ka, kc, rfl⟩, h1⟩
  go_wp2_with fail
  refine (layNewD_calls _ c ks _ hk h1 HM.out).mono ?_
  rintro e w2 ⟨lb, rfl, h2⟩
  have H2 := Lib.hid h2
  clear h1 h2
  go_wp2_with fail
  refine (mOf_calls _ 1000 lu (.slice uo lu.length uc) HUU.out (fun W hW => Rd.old HRU.out hW.right) H2.out).mono ?_
  rintro e w3 ⟨ub, rfl, h3⟩
  go_wp2_with fail
  refine (blkNewD_calls _ ub _ (h3.ac (by ac_rfl))).mono ?_
  rintro e w4 ⟨t, rfl, h4⟩
  obtain ⟨U, hUl⟩ : ∃ U, U = fitB c.count.toNat (unpackW (clampB 1000) lu) := ⟨_, rfl⟩
  have hUl2 : U.length = c.count.toNat := by rw [hUl]; simp [fitB]
  obtain ⟨R, hR⟩ : ∃ R, R = List.replicate c.count.toNat false := ⟨_, rfl⟩
  have hRl : R.length = c.count.toNat := by rw [hR, List.length_replicate]
  rw [← hUl, ← hR] at h4
  have H4 := Lib.hid h4
  have HUL := Lib.hid hUl2; have HRL := Lib.hid hRl
  clear h3 h4 hUl hUl2 hR hRl H2 H0
  have HAW : Hid (∀ W, Sat w.env W (old w) → Calls Try.prog 49 #[] W fun e w' => e = .returned (.bool true) ∧ Sat w.env w' (old w)) := Lib.hid fun W h => awake7_calls W h
  obtain ⟨x, hx⟩ : ∃ x, x = u16 words := ⟨_, rfl⟩
  have hxr := u16_range words
  rw [← hx] at hxr
  obtain ⟨hx1, hx16⟩ := hxr
  have hxg : wrap64 (wrap64 ((IntKind.u64.wrap words).tmod 16) + 1) = x := by rw [hx]; exact u16_go words
  have HXG := Lib.hid hxg
  clear hx hxg
  go_upto_block 0 with fail
  rw [HXG.out]
  obtain ⟨fr, hfr⟩ : ∃ fr : Nat → Int, fr = fun j : Nat => c.free U R (j : Int) := ⟨_, rfl⟩
  have HFR : Hid (∀ j : Nat, c.free U R j = fr j) := Lib.hid fun j => by rw [hfr]
  have hrng : ∀ j : Nat, 0 ≤ fr j ∧ fr j ≤ 2048 := fun j => by
    rw [hfr]
    have h1 := freeFrom_range U R (c.from_ j) (c.upto j - c.from_ j).toNat
    have h2 := Cfg.upto_from HNR.out j
    have h3 : c.count ≤ 2048 := by
      have hp := Cfg.near_places HNR.out
      exact hp.2.2.2.2.2.2.2.2.2.2.1
    show 0 ≤ freeFrom U R (c.from_ j) (c.upto j - c.from_ j).toNat ∧ freeFrom U R (c.from_ j) (c.upto j - c.from_ j).toNat ≤ 2048
    omega
  have HRG := Lib.hid hrng
  obtain ⟨fb, hfb⟩ : ∃ fb, fb = w4.heap.size := ⟨_, rfl⟩
  have H5 : Hid (Sat w.env _ (pt fb (.cells (freeArr fr 0) 65) * (tab t lb U R * (lay lb c * old w)))) := Lib.hid (by rw [hfb]; exact H4.out.alloc (.cells (freeArr fr 0) 65))
  clear hfr hrng H4
  rw [← hfb]
  clear hfb
  go_cut [11] (fun s11 wx => Sat w.env wx (pt fb (.cells (freeArr fr 4) 65) * (tab t lb U R * (lay lb c * old w))))
  case first =>
    go_wp2_with fail
    go_loopw [38] (fun iv wr => ∃ k : Nat, k ≤ 4 ∧ iv = .int .i64 k ∧ Sat w.env wr (pt fb (.cells (freeArr fr k) 65) * (tab t lb U R * (lay lb c * old w)))) (fun iv _ => 4 - (intOf iv).toNat)
    case atStart => exact ⟨0, by omega, rfl, H5.out⟩
    case round =>
      clear H5
      obtain ⟨k, hk, rfl, hw⟩ := hrel
      by_cases hlt : k < 4
      · have hki : (k : Int) < 4 := by omega
        obtain ⟨v0, hv0⟩ := freeArr_some fr k k hlt
        have c0 := fun m => (hw.drewN m).cell k hv0
        have f0 := fun m => (hw.drewN m).free k
        have HC := Lib.hid (free_calls wr k hw.right)
        rw [HFR.out] at HC
        have HS : Hid (∀ m, Sat w.env ((wr.drewN m).setCell ⟨fb, k, none⟩ (.int .i64 (fr k))) (pt fb (.cells (freeArr fr (k + 1)) 65) * (tab t lb U R * (lay lb c * old w)))) := Lib.hid fun m => by
          rw [← freeArr_set fr k hlt]
          exact (hw.drewN m).setCell
        clear hw hv0
        generalize fr k = y at HC HS
        go_wp2_with (go_at_call 56; refine HC.out.mono ?_; rintro e w' ⟨rfl, m1, rfl⟩)
        exact ⟨⟨k + 1, by omega, by go_num, HS.out m1⟩, by simp [intOf]; omega⟩
      · obtain rfl : k = 4 := by omega
        go_wp2_with fail
        go_meet
        exact hw
  case rest =>
    clear H5
    have H6 := Lib.hid hcut
    clear hcut
    rename World => W
    obtain ⟨r, hr⟩ : ∃ r, r = c.reserve U R x := ⟨_, rfl⟩
    have hrr := Cfg.resFrom_range HNR.out U R x 4 0
    have hri := reserve_in c U R x hx1 hx16
    have hRR := Cfg.reserve_R (c := c) (U := U) (R := R) hx1 hx16
    rw [← hr] at hri hRR
    have hrr2 : r = -1 ∨ (0 ≤ r ∧ r < c.count ∧ freeB U R r = true) := by rw [hr]; exact hrr
    have HSW : Hid (∀ (R' : List Bool) W', Sat w.env W' (pt fb (.cells (freeArr fr 4) 65) * (tab t lb U R' * (lay lb c * old w))) → Sat w.env W' (tab t lb U R' * (lay lb c * (pt fb (.cells (freeArr fr 4) 65) * old w)))) := Lib.hid fun R' W' h => h.ac (by ac_rfl)
    have HRS : Hid (∀ W', Sat w.env W' (tab t lb U R * (lay lb c * (pt fb (.cells (freeArr fr 4) 65) * old w))) → Calls Try.prog 55 #[.pointer (some ⟨t, 0, none⟩), .int .i64 x] W' fun e w' => e = .returned (.tuple #[.int .i64 (if r < 0 then 0 else r), .int .i64 (if r < 0 then 5 else 0)]) ∧ Sat w.env w' (tab t lb U (if r < 0 then R else setB R r true) * (lay lb c * (pt fb (.cells (freeArr fr 4) 65) * old w)))) := Lib.hid fun W' hW' => by
      have := reserve_calls W' x HUL.out HRL.out hW'
      rwa [hri.1, hri.2, hRR] at this
    clear hr hrr hri hRR
    rcases hrr2 with rfl | ⟨hr0, hr1, hr2⟩
    · go_wp2_with (go_at_call 55; refine (HRS.out _ (HSW.out _ _ H6.out)).mono ?_; rintro e w' ⟨rfl, h7⟩)
      refine (HAW.out _ h7.right.right.right).mono ?_
      rintro e w8 ⟨rfl, h8⟩
      go_wp2_with fail
      go_ret
      exact ⟨rfl, h8⟩
    · have hneg : ¬ r < 0 := by omega
      rw [if_neg hneg, if_neg hneg, if_neg hneg] at HRS
      have hc0 : 0 ≤ c.cls r := by
        have := Cfg.cls_neg HNR.out r
        have := Cfg.cls_range c r
        omega
      have hc3 := (Cfg.cls_range c r).2
      obtain ⟨K, hK⟩ := Int.eq_ofNat_of_zero_le hc0
      have hK4 : K < 4 := by omega
      have hK4i : (K : Int) < 4 := by omega
      have hfree := Cfg.free_reserved HNR.out HRL.out ⟨hr0, hr1⟩ hr2
      rw [hK, HFR.out] at hfree
      have hrl : 0 ≤ r ∧ r < (R.length : Int) := by rw [HRL.out]; omega
      have hget0 : getB R r = false := by unfold freeB at hr2; revert hr2; cases getB R r <;> simp
      have hget1 : getB (setB R r true) r = true := by rw [getB_setB, if_pos ⟨rfl, hrl⟩]
      have hset1 : setsB (setB R r true) r false = true := by
        unfold setsB
        rw [hget1, setB_length, decide_eq_true hrl]; rfl
      have hback : setB (setB R r true) r false = R := setB_back hget0
      have hset0 : setsB R r false = false := by unfold setsB; rw [hget0]; simp
      have hback0 : setB R r false = R := setB_same hset0
      obtain ⟨R1, hR1⟩ : ∃ R1, R1 = setB R r true := ⟨_, rfl⟩
      rw [← hR1] at HRS hget1 hset1 hback hfree
      obtain ⟨G, hG⟩ : ∃ G : HP, G = pt fb (.cells (freeArr fr 4) 65) * old w := ⟨_, rfl⟩
      rw [← hG] at HRS HSW
      have HGC : Hid (∀ R' W', Sat w.env W' (tab t lb U R' * (lay lb c * G)) → ∀ j : Nat, j < 4 → W'.cell? ⟨fb, j, none⟩ = some (.int .i64 (fr j))) := Lib.hid fun R' W' hW' j hj => by
        have h := hW'.right.right
        rw [hG] at h
        exact h.cell j (freeArr_at fr j hj)
      have HGO : Hid (∀ R' W', Sat w.env W' (tab t lb U R' * (lay lb c * G)) → Sat w.env W' (old w)) := Lib.hid fun R' W' hW' => by
        have h := hW'.right.right
        rw [hG] at h
        exact h.right
      have HCL : Hid (∀ R' W', Sat w.env W' (tab t lb U R' * (lay lb c * G)) → Calls Try.prog 52 #[.pointer (some ⟨lb, 0, none⟩), .int .i64 r] W' fun e w' => e = .returned (.int .i64 (K : Int)) ∧ ∃ m, w' = W'.drewN m) := Lib.hid fun R' W' hW' => by
        have := class_calls W' r hW'.right
        rwa [hK] at this
      have HF1 : Hid (∀ W', Sat w.env W' (tab t lb U R1 * (lay lb c * G)) → Calls Try.prog 56 #[.pointer (some ⟨t, 0, none⟩), .int .i64 (K : Int)] W' fun e w' => e = .returned (.int .i64 (fr K - 1)) ∧ ∃ m, w' = W'.drewN m) := Lib.hid fun W' hW' => by
        have := free_calls W' K hW'
        rwa [hfree] at this
      have HRV1 : Hid (∀ W', Sat w.env W' (tab t lb U R1 * (lay lb c * G)) → Calls Try.prog 54 #[.pointer (some ⟨t, 0, none⟩), .int .i64 r] W' fun e w' => e = .returned (.bool true) ∧ w' = W') := Lib.hid fun W' hW' => by
        have := reserved_calls W' r hW'
        rwa [hget1] at this
      have HCA1 : Hid (∀ W', Sat w.env W' (tab t lb U R1 * (lay lb c * G)) → Calls Try.prog 57 #[.pointer (some ⟨t, 0, none⟩), .int .i64 r] W' fun e w' => e = .returned (.bool true) ∧ Sat w.env w' (tab t lb U R * (lay lb c * G))) := Lib.hid fun W' hW' => by
        have := cancel_calls W' r hW'
        rwa [hset1, hback] at this
      have HCA0 : Hid (∀ W', Sat w.env W' (tab t lb U R * (lay lb c * G)) → Calls Try.prog 57 #[.pointer (some ⟨t, 0, none⟩), .int .i64 r] W' fun e w' => e = .returned (.bool false) ∧ Sat w.env w' (tab t lb U R * (lay lb c * G))) := Lib.hid fun W' hW' => by
        have := cancel_calls W' r hW'
        rwa [hset0, hback0] at this
      have HRV0 : Hid (∀ W', Sat w.env W' (tab t lb U R * (lay lb c * G)) → Calls Try.prog 54 #[.pointer (some ⟨t, 0, none⟩), .int .i64 r] W' fun e w' => e = .returned (.bool false) ∧ w' = W') := Lib.hid fun W' hW' => by
        have := reserved_calls W' r hW'
        rwa [hget0] at this
      have HF0 : Hid (∀ (j : Nat) W', Sat w.env W' (tab t lb U R * (lay lb c * G)) → Calls Try.prog 56 #[.pointer (some ⟨t, 0, none⟩), .int .i64 (j : Int)] W' fun e w' => e = .returned (.int .i64 (fr j)) ∧ ∃ m, w' = W'.drewN m) := Lib.hid fun j W' hW' => by
        have := free_calls W' j hW'
        rwa [HFR.out] at this
      obtain ⟨hfk0, hfk1⟩ := HRG.out K
      clear hc0 hc3 hK hfree hrl hget0 hget1 hset1 hback hset0 hback0 hR1 hG hneg hr2
      go_wp2_with fail
      refine (HRS.out _ (HSW.out _ _ H6.out)).mono ?_
      rintro e w7 ⟨rfl, h7⟩
      have cK := HGC.out _ _ h7 K hK4
      have H7 := Lib.hid h7
      clear h7 H6
      go_wp2_with fail
      refine (HCL.out _ _ H7.out).mono ?_
      rintro e w8 ⟨rfl, m8, rfl⟩
      go_wp2_with fail
      refine (HF1.out _ (H7.out.drewN _)).mono ?_
      rintro e w9 ⟨rfl, m9, rfl⟩
      go_wp2_with fail
      refine (HCL.out _ _ (H7.out.drewN _)).mono ?_
      rintro e w10 ⟨rfl, m10, rfl⟩
      go_wp2_with fail
      refine (HRV1.out _ (H7.out.drewN _)).mono ?_
      rintro e w11 ⟨rfl, rfl⟩
      go_wp2_with fail
      refine (HCA1.out _ (H7.out.drewN _)).mono ?_
      rintro e w12 ⟨rfl, h12⟩
      clear cK H7
      go_wp2_with fail
      refine (HCA0.out _ h12).mono ?_
      rintro e w13 ⟨rfl, h13⟩
      clear h12
      go_wp2_with fail
      refine (HRV0.out _ h13).mono ?_
      rintro e w14 ⟨rfl, rfl⟩
      have H13 := Lib.hid h13
      clear h13
      rename World => W3
      go_wp2_with fail
      go_loopw [94] (fun iv wr => ∃ (k : Nat), k ≤ 4 ∧ iv = .int .i64 k ∧ Sat w.env wr (tab t lb U R * (lay lb c * G))) (fun iv _ => 4 - (intOf iv).toNat)
      case atStart => exact ⟨0, by omega, rfl, H13.out⟩
      case round =>
        clear H13
        obtain ⟨k, hk, rfl, hw⟩ := hrel
        have H13 := Lib.hid hw
        clear hw
        by_cases hlt : k < 4
        · have hki : (k : Int) < 4 := by omega
          have ck := HGC.out _ _ H13.out k hlt
          have HF0k : Hid (∀ m, Calls Try.prog 56 #[.pointer (some ⟨t, 0, none⟩), .int .i64 (k : Int)] (wr.drewN m) fun e w' => e = .returned (.int .i64 (fr k)) ∧ ∃ q, w' = (wr.drewN m).drewN q) := Lib.hid fun m => HF0.out k _ (H13.out.drewN m)
          generalize fr k = y at ck HF0k
          go_wp2_with fail
          go_quiet ((go_at_call 56; exact Calls.quiet_of (HF0k.out _)))
          go_wp2_with fail
          exact ⟨⟨k + 1, by omega, by go_num, H13.out.drewN _⟩, by simp [intOf]; omega⟩
        · obtain rfl : k = 4 := by omega
          go_wp2_with fail
          refine (HRS.out _ H13.out).mono ?_
          rintro e w15 ⟨rfl, h15⟩
          go_wp2_with fail
          refine (HAW.out _ (HGO.out _ _ h15)).mono ?_
          rintro e w16 ⟨rfl, h16⟩
          go_wp2_with fail
          go_ret
          exact ⟨rfl, h16⟩
end
end Scul
