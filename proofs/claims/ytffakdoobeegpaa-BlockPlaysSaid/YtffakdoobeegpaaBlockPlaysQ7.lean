/- Lemmas and contracts for scullion's BlockPlays: BlkB, BlkC, BlkD, BlkE, BlkF, BlkG, BlkT, Shelf, BlkU, BlkN, BlkV, BlkW. -/
import Derived.Test.YtffakdoobeegpaaBlockPlaysQ6
import Derived.Test.YtffakdoobeegpaaBlockPlaysQ2
import Derived.Test.YtffakdoobeegpaaBlockPlaysQ4
import Derived.Shelf.Sort.Plain
import Derived.Shelf.Slices.Turned
import Derived.Shelf.Slices.CompactI
import Derived.Shelf.Slices.In.SortNone
import Derived.Test.YtffakdoobeegpaaProg
import Derived.Sort.OwnSortedInts
import Derived.Test.YtffakdoobeegpaaBlockPlaysQ5
/- block: Free, Cancel, Bits, Reserve, New. -/
namespace Scul
open Go Go.Sl Go.RowKit Go.Proofs
section
variable {E : Env} {w : World} {F : HP} {t lb : Nat} {U R : List Bool} {c : Cfg}
set_option maxRecDepth 100000 in
set_option maxHeartbeats 1000000 in
theorem free_calls (w : World) (i : Int) (h : Sat E w (tab t lb U R * (lay lb c * F))) :
    Calls Try.prog 56 #[.pointer (some ⟨t, 0, none⟩), .int .i64 i] w fun e w' => e = .returned (.int .i64 (c.free U R i)) ∧ ∃ m, w' = w.drewN m := by
  have hn := (lay_ok h.right).toNear
  have hp := Cfg.near_places hn
  have hr := Cfg.upto_from hn i
  have hc2 : c.count ≤ 2048 := hp.2.2.2.2.2.2.2.2.2.2.1
  obtain ⟨ub, rb, hs⟩ := tab_open h
  have c0 : w.cell? ⟨t, 0, none⟩ = some (.pointer (some ⟨lb, 0, none⟩)) := hs.cell 0 rfl
  have HR := Lib.hid (range_calls w i h.right)
  have HU : Hid (∀ m b, Calls Try.prog 53 #[.pointer (some ⟨t, 0, none⟩), .int .i64 b] (w.drewN m) fun e w' => e = .returned (.bool (getB U b)) ∧ w' = w.drewN m) := Lib.hid fun m b => used_calls _ b (h.drewN m)
  have HV : Hid (∀ m b, Calls Try.prog 54 #[.pointer (some ⟨t, 0, none⟩), .int .i64 b] (w.drewN m) fun e w' => e = .returned (.bool (getB R b)) ∧ w' = w.drewN m) := Lib.hid fun m b => reserved_calls _ b (h.drewN m)
  obtain ⟨r, hr2⟩ : ∃ r, r = c.free U R i := ⟨_, rfl⟩
  rw [← hr2]
  have HX : Hid (r = freeFrom U R (c.from_ i) (c.upto i - c.from_ i).toNat) := Lib.hid hr2
  clear hs h hn hp hr2
  generalize c.from_ i = f at *
  generalize c.upto i = u at *
  go_enter Try.func56, Try.ntmps56
  go_wp2_with fail
  refine HR.out.mono ?_
  rintro e w1 ⟨rfl, m1, rfl⟩
  go_wp2_with fail
  go_loopw [8, 5] (fun iv nv wr => ∃ (b s : Int) (m : Nat), f ≤ b ∧ b ≤ u ∧ iv = .int .i64 b ∧ nv = .int .i64 s ∧ s = freeFrom U R f (b - f).toNat ∧ wr = w.drewN m) (fun iv _ _ => u.toNat - (RowKit.intOf iv).toNat)
  case atStart => exact ⟨f, 0, m1, by omega, by omega, rfl, rfl, by simp [freeFrom], rfl⟩
  case round =>
    obtain ⟨b, s, m, hb1, hb2, rfl, rfl, he, rfl⟩ := hrel
    have hsr := freeFrom_range U R f (b - f).toNat
    rw [← he] at hsr
    by_cases hlt : b < u
    · have e1 : (b + 1 - f).toNat = (b - f).toNat + 1 := by omega
      have e2 : f + ((b - f).toNat : Int) = b := by omega
      have hst : freeFrom U R f (b + 1 - f).toNat = s + if freeB U R b then 1 else 0 := by rw [e1]; show freeFrom U R f (b - f).toNat + _ = _; rw [← he, e2]
      unfold freeB at hst
      have HUb := HU.out m b; have HVb := HV.out m b
      clear e1 e2 he
      cases hu : getB U b with
      | true =>
        rw [hu] at hst HUb
        have HE : Hid (s = freeFrom U R f (b + 1 - f).toNat) := Lib.hid (by rw [hst]; simp)
        have HU2 := Lib.hid HUb
        clear hst hu HUb HVb
        go_wp2_with (go_at_call 53; refine HU2.out.mono ?_; rintro e w' ⟨rfl, rfl⟩)
        exact ⟨⟨b + 1, s, m, by omega, by omega, rfl, rfl, HE.out, by first | rfl | trivial⟩, by simp [RowKit.intOf]; omega⟩
      | false =>
        cases hv : getB R b with
        | true =>
          rw [hu, hv] at hst; rw [hu] at HUb; rw [hv] at HVb
          have HE : Hid (s = freeFrom U R f (b + 1 - f).toNat) := Lib.hid (by rw [hst]; simp)
          have HU2 := Lib.hid HUb; have HV2 := Lib.hid HVb
          clear hst hu hv HUb HVb
          go_wp2_with (first | (go_at_call 53; refine HU2.out.mono ?_; rintro e w' ⟨rfl, rfl⟩) | (go_at_call 54; refine HV2.out.mono ?_; rintro e w' ⟨rfl, rfl⟩))
          exact ⟨⟨b + 1, s, m, by omega, by omega, rfl, rfl, HE.out, by first | rfl | trivial⟩, by simp [RowKit.intOf]; omega⟩
        | false =>
          rw [hu, hv] at hst; rw [hu] at HUb; rw [hv] at HVb
          have HE : Hid (s + 1 = freeFrom U R f (b + 1 - f).toNat) := Lib.hid (by rw [hst]; simp)
          have HU2 := Lib.hid HUb; have HV2 := Lib.hid HVb
          clear hst hu hv HUb HVb
          go_wp2_with (first | (go_at_call 53; refine HU2.out.mono ?_; rintro e w' ⟨rfl, rfl⟩) | (go_at_call 54; refine HV2.out.mono ?_; rintro e w' ⟨rfl, rfl⟩))
          exact ⟨⟨b + 1, s + 1, m, by omega, by omega, rfl, rfl, HE.out, by first | rfl | trivial⟩, by simp [RowKit.intOf]; omega⟩
    · obtain rfl : b = u := by omega
      have he2 : s = r := by rw [he, HX.out]
      subst he2
      clear he
      go_wp2_with fail
      go_ret
      exact ⟨rfl, m, rfl⟩
theorem cancel_calls (w : World) (i : Int) (h : Sat E w (tab t lb U R * F)) :
    Calls Try.prog 57 #[.pointer (some ⟨t, 0, none⟩), .int .i64 i] w fun e w' => e = .returned (.bool (setsB R i false)) ∧ Sat E w' (tab t lb U (setB R i false) * F) := by
  obtain ⟨ub, rb, hs⟩ := tab_open h
  have c1 : w.cell? ⟨t, 2, none⟩ = some (.pointer (some ⟨rb, 0, none⟩)) := hs.cell 2 rfl
  have hs2 := hs.ac (B := bm rb R * (pt t (.cells #[.pointer (some ⟨lb, 0, none⟩), .pointer (some ⟨ub, 0, none⟩), .pointer (some ⟨rb, 0, none⟩)] 136) * (bm ub U * F))) (by ac_rfl)
  have HC := Lib.hid (mSet_calls w i false hs2)
  have hm : ∀ W, Sat E W (bm rb (setB R i false) * (pt t (.cells #[.pointer (some ⟨lb, 0, none⟩), .pointer (some ⟨ub, 0, none⟩), .pointer (some ⟨rb, 0, none⟩)] 136) * (bm ub U * F))) → Sat E W (tab t lb U (setB R i false) * F) := fun W hW => tab_mk (hW.ac (by ac_rfl))
  have HM := Lib.hid hm
  clear hs hs2 h hm
  go_enter Try.func57, Try.ntmps57
  go_wp2_with (go_at_call 104; refine HC.out.mono ?_; rintro e w' ⟨rfl, h1⟩)
  go_ret
  exact ⟨rfl, HM.out _ h1⟩
theorem bits_calls (w : World) (h : Sat E w (tab t lb U R * F)) :
    Calls Try.prog 65 #[.pointer (some ⟨t, 0, none⟩)] w fun e w' => ∃ b, e = .returned (.pointer (some ⟨b, 0, none⟩)) ∧ Sat E w' (bm b U * (tab t lb U R * F)) := by
  obtain ⟨ub, rb, hs⟩ := tab_open h
  have c1 : w.cell? ⟨t, 1, none⟩ = some (.pointer (some ⟨ub, 0, none⟩)) := hs.cell 1 rfl
  have hs2 := hs.ac (B := bm ub U * (pt t (.cells #[.pointer (some ⟨lb, 0, none⟩), .pointer (some ⟨ub, 0, none⟩), .pointer (some ⟨rb, 0, none⟩)] 136) * (bm rb R * F))) (by ac_rfl)
  have HC := Lib.hid (mCopy_calls w hs2)
  have hm : ∀ b W, Sat E W (bm b U * (bm ub U * (pt t (.cells #[.pointer (some ⟨lb, 0, none⟩), .pointer (some ⟨ub, 0, none⟩), .pointer (some ⟨rb, 0, none⟩)] 136) * (bm rb R * F)))) → Sat E W (bm b U * (tab t lb U R * F)) := fun b W hW =>
    (tab_mk (t := t) (lb := lb) (ub := ub) (rb := rb) (U := U) (R := R) (F := bm b U * F) (hW.ac (by ac_rfl))).ac (by ac_rfl)
  have HM := Lib.hid hm
  clear hs hs2 h hm
  go_enter Try.func65, Try.ntmps65
  go_wp2_with (go_at_call 114; refine HC.out.mono ?_; rintro e w' ⟨b, rfl, h1⟩)
  go_ret
  exact ⟨_, rfl, HM.out _ _ h1⟩
/-- The first n bits of a map. -/
def fitB (n : Nat) (bs : List Bool) : List Bool := (List.range n).map fun i => bs.getD i false
theorem unpack_fit (n : Nat) (bs : List Bool) : unpackW n (packW bs) = fitB n bs := by
  unfold unpackW fitB
  refine List.map_congr_left fun i _ => ?_
  by_cases hi : i < bs.length
  · rw [packW_getD _ _ (by omega), Int.toNat_natCast, wordAt_bit]
    have e : 64 * (i / 64) + i % 64 = i := by omega
    have e2 : i % 64 < 64 := by omega
    rw [e]; simp [e2]
  · have e0 : bs.getD i false = false := by rw [List.getD_eq_getElem?_getD, List.getElem?_eq_none (by omega)]; rfl
    rw [e0]
    by_cases hj : i / 64 < (bs.length + 63) / 64
    · rw [packW_getD _ _ hj, Int.toNat_natCast, wordAt_bit]
      have e : 64 * (i / 64) + i % 64 = i := by omega
      rw [e, e0]; simp
    · rw [List.getD_eq_getElem?_getD, List.getElem?_eq_none (by rw [packW_length]; omega)]
      simp
theorem unpack_nil (n : Nat) : unpackW n [] = List.replicate n false := by
  refine List.ext_getElem? fun i => ?_
  by_cases hi : i < n
  · simp [unpackW, hi]
  · rw [List.getElem?_eq_none (by simp [unpackW]; omega), List.getElem?_eq_none (by simp; omega)]
set_option maxHeartbeats 1000000 in
theorem blkNew_calls (w : World) (ub0 : Nat) (bs : List Bool) (h : Sat E w (lay lb c * (bm ub0 bs * F))) :
    Calls Try.prog 47 #[.pointer (some ⟨lb, 0, none⟩), .pointer (some ⟨ub0, 0, none⟩)] w fun e w' => ∃ t, e = .returned (.pointer (some ⟨t, 0, none⟩)) ∧ Sat E w' (tab t lb (fitB c.count.toNat bs) (List.replicate c.count.toNat false) * (lay lb c * (bm ub0 bs * F))) := by
  have hn := (lay_ok h).toNear
  have hp := Cfg.near_places hn
  have hc2 : 0 ≤ c.count ∧ c.count ≤ 2048 := hp.2.2.2.2.2.2.2.2.2
    |> fun h => ⟨h.1, h.2.1⟩
  have HB := Lib.hid (fun W (hW : Sat E W (lay lb c * (bm ub0 bs * F))) => blocks_calls W hW)
  have HB2 : Hid (∀ W b2, Sat E W (bm b2 (fitB c.count.toNat bs) * (lay lb c * (bm ub0 bs * F))) → Calls Try.prog 50 #[.pointer (some ⟨lb, 0, none⟩)] W fun e w' => e = .returned (.int .i64 c.count) ∧ ∃ m, w' = W.drewN m) := Lib.hid fun W b2 hW => blocks_calls W hW.right
  have HW1 : Hid (∀ W, Sat E W (lay lb c * (bm ub0 bs * F)) → Calls Try.prog 66 #[.pointer (some ⟨ub0, 0, none⟩)] W fun e w' => ∃ v, e = .returned v ∧ Sat E w' (words v (packW bs) * (lay lb c * (bm ub0 bs * F)))) := Lib.hid fun W hW =>
    (mWords_calls W (hW.ac (B := bm ub0 bs * (lay lb c * F)) (by ac_rfl))).mono fun e w' ⟨v, he, h⟩ => ⟨v, he, h.ac (by ac_rfl)⟩
  have hcl : clampB c.count = c.count.toNat := by unfold clampB; omega
  have HO : Hid (∀ W v, Sat E W (words v (packW bs) * (lay lb c * (bm ub0 bs * F))) → Calls Try.prog 48 #[.int .i64 c.count, v] W fun e w' => ∃ b, e = .returned (.pointer (some ⟨b, 0, none⟩)) ∧ Sat E w' (bm b (fitB c.count.toNat bs) * (lay lb c * (bm ub0 bs * F)))) := Lib.hid fun W v hW =>
    (mOf_calls W c.count (packW bs) v (packW_u64 bs) (fun W' hW' => Sat.rd hW') hW).mono fun e w' ⟨b, he, h⟩ => ⟨b, he, by
      rw [hcl, unpack_fit] at h
      have h2 : Sat E w' (words v (packW bs) * (bm b (fitB c.count.toNat bs) * (lay lb c * (bm ub0 bs * F)))) := h.ac (by ac_rfl)
      exact h2.right⟩
  have HN : Hid (∀ W b2, Sat E W (bm b2 (fitB c.count.toNat bs) * (lay lb c * (bm ub0 bs * F))) → Calls Try.prog 99 #[.int .i64 c.count] W fun e w' => ∃ b, e = .returned (.pointer (some ⟨b, 0, none⟩)) ∧ Sat E w' (bm b (List.replicate c.count.toNat false) * (bm b2 (fitB c.count.toNat bs) * (lay lb c * (bm ub0 bs * F))))) := Lib.hid fun W b2 hW => by
    have := mNew_calls W c.count hW
    rwa [hcl] at this
  have H := Lib.hid h
  clear h hn hp hcl
  go_enter Try.func47, Try.ntmps47
  go_wp2_with fail
  refine (HB.out _ H.out).mono ?_
  rintro e w1 ⟨rfl, m1, rfl⟩
  go_wp2_with fail
  refine (HW1.out _ (H.out.drewN m1)).mono ?_
  rintro e w2 ⟨v, rfl, h2⟩
  obtain ⟨a2, c2, rfl, _⟩ := words_val h2
  go_wp2_with fail
  refine (HO.out _ _ h2).mono ?_
  rintro e w3 ⟨b3, rfl, h3⟩
  go_wp2_with fail
  refine (HB2.out _ _ h3).mono ?_
  rintro e w4 ⟨rfl, m4, rfl⟩
  go_wp2_with fail
  refine (HN.out _ _ (h3.drewN m4)).mono ?_
  rintro e w5 ⟨b5, rfl, h5⟩
  have h6 := h5.alloc (.cells #[.pointer (some ⟨lb, 0, none⟩), .pointer (some ⟨b3, 0, none⟩), .pointer (some ⟨b5, 0, none⟩)] 136)
  have H7 := Lib.hid (tab_mk (lb := lb) (ub := b3) (rb := b5) (U := fitB c.count.toNat bs) (R := List.replicate c.count.toNat false) (F := lay lb c * (bm ub0 bs * F)) (h6.ac (by ac_rfl)))
  clear h5 h6 h3 h2
  go_wp2_with fail
  go_ret
  exact ⟨_, rfl, H7.out⟩
end
end Scul
/- block: Reserve. -/
namespace Scul
open Go Go.Sl Go.RowKit Go.Proofs
section
variable {E : Env} {w : World} {F : HP} {t lb : Nat} {U R : List Bool} {c : Cfg}
/-- The frame of Reserve at its label. -/
def Rsv.arr (t : Nat) (words : Int) (k : Nat) (u : Nat → Value) : Array Value := #[.pointer (some ⟨t, 0, none⟩), .int .i64 words, u 2, u 3, u 4, u 5, .int .i64 (k : Int), .int .i64 (-1), u 8, u 9, u 10, u 11, u 12, u 13, u 14, u 15, u 16, u 17, u 18, u 19, u 20, u 21, u 22, u 23, u 24, u 25, u 26, u 27, u 28, u 29, u 30, u 31, u 32, u 33, u 34, u 35, u 36, u 37]
def Rsv.fr (t : Nat) (words : Int) (k : Nat) (a : Act) : Prop := a = ⟨Rsv.arr t words k (fun k => a.tmps.getD k undef), []⟩
def Rsv.J (E : Env) (t lb : Nat) (c : Cfg) (U R : List Bool) (words : Int) (r : Int) (F : HP) (n : Nat) (a : Act) (w : World) : Prop :=
  ∃ k : Nat, 4 - k = n ∧ k ≤ 4 ∧ c.resFrom U R words k (4 - k) = r ∧ Sat E w (tab t lb U R * (lay lb c * F)) ∧ Rsv.fr t words k a
set_option maxRecDepth 100000 in
set_option maxHeartbeats 1000000 in
theorem reserve_calls (w : World) (words : Int) (_ : U.length = c.count.toNat) (_ : R.length = c.count.toNat) (h : Sat E w (tab t lb U R * (lay lb c * F))) :
    Calls Try.prog 55 #[.pointer (some ⟨t, 0, none⟩), .int .i64 words] w fun e w' => e = .returned (.tuple #[.int .i64 (c.reserveA U R words), .int .i64 (c.reserveE U R words)]) ∧ Sat E w' (tab t lb U (c.reserveR U R words) * (lay lb c * F)) := by
  by_cases h1 : words < 1
  · have e1 : c.reserveA U R words = 0 := if_pos (.inl h1)
    have e2 : c.reserveE U R words = 1 := if_pos (.inl h1)
    have e3 : c.reserveR U R words = R := if_pos (.inl h1)
    rw [e1, e2, e3]
    clear e1 e2 e3
    have H := Lib.hid h
    clear h
    go_enter Try.func55, Try.ntmps55
    go_wp2_with fail
    refine wp_scope_ghost 0 (fun _ _ _ => False) rfl (fun _ _ _ h => h.elim) fun _ => ?_
    go_wp2_with fail
    simp only [Exit.jump]
    go_ret2
    exact ⟨rfl, H.out⟩
  by_cases h16 : 16 < words
  · have e1 : c.reserveA U R words = 0 := if_pos (.inr (.inl h16))
    have e2 : c.reserveE U R words = 1 := if_pos (.inr h16)
    have e3 : c.reserveR U R words = R := if_pos (.inr (.inl h16))
    rw [e1, e2, e3]
    clear e1 e2 e3
    have H := Lib.hid h
    clear h
    go_enter Try.func55, Try.ntmps55
    go_wp2_with fail
    refine wp_scope_ghost 0 (fun _ _ _ => False) rfl (fun _ _ _ h => h.elim) fun _ => ?_
    go_wp2_with fail
    simp only [Exit.jump]
    go_ret2
    exact ⟨rfl, H.out⟩
  have hn := (lay_ok h.right).toNear
  have hp := Cfg.near_places hn
  have hc2 : 0 ≤ c.count ∧ c.count ≤ 2048 := ⟨hp.2.2.2.2.2.2.2.2.2.1, hp.2.2.2.2.2.2.2.2.2.2.1⟩
  obtain ⟨r, hr⟩ : ∃ r, r = c.reserve U R words := ⟨_, rfl⟩
  have hrr := Cfg.resFrom_range hn U R words 4 0
  have eA : c.reserveA U R words = if r < 0 then 0 else r := by unfold Cfg.reserveA; rw [← hr]; by_cases hh : r < 0 <;> simp [hh, h1, h16]
  have eE : c.reserveE U R words = if r < 0 then 5 else 0 := by unfold Cfg.reserveE; rw [← hr]; simp [h1, h16]
  have eR : c.reserveR U R words = if r < 0 then R else setB R r true := by unfold Cfg.reserveR; rw [← hr]; by_cases hh : r < 0 <;> simp [hh, h1, h16]
  rw [eA, eE, eR]
  have HR0 : Hid (c.resFrom U R words 0 4 = r) := Lib.hid hr.symm
  have HLR := Lib.hid (fun i => Cfg.least_range hn U R i)
  have H := Lib.hid h
  clear h hn hp hr hrr eA eE eR
  go_enter Try.func55, Try.ntmps55
  go_wp2_with fail
  refine wp_scope_ghost 0 (Rsv.J E t lb c U R words r F) rfl ?_ ?_
  · rintro n a w ⟨k, hn, hk, he, hW, ha⟩
    obtain ⟨u, hu⟩ : ∃ u : Nat → Value, u = fun k => a.tmps.getD k undef := ⟨_, rfl⟩
    unfold Rsv.fr at ha
    rw [← hu] at ha
    clear hu
    unfold Rsv.arr at ha
    subst ha
    by_cases hk4 : k = 4
    · subst hk4
      have hr : r = -1 := he.symm
      subst hr
      have HW := Lib.hid hW
      clear he hW
      go_wp2_with fail
      simp only [Exit.jump]
      go_ret2
      exact ⟨rfl, HW.out⟩
    · have e4 : 4 - k = (4 - (k + 1)) + 1 := by omega
      rw [e4] at he
      unfold Cfg.resFrom at he
      have hle := HLR.out (k : Int)
      have HC := Lib.hid (least_calls w k hW)
      have hkk : ((k : Int) == 4) = false := by simp; omega
      have hsh : IntKind.i64.wrap (2 * 2 ^ k) = 2 * 2 ^ k := by
        have : k = 0 ∨ k = 1 ∨ k = 2 ∨ k = 3 := by omega
        rcases this with rfl | rfl | rfl | rfl <;> rfl
      have HW := Lib.hid hW
      clear hW
      have NXT : Hid (c.resFrom U R words (k + 1) (4 - (k + 1)) = r → ∀ a W, Sat E W (tab t lb U R * (lay lb c * F)) → Rsv.fr t words (k + 1) a → ∃ n', n' < n ∧ Rsv.J E t lb c U R words r F n' a W) := Lib.hid fun hh a W hW ha =>
        ⟨4 - (k + 1), by omega, k + 1, rfl, by omega, hh, hW, ha⟩
      have hk3 : k ≤ 3 := by omega
      generalize hL : c.least U R k = L at *
      have hLd : L = -1 ∨ (0 ≤ L ∧ L < c.count ∧ freeB U R L = true) := by
        rcases hle with h | ⟨h1, h2, h3, _⟩
        · exact .inl h
        · exact .inr ⟨h1, h2, h3⟩
      clear hle
      by_cases hsz : words ≤ 2 * 2 ^ k
      · rcases hLd with rfl | ⟨hL0, hL1, hL2⟩
        · have he2 : c.resFrom U R words (k + 1) (4 - (k + 1)) = r := by simpa using he
          have HE := Lib.hid (NXT.out he2)
          clear he he2 NXT e4 hL hn
          go_wp2_with (go_at_call 103; refine HC.out.mono ?_; rintro e w2 ⟨rfl, m2, rfl⟩)
          refine wp_goto ?_
          show (0 : Nat) = 0 ∧ _
          exact ⟨rfl, HE.out _ _ (HW.out.drewN m2) rfl⟩
        · have he2 : r = L := by rw [← he, if_pos ⟨hsz, hL0⟩]
          subst he2
          have hneg : ¬ r < 0 := by omega
          have HNEG := Lib.hid hneg
          obtain ⟨ub, rb, hs⟩ := tab_open HW.out
          have c2 : w.cell? ⟨t, 2, none⟩ = some (.pointer (some ⟨rb, 0, none⟩)) := hs.cell 2 rfl
          have hs2 := hs.ac (B := bm rb R * (pt t (.cells #[.pointer (some ⟨lb, 0, none⟩), .pointer (some ⟨ub, 0, none⟩), .pointer (some ⟨rb, 0, none⟩)] 136) * (bm ub U * (lay lb c * F)))) (by ac_rfl)
          have HS : Hid (∀ m, Calls Try.prog 104 #[.pointer (some ⟨rb, 0, none⟩), .int .i64 r, .bool true] (w.drewN m) fun e w' => e = .returned (.bool (setsB R r true)) ∧ Sat E w' (bm rb (setB R r true) * (pt t (.cells #[.pointer (some ⟨lb, 0, none⟩), .pointer (some ⟨ub, 0, none⟩), .pointer (some ⟨rb, 0, none⟩)] 136) * (bm ub U * (lay lb c * F))))) := Lib.hid fun m => mSet_calls _ r true (hs2.drewN m)
          have HM : Hid (∀ W, Sat E W (bm rb (setB R r true) * (pt t (.cells #[.pointer (some ⟨lb, 0, none⟩), .pointer (some ⟨ub, 0, none⟩), .pointer (some ⟨rb, 0, none⟩)] 136) * (bm ub U * (lay lb c * F)))) → Sat E W (tab t lb U (setB R r true) * (lay lb c * F))) := Lib.hid fun W hW => tab_mk (hW.ac (by ac_rfl))
          clear he e4 hL hs hs2 hn NXT hneg
          go_wp2_with (first | (go_at_call 103; refine HC.out.mono ?_; rintro e w2 ⟨rfl, m2, rfl⟩) | (go_at_call 104; refine (HS.out _).mono ?_; rintro e w2 ⟨rfl, h2⟩))
          simp only [Exit.jump]
          go_ret2
          rw [if_neg (Int.not_lt.2 HNEG.out), if_neg (Int.not_lt.2 HNEG.out), if_neg (Int.not_lt.2 HNEG.out)]
          exact ⟨rfl, HM.out _ h2⟩
      · have he2 : c.resFrom U R words (k + 1) (4 - (k + 1)) = r := by rw [← he, if_neg (fun h => hsz h.1)]
        have HE := Lib.hid (NXT.out he2)
        clear he he2 NXT e4 hL hn hLd
        go_wp2_with fail
        refine wp_goto ?_
        show (0 : Nat) = 0 ∧ _
        exact ⟨rfl, HE.out _ _ HW.out rfl⟩
  · intro pass
    have h16' : words ≤ 16 := by omega
    have HJ0 : Hid (∀ a, Rsv.fr t words 0 a → Rsv.J E t lb c U R words r F 4 a w) := Lib.hid fun a ha => ⟨0, rfl, by omega, HR0.out, H.out, ha⟩
    go_wp2_with fail
    refine wp_label ?_
    simp only [Exit.then]
    go_step
    exact pass _ _ _ (HJ0.out _ rfl)
end
end Scul
/- scullionlaw7: config. -/
namespace Scul
open Go Go.Sl Go.RowKit Go.Proofs
/-- A number of blocks, as the law takes it. -/
def u90 (n : Int) : Int := n % 18446744073709551616 % 90
def cfg7 (n0 n1 n2 n3 : Int) : Cfg := ⟨[[1]], if u90 n0 = 0 ∧ u90 n1 = 0 ∧ u90 n2 = 0 ∧ u90 n3 = 0 then 1 else u90 n0, u90 n1, u90 n2, u90 n3, 1, 0, 40⟩
theorem u90_go (n : Int) : wrap64 ((IntKind.u64.wrap n).tmod 90) = u90 n := by
  rw [IntKind.wrap_u64, tmod_of_emod]
  unfold wrap64 u90
  omega
theorem u90_range (n : Int) : 0 ≤ u90 n ∧ u90 n < 90 := by unfold u90; omega
theorem cfg7_may (n0 n1 n2 n3 : Int) : (cfg7 n0 n1 n2 n3).may = 0 := by
  have h0 := u90_range n0; have h1 := u90_range n1; have h2 := u90_range n2; have h3 := u90_range n3
  unfold cfg7
  generalize u90 n0 = a at *
  generalize u90 n1 = b at *
  generalize u90 n2 = c at *
  generalize u90 n3 = d at *
  refine Cfg.may_of_ok ?_
  have hx : ∃ x : Int, x = (if a = 0 ∧ b = 0 ∧ c = 0 ∧ d = 0 then 1 else a) ∧ 0 ≤ x ∧ x < 90 ∧ 0 < x + b + c + d := by
    refine ⟨_, rfl, ?_⟩
    split <;> omega
  obtain ⟨x, hx1, hx2, hx3, hx4⟩ := hx
  rw [← hx1]
  refine { k := by simp, n0 := ⟨hx2, by simp; omega⟩, n1 := ⟨h1.1, by simp; omega⟩, n2 := ⟨h2.1, by simp; omega⟩, n3 := ⟨h3.1, by simp; omega⟩, roots := by simp, weaks := by simp, log := by simp, kinds := ?_, k1 := by simp, some := ?_, roots1 := by simp, log40 := by simp, log8 := by simp, words := ?_ }
  · intro k hk
    simp at hk
    subst hk
    decide +kernel
  · show 0 < x + b + c + d
    exact hx4
  · have e6 : (Cfg.mk [[1]] x b c d 1 0 40).words = Cfg.lineOf (Cfg.lineOf (Cfg.lineOf (Cfg.lineOf 10 + 1 + 0) + (x + b + c + d + 63) / 64) + 40 + (2 * x + 4 * b + 8 * c + 16 * d)) := rfl
    rw [e6]
    unfold Cfg.lineOf
    omega
theorem eq4 (a b c d : Nat) (w : World) : (Op.equalIn 10000 65 (.agg #[.int .i64 (a : Int), .int .i64 (b : Int), .int .i64 (c : Int), .int .i64 (d : Int)]) (.agg #[.int .i64 0, .int .i64 0, .int .i64 0, .int .i64 0])).run Try.prog w = .ok (decide (a = 0 ∧ b = 0 ∧ c = 0 ∧ d = 0)) w := by
  rcases a with _ | a
  · rcases b with _ | b
    · rcases c with _ | c
      · rcases d with _ | d
        · kernel_rfl
        · rw [decide_eq_false (by omega)]; kernel_rfl
      · rw [decide_eq_false (by omega)]; kernel_rfl
    · rw [decide_eq_false (by omega)]; kernel_rfl
  · rw [decide_eq_false (by omega)]; kernel_rfl
theorem eq4i {a b c d : Int} (h0 : 0 ≤ a) (h1 : 0 ≤ b) (h2 : 0 ≤ c) (h3 : 0 ≤ d) (w : World) : (Op.equalIn 10000 65 (.agg #[.int .i64 a, .int .i64 b, .int .i64 c, .int .i64 d]) (.agg #[.int .i64 0, .int .i64 0, .int .i64 0, .int .i64 0])).run Try.prog w = .ok (decide (a = 0 ∧ b = 0 ∧ c = 0 ∧ d = 0)) w := by
  obtain ⟨a, rfl⟩ := Int.eq_ofNat_of_zero_le h0
  obtain ⟨b, rfl⟩ := Int.eq_ofNat_of_zero_le h1
  obtain ⟨c, rfl⟩ := Int.eq_ofNat_of_zero_le h2
  obtain ⟨d, rfl⟩ := Int.eq_ofNat_of_zero_le h3
  rw [eq4]
  congr 1
  rw [decide_eq_decide]
  omega
section
variable {E : Env} {w : World} {F : HP}
theorem Sat.alloc5 (h : Sat E w F) (A B C D G : Obj) : Sat E (((((w.alloc A).alloc B).alloc C).alloc D).alloc G) (pt (w.heap.size + 1 + 1 + 1 + 1) G * (pt (w.heap.size + 1 + 1 + 1) D * (pt (w.heap.size + 1 + 1) C * (pt (w.heap.size + 1) B * (pt w.heap.size A * F))))) := by
  have h4 := ((((h.alloc A).alloc B).alloc C).alloc D).alloc G
  simpa only [World.size_alloc] using h4
set_option maxRecDepth 100000 in
set_option maxHeartbeats 2000000 in
theorem config7_calls (w : World) (n0 n1 n2 n3 : Int) (hs : Sat E w F) :
    Calls Try.prog 46 #[.agg #[.int .i64 n0, .int .i64 n1, .int .i64 n2, .int .i64 n3]] w fun e w' => ∃ kv ks, e = .returned (.agg (cfgCells kv (cfg7 n0 n1 n2 n3))) ∧ ks.map (·.2) = (cfg7 n0 n1 n2 n3).kinds ∧ (∃ a cc, kv = .slice a ks.length cc) ∧ Sat E w' (kindsR kv ks * F) := by
  obtain ⟨g, hg⟩ : ∃ g, g = w.heap.size := ⟨_, rfl⟩
  obtain ⟨R, hR⟩ : ∃ R : Int → Int → Int → Int → HP, R = fun b0 b1 b2 b3 => pt (g + 1 + 1 + 1 + 1) (.cells #[.slice (some ⟨g + 1 + 1 + 1, 0, none⟩) 1 1, .int .i64 b0, .int .i64 b1, .int .i64 b2, .int .i64 b3, .int .i64 1, .int .i64 0, .int .i64 40] 72) * (pt (g + 1 + 1 + 1) (.cells #[.slice (some ⟨g + 1 + 1, 0, none⟩) 1 1] 133) * (pt (g + 1 + 1) (.cells #[.int .i64 1] 3) * (pt (g + 1) (.cells #[.slice none 0 0, .int .i64 0, .int .i64 0, .int .i64 0, .int .i64 0, .int .i64 0, .int .i64 0, .int .i64 0] 72) * (pt g (.cells #[.int .i64 n0, .int .i64 n1, .int .i64 n2, .int .i64 n3] 65) * F)))) := ⟨_, rfl⟩
  have HS : Hid (Sat E _ (R 0 0 0 0)) := Lib.hid (by rw [hR, hg]; exact Sat.alloc5 hs (.cells #[.int .i64 n0, .int .i64 n1, .int .i64 n2, .int .i64 n3] 65) (.cells #[.slice none 0 0, .int .i64 0, .int .i64 0, .int .i64 0, .int .i64 0, .int .i64 0, .int .i64 0, .int .i64 0] 72) (.cells #[.int .i64 1] 3) (.cells #[.slice (some ⟨w.heap.size + 1 + 1, 0, none⟩) 1 1] 133) (.cells #[.slice (some ⟨w.heap.size + 1 + 1 + 1, 0, none⟩) 1 1, .int .i64 0, .int .i64 0, .int .i64 0, .int .i64 0, .int .i64 1, .int .i64 0, .int .i64 40] 72))
  have HR := Lib.hid hR
  have HG := Lib.hid hg
  have HN : Hid (∀ b0 b1 b2 b3 W, Sat E W (R b0 b1 b2 b3) → (W.cell? ⟨w.heap.size, 0, none⟩ = some (.int .i64 n0) ∧ W.cell? ⟨w.heap.size, 1, none⟩ = some (.int .i64 n1) ∧ W.cell? ⟨w.heap.size, 2, none⟩ = some (.int .i64 n2) ∧ W.cell? ⟨w.heap.size, 3, none⟩ = some (.int .i64 n3)) ∧ CfgAt W (w.heap.size + 1 + 1 + 1 + 1) (.slice (some ⟨w.heap.size + 1 + 1 + 1, 0, none⟩) 1 1) ⟨[[1]], b0, b1, b2, b3, 1, 0, 40⟩ ∧ ∀ i, W.frozen? ⟨w.heap.size + 1 + 1 + 1 + 1, i, none⟩ = false) := Lib.hid fun b0 b1 b2 b3 W hW => by
    rw [hR, hg] at hW
    have h5 := hW.right.right.right.right
    exact ⟨⟨h5.cell 0 rfl, h5.cell 1 rfl, h5.cell 2 rfl, h5.cell 3 rfl⟩, cfg_at hW, fun i => hW.free i⟩
  have HW0 : Hid (∀ b0 b1 b2 b3 x W, Sat E W (R b0 b1 b2 b3) → Sat E (W.setCell ⟨w.heap.size + 1 + 1 + 1 + 1, 1, none⟩ (.int .i64 x)) (R x b1 b2 b3)) := Lib.hid fun b0 b1 b2 b3 x W hW => by rw [hR, hg] at hW ⊢; exact hW.setCell
  have HW1 : Hid (∀ b0 b1 b2 b3 x W, Sat E W (R b0 b1 b2 b3) → Sat E (W.setCell ⟨w.heap.size + 1 + 1 + 1 + 1, 2, none⟩ (.int .i64 x)) (R b0 x b2 b3)) := Lib.hid fun b0 b1 b2 b3 x W hW => by rw [hR, hg] at hW ⊢; exact hW.setCell
  have HW2 : Hid (∀ b0 b1 b2 b3 x W, Sat E W (R b0 b1 b2 b3) → Sat E (W.setCell ⟨w.heap.size + 1 + 1 + 1 + 1, 3, none⟩ (.int .i64 x)) (R b0 b1 x b3)) := Lib.hid fun b0 b1 b2 b3 x W hW => by rw [hR, hg] at hW ⊢; exact hW.setCell
  have HW3 : Hid (∀ b0 b1 b2 b3 x W, Sat E W (R b0 b1 b2 b3) → Sat E (W.setCell ⟨w.heap.size + 1 + 1 + 1 + 1, 4, none⟩ (.int .i64 x)) (R b0 b1 b2 x)) := Lib.hid fun b0 b1 b2 b3 x W hW => by rw [hR, hg] at hW ⊢; exact hW.setCell
  clear hs hg hR
  go_enter Try.func46, Try.ntmps46
  go_wp2_with fail
  go_loopw [9] (fun iv wr => ∃ (k b0 b1 b2 b3 : Int), iv = .int .i64 k ∧ ((k = 0 ∧ b0 = 0 ∧ b1 = 0 ∧ b2 = 0 ∧ b3 = 0) ∨ (k = 1 ∧ b0 = u90 n0 ∧ b1 = 0 ∧ b2 = 0 ∧ b3 = 0) ∨ (k = 2 ∧ b0 = u90 n0 ∧ b1 = u90 n1 ∧ b2 = 0 ∧ b3 = 0) ∨ (k = 3 ∧ b0 = u90 n0 ∧ b1 = u90 n1 ∧ b2 = u90 n2 ∧ b3 = 0) ∨ (k = 4 ∧ b0 = u90 n0 ∧ b1 = u90 n1 ∧ b2 = u90 n2 ∧ b3 = u90 n3)) ∧ Sat E wr (R b0 b1 b2 b3)) (fun iv _ => 4 - (RowKit.intOf iv).toNat)
  case atStart => exact ⟨0, 0, 0, 0, 0, rfl, .inl ⟨rfl, rfl, rfl, rfl, rfl⟩, HS.out⟩
  case round =>
    obtain ⟨k, b0, b1, b2, b3, rfl, hc, hw⟩ := hrel
    have HW := Lib.hid hw
    obtain ⟨⟨a0, a1, a2, a3⟩, ⟨k0, k1, k2, k3, k4, k5, k6, k7⟩, fz⟩ := HN.out _ _ _ _ _ hw
    simp only at k1 k2 k3 k4 k5 k6 k7
    have f1 := fz 1; have f2 := fz 2; have f3 := fz 3; have f4 := fz 4
    clear hw HS fz
    rcases hc with ⟨rfl, rfl, rfl, rfl, rfl⟩ | ⟨rfl, rfl, rfl, rfl, rfl⟩ | ⟨rfl, rfl, rfl, rfl, rfl⟩ | ⟨rfl, rfl, rfl, rfl, rfl⟩ | ⟨rfl, rfl, rfl, rfl, rfl⟩
    · go_wp2_with fail
      rw [u90_go]
      exact ⟨⟨1, _, _, _, _, rfl, .inr (.inl ⟨rfl, rfl, rfl, rfl, rfl⟩), HW0.out _ _ _ _ _ _ HW.out⟩, by simp [RowKit.intOf]⟩
    · go_wp2_with fail
      rw [u90_go]
      exact ⟨⟨2, _, _, _, _, rfl, .inr (.inr (.inl ⟨rfl, rfl, rfl, rfl, rfl⟩)), HW1.out _ _ _ _ _ _ HW.out⟩, by simp [RowKit.intOf]⟩
    · go_wp2_with fail
      rw [u90_go]
      exact ⟨⟨3, _, _, _, _, rfl, .inr (.inr (.inr (.inl ⟨rfl, rfl, rfl, rfl, rfl⟩))), HW2.out _ _ _ _ _ _ HW.out⟩, by simp [RowKit.intOf]⟩
    · go_wp2_with fail
      rw [u90_go]
      exact ⟨⟨4, _, _, _, _, rfl, .inr (.inr (.inr (.inr ⟨rfl, rfl, rfl, rfl, rfl⟩))), HW3.out _ _ _ _ _ _ HW.out⟩, by simp [RowKit.intOf]⟩
    · have r0 := u90_range n0; have r1 := u90_range n1; have r2 := u90_range n2; have r3 := u90_range n3
      have heq := eq4i r0.1 r1.1 r2.1 r3.1
      obtain ⟨C0, hC0⟩ : ∃ C0 : Int, C0 = if u90 n0 = 0 ∧ u90 n1 = 0 ∧ u90 n2 = 0 ∧ u90 n3 = 0 then 1 else u90 n0 := ⟨_, rfl⟩
      have HC0 := Lib.hid hC0
      obtain ⟨Z, hZ⟩ : ∃ Z, Z = decide (u90 n0 = 0 ∧ u90 n1 = 0 ∧ u90 n2 = 0 ∧ u90 n3 = 0) := ⟨_, rfl⟩
      rw [← hZ] at heq
      have HZ := Lib.hid hZ
      clear r0 r1 r2 r3 hC0 hZ
      go_upto_if 25 with fail
      go_cut [] (fun wx => Sat E wx (R C0 (u90 n1) (u90 n2) (u90 n3)))
      case first =>
        cases Z with
        | true =>
          have e : C0 = 1 := by rw [HC0.out, if_pos (of_decide_eq_true HZ.out.symm)]
          subst e
          go_wp2_with fail
          go_meet
          exact HW0.out _ _ _ _ _ _ HW.out
        | false =>
          have e : C0 = u90 n0 := by rw [HC0.out, if_neg (of_decide_eq_false HZ.out.symm)]
          subst e
          go_wp2_with fail
          go_meet
          exact HW.out
      case rest =>
        clear heq HW k0 k1 k2 k3 k4 k5 k6 k7 f1 f2 f3 f4 a0 a1 a2 a3
        rename World => W
        obtain ⟨_, ⟨k0, k1, k2, k3, k4, k5, k6, k7⟩, _⟩ := HN.out _ _ _ _ _ hcut
        simp only at k1 k2 k3 k4 k5 k6 k7
        have h2 := hcut
        rw [HR.out, HG.out] at h2
        have h3 : Sat E W (pt (w.heap.size + 1) (.cells #[.slice none 0 0, .int .i64 0, .int .i64 0, .int .i64 0, .int .i64 0, .int .i64 0, .int .i64 0, .int .i64 0] 72) * (pt (w.heap.size + 1 + 1 + 1) (.cells #[.slice (some ⟨w.heap.size + 1 + 1, 0, none⟩) 1 1] 133) * (pt (w.heap.size + 1 + 1) (.cells #[.int .i64 1] 3) * (pt (w.heap.size + 1 + 1 + 1 + 1) (.cells #[.slice (some ⟨w.heap.size + 1 + 1 + 1, 0, none⟩) 1 1, .int .i64 C0, .int .i64 (u90 n1), .int .i64 (u90 n2), .int .i64 (u90 n3), .int .i64 1, .int .i64 0, .int .i64 40] 72) * (pt w.heap.size (.cells #[.int .i64 n0, .int .i64 n1, .int .i64 n2, .int .i64 n3] 65) * F))))) := h2.ac (by ac_rfl)
        clear h2 hcut
        have d0 := h3.cell 0 rfl; have d1 := h3.cell 1 rfl; have d2 := h3.cell 2 rfl; have d3 := h3.cell 3 rfl
        have d4 := h3.cell 4 rfl; have d5 := h3.cell 5 rfl; have d6 := h3.cell 6 rfl; have d7 := h3.cell 7 rfl
        have f0 := h3.free 0; have f1 := h3.free 1; have f2 := h3.free 2; have f3 := h3.free 3
        have f4 := h3.free 4; have f5 := h3.free 5; have f6 := h3.free 6; have f7 := h3.free 7
        have h14 := (((((((h3.setCell (i := 0) (v := .slice (some ⟨w.heap.size + 1 + 1 + 1, 0, none⟩) 1 1)).setCell (i := 1) (v := .int .i64 C0)).setCell (i := 2) (v := .int .i64 (u90 n1))).setCell (i := 3) (v := .int .i64 (u90 n2))).setCell (i := 4) (v := .int .i64 (u90 n3))).setCell (i := 5) (v := .int .i64 1)).setCell (i := 6) (v := .int .i64 0)).setCell (i := 7) (v := .int .i64 40)
        have H14 := Lib.hid h14
        clear h3 h14
        go_wp2_with fail
        have h14 := H14.out
        simp only [List.setIfInBounds_toArray, List.set_cons_zero, List.set_cons_succ] at h14
        refine bodyPost_ret (results_cell_row rfl _ _ (w.heap.size + 1) _ _ _ _ rfl h14.at Try.underlying72 (by rfl) (by kernel_rfl)) rfl ?_
        refine ⟨.slice (some ⟨w.heap.size + 1 + 1 + 1, 0, none⟩) 1 1, [(.slice (some ⟨w.heap.size + 1 + 1, 0, none⟩) 1 1, [1])], ?_, rfl, ⟨some ⟨w.heap.size + 1 + 1 + 1, 0, none⟩, 1, rfl⟩, ?_⟩
        · rw [HC0.out]; rfl
        · have h2 := h14.right
          have h3 := Sat.row_mk (n := 1) (cap := 1) (size := 1) (cs := [Value.slice (some ⟨w.heap.size + 1 + 1, 0, none⟩) 1 1]) h2 (Nat.le_refl _) (by simp [maxLen]) rfl rfl
          have h5 := Sat.row_mk (n := 1) (cap := 1) (size := 1) (cs := [Value.int .i64 1]) (Sat.swap h3) (Nat.le_refl _) (by simp [maxLen]) rfl rfl
          have h6 : Sat E _ (pt (w.heap.size + 1 + 1 + 1 + 1) (.cells #[.slice (some ⟨w.heap.size + 1 + 1 + 1, 0, none⟩) 1 1, .int .i64 C0, .int .i64 (u90 n1), .int .i64 (u90 n2), .int .i64 (u90 n3), .int .i64 1, .int .i64 0, .int .i64 40] 72) * (pt w.heap.size (.cells #[.int .i64 n0, .int .i64 n1, .int .i64 n2, .int .i64 n3] 65) * (row 133 1 (.slice (some ⟨w.heap.size + 1 + 1 + 1, 0, none⟩) 1 1) 1 [Value.slice (some ⟨w.heap.size + 1 + 1, 0, none⟩) 1 1] * (row 3 1 (.slice (some ⟨w.heap.size + 1 + 1, 0, none⟩) 1 1) 1 [Value.int .i64 1] * F)))) := h5.ac (by ac_rfl)
          show Sat E _ (row 133 1 _ 1 _ * (row 3 1 _ 1 _ * emp) * F)
          rw [sep_emp, sep_assoc]
          exact h6.right.right
end
end Scul
/- scullionlaw7: awake; what the laws lay first. -/
namespace Scul
open Go Go.Sl Go.RowKit Go.Proofs
section
variable {E : Env} {w : World} {F : HP} {lb : Nat} {c : Cfg}
set_option maxHeartbeats 1000000 in
theorem blkNewNil_calls (w : World) (h : Sat E w (lay lb c * F)) :
    Calls Try.prog 47 #[.pointer (some ⟨lb, 0, none⟩), .pointer none] w fun e w' => ∃ t, e = .returned (.pointer (some ⟨t, 0, none⟩)) ∧ Sat E w' (tab t lb (List.replicate c.count.toNat false) (List.replicate c.count.toNat false) * (lay lb c * F)) := by
  have hn := (lay_ok h).toNear
  have hp := Cfg.near_places hn
  have hc2 : 0 ≤ c.count ∧ c.count ≤ 2048 := hp.2.2.2.2.2.2.2.2.2
    |> fun h => ⟨h.1, h.2.1⟩
  have HB := Lib.hid (fun W (hW : Sat E W (lay lb c * F)) => blocks_calls W hW)
  have HB2 : Hid (∀ W b2, Sat E W (bm b2 (List.replicate c.count.toNat false) * (lay lb c * F)) → Calls Try.prog 50 #[.pointer (some ⟨lb, 0, none⟩)] W fun e w' => e = .returned (.int .i64 c.count) ∧ ∃ m, w' = W.drewN m) := Lib.hid fun W b2 hW => blocks_calls W hW.right
  have HW1 := Lib.hid mWordsNil_calls
  have hcl : clampB c.count = c.count.toNat := by unfold clampB; omega
  have HO : Hid (∀ W, Sat E W (lay lb c * F) → Calls Try.prog 48 #[.int .i64 c.count, .slice none 0 0] W fun e w' => ∃ b, e = .returned (.pointer (some ⟨b, 0, none⟩)) ∧ Sat E w' (bm b (List.replicate c.count.toNat false) * (lay lb c * F))) := Lib.hid fun W hW =>
    (mOf_calls W c.count [] (.slice none 0 0) (by simp) (fun W' hW' => ⟨rfl, Nat.zero_le _, .inl ⟨rfl, none, 0, rfl, fun _ => rfl⟩⟩) hW).mono fun e w' ⟨b, he, h⟩ => ⟨b, he, by rw [hcl, unpack_nil] at h; exact h⟩
  have HN : Hid (∀ W b2, Sat E W (bm b2 (List.replicate c.count.toNat false) * (lay lb c * F)) → Calls Try.prog 99 #[.int .i64 c.count] W fun e w' => ∃ b, e = .returned (.pointer (some ⟨b, 0, none⟩)) ∧ Sat E w' (bm b (List.replicate c.count.toNat false) * (bm b2 (List.replicate c.count.toNat false) * (lay lb c * F)))) := Lib.hid fun W b2 hW => by
    have := mNew_calls W c.count hW
    rwa [hcl] at this
  have H := Lib.hid h
  clear h hn hp hcl
  go_enter Try.func47, Try.ntmps47
  go_wp2_with fail
  refine (HB.out _ H.out).mono ?_
  rintro e w1 ⟨rfl, m1, rfl⟩
  go_wp2_with fail
  refine (HW1.out _).mono ?_
  rintro e w2 ⟨rfl, rfl⟩
  go_wp2_with fail
  refine (HO.out _ (H.out.drewN m1)).mono ?_
  rintro e w3 ⟨b3, rfl, h3⟩
  go_wp2_with fail
  refine (HB2.out _ _ h3).mono ?_
  rintro e w4 ⟨rfl, m4, rfl⟩
  go_wp2_with fail
  refine (HN.out _ _ (h3.drewN m4)).mono ?_
  rintro e w5 ⟨b5, rfl, h5⟩
  have h6 := h5.alloc (.cells #[.pointer (some ⟨lb, 0, none⟩), .pointer (some ⟨b3, 0, none⟩), .pointer (some ⟨b5, 0, none⟩)] 136)
  have H7 := Lib.hid (tab_mk (lb := lb) (ub := b3) (rb := b5) (U := List.replicate c.count.toNat false) (R := List.replicate c.count.toNat false) (F := lay lb c * F) (h6.ac (by ac_rfl)))
  clear h5 h6 h3
  go_wp2_with fail
  go_ret
  exact ⟨_, rfl, H7.out⟩
set_option maxRecDepth 100000 in
set_option maxHeartbeats 1000000 in
theorem awake7_calls (w : World) (hs : Sat E w F) :
    Calls Try.prog 49 #[] w fun e w' => e = .returned (.bool true) ∧ Sat E w' F := by
  have e1 : cfg7 1 1 0 0 = ⟨[[1]], 1, 1, 0, 0, 1, 0, 40⟩ := by kernel_rfl
  obtain ⟨c, hc⟩ : ∃ c, c = cfg7 1 1 0 0 := ⟨_, rfl⟩
  have hm := cfg7_may 1 1 0 0
  rw [← hc] at hm
  have HCF := Lib.hid (fun W (hW : Sat E W F) => config7_calls W 1 1 0 0 hW)
  rw [← hc] at HCF
  have HNW : Hid (∀ W kv ks, ks.map (·.2) = c.kinds → Sat E W (kindsR kv ks * F) → Calls Try.prog 45 #[.agg (cfgCells kv c)] W fun e w' => ∃ b, e = .returned (.tuple #[.pointer (some ⟨b, 0, none⟩), .int .i64 0]) ∧ Sat E w' (lay b c * (kindsR kv ks * F))) := Lib.hid fun W kv ks hk hW => layNew_calls W c ks kv (fun W' hW' => kindsR_rd hW') hk hW hm
  obtain ⟨Z, hZ⟩ : ∃ Z : List Bool, Z = List.replicate c.count.toNat false := ⟨_, rfl⟩
  have hZ2 : Z = [false, false] := by rw [hZ, hc, e1]; decide +kernel
  have hZl : Z.length = c.count.toNat := by rw [hZ, List.length_replicate]
  obtain ⟨R1, hR1⟩ : ∃ R1, R1 = c.reserveR Z Z 2 := ⟨_, rfl⟩
  obtain ⟨R2, hR2⟩ : ∃ R2, R2 = c.reserveR Z R1 2 := ⟨_, rfl⟩
  have hl1 : R1.length = c.count.toNat := by rw [hR1, hZ2, hc, e1]; decide +kernel
  have hl2 : R2.length = c.count.toNat := by rw [hR2, hR1, hZ2, hc, e1]; decide +kernel
  have v1 : c.reserveA Z Z 2 = 0 ∧ c.reserveE Z Z 2 = 0 := by rw [hZ2, hc, e1]; decide +kernel
  have v2 : c.reserveA Z R1 2 = 1 ∧ c.reserveE Z R1 2 = 0 := by rw [hR1, hZ2, hc, e1]; decide +kernel
  have v3 : c.reserveE Z R2 1 = 5 := by rw [hR2, hR1, hZ2, hc, e1]; decide +kernel
  have HRS : Hid (∀ t lb R words (G : HP) W, R.length = c.count.toNat → Sat E W (tab t lb Z R * (lay lb c * G)) → Calls Try.prog 55 #[.pointer (some ⟨t, 0, none⟩), .int .i64 words] W fun e w' => e = .returned (.tuple #[.int .i64 (c.reserveA Z R words), .int .i64 (c.reserveE Z R words)]) ∧ Sat E w' (tab t lb Z (c.reserveR Z R words) * (lay lb c * G))) := Lib.hid fun t lb R words G W hl hW => reserve_calls W words hZl hl hW
  have HBN : Hid (∀ lb (G : HP) W, Sat E W (lay lb c * G) → Calls Try.prog 47 #[.pointer (some ⟨lb, 0, none⟩), .pointer none] W fun e w' => ∃ t, e = .returned (.pointer (some ⟨t, 0, none⟩)) ∧ Sat E w' (tab t lb Z Z * (lay lb c * G))) := Lib.hid fun lb G W hW => by rw [hZ]; exact blkNewNil_calls W hW
  have HS := Lib.hid hs
  clear hs hZ2 hZ hc e1 hm
  go_enter Try.func49, Try.ntmps49
  go_wp2_with fail
  refine (HCF.out _ HS.out).mono ?_
  rintro e w1 ⟨kv, ks, rfl, hk, ⟨ka, kc, rfl⟩, h1⟩
  go_wp2_with fail
  refine (HNW.out _ _ _ hk h1).mono ?_
  rintro e w2 ⟨lb, rfl, h2⟩
  clear h1
  go_wp2_with fail
  refine (HBN.out _ _ _ h2).mono ?_
  rintro e w3 ⟨t, rfl, h3⟩
  clear h2
  go_wp2_with fail
  refine (HRS.out _ _ _ 2 _ _ hZl h3).mono ?_
  rintro e w4 ⟨rfl, h4⟩
  rw [v1.1, v1.2]
  rw [← hR1] at h4
  clear h3
  go_wp2_with fail
  refine (HRS.out _ _ _ 2 _ _ hl1 h4).mono ?_
  rintro e w5 ⟨rfl, h5⟩
  rw [v2.1, v2.2]
  rw [← hR2] at h5
  clear h4
  go_wp2_with fail
  refine (HRS.out _ _ _ 1 _ _ hl2 h5).mono ?_
  rintro e w6 ⟨rfl, h6⟩
  rw [v3]
  generalize c.reserveA Z R2 1 = a6
  have H6 := Lib.hid h6.right.right.right
  clear h5 h6 v1 v2 v3
  go_wp2_with fail
  go_ret
  exact ⟨rfl, H6.out⟩
end
end Scul
/- Blocks: what Reserve tells, plain. -/
namespace Scul
namespace Cfg
variable (c : Cfg)
/-- Is block b free, and big enough? -/
def fitsB (U R : List Bool) (words b : Int) : Bool := decide (words ≤ 2 * 2 ^ (c.cls b).toNat) && freeB U R b
theorem cls_first {c : Cfg} (h : c.Near) (k : Nat) (hk : k < 4) (b : Int) (h1 : c.first k ≤ b) (h2 : b < c.first (k + 1)) : c.cls b = k := by
  rw [cls_in h b k (by omega), from_first c k hk, upto_first c k hk]
  exact ⟨by omega, h1, h2⟩
theorem first_four : c.first 4 = c.count := by simp [first, count]
theorem resFrom_spec {c : Cfg} (h : c.Near) (U R : List Bool) (words : Int) (n k : Nat) (hk : k + n = 4) :
    (c.resFrom U R words k n = -1 ∧ ∀ b, c.first k ≤ b → b < c.count → c.fitsB U R words b = false) ∨
    (c.first k ≤ c.resFrom U R words k n ∧ c.resFrom U R words k n < c.count ∧ c.fitsB U R words (c.resFrom U R words k n) = true ∧ ∀ b, c.first k ≤ b → b < c.resFrom U R words k n → c.fitsB U R words b = false) := by
  induction n generalizing k with
  | zero =>
    left
    obtain rfl : k = 4 := by omega
    refine ⟨rfl, fun b h1 h2 => ?_⟩
    rw [first_four] at h1
    omega
  | succ n ih =>
    have hk4 : k < 4 := by omega
    have hfr := first_range h k
    have hfs := first_succ c k hk4
    have hbr := blk_range h k
    have hup : c.first (k + 1) ≤ c.count := by
      have := (upto_from h k).2.2
      rwa [upto_first c k hk4] at this
    have hl := leastFrom_spec U R (c.from_ k) (c.upto k - c.from_ k).toNat (upto_from h k).1
    have hle : leastFrom U R (c.from_ k) (c.upto k - c.from_ k).toNat = c.least U R k := rfl
    rw [hle, from_first c k hk4] at hl
    rw [upto_first c k hk4] at hl
    have ih' := ih (k + 1) (by omega)
    unfold resFrom
    by_cases hc : words ≤ 2 * 2 ^ k ∧ 0 ≤ c.least U R k
    · rw [if_pos hc]
      right
      rcases hl with ⟨h1, _⟩ | ⟨h1, h2, h3, h4⟩
      · omega
      · have hcls := cls_first h k hk4 (c.least U R k) h1 (by omega)
        refine ⟨h1, by omega, ?_, fun b hb1 hb2 => ?_⟩
        · unfold fitsB
          rw [hcls, h3, Int.toNat_natCast, decide_eq_true hc.1]; rfl
        · unfold fitsB
          rw [h4 b hb1 hb2, Bool.and_false]
    · rw [if_neg hc]
      have hno : ∀ b, c.first k ≤ b → b < c.first (k + 1) → c.fitsB U R words b = false := by
        intro b hb1 hb2
        have hcls := cls_first h k hk4 b hb1 hb2
        unfold fitsB
        rw [hcls, Int.toNat_natCast]
        by_cases hw : words ≤ 2 * 2 ^ k
        · rcases hl with ⟨h1, h2⟩ | ⟨h1, _, _, _⟩
          · rw [h2 b hb1 (by omega), Bool.and_false]
          · exact (hc ⟨hw, by omega⟩).elim
        · rw [decide_eq_false hw, Bool.false_and]
      rcases ih' with ⟨h1, h2⟩ | ⟨h1, h2, h3, h4⟩
      · left
        refine ⟨h1, fun b hb1 hb2 => ?_⟩
        by_cases hb : b < c.first (k + 1)
        · exact hno b hb1 hb
        · exact h2 b (by omega) hb2
      · right
        refine ⟨by omega, h2, h3, fun b hb1 hb2 => ?_⟩
        by_cases hb : b < c.first (k + 1)
        · exact hno b hb1 hb
        · exact h4 b (by omega) hb2
theorem reserve_spec {c : Cfg} (h : c.Near) (U R : List Bool) (words : Int) :
    (c.reserve U R words = -1 ∧ ∀ b, 0 ≤ b → b < c.count → c.fitsB U R words b = false) ∨
    (0 ≤ c.reserve U R words ∧ c.reserve U R words < c.count ∧ c.fitsB U R words (c.reserve U R words) = true ∧ ∀ b, 0 ≤ b → b < c.reserve U R words → c.fitsB U R words b = false) :=
  resFrom_spec h U R words 4 0 rfl
theorem reserveR_length (U R : List Bool) (words : Int) : (c.reserveR U R words).length = R.length := by
  unfold reserveR
  split
  · rfl
  · exact setB_length _ _ _
end Cfg
/-- A number of words, as the law takes it. -/
def u16 (n : Int) : Int := n % 18446744073709551616 % 16 + 1
theorem u16_range (n : Int) : 1 ≤ u16 n ∧ u16 n ≤ 16 := by unfold u16; omega
end Scul
/- Blocks: what a reservation changes, plain. -/
namespace Scul
theorem setB_back {R : List Bool} {r : Int} (h : getB R r = false) : setB (setB R r true) r false = R := by
  unfold setB
  by_cases hr : 0 ≤ r ∧ r < R.length
  · rw [if_pos hr, if_pos (by simpa using hr), List.set_set]
    obtain ⟨k, rfl⟩ := Int.eq_ofNat_of_zero_le hr.1
    rw [getB_nat] at h
    rw [Int.toNat_natCast]
    refine List.ext_getElem? fun j => ?_
    rw [List.getElem?_set]
    split
    · rename_i e
      subst e
      rw [if_pos (by omega), List.getElem?_eq_getElem (by omega)]
      rw [List.getD_eq_getElem?_getD, List.getElem?_eq_getElem (by omega)] at h
      simp only [Option.getD_some] at h
      rw [h]
    · rfl
  · rw [if_neg hr, if_neg hr]
theorem freeB_set {U R : List Bool} {r b : Int} (hr : 0 ≤ r ∧ r < R.length) : freeB U (setB R r true) b = (freeB U R b && decide (b ≠ r)) := by
  unfold freeB
  rw [getB_setB]
  by_cases e : r = b
  · subst e; rw [if_pos ⟨rfl, hr⟩]; simp
  · rw [if_neg (fun h => e h.1)]
    have : decide (b ≠ r) = true := by simpa using fun h : b = r => e h.symm
    rw [this, Bool.and_true]
theorem freeFrom_set {U R : List Bool} {r : Int} (hr : 0 ≤ r ∧ r < R.length) (hf : freeB U R r = true) (f : Int) (n : Nat) : freeFrom U (setB R r true) f n = freeFrom U R f n - if f ≤ r ∧ r < f + n then 1 else 0 := by
  induction n with
  | zero => simp only [freeFrom]; rw [if_neg (by omega)]; rfl
  | succ n ih =>
    simp only [freeFrom]
    rw [ih, freeB_set hr]
    by_cases e : f + (n : Int) = r
    · rw [e, hf]
      have e1 : ¬ (f ≤ r ∧ r < r) := by omega
      have e2 : f ≤ r ∧ r < f + ((n + 1 : Nat) : Int) := by omega
      rw [if_neg e1, if_pos e2]
      simp
    · have e3 : decide (f + (n : Int) ≠ r) = true := by simpa using e
      rw [e3, Bool.and_true]
      generalize (if freeB U R (f + (n : Int)) = true then (1 : Int) else 0) = y
      by_cases e4 : f ≤ r ∧ r < f + n
      · rw [if_pos e4, if_pos (by omega)]; omega
      · rw [if_neg e4, if_neg (by omega)]; omega
namespace Cfg
/-- A block reserved: its class has one free block less. -/
theorem free_reserved {c : Cfg} (h : c.Near) {U R : List Bool} {r : Int} (hl : R.length = c.count.toNat) (hr : 0 ≤ r ∧ r < c.count) (hf : freeB U R r = true) : c.free U (setB R r true) (c.cls r) = c.free U R (c.cls r) - 1 := by
  have hc := cls_range c r
  have hc0 : 0 ≤ c.cls r := by
    have := cls_neg h r
    omega
  obtain ⟨_, h1, h2⟩ := (cls_in h r (c.cls r) hc0).1 rfl
  have hu := upto_from h (c.cls r)
  unfold free
  rw [freeFrom_set ⟨hr.1, by omega⟩ hf, if_pos (by omega)]
theorem reserve_R {c : Cfg} {U R : List Bool} {x : Int} (h1 : 1 ≤ x) (h2 : x ≤ 16) : c.reserveR U R x = if c.reserve U R x < 0 then R else setB R (c.reserve U R x) true := by
  unfold reserveR
  by_cases h : c.reserve U R x < 0
  · rw [if_pos (.inr (.inr h)), if_pos h]
  · rw [if_neg (by omega), if_neg h]
end Cfg
end Scul
/- Blocks: Publish and Release, plain. -/
namespace Scul
/-- Are blocks all of a map, each once? -/
def mayB (m : List Bool) : List Int → List Int → Bool
  | _, [] => true
  | met, b :: r => getB m b && !met.contains b && mayB m (met ++ [b]) r
theorem mayB_iff (m : List Bool) (met l : List Int) (hm : met.Nodup) : mayB m met l = true ↔ (∀ b ∈ l, getB m b = true) ∧ (met ++ l).Nodup := by
  induction l generalizing met with
  | nil => simp [mayB, hm]
  | cons b r ih =>
    unfold mayB
    by_cases hb : b ∈ met
    · have h1 : met.contains b = true := by simpa using hb
      rw [h1]
      simp only [Bool.not_true, Bool.and_false, Bool.false_and, Bool.false_eq_true, false_iff, not_and]
      intro _ hn
      rw [List.nodup_append] at hn
      exact hn.2.2 b hb b (by simp) rfl
    · have h1 : met.contains b = false := by simpa using hb
      rw [h1]
      have hn : (met ++ [b]).Nodup := by
        rw [List.nodup_append]
        refine ⟨hm, by simp, ?_⟩
        intro x hx y hy
        simp at hy
        subst hy
        exact fun e => hb (e ▸ hx)
      simp only [Bool.not_false, Bool.and_true, Bool.and_eq_true]
      rw [ih (met ++ [b]) hn, List.append_assoc]
      simp only [List.singleton_append, List.mem_cons, forall_eq_or_imp]
      exact ⟨fun ⟨h2, h3, h4⟩ => ⟨⟨h2, h3⟩, h4⟩, fun ⟨⟨h2, h3⟩, h4⟩ => ⟨h2, h3, h4⟩⟩
theorem mayB_spec (m : List Bool) (l : List Int) : mayB m [] l = true ↔ (∀ b ∈ l, getB m b = true) ∧ l.Nodup := by
  have := mayB_iff m [] l List.nodup_nil
  simpa using this
/-- Blocks are made so. -/
def setAll (m : List Bool) (l : List Int) (x : Bool) : List Bool := l.foldl (fun m b => setB m b x) m
theorem setAll_length (m : List Bool) (l : List Int) (x : Bool) : (setAll m l x).length = m.length := by
  unfold setAll
  induction l generalizing m with
  | nil => rfl
  | cons b r ih => simp only [List.foldl_cons]; rw [ih]; exact setB_length _ _ _
theorem setAll_append (m : List Bool) (l : List Int) (b : Int) (x : Bool) : setAll m (l ++ [b]) x = setB (setAll m l x) b x := by simp [setAll]
theorem getB_setAll (m : List Bool) (l : List Int) (x : Bool) (i : Int) : getB (setAll m l x) i = if i ∈ l ∧ 0 ≤ i ∧ i < m.length then x else getB m i := by
  unfold setAll
  induction l generalizing m with
  | nil => simp
  | cons b r ih =>
    simp only [List.foldl_cons]
    rw [ih, setB_length, getB_setB]
    by_cases h1 : i ∈ r ∧ 0 ≤ i ∧ i < m.length
    · rw [if_pos h1, if_pos ⟨List.mem_cons_of_mem _ h1.1, h1.2⟩]
    · rw [if_neg h1]
      by_cases h2 : b = i ∧ 0 ≤ b ∧ b < m.length
      · rw [if_pos h2, if_pos ⟨by rw [h2.1]; exact List.mem_cons_self, by rw [← h2.1]; exact h2.2⟩]
      · rw [if_neg h2, if_neg]
        rintro ⟨h3, h4⟩
        rcases List.mem_cons.1 h3 with rfl | h3
        · exact h2 ⟨rfl, h4⟩
        · exact h1 ⟨h3, h4⟩
/-- The words of blocks' bits, rising, each once. -/
def sortB (l : List Int) : List Int := l.mergeSort fun x y => decide (x ≤ y)
end Scul
/- The shelf's contracts of slices.Sort, Contains, Compact at ints, laid at this program (by the kit's lay-shelf, lay-plain at seat r1). -/
namespace Go.Proofs
open Go.Shelf
def Try.lays189_ren : Go.Shelf.Ren := ⟨fun | 189 => 134 | 125 => 141 | 257 => 140 | 128 => 152 | 129 => 153 | 294 => 143 | 295 => 144 | 296 => 145 | 297 => 146 | 298 => 147 | 299 => 148 | 216 => 149 | 300 => 150 | 301 => 151 | 328 => 154 | 329 => 155 | 330 => 156 | 331 => 157 | 332 => 158 | 215 => 159 | 343 => 160 | n => n, fun | 28 => 66 | 3 => 3 | 46 => 140 | 0 => 0 | 51 => 187 | 53 => 27 | 4 => 4 | 183 => 180 | 182 => 179 | 131 => 184 | 5 => 5 | 9 => 9 | 218 => 189 | 222 => 193 | 228 => 195 | 229 => 120 | n => n, fun | n => n⟩
theorem Try.lays189 : Go.Proofs.Lays.n189 Try.prog Try.lays189_ren := {
  mixed := by kernel_rfl
  f125 := Try.func141.trans (congrArg some (by kernel_rfl))
  f128 := Try.func152.trans (congrArg some (by kernel_rfl))
  f129 := Try.func153.trans (congrArg some (by kernel_rfl))
  f189 := Try.func134.trans (congrArg some (by kernel_rfl))
  f215 := Try.func159.trans (congrArg some (by kernel_rfl))
  f216 := Try.func149.trans (congrArg some (by kernel_rfl))
  f257 := Try.func140.trans (congrArg some (by kernel_rfl))
  f294 := Try.func143.trans (congrArg some (by kernel_rfl))
  f295 := Try.func144.trans (congrArg some (by kernel_rfl))
  f296 := Try.func145.trans (congrArg some (by kernel_rfl))
  f297 := Try.func146.trans (congrArg some (by kernel_rfl))
  f298 := Try.func147.trans (congrArg some (by kernel_rfl))
  f299 := Try.func148.trans (congrArg some (by kernel_rfl))
  f300 := Try.func150.trans (congrArg some (by kernel_rfl))
  f301 := Try.func151.trans (congrArg some (by kernel_rfl))
  f328 := Try.func154.trans (congrArg some (by kernel_rfl))
  f329 := Try.func155.trans (congrArg some (by kernel_rfl))
  f330 := Try.func156.trans (congrArg some (by kernel_rfl))
  f331 := Try.func157.trans (congrArg some (by kernel_rfl))
  f332 := Try.func158.trans (congrArg some (by kernel_rfl))
  f343 := Try.func160.trans (congrArg some (by kernel_rfl))
  t0 := Try.underlying0
  a0 := Try.isAgg0
  z0 := Try.sizeOf0
  v0 := Try.zeroValue0
  t3 := Try.underlying3
  a3 := Try.isAgg3
  z3 := Try.sizeOf3
  v3 := Try.zeroValue3
  t4 := Try.underlying4
  a4 := Try.isAgg4
  z4 := Try.sizeOf4
  v4 := Try.zeroValue4
  t5 := Try.underlying5
  a5 := Try.isAgg5
  z5 := Try.sizeOf5
  v5 := Try.zeroValue5
  t9 := Try.underlying9
  a9 := Try.isAgg9
  z9 := Try.sizeOf9
  v9 := Try.zeroValue9
  t28 := Try.underlying66
  a28 := Try.isAgg66
  z28 := Try.sizeOf66
  v28 := Try.zeroValue66
  t46 := Try.underlying140
  a46 := Try.isAgg140
  z46 := Try.sizeOf140
  v46 := Try.zeroValue140
  t51 := Try.underlying187
  a51 := Try.isAgg187
  z51 := Try.sizeOf187
  v51 := Try.zeroValue187
  t53 := Try.underlying27
  a53 := Try.isAgg27
  z53 := Try.sizeOf27
  v53 := Try.zeroValue27
  t131 := Try.underlying184
  a131 := Try.isAgg184
  z131 := Try.sizeOf184
  v131 := Try.zeroValue184
  t182 := Try.underlying179
  a182 := Try.isAgg179
  z182 := Try.sizeOf179
  v182 := Try.zeroValue179
  t183 := Try.underlying180
  a183 := Try.isAgg180
  z183 := Try.sizeOf180
  v183 := Try.zeroValue180
  t218 := Try.underlying189
  a218 := Try.isAgg189
  z218 := Try.sizeOf189
  v218 := Try.zeroValue189
  t222 := Try.underlying193
  a222 := Try.isAgg193
  z222 := Try.sizeOf193
  v222 := Try.zeroValue193
  t228 := Try.underlying195
  a228 := Try.isAgg195
  z228 := Try.sizeOf195
  v228 := Try.zeroValue195
  t229 := Try.underlying120
  a229 := Try.isAgg120
  z229 := Try.sizeOf120
  v229 := Try.zeroValue120 }
open Go.Sort Go.RowKit in
theorem Try.slices_Sort_int (blk off cap : Nat) (zs : List Int) (w : World) (hH : Holds (Value.int .i64) w blk off zs.toArray) (hblk : blk < w.heap.size) (hsz : zs.length < 4611686018427387904) :
    Calls Try.prog 134 #[.slice (some ⟨blk, off, none⟩) zs.length cap] w fun e w' =>
      e = .returned (.tuple #[]) ∧ ∃ n os, w' = grow (putRow (Value.int .i64) (Sort.ahead w n) blk off (zs.mergeSort fun x y => decide (x ≤ y)).toArray) os := Any.slices_Sort_int Try.lays189 blk off cap zs w hH hblk hsz
def Try.lays107_ren : Go.Shelf.Ren := ⟨fun | 107 => 133 | 108 => 139 | n => n, fun | 28 => 66 | 3 => 3 | 4 => 4 | 0 => 0 | n => n, fun | n => n⟩
theorem Try.lays107 : Go.Proofs.Lays.n107 Try.prog Try.lays107_ren := {
  mixed := by kernel_rfl
  f107 := Try.func133.trans (congrArg some (by kernel_rfl))
  f108 := Try.func139.trans (congrArg some (by kernel_rfl))
  t0 := Try.underlying0
  a0 := Try.isAgg0
  z0 := Try.sizeOf0
  v0 := Try.zeroValue0
  t3 := Try.underlying3
  a3 := Try.isAgg3
  z3 := Try.sizeOf3
  v3 := Try.zeroValue3
  t4 := Try.underlying4
  a4 := Try.isAgg4
  z4 := Try.sizeOf4
  v4 := Try.zeroValue4
  t28 := Try.underlying66
  a28 := Try.isAgg66
  z28 := Try.sizeOf66
  v28 := Try.zeroValue66 }
open Go.Lib in
theorem Try.slices_Contains_int (b off n c : Nat) (zs : List Int) (x : Int) (w : World) (hz : n ≤ zs.length) (hbig : n ≤ 9223372036854775807) (hc : ∀ j, j < zs.length → w.cell? ⟨b, off + j, none⟩ = some (.int .i64 (zs.getD j 0))) :
    Calls Try.prog 133 #[.slice (some ⟨b, off, none⟩) n c, .int .i64 x] w fun e w' => e = .returned (.bool ((zs.take n).contains x)) ∧ w' = w := Any.slices_Contains_int Try.lays107 b off n c zs x w hz hbig hc
open Go.Lib in
theorem Try.slices_Contains_int_empty (a : Option Addr) (c : Nat) (x : Int) (w : World) :
    Calls Try.prog 133 #[.slice a 0 c, .int .i64 x] w fun e w' => e = .returned (.bool false) ∧ w' = w := Any.slices_Contains_int_empty Try.lays107 a c x w
def Try.laysNm220_ren : Go.Shelf.Ren := ⟨fun | 20 => 135 | n => n, fun | 22 => 66 | 3 => 3 | 4 => 4 | 0 => 0 | n => n, fun | n => n⟩
theorem Try.laysNm220 : Go.Proofs.Lays2.n20 Try.prog Try.laysNm220_ren := {
  mixed := by kernel_rfl
  f20 := Try.func135.trans (congrArg some (by kernel_rfl))
  t0 := Try.underlying0
  a0 := Try.isAgg0
  z0 := Try.sizeOf0
  v0 := Try.zeroValue0
  t3 := Try.underlying3
  a3 := Try.isAgg3
  z3 := Try.sizeOf3
  v3 := Try.zeroValue3
  t4 := Try.underlying4
  a4 := Try.isAgg4
  z4 := Try.sizeOf4
  v4 := Try.zeroValue4
  t22 := Try.underlying66
  a22 := Try.isAgg66
  z22 := Try.sizeOf66
  v22 := Try.zeroValue66
  i3 := by kernel_rfl }
open Go.RowKit Go.Lib Go.Sort in
theorem Try.slices_Compact_int (blk off cap : Nat) (zs : List Int) (w : World) (hH : Holds (Value.int .i64) w blk off zs.toArray) (hsz : zs.length ≤ 9223372036854775807) (hcap : zs.length ≤ cap) :
    Calls Try.prog 135 #[.slice (some ⟨blk, off, none⟩) zs.length cap] w fun e w' => e = .returned (.slice (some ⟨blk, off, none⟩) (Lib.compact zs).length cap) ∧ ∃ q, w' = putRow (Value.int .i64) (Sort.ahead w q) blk off (Lib.compact zs ++ List.replicate (zs.length - (Lib.compact zs).length) 0).toArray := Any.slices_Compact_int Try.laysNm220 blk off cap zs w hH hsz hcap
open Go.RowKit Go.Lib Go.Sort in
theorem Try.slices_Compact_int_empty (a : Option Addr) (cap : Nat) (w : World) :
    Calls Try.prog 135 #[.slice a 0 cap] w fun e w' => e = .returned (.slice a 0 cap) ∧ w' = w := Any.slices_Compact_int_empty Try.laysNm220 a cap w
open Go.RowKit Go.Sort in
theorem Try.slices_Sort_int_none (p : Option Addr) (cap : Nat) (w : World) :
    Calls Try.prog 134 #[.slice p 0 cap] w fun e w' => e = .returned (.tuple #[]) ∧ w' = w := Any.slices_Sort_int_none Try.lays189 p cap w
end Go.Proofs
/- slices.Sort, Compact, Contains of ints, over memory that is owned or only read. -/
namespace Scul
open Go Go.Sl Go.RowKit Go.Proofs Go.Sort
section
variable {E : Env} {w : World} {F R : HP}
/-- One block is written, others may be new. -/
theorem Sat.putG {b : Nat} {o o' : Obj} (h : Sat E w (pt b o * R)) {w' : World} (hw : w'.env = w.env) (hb : w'.heap[b]? = some o') (hn : ∀ x u, x ≠ b → w.heap[x]? = some u → w'.heap[x]? = some u) : Sat E w' (pt b o' * R) := by
  obtain ⟨he, _, hs, h1, h2, d, rfl, rfl, r⟩ := h
  refine ⟨hw.trans he, join (fun y => if y = b then some o' else none) h2, ?_, _, h2, ?_, rfl, rfl, r⟩
  · intro x u hx
    simp only [join] at hx
    by_cases e : x = b
    · subst e; simp at hx; subst hx; exact hb
    · simp [e] at hx
      exact hn x u e (hs x u (by simp [join, e, hx]))
  · intro x
    by_cases e : x = b
    · right
      rcases d x with h | h
      · simp [e] at h
      · exact h
    · left; simp [e]
theorem ints_cases {v : Value} {l : List Int} (h : Sat E w (ints v l * F)) : (v = .slice none 0 0 ∧ l = [] ∧ Sat E w F) ∨
    ∃ g cap cur, v = .slice (some ⟨g, 0, none⟩) l.length cap ∧ l.length ≤ cap ∧ cap ≤ maxLen ∧ cur.size = cap ∧ cur.toList.take l.length = i64s l ∧ Sat E w (pt g (.cells cur 3 (0, 0)) * F) := by
  obtain ⟨_, ⟨h1, h2, h3⟩ | ⟨g, cap, cur, h1, h2, h3, h4, h5, h6⟩⟩ := h.row_cases
  · exact .inl ⟨h1, List.eq_nil_of_length_eq_zero h2, h3⟩
  · exact .inr ⟨g, cap, cur, h1, h2, h3, by simpa using h4, by simpa using h5, h6⟩
theorem ints_mk {g cap : Nat} {cur : Array Value} {l : List Int} (h : Sat E w (pt g (.cells cur 3 (0, 0)) * F)) (h1 : l.length ≤ cap) (h2 : cap ≤ maxLen) (h3 : cur.size = cap) (h4 : cur.toList.take l.length = i64s l) :
    Sat E w (ints (.slice (some ⟨g, 0, none⟩) l.length cap) l * F) :=
  Sat.row_mk h h1 h2 (by simpa using h3) (by simpa using h4)
theorem sortB_length (l : List Int) : (sortB l).length = l.length := by unfold sortB; exact List.length_mergeSort _
theorem sortI_calls (w : World) (l : List Int) (v : Value) (hl : l.length < 4611686018427387904) (h : Sat E w (ints v l * F)) :
    Calls Try.prog 134 #[v] w fun e w' => e = .returned (.tuple #[]) ∧ Sat E w' (ints v (sortB l) * F) := by
  rcases ints_cases h with ⟨rfl, rfl, h2⟩ | ⟨g, cap, cur, rfl, h1, h2, h3, h4, h5⟩
  · exact (Try.slices_Sort_int_none none 0 w).mono fun e w' ⟨he, hw⟩ => ⟨he, by rw [hw, show sortB [] = [] by simp [sortB]]; exact h⟩
  · have hg := h5.at
    refine (Try.slices_Sort_int g 0 cap l w (holds_of_blockI hg h4) h5.lt hl).mono fun e w' ⟨he, n, os, hw⟩ => ⟨he, ?_⟩
    have e0 : (l.mergeSort fun x y => decide (x ≤ y)) = sortB l := rfl
    rw [e0] at hw
    have h6 : Sat E w' (pt g (.cells (putCells (Value.int .i64) 0 (sortB l).toArray cur) 3 (0, 0)) * F) := by
      refine Sat.putG h5 ?_ ?_ ?_
      · rw [hw]; rfl
      · rw [hw]; exact heap_sortedI _ hg
      · intro x u hx hu
        rw [hw]
        have hlt : x < w.heap.size := (Array.getElem?_eq_some_iff.1 hu).1
        rw [heap_grow_old _ _ (by simpa using hlt)]
        simp [putRow, mapBlock, Sort.ahead, Array.getElem?_modify, Ne.symm hx, hu]
    have e1 : l.length = (sortB l).length := (sortB_length l).symm
    rw [e1]
    exact ints_mk h6 (by rw [← e1]; exact h1) h2 (by simp [putCells, h3]) (take_putCellsI cur (sortB l) (by rw [← e1, h3]; exact h1))
/-- Sorted, each once. -/
def compB (l : List Int) : List Int := Lib.compact l
theorem compB_length (l : List Int) : (compB l).length ≤ l.length := by
  unfold compB Lib.compact Lib.compactUpTo
  rw [List.length_map]
  have := List.length_filter_le (Lib.keeps l.toArray) (List.range l.length)
  simpa using this
theorem compactI_calls (w : World) (l : List Int) (v : Value) (h : Sat E w (ints v l * F)) :
    Calls Try.prog 135 #[v] w fun e w' => ∃ v', e = .returned v' ∧ Sat E w' (ints v' (compB l) * F) := by
  rcases ints_cases h with ⟨rfl, rfl, h2⟩ | ⟨g, cap, cur, rfl, h1, h2, h3, h4, h5⟩
  · exact (Try.slices_Compact_int_empty none 0 w).mono fun e w' ⟨he, hw⟩ => ⟨_, he, by rw [hw]; exact h⟩
  · have hg := h5.at
    refine (Try.slices_Compact_int g 0 cap l w (holds_of_blockI hg h4) (by simp only [maxLen] at h2; omega) h1).mono fun e w' ⟨he, n, hw⟩ => ⟨_, he, ?_⟩
    have e0 : Lib.compact l = compB l := rfl
    rw [e0] at hw ⊢
    have hcl := compB_length l
    obtain ⟨d, hd⟩ : ∃ d : List Int, d = compB l ++ List.replicate (l.length - (compB l).length) 0 := ⟨_, rfl⟩
    have hdl : d.length = l.length := by rw [hd, List.length_append, List.length_replicate]; omega
    rw [← hd] at hw
    have hw2 : w' = grow (putRow (Value.int .i64) (Sort.ahead w n) g 0 d.toArray) #[] := by rw [hw, grow_empty]
    have h6 : Sat E w' (pt g (.cells (putCells (Value.int .i64) 0 d.toArray cur) 3 (0, 0)) * F) := by
      refine Sat.putG h5 ?_ ?_ ?_
      · rw [hw2]; rfl
      · rw [hw2]; exact heap_sortedI _ hg
      · intro x u hx hu
        rw [hw2]
        have hlt : x < w.heap.size := (Array.getElem?_eq_some_iff.1 hu).1
        rw [heap_grow_old _ _ (by simpa using hlt)]
        simp [putRow, mapBlock, Sort.ahead, Array.getElem?_modify, Ne.symm hx, hu]
    refine ints_mk h6 (by omega) h2 (by simp [putCells, h3]) ?_
    have ht := take_putCellsI cur d (by rw [hdl, h3]; exact h1)
    have e2 : (putCells (Value.int .i64) 0 d.toArray cur).toList.take (compB l).length = (d.map (Value.int .i64)).take (compB l).length := by
      rw [← ht, List.take_take, hdl, Nat.min_eq_left hcl]
    rw [e2, hd, ← List.map_take, List.take_left]
    rfl
theorem containsI_calls (w : World) (ao : Option Addr) (c n : Nat) (l : List Int) (x : Int) (hn : n ≤ l.length) (h : Rd w 1 (.slice ao l.length c) l.length (i64s l)) :
    Calls Try.prog 133 #[.slice ao n c, .int .i64 x] w fun e w' => e = .returned (.bool ((l.take n).contains x)) ∧ w' = w := by
  have hm := h.most
  by_cases h0 : n = 0
  · subst h0
    exact (Try.slices_Contains_int_empty ao c x w).mono fun e w' ⟨he, hw⟩ => ⟨by rw [he]; simp, hw⟩
  · obtain ⟨b, o, rfl, hc⟩ := Rd.at h (by omega)
    exact Try.slices_Contains_int b o n c l x w hn (by omega) (fun j hj => hc j _ (by simp [i64s, hj]))
end
end Scul
/- Blocks: the words that a turn tells, plain. -/
namespace Scul
theorem pairwise_le_getElem! {l : List Int} (h : l.Pairwise (· ≤ ·)) {i j : Nat} (hij : i ≤ j) (hj : j < l.length) : l.toArray[i]! ≤ l.toArray[j]! := by
  have e1 : l.toArray[i]! = l[i]'(by omega) := by simp [getElem!_pos, show i < l.length by omega]
  have e2 : l.toArray[j]! = l[j] := by simp [getElem!_pos, hj]
  rw [e1, e2]
  by_cases h0 : i = j
  · subst h0; exact Int.le_refl _
  · exact List.pairwise_iff_getElem.1 h i j (by omega) hj (by omega)
theorem compUpTo_spec {l : List Int} (h : l.Pairwise (· ≤ ·)) (m : Nat) (hm : m ≤ l.length) :
    (Go.Lib.compactUpTo l.toArray m).Pairwise (· < ·) ∧ ∀ x, x ∈ Go.Lib.compactUpTo l.toArray m ↔ ∃ i, i < m ∧ l.toArray[i]! = x := by
  induction m with
  | zero => exact ⟨by simp [Go.Lib.compactUpTo], fun x => by simp [Go.Lib.compactUpTo]⟩
  | succ m ih =>
    obtain ⟨h1, h2⟩ := ih (by omega)
    rw [Go.Lib.compactUpTo_succ]
    cases hk : Go.Lib.keeps l.toArray m with
    | true =>
      simp only [if_true]
      have hne : m = 0 ∨ l.toArray[m]! ≠ l.toArray[m - 1]! := by simpa [Go.Lib.keeps] using hk
      refine ⟨?_, ?_⟩
      · rw [List.pairwise_append]
        refine ⟨h1, by simp, ?_⟩
        intro a ha b hb
        simp only [List.mem_singleton] at hb
        subst hb
        obtain ⟨i, hi, rfl⟩ := (h2 a).1 ha
        have a1 := pairwise_le_getElem! h (show i ≤ m - 1 by omega) (by omega)
        have a2 := pairwise_le_getElem! h (show m - 1 ≤ m by omega) (by omega)
        rcases hne with e | e
        · omega
        · omega
      · intro x
        rw [List.mem_append, h2]
        simp only [List.mem_singleton]
        constructor
        · rintro (⟨i, hi, rfl⟩ | rfl)
          · exact ⟨i, by omega, rfl⟩
          · exact ⟨m, by omega, rfl⟩
        · rintro ⟨i, hi, rfl⟩
          by_cases e : i = m
          · right; rw [e]
          · left; exact ⟨i, by omega, rfl⟩
    | false =>
      have hne : ¬ (m = 0 ∨ l.toArray[m]! ≠ l.toArray[m - 1]!) := by simpa [Go.Lib.keeps] using hk
      have hm0 : m ≠ 0 := fun e => hne (.inl e)
      have heq : l.toArray[m]! = l.toArray[m - 1]! := Decidable.not_not.1 fun e => hne (.inr e)
      simp only [Bool.false_eq_true, if_false, List.append_nil]
      refine ⟨h1, fun x => ?_⟩
      rw [h2]
      constructor
      · rintro ⟨i, hi, rfl⟩; exact ⟨i, by omega, rfl⟩
      · rintro ⟨i, hi, rfl⟩
        by_cases e : i = m
        · exact ⟨m - 1, by omega, by rw [e, heq]⟩
        · exact ⟨i, by omega, rfl⟩
theorem compB_spec {l : List Int} (h : l.Pairwise (· ≤ ·)) : (compB l).Pairwise (· < ·) ∧ ∀ x, x ∈ compB l ↔ x ∈ l := by
  obtain ⟨h1, h2⟩ := compUpTo_spec h l.length (Nat.le_refl _)
  refine ⟨h1, fun x => ?_⟩
  show x ∈ Go.Lib.compactUpTo l.toArray l.length ↔ _
  rw [h2]
  constructor
  · rintro ⟨i, hi, rfl⟩
    have : l.toArray[i]! = l[i] := by simp [getElem!_pos, hi]
    rw [this]; exact List.getElem_mem hi
  · intro hx
    obtain ⟨i, hi, rfl⟩ := List.getElem_of_mem hx
    exact ⟨i, hi, by simp [getElem!_pos, hi]⟩
theorem sortB_pairwise (l : List Int) : (sortB l).Pairwise (· ≤ ·) := by
  have := List.pairwise_mergeSort (le := fun x y : Int => decide (x ≤ y)) (by intro a b c; simp; omega) (by intro a b; simp; omega) l
  unfold sortB
  simpa using this
theorem mem_sortB (l : List Int) (x : Int) : x ∈ sortB l ↔ x ∈ l := by unfold sortB; exact List.mem_mergeSort
/-- The words that hold blocks' bits, rising, each once. -/
def wordsOf (l : List Int) : List Int := compB (sortB (l.map fun b => b / 64))
theorem wordsOf_pairwise (l : List Int) : (wordsOf l).Pairwise (· < ·) := (compB_spec (sortB_pairwise _)).1
theorem mem_wordsOf (l : List Int) (x : Int) : x ∈ wordsOf l ↔ ∃ b ∈ l, b / 64 = x := by
  unfold wordsOf
  rw [(compB_spec (sortB_pairwise _)).2, mem_sortB, List.mem_map]
theorem wordsOf_length (l : List Int) : (wordsOf l).length ≤ l.length := by
  unfold wordsOf
  refine Nat.le_trans (compB_length _) ?_
  rw [sortB_length, List.length_map]
  exact Nat.le_refl _
theorem wordsOf_nil : wordsOf [] = [] := List.eq_nil_of_length_eq_zero (Nat.le_zero.1 (wordsOf_length []))
/-- The entries of words. -/
def turnE (c : Cfg) (U : List Bool) (ws : List Int) : List Ent := ws.map fun w => ⟨c.bitsOf (w * 64), wordB U w⟩
theorem turnE_append (c : Cfg) (U : List Bool) (a b : List Int) : turnE c U (a ++ b) = turnE c U a ++ turnE c U b := List.map_append
theorem turnE_length (c : Cfg) (U : List Bool) (a : List Int) : (turnE c U a).length = a.length := List.length_map _
/-- Different blocks of n are at most n. -/
theorem nodup_le (n : Nat) (l : List Int) (hn : l.Nodup) (h : ∀ b ∈ l, 0 ≤ b ∧ b < n) : l.length ≤ n := by
  induction n generalizing l with
  | zero =>
    cases l with
    | nil => simp
    | cons a r => have := h a (by simp); omega
  | succ n ih =>
    have h1 := ih (l.erase (n : Int)) (hn.erase _) fun b hb => by
      have hb2 := (List.Nodup.mem_erase_iff hn).1 hb
      have := h b hb2.2
      have := hb2.1
      omega
    have h2 := List.length_erase (a := (n : Int)) (l := l)
    by_cases hm : (n : Int) ∈ l
    · rw [if_pos hm] at h2; omega
    · rw [if_neg hm] at h2; omega
end Scul
/- block: may, turn, Publish, Release. -/
namespace Scul
open Go Go.Sl Go.RowKit Go.Proofs
section
variable {E : Env} {w : World} {F : HP} {t lb mb : Nat} {U R bs : List Bool} {c : Cfg}
set_option maxRecDepth 100000 in
set_option maxHeartbeats 1000000 in
theorem bmay_calls (w : World) (l : List Int) (ao : Option Addr) (cc : Nat) (hv : Rd w 1 (.slice ao l.length cc) l.length (i64s l)) (h : Sat E w (bm mb bs * F)) :
    Calls Try.prog 115 #[.slice ao l.length cc, .pointer (some ⟨mb, 0, none⟩)] w fun e w' => e = .returned (.bool (mayB bs [] l)) ∧ w' = w := by
  have hm := hv.most
  have HG : Hid (∀ i, Calls Try.prog 102 #[.pointer (some ⟨mb, 0, none⟩), .int .i64 i] w fun e w' => e = .returned (.bool (getB bs i)) ∧ w' = w) := Lib.hid fun i => mGet_calls w i h
  have HC : Hid (∀ (n : Nat) x, n ≤ l.length → Calls Try.prog 133 #[.slice ao n cc, .int .i64 x] w fun e w' => e = .returned (.bool ((l.take n).contains x)) ∧ w' = w) := Lib.hid fun n x hn => containsI_calls w ao cc n l x hn hv
  obtain ⟨_, _, heq, hcc⟩ := hv.val
  simp only [Value.slice.injEq, true_and] at heq
  obtain ⟨rfl, rfl⟩ := heq
  obtain ⟨r, hr⟩ : ∃ r, r = mayB bs [] l := ⟨_, rfl⟩
  rw [← hr]
  have HX := Lib.hid hr
  obtain ⟨n, hn⟩ : ∃ n, n = l.length := ⟨_, rfl⟩
  rw [← hn] at hv HC hm hcc ⊢
  have HN := Lib.hid hn
  have HV := Lib.hid hv
  clear hr hn hv h
  go_enter Try.func115, Try.ntmps115
  go_wp2_with fail
  go_loopw [9] (fun iv wr => ∃ k : Nat, k ≤ n ∧ iv = .int .i64 k ∧ r = mayB bs (l.take k) (l.drop k) ∧ wr = w) (fun iv _ => n - (RowKit.intOf iv).toNat)
  case atStart => exact ⟨0, Nat.zero_le _, rfl, by rw [HX.out]; rfl, rfl⟩
  case round =>
    obtain ⟨k, hk, rfl, he, rfl⟩ := hrel
    by_cases hlt : k < n
    · obtain ⟨b, o, rfl, hc⟩ := HV.out.at (by omega)
      have cx := Rd.nthI HV.out k hlt
      clear hc
      have hk2 : k < l.length := by rw [← HN.out]; exact hlt
      have hgd : l.getD k 0 = l[k] := by rw [List.getD_eq_getElem?_getD, List.getElem?_eq_getElem hk2]; rfl
      rw [hgd] at cx
      have hd : l.drop k = l[k] :: l.drop (k + 1) := List.drop_eq_getElem_cons hk2
      have ht : l.take k ++ [l[k]] = l.take (k + 1) := (List.take_succ_eq_append_getElem hk2).symm
      have HCk := Lib.hid (HC.out k l[k] (by omega))
      have HGk := Lib.hid (HG.out l[k])
      rw [hd] at he
      unfold mayB at he
      rw [ht] at he
      generalize l[k] = x at *
      clear hd ht hgd hk2
      cases hg : getB bs x with
      | false =>
        rw [hg] at HGk he
        have hr : r = false := by simpa using he
        subst hr
        clear hg he
        go_wp2_with (go_at_call 102; refine HGk.out.mono ?_; rintro e w' ⟨rfl, rfl⟩)
        go_ret
        exact ⟨rfl, by first | rfl | trivial⟩
      | true =>
        cases hcn : (l.take k).contains x with
        | true =>
          rw [hg] at HGk he; rw [hcn] at HCk he
          have hr : r = false := by simpa using he
          subst hr
          clear hg he hcn
          go_wp2_with (first | (go_at_call 102; refine HGk.out.mono ?_; rintro e w' ⟨rfl, rfl⟩) | (go_at_call 133; refine HCk.out.mono ?_; rintro e w' ⟨rfl, rfl⟩))
          go_ret
          exact ⟨rfl, by first | rfl | trivial⟩
        | false =>
          rw [hg] at HGk he; rw [hcn] at HCk he
          have HE : Hid (r = mayB bs (l.take (k + 1)) (l.drop (k + 1))) := Lib.hid (by simpa using he)
          clear hg he hcn
          go_wp2_with (first | (go_at_call 102; refine HGk.out.mono ?_; rintro e w' ⟨rfl, rfl⟩) | (go_at_call 133; refine HCk.out.mono ?_; rintro e w' ⟨rfl, rfl⟩))
          exact ⟨⟨k + 1, by omega, by go_num, HE.out, by first | rfl | trivial⟩, by simp [RowKit.intOf]; omega⟩
    · obtain rfl : k = n := by omega
      rw [HN.out, List.drop_length] at he
      have hr : r = true := he
      subst hr
      clear he
      go_wp2_with fail
      go_ret
      exact ⟨rfl, by first | rfl | trivial⟩
end
end Scul
/- block: turn. -/
namespace Scul
open Go Go.Sl Go.RowKit Go.Proofs
section
variable {E : Env} {w : World} {F : HP} {t lb : Nat} {U R : List Bool} {c : Cfg}
theorem run_append_ent {P : Program} (hP : P = Try.prog) {w : World} {R : HP} {v : Value} {l : List Ent} {xb : Nat} {X Y : Int} {tt : TypeId} {f : Nat × Nat} (ty : TypeId) (hs : Sat E w (pt xb (.cells #[.int .i64 X, .int .u64 Y] tt f) * (entRow v l * R))) (hn : l.length + 1 ≤ 1000000) :
    ∃ v' W2, (Builtin.append_ #[55, 55] ty #[v, .slice (some ⟨xb, 0, none⟩) 1 1]).run P w = .ok v' W2 ∧ (∃ ao cc, v' = .slice ao (l.length + 1) cc) ∧ Sat E W2 (entRow v' (l ++ [Ent.mk X Y]) * R) := by
  subst hP
  obtain ⟨v', W2, hrun, h2, _⟩ := run_append_sl (P := Try.prog) entT ty v l.length (entCells l) (Sat.swap hs) (.slice (some ⟨xb, 0, none⟩) 1 1) 1 _ (rd_two hs) (by intro u hu; simp at hu; rcases hu with rfl | rfl <;> rfl) (by simp only [maxLen]; omega) (by omega)
  have h3 : Sat E W2 (entRow v' (l ++ [Ent.mk X Y]) * R) := by
    unfold entRow
    rw [List.length_append, entCells_append]
    exact Sat.mid h2
  obtain ⟨ao, cc, hv⟩ := entRow_val h3
  exact ⟨v', W2, hrun, ⟨ao, cc, by rw [hv]; simp⟩, h3⟩
set_option maxRecDepth 100000 in
set_option maxHeartbeats 2000000 in
theorem turn_calls (w : World) (l : List Int) (ao : Option Addr) (cc : Nat) (x : Bool) (hv : ∀ W, Sat E W F → Rd W 1 (.slice ao l.length cc) l.length (i64s l)) (hb : ∀ b ∈ l, 0 ≤ b ∧ b < c.count) (hl : l.length ≤ 2048) (h : Sat E w (tab t lb U R * (lay lb c * F))) :
    Calls Try.prog 116 #[.pointer (some ⟨t, 0, none⟩), .slice ao l.length cc, .bool x] w fun e w' => ∃ v, e = .returned v ∧ Sat E w' (entRow v (turnE c (setAll U l x) (wordsOf l)) * (tab t lb (setAll U l x) (setAll R l false) * (lay lb c * F))) := by
  obtain ⟨n, hn⟩ : ∃ n, n = l.length := ⟨_, rfl⟩
  rw [← hn] at hv hl ⊢
  obtain ⟨U2, hU2⟩ : ∃ U2, U2 = setAll U l x := ⟨_, rfl⟩
  obtain ⟨R2, hR2⟩ : ∃ R2, R2 = setAll R l false := ⟨_, rfl⟩
  obtain ⟨ws, hws⟩ : ∃ ws, ws = wordsOf l := ⟨_, rfl⟩
  rw [← hU2, ← hR2, ← hws]
  have HU2 := Lib.hid hU2; have HR2 := Lib.hid hR2; have HWS := Lib.hid hws
  clear hU2 hR2 hws
  have HN := Lib.hid hn
  have HV := Lib.hid hv
  have HB := Lib.hid hb
  have H := Lib.hid h
  have hcc := (hv w h.right.right).most
  have hc2 : c.count ≤ 2048 := (Cfg.near_places (lay_ok h.right).toNear).2.2.2.2.2.2.2.2.2.2.1
  clear hn hv hb h
  go_enter Try.func116, Try.ntmps116
  go_wp2_with fail
  go_loopw [15, 7] (fun iv wv wr => ∃ k : Nat, k ≤ n ∧ iv = .int .i64 k ∧ (∃ a2 c2, wv = .slice a2 k c2) ∧ Sat E wr (ints wv ((l.take k).map (· / 64)) * (tab t lb (setAll U (l.take k) x) (setAll R (l.take k) false) * (lay lb c * F)))) (fun iv _ _ => n - (RowKit.intOf iv).toNat)
  case atStart =>
    refine ⟨0, Nat.zero_le _, rfl, ⟨none, 0, rfl⟩, ?_⟩
    have h0 := H.out.row_nil 3 1
    exact h0
  case round =>
    obtain ⟨k, hk, rfl, ⟨a2, c2, rfl⟩, hw⟩ := hrel
    have HW := Lib.hid hw
    clear hw
    by_cases hlt : k < n
    · have hk2 : k < l.length := by rw [← HN.out]; exact hlt
      have hrd := HV.out _ HW.out.right.right.right
      obtain ⟨bb, o, rfl, hc⟩ := hrd.at (by omega)
      have cx := Rd.nthI hrd k hlt
      have hgd : l.getD k 0 = l[k] := by rw [List.getD_eq_getElem?_getD, List.getElem?_eq_getElem hk2]; rfl
      rw [hgd] at cx
      have HT : Hid (l.take (k + 1) = l.take k ++ [l[k]]) := Lib.hid (List.take_succ_eq_append_getElem hk2)
      obtain ⟨hb0, hb1⟩ := HB.out l[k] (List.getElem_mem hk2)
      generalize l[k] = b at *
      obtain ⟨ub, rb, hs⟩ := tab_open (HW.out.ac (B := tab t lb (setAll U (l.take k) x) (setAll R (l.take k) false) * (ints (.slice a2 k c2) ((l.take k).map (· / 64)) * (lay lb c * F))) (by ac_rfl))
      have k1 : wr.cell? ⟨t, 1, none⟩ = some (.pointer (some ⟨ub, 0, none⟩)) := hs.cell 1 rfl
      have hs2 := hs.ac (B := bm ub (setAll U (l.take k) x) * (pt t (.cells #[.pointer (some ⟨lb, 0, none⟩), .pointer (some ⟨ub, 0, none⟩), .pointer (some ⟨rb, 0, none⟩)] 136) * (bm rb (setAll R (l.take k) false) * (ints (.slice a2 k c2) ((l.take k).map (· / 64)) * (lay lb c * F))))) (by ac_rfl)
      have HS := Lib.hid (mSet_calls _ b x hs2)
      clear hs hs2 hc hrd hgd hk2
      go_wp2_with fail
      refine HS.out.mono ?_
      rintro e w2 ⟨rfl, h2⟩
      have k2 : w2.cell? ⟨t, 2, none⟩ = some (.pointer (some ⟨rb, 0, none⟩)) := h2.right.cell 2 rfl
      have hs3 := h2.ac (B := bm rb (setAll R (l.take k) false) * (pt t (.cells #[.pointer (some ⟨lb, 0, none⟩), .pointer (some ⟨ub, 0, none⟩), .pointer (some ⟨rb, 0, none⟩)] 136) * (bm ub (setB (setAll U (l.take k) x) b x) * (ints (.slice a2 k c2) ((l.take k).map (· / 64)) * (lay lb c * F))))) (by ac_rfl)
      have HS3 := Lib.hid (mSet_calls _ b false hs3)
      clear HS h2 hs3
      go_wp2_with fail
      refine HS3.out.mono ?_
      rintro e w3 ⟨rfl, h3⟩
      have h4 : Sat E w3 (ints (.slice a2 k c2) ((l.take k).map (· / 64)) * (bm rb (setB (setAll R (l.take k) false) b false) * (pt t (.cells #[.pointer (some ⟨lb, 0, none⟩), .pointer (some ⟨ub, 0, none⟩), .pointer (some ⟨rb, 0, none⟩)] 136) * (bm ub (setB (setAll U (l.take k) x) b x) * (lay lb c * F))))) := h3.ac (by ac_rfl)
      have h5 := Sat.swap (h4.alloc (.cells #[.int .i64 (b / 64)] 3))
      have hlk : ((l.take k).map (· / 64)).length = k := by rw [List.length_map, List.length_take, ← HN.out]; omega
      unfold ints at h5
      rw [hlk] at h5
      have HH := Lib.hid h5
      have RD1 := Lib.hid (rd_one h5.right)
      have B1 := Lib.hid (show k + 1 ≤ maxLen by simp only [maxLen]; omega)
      have B2 := Lib.hid (show (k + 1) * 8 ≤ 140737488355328 by omega)
      have NXT : Hid (∀ v' w', Sat E w' (row 3 1 v' (k + 1) (i64s ((l.take k).map (· / 64)) ++ [.int .i64 (b / 64)]) * (pt w3.heap.size (.cells #[.int .i64 (b / 64)] 3) * (bm rb (setB (setAll R (l.take k) false) b false) * (pt t (.cells #[.pointer (some ⟨lb, 0, none⟩), .pointer (some ⟨ub, 0, none⟩), .pointer (some ⟨rb, 0, none⟩)] 136) * (bm ub (setB (setAll U (l.take k) x) b x) * (lay lb c * F)))))) →
          Sat E w' (ints v' ((l.take (k + 1)).map (· / 64)) * (tab t lb (setAll U (l.take (k + 1)) x) (setAll R (l.take (k + 1)) false) * (lay lb c * F)))) := Lib.hid fun v' w' h' => by
        rw [HT.out, setAll_append, setAll_append, List.map_append]
        unfold ints
        rw [List.length_append, hlk]
        have e1 : i64s ((l.take k).map (· / 64) ++ [b].map (· / 64)) = i64s ((l.take k).map (· / 64)) ++ [.int .i64 (b / 64)] := by simp [i64s]
        rw [e1]
        have h6 := Sat.mid h'
        have h7 := tab_mk (h6.ac (B := pt t (.cells #[.pointer (some ⟨lb, 0, none⟩), .pointer (some ⟨ub, 0, none⟩), .pointer (some ⟨rb, 0, none⟩)] 136) * (bm ub (setB (setAll U (l.take k) x) b x) * (bm rb (setB (setAll R (l.take k) false) b false) * (row 3 1 v' (k + 1) (i64s ((l.take k).map (· / 64)) ++ [.int .i64 (b / 64)]) * (lay lb c * F))))) (by ac_rfl))
        exact h7.ac (by ac_rfl)
      have hdiv : wrap64 (b / 64) = b / 64 := by unfold wrap64; omega
      clear h3 h4 h5 k1 k2 HS3 hlk
      go_wp2_with (at_builtin; refine wpl_append rfl _ _ stI rfl _ _ _ HH.out rfl _ _ _ RD1.out rfl (by intro u hu; simp at hu; subst hu; rfl) B1.out B2.out ?_; intro v' w' hs')
      obtain ⟨a3, c3, rfl, _⟩ := Sat.row_val hs'
      exact ⟨⟨k + 1, by omega, by go_num, ⟨a3, c3, rfl⟩, NXT.out _ _ hs'⟩, by simp [RowKit.intOf]; omega⟩
    · obtain rfl : k = n := by omega
      have HT : Hid (l.take k = l) := Lib.hid (by rw [HN.out, List.take_length])
      rw [HT.out, ← HU2.out, ← HR2.out] at HW
      clear HT HU2 HR2
      have hlm : (l.map (· / 64)).length = k := by rw [List.length_map, ← HN.out]
      have HS := Lib.hid (sortI_calls wr _ _ (by rw [hlm]; omega) HW.out)
      clear HW
      go_wp2_with fail
      refine HS.out.mono ?_
      rintro e w2 ⟨rfl, h2⟩
      have HS2 := Lib.hid (compactI_calls _ _ _ h2)
      have e0 : compB (sortB (l.map (· / 64))) = ws := HWS.out.symm
      rw [e0] at HS2
      clear HS h2 e0
      go_wp2_with fail
      refine HS2.out.mono ?_
      rintro e w3 ⟨v3, rfl, h3⟩
      obtain ⟨a3, c3, rfl, _⟩ := Sat.row_val h3
      have HWB : Hid (∀ y ∈ ws, 0 ≤ y ∧ y * 64 < c.count) := Lib.hid fun y hy => by
        rw [HWS.out] at hy
        obtain ⟨b, hb, rfl⟩ := (mem_wordsOf l y).1 hy
        have := HB.out b hb
        omega
      have hm : ws.length ≤ 2048 := by have := wordsOf_length l; rw [← HN.out, ← HWS.out] at this; omega
      clear HWS
      obtain ⟨m, hm2⟩ : ∃ m, m = ws.length := ⟨_, rfl⟩
      rw [← hm2] at hm ⊢
      have HM := Lib.hid hm2
      have H3 := Lib.hid h3
      have hm9 : m ≤ 9223372036854775807 := by omega
      clear HS2 h3 hm2 HV HB H HN hcc hlm
      go_wp2_with fail
      go_loopw [43, 10] (fun iv ov wr => ∃ k : Nat, k ≤ m ∧ iv = .int .i64 k ∧ (∃ a2 c2, ov = .slice a2 k c2) ∧ Sat E wr (entRow ov (turnE c U2 (ws.take k)) * (ints (.slice a3 m c3) ws * (tab t lb U2 R2 * (lay lb c * F))))) (fun iv _ _ => m - (RowKit.intOf iv).toNat)
      case atStart =>
        refine ⟨0, Nat.zero_le _, rfl, ⟨none, 0, rfl⟩, ?_⟩
        rw [HM.out]
        exact entRow_nil H3.out
      case round =>
        obtain ⟨k, hk, rfl, ⟨a2, c2, rfl⟩, hw⟩ := hrel
        have HW := Lib.hid hw
        clear hw H3
        by_cases hlt : k < m
        · have hk2 : k < ws.length := by rw [← HM.out]; exact hlt
          have h4 := HW.out.right
          have hrd : Rd wr 1 (.slice a3 m c3) m (i64s ws) := by have := Sat.rd h4; rwa [← HM.out] at this
          obtain ⟨bb, o, rfl, hc⟩ := hrd.at (by omega)
          have cx := Rd.nthI hrd k hlt
          have hgd : ws.getD k 0 = ws[k] := by rw [List.getD_eq_getElem?_getD, List.getElem?_eq_getElem hk2]; rfl
          rw [hgd] at cx
          have HT : Hid (ws.take (k + 1) = ws.take k ++ [ws[k]]) := Lib.hid (List.take_succ_eq_append_getElem hk2)
          obtain ⟨hb0, hb1⟩ := HWB.out ws[k] (List.getElem_mem hk2)
          generalize ws[k] = b at *
          have h5 : Sat E wr (tab t lb U2 R2 * (lay lb c * (entRow (.slice a2 k c2) (turnE c U2 (ws.take k)) * (ints (.slice (some ⟨bb, o, none⟩) m c3) ws * F)))) := HW.out.ac (by ac_rfl)
          obtain ⟨ub, rb, h6⟩ := tab_open h5
          have k0 : wr.cell? ⟨t, 0, none⟩ = some (.pointer (some ⟨lb, 0, none⟩)) := h6.cell 0 rfl
          have k1 : wr.cell? ⟨t, 1, none⟩ = some (.pointer (some ⟨ub, 0, none⟩)) := h6.cell 1 rfl
          have H6 := Lib.hid h6
          have hlk : (turnE c U2 (ws.take k)).length = k := by rw [turnE_length, List.length_take, ← HM.out]; omega
          have HC1 : Hid (∀ W, Sat E W (pt t (.cells #[.pointer (some ⟨lb, 0, none⟩), .pointer (some ⟨ub, 0, none⟩), .pointer (some ⟨rb, 0, none⟩)] 136) * (bm ub U2 * (bm rb R2 * (lay lb c * (entRow (.slice a2 k c2) (turnE c U2 (ws.take k)) * (ints (.slice (some ⟨bb, o, none⟩) m c3) ws * F)))))) → Calls Try.prog 68 #[.pointer (some ⟨lb, 0, none⟩), .int .i64 (b * 64)] W fun e w' => e = .returned (.int .i64 (c.bitsOf (b * 64))) ∧ ∃ m, w' = W.drewN m) :=
            Lib.hid fun W hW => layBits_calls W (b * 64) hW.right.right.right
          have HC2 : Hid (∀ W, Sat E W (pt t (.cells #[.pointer (some ⟨lb, 0, none⟩), .pointer (some ⟨ub, 0, none⟩), .pointer (some ⟨rb, 0, none⟩)] 136) * (bm ub U2 * (bm rb R2 * (lay lb c * (entRow (.slice a2 k c2) (turnE c U2 (ws.take k)) * (ints (.slice (some ⟨bb, o, none⟩) m c3) ws * F)))))) → Calls Try.prog 136 #[.pointer (some ⟨ub, 0, none⟩), .int .i64 b] W fun e w' => e = .returned (.int .u64 (wordB U2 b)) ∧ w' = W) :=
            Lib.hid fun W hW => mWord_calls W b hW.right
          have HAP : Hid (∀ (W : World) (X Y : Int) (xs : Nat) (ty : TypeId), X = c.bitsOf (b * 64) → Y = wordB U2 b → xs = W.heap.size → Sat E W (pt t (.cells #[.pointer (some ⟨lb, 0, none⟩), .pointer (some ⟨ub, 0, none⟩), .pointer (some ⟨rb, 0, none⟩)] 136) * (bm ub U2 * (bm rb R2 * (lay lb c * (entRow (.slice a2 k c2) (turnE c U2 (ws.take k)) * (ints (.slice (some ⟨bb, o, none⟩) m c3) ws * F)))))) →
              ∃ v' W2, (Builtin.append_ #[55, 55] ty #[.slice a2 k c2, .slice (some ⟨xs, 0, none⟩) 1 1]).run Try.prog (W.alloc (.cells #[.int .i64 X, .int .u64 Y] 58)) = .ok v' W2 ∧ (∃ ao cc, v' = .slice ao (k + 1) cc) ∧ Sat E W2 (entRow v' (turnE c U2 (ws.take (k + 1))) * (ints (.slice (some ⟨bb, o, none⟩) m c3) ws * (tab t lb U2 R2 * (lay lb c * F))))) := Lib.hid fun W X Y xs ty hX hY hxs hW => by
            subst hX hY hxs
            have h7 := (hW.alloc (.cells #[.int .i64 (c.bitsOf (b * 64)), .int .u64 (wordB U2 b)] 58)).ac (B := pt W.heap.size (.cells #[.int .i64 (c.bitsOf (b * 64)), .int .u64 (wordB U2 b)] 58) * (entRow (.slice a2 k c2) (turnE c U2 (ws.take k)) * (pt t (.cells #[.pointer (some ⟨lb, 0, none⟩), .pointer (some ⟨ub, 0, none⟩), .pointer (some ⟨rb, 0, none⟩)] 136) * (bm ub U2 * (bm rb R2 * (lay lb c * (ints (.slice (some ⟨bb, o, none⟩) m c3) ws * F))))))) (by ac_rfl)
            obtain ⟨v', W2, hrun, hv', h8⟩ := run_append_ent rfl ty h7 (by rw [hlk]; omega)
            refine ⟨v', W2, hrun, ?_, ?_⟩
            · rw [hlk] at hv'; exact hv'
            · rw [HT.out, turnE_append]
              have h9 := tab_mk ((Sat.swap h8).ac (B := pt t (.cells #[.pointer (some ⟨lb, 0, none⟩), .pointer (some ⟨ub, 0, none⟩), .pointer (some ⟨rb, 0, none⟩)] 136) * (bm ub U2 * (bm rb R2 * (entRow v' (turnE c U2 (ws.take k) ++ [⟨c.bitsOf (b * 64), wordB U2 b⟩]) * (ints (.slice (some ⟨bb, o, none⟩) m c3) ws * (lay lb c * F)))))) (by ac_rfl))
              exact h9.ac (by ac_rfl)
          have hmul : wrap64 (b * 64) = b * 64 := by unfold wrap64; omega
          have hmul2 : IntKind.i64.wrap (b * 64) = b * 64 := wrap_id (by omega) (by omega)
          clear h4 h5 h6 hrd hc hgd hk2 hlk
          go_upto_block 3 with fail
          go_cut [10] (fun s10 wx => (∃ a3 c3, s10 = .slice a3 (k + 1) c3) ∧ Sat E wx (entRow s10 (turnE c U2 (ws.take (k + 1))) * (ints (.slice (some ⟨bb, o, none⟩) m c3) ws * (tab t lb U2 R2 * (lay lb c * F)))))
          case first =>
            go_wp2_with fail
            go_region_law (first
              | (go_simp; go_at_call 68; refine Calls.mono (HC1.out _ (by exact H6.out)) ?_; rintro e w4 ⟨rfl, m4, rfl⟩)
              | (go_simp; go_at_call 136; refine Calls.mono (HC2.out _ (by exact H6.out)) ?_; rintro e w5 ⟨rfl, rfl⟩)
              | (refine step_append_sl rfl _ _ rfl rfl rfl (by exact HAP.out _ _ _ _ _ rfl rfl rfl (by exact H6.out)) ?_; rintro lv' W2 ⟨⟨la, lc, rfl⟩, h5⟩))
            all_goals
              go_wp2_with fail
              go_meet
              exact ⟨⟨_, _, rfl⟩, h5⟩
          case rest =>
            obtain ⟨⟨a4, c4, rfl⟩, h9⟩ := hcut
            have H9 := Lib.hid h9
            clear h9
            go_wp2_with fail
            exact ⟨⟨k + 1, by omega, by go_num, ⟨a4, c4, rfl⟩, H9.out⟩, by simp [RowKit.intOf]; omega⟩
        · obtain rfl : k = m := by omega
          have HT : Hid (ws.take k = ws) := Lib.hid (by rw [HM.out, List.take_length])
          rw [HT.out] at HW
          have H5 := Lib.hid ((Sat.swap HW.out).right)
          clear HW
          go_wp2_with fail
          go_ret
          exact ⟨_, rfl, H5.out⟩
end
end Scul
